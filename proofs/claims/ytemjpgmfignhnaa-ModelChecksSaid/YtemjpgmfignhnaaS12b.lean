/- Contract: insertion sort of tasks, by the order of Tasks.
Conditions: at most a thousand tasks, in a row of the caller's own. -/
import Derived.Test.YtemjpgmfignhnaaS12
import Derived.RegionTactic
import Derived.BigRegion
import Derived.ChangeAlike
namespace Go.Proofs.Ytemjpgmfignhnaa
open Go.RowKit Go.Proofs.YtemjpgmfignhnaaW.PrintWords Go.Proofs.YtemjpgmfignhnaaW.PrintLast Go.Proofs.YtemjpgmfignhnaaW.PrintMore
set_option linter.unusedVariables false
set_option linter.unusedSimpArgs false
attribute [local go_sem] cell_growBy Option.some_or
set_option maxHeartbeats 8000000 in
set_option maxRecDepth 100000 in
theorem isort_any (B : Nat) (w0 : World) (pr : TTask → Int) (pa : Addr)
    (hcmp : ∀ W, Below B w0 W → ∀ x y : TTask, Calls Try.prog 93 #[taskVal x, taskVal y, .pointer (some pa)] W fun e w' => e = .returned (.int .i64 (pr y - pr x)) ∧ Below W.heap.size W w')
    (g cap : Nat) (hg : B ≤ g) (ts : List TTask) (w : World) (hw : Below B w0 w) (hB : B ≤ w.heap.size) (ht : TB w g ts) (hn : ts.length ≤ 1000) :
    Calls Try.prog 131 #[.slice (some ⟨g, 0, none⟩) ts.length cap, .int .i64 0, .int .i64 ts.length, .func (.func 93) #[] #[.pointer (some pa)]] w fun e w' =>
      e = .returned (.tuple #[]) ∧ Below B w0 w' ∧ B ≤ w'.heap.size ∧ ∃ ts', ts' = sortS pr ts ∧ TB w' g ts' := by
  have HC := Aside0.mk hcmp
  have HW := Aside0.mk hw
  have HS := Aside0.mk hB
  have HT := Aside0.mk ht
  generalize hfin : sortS pr ts = fin
  generalize hlen : ts.length = n at *
  have HF : Aside0 (insOut pr (n - 1) 1 ts = fin) := ⟨by rw [← hfin, sortS, hlen]⟩
  have HL := Aside0.mk hlen
  clear hcmp hw hB ht hfin hlen
  go_enter Try.func131, Try.ntmps131
  go_wp2
  go_loopw [8] (fun v wr => ∃ (i : Nat) (l : List TTask), v = .int .i64 i ∧ 1 ≤ i ∧ i ≤ n + 1 ∧ Aside0 (l.length = n) ∧ Aside0 (TB wr g l) ∧ Aside0 (Below B w0 wr) ∧ Aside0 (B ≤ wr.heap.size) ∧ Aside0 (insOut pr (n - i) i l = fin)) (fun v _ => (n + 1) - (intOf v).toNat)
  case atStart => exact ⟨1, ts, by go_num, by omega, by omega, HL, HT, HW, HS, HF⟩
  case round =>
    clear HF HT HW HS HL
    obtain ⟨i, l, rfl, hi0, hi1, HL, HT, HW, HS, HF⟩ := hrel
    by_cases hlt : i < n
    · go_wp2
      obtain ⟨wo, rfl⟩ : ∃ wo : World, wo = wr := ⟨_, rfl⟩
      have HI : Aside0 (insOut pr (n - (i + 1)) (i + 1) (insIn pr i l) = fin) := ⟨by have e := HF.out; rw [show n - i = (n - (i + 1)) + 1 from by omega, insOut] at e; exact e⟩
      clear HF
      go_loopw [9] (fun v wr => ∃ (j : Nat) (l : List TTask), v = .int .i64 j ∧ j ≤ i ∧ Aside0 (l.length = n) ∧ Aside0 (TB wr g l) ∧ Aside0 (Below B w0 wr) ∧ Aside0 (B ≤ wr.heap.size) ∧ Aside0 (insOut pr (n - (i + 1)) (i + 1) (insIn pr j l) = fin)) (fun v _ => (intOf v).toNat)
      case atStart => exact ⟨i, l, rfl, by omega, HL, HT, HW, HS, HI⟩
      case round =>
        clear HI HT HW HS HL
        obtain ⟨j, l, rfl, hj, HL, HT, HW, HS, HF⟩ := hrel
        rcases Nat.eq_zero_or_pos j with hj0 | hj0
        · have d1 : decide (0 < j) = false := decide_eq_false (by omega)
          have d2 : decide ((0 : Int) < (j : Int)) = false := decide_eq_false (by omega)
          have HN : Aside0 (insOut pr (n - (i + 1)) (i + 1) l = fin) := ⟨by have e := HF.out; rw [hj0] at e; exact e⟩
          clear HF hj0
          go_wp2
          refine wp_region_grow (by kernel_rfl) (by kernel_rfl) ?_
          repeat (go_big_quiet_step ((fail)))
          refine wpQuiet_nil ?_
          intro w1 hw'
          have hb := grow_end hw'
          clear hw'
          have HB1 := Aside0.mk hb; obtain ⟨qc1, qf1⟩ := bcell hb; have hs1 := hb.size; (try simp at hs1); (try have z01 : w.heap.size < w1.heap.size := (by omega)); (try have z11 : w.heap.size + 1 < w1.heap.size := (by omega)); (try have z21 : w.heap.size + 1 + 1 < w1.heap.size := (by omega)); (try have z31 : w.heap.size + 1 + 1 + 1 < w1.heap.size := (by omega)); (try have z41 : w.heap.size + 1 + 1 + 1 + 1 < w1.heap.size := (by omega)); clear hs1 hb
          go_wp2
          go_roundw
          case rel => exact ⟨i + 1, l, by go_num, by omega, by omega, HL, ⟨HT.out.below HB1.out⟩, ⟨below_then HW.out HS.out HB1.out⟩, ⟨Nat.le_trans HS.out HB1.out.size⟩, HN⟩
          case measure => simp [intOf]; omega
        · obtain ⟨k, rfl⟩ : ∃ k, j = k + 1 := ⟨j - 1, by omega⟩
          have hk1 : k + 1 < l.length := by have := HL.out; omega
          obtain ⟨x0, x1⟩ := HT.out.cells (k + 1) hk1
          obtain ⟨y0, y1⟩ := HT.out.cells k (by omega)
          have HCx := Aside0.mk (fun W hW => HC.out W hW (l.getD (k + 1) zTask) (l.getD k zTask))
          have r0 : (0 : Int) ≤ (k : Int) := by omega
          have r1 : (k : Int) + 1 < (n : Int) := by omega
          have r2 : (k : Int) < (n : Int) := by omega
          generalize hx : l.getD (k + 1) zTask = x at *
          generalize hy : l.getD k zTask = y at *
          have EX := Aside0.mk hx
          have EY := Aside0.mk hy
          clear hx hy
          by_cases hc : pr y < pr x
          · have d1 : decide (pr y - pr x < 0) = true := decide_eq_true (by omega)
            clear hc
            go_wp2
            refine wp_region_grow (by kernel_rfl) (by kernel_rfl) ?_
            repeat (go_big_quiet_step ((go_at_call 93; exact grow_of (HCx.out _ (below_then HW.out HS.out (growBy_below _ _))))))
            refine wpQuiet_nil ?_
            intro w1 hw'
            have hb := grow_end hw'
            clear hw'
            have HB1 := Aside0.mk hb; obtain ⟨qc1, qf1⟩ := bcell hb; have hs1 := hb.size; (try simp at hs1); (try have z01 : w.heap.size < w1.heap.size := (by omega)); (try have z11 : w.heap.size + 1 < w1.heap.size := (by omega)); (try have z21 : w.heap.size + 1 + 1 < w1.heap.size := (by omega)); (try have z31 : w.heap.size + 1 + 1 + 1 < w1.heap.size := (by omega)); (try have z41 : w.heap.size + 1 + 1 + 1 + 1 < w1.heap.size := (by omega)); clear hs1 hb
            have HT1 := Aside0.mk (HT.out.below HB1.out)
            have cx := HT1.out.cells (k + 1) hk1
            have cy := HT1.out.cells k (by omega)
            rw [EX.out] at cx
            rw [EY.out] at cy
            obtain ⟨cx0, cx1⟩ := cx
            obtain ⟨cy0, cy1⟩ := cy
            have fx := fun i => HT1.out.frozen i
            clear x0 x1 y0 y1
            go_wp2
            go_region
            go_wp2
            have HT2 : Aside0 (TB (((((w1.setCell ⟨g, (k + 1) * 2, none⟩ (.bool y.Ship)).setCell ⟨g, (k + 1) * 2 + 1, none⟩ (.int .i64 y.Item)).setCell ⟨g, k * 2, none⟩ (.bool x.Ship)).setCell ⟨g, k * 2 + 1, none⟩ (.int .i64 x.Item)).drew) g (swpAt l k)) :=
              ⟨by have h := (HT1.out.put (k + 1) hk1 y).put k (by rw [List.length_set]; omega) x; rw [swpAt, EX.out, EY.out]; exact h⟩
            have HN : Aside0 (insOut pr (n - (i + 1)) (i + 1) (insIn pr k (swpAt l k)) = fin) := ⟨by have e := HF.out; rw [insIn, EX.out, EY.out, if_pos (by have := of_decide_eq_true d1; omega)] at e; exact e⟩
            go_roundw
            case rel =>
              exact ⟨k, swpAt l k, by go_num, by omega, ⟨by simp [swpAt]; exact HL.out⟩, HT2, ⟨below_drew ((((((below_then HW.out HS.out HB1.out).setCell hg _).setCell hg _).setCell hg _).setCell hg _))⟩, ⟨by simpa [World.setCell] using Nat.le_trans HS.out HB1.out.size⟩, HN⟩
            case measure => simp [intOf]
          · have d1 : decide (pr y - pr x < 0) = false := decide_eq_false (by omega)
            have HN : Aside0 (insOut pr (n - (i + 1)) (i + 1) l = fin) := ⟨by have e := HF.out; rw [insIn, EX.out, EY.out, if_neg hc] at e; exact e⟩
            clear HF hc
            go_wp2
            refine wp_region_grow (by kernel_rfl) (by kernel_rfl) ?_
            repeat (go_big_quiet_step ((go_at_call 93; exact grow_of (HCx.out _ (below_then HW.out HS.out (growBy_below _ _))))))
            refine wpQuiet_nil ?_
            intro w1 hw'
            have hb := grow_end hw'
            clear hw'
            have HB1 := Aside0.mk hb; obtain ⟨qc1, qf1⟩ := bcell hb; have hs1 := hb.size; (try simp at hs1); (try have z01 : w.heap.size < w1.heap.size := (by omega)); (try have z11 : w.heap.size + 1 < w1.heap.size := (by omega)); (try have z21 : w.heap.size + 1 + 1 < w1.heap.size := (by omega)); (try have z31 : w.heap.size + 1 + 1 + 1 < w1.heap.size := (by omega)); (try have z41 : w.heap.size + 1 + 1 + 1 + 1 < w1.heap.size := (by omega)); clear hs1 hb
            go_wp2
            go_roundw
            case rel => exact ⟨i + 1, l, by go_num, by omega, by omega, HL, ⟨HT.out.below HB1.out⟩, ⟨below_then HW.out HS.out HB1.out⟩, ⟨Nat.le_trans HS.out HB1.out.size⟩, HN⟩
            case measure => simp [intOf]; omega
    · have e := HF.out
      rw [show n - i = 0 from by omega, insOut] at e
      go_wp2
      go_end0
      exact ⟨rfl, HW.out, HS.out, _, rfl, e ▸ HT.out⟩
end Go.Proofs.Ytemjpgmfignhnaa
