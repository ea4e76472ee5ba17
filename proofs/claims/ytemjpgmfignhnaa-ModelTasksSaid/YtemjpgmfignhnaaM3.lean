/- Contracts: the order by which Tasks sorts.
Conditions: lists no longer than memory allows; priorities from 0 to 100. -/
import Derived.Test.YtemjpgmfignhnaaM1
import Derived.Test.YtemjpgmfignhnaaM0
import Derived.RegionTactic
import Derived.BigRegion
import Derived.ChangeAlike
import Derived.Test.YtemjpgmfignhnaaM2
namespace Go.Proofs.Ytemjpgmfignhnaa
open Go.RowKit Go.Proofs.YtemjpgmfignhnaaW.PrintWords Go.Proofs.YtemjpgmfignhnaaW.PrintLast Go.Proofs.YtemjpgmfignhnaaW.PrintMore
set_option linter.unusedVariables false
set_option linter.unusedSimpArgs false
attribute [local go_sem] cell_growBy Option.some_or
def prioS (p : TProblem) (t : TTask) : Int := (factsS p t).1
abbrev taskVal (t : TTask) : Value := .agg #[.bool t.Ship, .int .i64 t.Item]
set_option maxHeartbeats 4000000 in
set_option maxRecDepth 100000 in
theorem cmpT_any (q : PV) (p : TProblem) (x y : TTask) (pa : Nat) (w : World) (hl : Lens p) (hq : q.Ok p w) (hp : ∀ t, 0 ≤ prioS p t ∧ prioS p t ≤ 100)
    (hb : w.heap[pa]? = some (.cells #[.int .i64 p.Dims, .int .i64 p.Time.N, .slice q.a1 p.Time.Cells.length q.c1, .int .i64 p.Dist.N, .slice q.a2 p.Dist.Cells.length q.c2, .slice q.a3 p.Vehicles.length q.c3, .slice q.a4 p.Jobs.length q.c4, .slice q.a5 p.Shipments.length q.c5] 29 (0, 0))) :
    Calls Try.prog 93 #[taskVal x, taskVal y, .pointer (some ⟨pa, 0, none⟩)] w fun e w' => e = .returned (.int .i64 (prioS p y - prioS p x)) ∧ Below w.heap.size w w' := by
  have hc := fun i => blk_cell hb i
  have hlt := blk_lt hb
  have HL := Aside0.mk hl
  have HQ := Aside0.mk hq
  obtain ⟨hx0, hx1⟩ := hp x
  obtain ⟨hy0, hy1⟩ := hp y
  clear hl hq hp hb
  obtain ⟨xs, xi⟩ := x
  obtain ⟨ys, yi⟩ := y
  have HC := Aside0.mk (fun (t : TTask) (W : World) (hw : Below w.heap.size w W) => priority_any q p t W HL.out (HQ.out.below hw))
  unfold prioS at hx0 hx1 hy0 hy1 ⊢
  go_enter Try.func93, Try.ntmps93
  go_wp2
  refine wp_region_grow (by kernel_rfl) (by kernel_rfl) ?_
  repeat (go_big_quiet_step ((go_at_call 32; exact grow_of (HC.out ⟨_, _⟩ _ (below_to (by repeat (first | exact Below.refl _ _ | apply below_alloc | apply pw_below_drewN | apply below_drew1 | apply below_drew | (refine Below.setCell ?_ (by (try simp); (try omega)) _) | (refine below_to ?_ HB6.out) | (refine below_to ?_ HB5.out) | (refine below_to ?_ HB4.out) | (refine below_to ?_ HB3.out) | (refine below_to ?_ HB2.out) | (refine below_to ?_ HB1.out))) (growBy_below _ _))))))
  refine wpQuiet_nil ?_
  intro w1 hw'
  have hb := grow_end hw'
  clear hw'
  have HB1 := Aside0.mk hb; obtain ⟨qc1, qf1⟩ := bcell hb; have hs1 := hb.size; (try simp at hs1); (try have z01 : w.heap.size < w1.heap.size := (by omega)); (try have z11 : w.heap.size + 1 < w1.heap.size := (by omega)); (try have z21 : w.heap.size + 1 + 1 < w1.heap.size := (by omega)); (try have z31 : w.heap.size + 1 + 1 + 1 < w1.heap.size := (by omega)); (try have z41 : w.heap.size + 1 + 1 + 1 + 1 < w1.heap.size := (by omega)); clear hs1 hb
  go_wp2
  go_ret
  exact ⟨rfl, (by repeat (first | exact Below.refl _ _ | apply below_alloc | apply pw_below_drewN | apply below_drew1 | apply below_drew | (refine Below.setCell ?_ (by (try simp); (try omega)) _) | (refine below_to ?_ HB6.out) | (refine below_to ?_ HB5.out) | (refine below_to ?_ HB4.out) | (refine below_to ?_ HB3.out) | (refine below_to ?_ HB2.out) | (refine below_to ?_ HB1.out)))⟩
/-! ### insertion sort -/
def swpAt (l : List TTask) (j : Nat) : List TTask := (l.set (j + 1) (l.getD j zTask)).set j (l.getD (j + 1) zTask)
def insIn (pr : TTask → Int) : Nat → List TTask → List TTask
  | 0, l => l
  | j + 1, l => if pr (l.getD j zTask) < pr (l.getD (j + 1) zTask) then insIn pr j (swpAt l j) else l
def insOut (pr : TTask → Int) : Nat → Nat → List TTask → List TTask
  | 0, _, l => l
  | m + 1, i, l => insOut pr m (i + 1) (insIn pr i l)
def sortS (pr : TTask → Int) (l : List TTask) : List TTask := insOut pr (l.length - 1) 1 l
/-- Block g begins with these tasks. -/
def TB (W : World) (g : Nat) (ts : List TTask) : Prop :=
  ∃ cur, W.heap[g]? = some (.cells cur 48 (0, 0)) ∧ ∀ i, i < ts.length → cur[i * 2]? = some (.bool (ts.getD i zTask).Ship) ∧ cur[i * 2 + 1]? = some (.int .i64 (ts.getD i zTask).Item)
theorem TB.cells {W : World} {g : Nat} {ts : List TTask} (h : TB W g ts) (i : Nat) (hi : i < ts.length) : W.cell? ⟨g, i * 2, none⟩ = some (.bool (ts.getD i zTask).Ship) ∧ W.cell? ⟨g, i * 2 + 1, none⟩ = some (.int .i64 (ts.getD i zTask).Item) := by
  obtain ⟨cur, hc, h⟩ := h
  rw [blk_cell hc, blk_cell hc]
  exact h i hi
theorem TB.frozen {W : World} {g : Nat} {ts : List TTask} (h : TB W g ts) (i : Nat) : W.frozen? ⟨g, i, none⟩ = false := by
  obtain ⟨cur, hc, h⟩ := h
  exact blk_frozen hc i
theorem TB.below {W W' : World} {g : Nat} {ts : List TTask} (h : TB W g ts) (hb : Below W.heap.size W W') : TB W' g ts := by
  obtain ⟨cur, hc, h⟩ := h
  exact ⟨cur, blk_below hc hb, h⟩
theorem TB.lt {W : World} {g : Nat} {ts : List TTask} (h : TB W g ts) : g < W.heap.size := by
  obtain ⟨cur, hc, h⟩ := h
  exact blk_lt hc
theorem TB.put {W : World} {g : Nat} {ts : List TTask} (h : TB W g ts) (i : Nat) (hi : i < ts.length) (x : TTask) :
    TB ((W.setCell ⟨g, i * 2, none⟩ (.bool x.Ship)).setCell ⟨g, i * 2 + 1, none⟩ (.int .i64 x.Item)) g (ts.set i x) := by
  obtain ⟨cur, hc, h⟩ := h
  refine ⟨_, blk_set (blk_set hc _ _) _ _, fun j hj => ?_⟩
  rw [List.length_set] at hj
  have hs := h i hi
  have s1 : i * 2 + 1 < cur.size := (Array.getElem?_eq_some_iff.1 hs.2).1
  by_cases e : i = j
  · subst e
    have e2 : (ts.set i x).getD i zTask = x := by simp [hi]
    rw [e2]
    constructor
    · rw [Array.getElem?_setIfInBounds_ne (by omega), Array.getElem?_setIfInBounds_self_of_lt (by omega)]
    · rw [Array.getElem?_setIfInBounds_self_of_lt (by rw [Array.size_setIfInBounds]; omega)]
  · have e2 : (ts.set i x).getD j zTask = ts.getD j zTask := by simp [List.getElem?_set_ne e]
    rw [e2, Array.getElem?_setIfInBounds_ne (by omega), Array.getElem?_setIfInBounds_ne (by omega), Array.getElem?_setIfInBounds_ne (by omega), Array.getElem?_setIfInBounds_ne (by omega)]
    exact h j hj
end Go.Proofs.Ytemjpgmfignhnaa
/- Contract: insertion sort of tasks, by the order of Tasks.
Conditions: at most a thousand tasks, in a row of the caller's own. -/
namespace Go.Proofs.Ytemjpgmfignhnaa
open Go.RowKit Go.Proofs.YtemjpgmfignhnaaW.PrintWords Go.Proofs.YtemjpgmfignhnaaW.PrintLast Go.Proofs.YtemjpgmfignhnaaW.PrintMore
set_option linter.unusedVariables false
set_option linter.unusedSimpArgs false
attribute [local go_sem] cell_growBy Option.some_or
set_option maxHeartbeats 8000000 in
set_option maxRecDepth 100000 in
theorem isort_any (B : Nat) (w0 : World) (pr : TTask → Int) (pa : Addr)
    (hcmp : ∀ W, Below B w0 W → ∀ x y : TTask, Calls Try.prog 93 #[taskVal x, taskVal y, .pointer (some pa)] W fun e w' => e = .returned (.int .i64 (pr y - pr x)) ∧ Below W.heap.size W w')
    (g cap : Nat) (hg : B ≤ g) (ts : List TTask) (w : World) (hw : Below B w0 w) (hB : B ≤ w.heap.size) (ht : TB w g ts) (hn : ts.length ≤ 1000) :
    Calls Try.prog 131 #[.slice (some ⟨g, 0, none⟩) ts.length cap, .int .i64 0, .int .i64 ts.length, .func (.func 93) #[] #[.pointer (some pa)]] w fun e w' =>
      e = .returned (.tuple #[]) ∧ Below B w0 w' ∧ B ≤ w'.heap.size ∧ ∃ ts', ts' = sortS pr ts ∧ TB w' g ts' := by
  have HC := Aside0.mk hcmp
  have HW := Aside0.mk hw
  have HS := Aside0.mk hB
  have HT := Aside0.mk ht
  generalize hfin : sortS pr ts = fin
  generalize hlen : ts.length = n at *
  have HF : Aside0 (insOut pr (n - 1) 1 ts = fin) := ⟨by rw [← hfin, sortS, hlen]⟩
  have HL := Aside0.mk hlen
  clear hcmp hw hB ht hfin hlen
  go_enter Try.func131, Try.ntmps131
  go_wp2
  go_loopw [8] (fun v wr => ∃ (i : Nat) (l : List TTask), v = .int .i64 i ∧ 1 ≤ i ∧ i ≤ n + 1 ∧ Aside0 (l.length = n) ∧ Aside0 (TB wr g l) ∧ Aside0 (Below B w0 wr) ∧ Aside0 (B ≤ wr.heap.size) ∧ Aside0 (insOut pr (n - i) i l = fin)) (fun v _ => (n + 1) - (intOf v).toNat)
  case atStart => exact ⟨1, ts, by go_num, by omega, by omega, HL, HT, HW, HS, HF⟩
  case round =>
    clear HF HT HW HS HL
    obtain ⟨i, l, rfl, hi0, hi1, HL, HT, HW, HS, HF⟩ := hrel
    by_cases hlt : i < n
    · go_wp2
      obtain ⟨wo, rfl⟩ : ∃ wo : World, wo = wr := ⟨_, rfl⟩
      have HI : Aside0 (insOut pr (n - (i + 1)) (i + 1) (insIn pr i l) = fin) := ⟨by have e := HF.out; rw [show n - i = (n - (i + 1)) + 1 from by omega, insOut] at e; exact e⟩
      clear HF
      go_loopw [9] (fun v wr => ∃ (j : Nat) (l : List TTask), v = .int .i64 j ∧ j ≤ i ∧ Aside0 (l.length = n) ∧ Aside0 (TB wr g l) ∧ Aside0 (Below B w0 wr) ∧ Aside0 (B ≤ wr.heap.size) ∧ Aside0 (insOut pr (n - (i + 1)) (i + 1) (insIn pr j l) = fin)) (fun v _ => (intOf v).toNat)
      case atStart => exact ⟨i, l, rfl, by omega, HL, HT, HW, HS, HI⟩
      case round =>
        clear HI HT HW HS HL
        obtain ⟨j, l, rfl, hj, HL, HT, HW, HS, HF⟩ := hrel
        rcases Nat.eq_zero_or_pos j with hj0 | hj0
        · have d1 : decide (0 < j) = false := decide_eq_false (by omega)
          have d2 : decide ((0 : Int) < (j : Int)) = false := decide_eq_false (by omega)
          have HN : Aside0 (insOut pr (n - (i + 1)) (i + 1) l = fin) := ⟨by have e := HF.out; rw [hj0] at e; exact e⟩
          clear HF hj0
          go_wp2
          refine wp_region_grow (by kernel_rfl) (by kernel_rfl) ?_
          repeat (go_big_quiet_step ((fail)))
          refine wpQuiet_nil ?_
          intro w1 hw'
          have hb := grow_end hw'
          clear hw'
          have HB1 := Aside0.mk hb; obtain ⟨qc1, qf1⟩ := bcell hb; have hs1 := hb.size; (try simp at hs1); (try have z01 : w.heap.size < w1.heap.size := (by omega)); (try have z11 : w.heap.size + 1 < w1.heap.size := (by omega)); (try have z21 : w.heap.size + 1 + 1 < w1.heap.size := (by omega)); (try have z31 : w.heap.size + 1 + 1 + 1 < w1.heap.size := (by omega)); (try have z41 : w.heap.size + 1 + 1 + 1 + 1 < w1.heap.size := (by omega)); clear hs1 hb
          go_wp2
          go_roundw
          case rel => exact ⟨i + 1, l, by go_num, by omega, by omega, HL, ⟨HT.out.below HB1.out⟩, ⟨below_then HW.out HS.out HB1.out⟩, ⟨Nat.le_trans HS.out HB1.out.size⟩, HN⟩
          case measure => simp [intOf]; omega
        · obtain ⟨k, rfl⟩ : ∃ k, j = k + 1 := ⟨j - 1, by omega⟩
          have hk1 : k + 1 < l.length := by have := HL.out; omega
          obtain ⟨x0, x1⟩ := HT.out.cells (k + 1) hk1
          obtain ⟨y0, y1⟩ := HT.out.cells k (by omega)
          have HCx := Aside0.mk (fun W hW => HC.out W hW (l.getD (k + 1) zTask) (l.getD k zTask))
          have r0 : (0 : Int) ≤ (k : Int) := by omega
          have r1 : (k : Int) + 1 < (n : Int) := by omega
          have r2 : (k : Int) < (n : Int) := by omega
          generalize hx : l.getD (k + 1) zTask = x at *
          generalize hy : l.getD k zTask = y at *
          have EX := Aside0.mk hx
          have EY := Aside0.mk hy
          clear hx hy
          by_cases hc : pr y < pr x
          · have d1 : decide (pr y - pr x < 0) = true := decide_eq_true (by omega)
            clear hc
            go_wp2
            refine wp_region_grow (by kernel_rfl) (by kernel_rfl) ?_
            repeat (go_big_quiet_step ((go_at_call 93; exact grow_of (HCx.out _ (below_then HW.out HS.out (growBy_below _ _))))))
            refine wpQuiet_nil ?_
            intro w1 hw'
            have hb := grow_end hw'
            clear hw'
            have HB1 := Aside0.mk hb; obtain ⟨qc1, qf1⟩ := bcell hb; have hs1 := hb.size; (try simp at hs1); (try have z01 : w.heap.size < w1.heap.size := (by omega)); (try have z11 : w.heap.size + 1 < w1.heap.size := (by omega)); (try have z21 : w.heap.size + 1 + 1 < w1.heap.size := (by omega)); (try have z31 : w.heap.size + 1 + 1 + 1 < w1.heap.size := (by omega)); (try have z41 : w.heap.size + 1 + 1 + 1 + 1 < w1.heap.size := (by omega)); clear hs1 hb
            have HT1 := Aside0.mk (HT.out.below HB1.out)
            have cx := HT1.out.cells (k + 1) hk1
            have cy := HT1.out.cells k (by omega)
            rw [EX.out] at cx
            rw [EY.out] at cy
            obtain ⟨cx0, cx1⟩ := cx
            obtain ⟨cy0, cy1⟩ := cy
            have fx := fun i => HT1.out.frozen i
            clear x0 x1 y0 y1
            go_wp2
            go_region
            go_wp2
            have HT2 : Aside0 (TB (((((w1.setCell ⟨g, (k + 1) * 2, none⟩ (.bool y.Ship)).setCell ⟨g, (k + 1) * 2 + 1, none⟩ (.int .i64 y.Item)).setCell ⟨g, k * 2, none⟩ (.bool x.Ship)).setCell ⟨g, k * 2 + 1, none⟩ (.int .i64 x.Item)).drew) g (swpAt l k)) :=
              ⟨by have h := (HT1.out.put (k + 1) hk1 y).put k (by rw [List.length_set]; omega) x; rw [swpAt, EX.out, EY.out]; exact h⟩
            have HN : Aside0 (insOut pr (n - (i + 1)) (i + 1) (insIn pr k (swpAt l k)) = fin) := ⟨by have e := HF.out; rw [insIn, EX.out, EY.out, if_pos (by have := of_decide_eq_true d1; omega)] at e; exact e⟩
            go_roundw
            case rel =>
              exact ⟨k, swpAt l k, by go_num, by omega, ⟨by simp [swpAt]; exact HL.out⟩, HT2, ⟨below_drew ((((((below_then HW.out HS.out HB1.out).setCell hg _).setCell hg _).setCell hg _).setCell hg _))⟩, ⟨by simpa [World.setCell] using Nat.le_trans HS.out HB1.out.size⟩, HN⟩
            case measure => simp [intOf]
          · have d1 : decide (pr y - pr x < 0) = false := decide_eq_false (by omega)
            have HN : Aside0 (insOut pr (n - (i + 1)) (i + 1) l = fin) := ⟨by have e := HF.out; rw [insIn, EX.out, EY.out, if_neg hc] at e; exact e⟩
            clear HF hc
            go_wp2
            refine wp_region_grow (by kernel_rfl) (by kernel_rfl) ?_
            repeat (go_big_quiet_step ((go_at_call 93; exact grow_of (HCx.out _ (below_then HW.out HS.out (growBy_below _ _))))))
            refine wpQuiet_nil ?_
            intro w1 hw'
            have hb := grow_end hw'
            clear hw'
            have HB1 := Aside0.mk hb; obtain ⟨qc1, qf1⟩ := bcell hb; have hs1 := hb.size; (try simp at hs1); (try have z01 : w.heap.size < w1.heap.size := (by omega)); (try have z11 : w.heap.size + 1 < w1.heap.size := (by omega)); (try have z21 : w.heap.size + 1 + 1 < w1.heap.size := (by omega)); (try have z31 : w.heap.size + 1 + 1 + 1 < w1.heap.size := (by omega)); (try have z41 : w.heap.size + 1 + 1 + 1 + 1 < w1.heap.size := (by omega)); clear hs1 hb
            go_wp2
            go_roundw
            case rel => exact ⟨i + 1, l, by go_num, by omega, by omega, HL, ⟨HT.out.below HB1.out⟩, ⟨below_then HW.out HS.out HB1.out⟩, ⟨Nat.le_trans HS.out HB1.out.size⟩, HN⟩
            case measure => simp [intOf]; omega
    · have e := HF.out
      rw [show n - i = 0 from by omega, insOut] at e
      go_wp2
      go_end0
      exact ⟨rfl, HW.out, HS.out, _, rfl, e ▸ HT.out⟩
end Go.Proofs.Ytemjpgmfignhnaa

/- Contract: the stable sort of at most twelve tasks.
Conditions: they lie in a row of the caller's own. -/
namespace Go.Proofs.Ytemjpgmfignhnaa
open Go.RowKit Go.Proofs.YtemjpgmfignhnaaW.PrintWords Go.Proofs.YtemjpgmfignhnaaW.PrintLast Go.Proofs.YtemjpgmfignhnaaW.PrintMore
set_option linter.unusedVariables false
set_option linter.unusedSimpArgs false
attribute [local go_sem] cell_growBy Option.some_or
def SortPost (B : Nat) (w0 : World) (g : Nat) (fin : List TTask) (e : Ending) (w' : World) : Prop := e = .returned (.tuple #[]) ∧ Below B w0 w' ∧ B ≤ w'.heap.size ∧ TB w' g fin
set_option maxHeartbeats 8000000 in
set_option maxRecDepth 100000 in
theorem stable_any (B : Nat) (w0 : World) (pr : TTask → Int) (pa : Addr)
    (hcmp : ∀ W, Below B w0 W → ∀ x y : TTask, Calls Try.prog 93 #[taskVal x, taskVal y, .pointer (some pa)] W fun e w' => e = .returned (.int .i64 (pr y - pr x)) ∧ Below W.heap.size W w')
    (g cap : Nat) (hg : B ≤ g) (ts : List TTask) (w : World) (hw : Below B w0 w) (hB : B ≤ w.heap.size) (ht : TB w g ts) (hn : ts.length ≤ 12) :
    Calls Try.prog 118 #[.slice (some ⟨g, 0, none⟩) ts.length cap, .int .i64 ts.length, .func (.func 93) #[] #[.pointer (some pa)]] w (SortPost B w0 g (sortS pr ts)) := by
  have HC := Aside0.mk (isort_any B w0 pr pa hcmp g cap hg ts w hw hB ht (by omega))
  clear hcmp hw hB ht
  have d1 : decide ((20 : Int) ≤ (ts.length : Int)) = false := decide_eq_false (by omega)
  have d2 : decide ((20 : Int) < (ts.length : Int)) = false := decide_eq_false (by omega)
  go_enter Try.func118, Try.ntmps118
  go_wp2
  refine wp_loop_rounds 1 ?_
  rw [rounds_succ]
  go_wp2_with (go_at_call 131; refine HC.out.mono ?_; rintro e w1 ⟨rfl, h1, h2, ts', h3, h4⟩; subst h3)
  refine wp_loop_rounds 1 ?_
  rw [rounds_succ]
  go_wp2
  go_end0
  exact ⟨rfl, h1, h2, h4⟩
set_option maxHeartbeats 8000000 in
set_option maxRecDepth 100000 in
theorem sortStable_any (B : Nat) (w0 : World) (pr : TTask → Int) (pa : Addr)
    (hcmp : ∀ W, Below B w0 W → ∀ x y : TTask, Calls Try.prog 93 #[taskVal x, taskVal y, .pointer (some pa)] W fun e w' => e = .returned (.int .i64 (pr y - pr x)) ∧ Below W.heap.size W w')
    (g cap : Nat) (hg : B ≤ g) (ts : List TTask) (w : World) (hw : Below B w0 w) (hB : B ≤ w.heap.size) (ht : TB w g ts) (hn : ts.length ≤ 12) :
    Calls Try.prog 92 #[.slice (some ⟨g, 0, none⟩) ts.length cap, .func (.func 93) #[] #[.pointer (some pa)]] w (SortPost B w0 g (sortS pr ts)) := by
  have HC := Aside0.mk (stable_any B w0 pr pa hcmp g cap hg ts w hw hB ht hn)
  clear hcmp hw hB ht
  go_enter Try.func92, Try.ntmps92
  go_wp2_with (go_at_call 118; refine HC.out.mono ?_; rintro e w' ⟨rfl, h1, h2, h3⟩)
  go_end0
  exact ⟨rfl, h1, h2, h3⟩
end Go.Proofs.Ytemjpgmfignhnaa

/- Contract: all tasks of a problem, by falling priority.
Conditions: at most twelve tasks, priorities from 0 to 100. -/
namespace Go.Proofs.Ytemjpgmfignhnaa
open Go.RowKit Go.Proofs.YtemjpgmfignhnaaW.PrintWords Go.Proofs.YtemjpgmfignhnaaW.PrintLast Go.Proofs.YtemjpgmfignhnaaW.PrintMore
set_option linter.unusedVariables false
set_option linter.unusedSimpArgs false
attribute [local go_sem] cell_growBy Option.some_or
theorem kTask_mkM (w : World) (base : Nat) (ok : Nat → Prop) (x : TTask) : kTask.M w base ok x [.bool x.Ship, .int .i64 x.Item] := ⟨[.bool x.Ship], _, rfl, rfl, rfl⟩
/-- A row of tasks of the call's own, as the sort takes it. -/
theorem TB_of_R {w : World} {base : Nat} {ok : Nat → Prop} {v : Value} {xs : List TTask} (h : kTask.R 48 w base ok v xs) (hn : 0 < xs.length) :
    ∃ g cap, v = .slice (some ⟨g, 0, none⟩) xs.length cap ∧ base ≤ g ∧ xs.length ≤ cap ∧ TB w g xs := by
  obtain ⟨h0, inner, hown, hr⟩ := h
  rcases hown.2 with ⟨_, hz⟩ | ⟨g, cap, cur, hv, hg, hh, h1, h2, h3, h4⟩
  · omega
  · refine ⟨g, cap, hv, hg, h1, cur, hh, fun i hi => ?_⟩
    have hm := hr.2 i xs[i] (List.getElem?_eq_getElem hi)
    have hk := kTask_open (kTask.K_of_M hm)
    have e : xs.getD i zTask = xs[i] := by simp [List.getElem?_eq_getElem hi]
    rw [e]
    have ei : inner = cur.toList.take (xs.length * 2) := h4.symm
    have hsz : kTask.sz = 2 := rfl
    rw [hsz] at hk
    have c0 : ((inner.drop (i * 2)).take 2)[0]? = some (.bool xs[i].Ship) := by rw [hk]; rfl
    have c1 : ((inner.drop (i * 2)).take 2)[1]? = some (.int .i64 xs[i].Item) := by rw [hk]; rfl
    rw [List.getElem?_take, if_pos (by omega), List.getElem?_drop, ei, List.getElem?_take, if_pos (by omega)] at c0 c1
    exact ⟨by simpa using c0, by simpa using c1⟩
theorem TB.reads {w : World} {g : Nat} {ts : List TTask} (h : TB w g ts) (hn : ts.length ≤ 1000) : Kd.C kTask w (some ⟨g, 0, none⟩) ts.length ts := by
  refine ⟨rfl, by omega, fun _ => ⟨_, rfl, fun j x hj => ⟨[.bool x.Ship, .int .i64 x.Item], rfl, kTask_mk _ _, fun i u hu => ?_⟩⟩⟩
  have hjl := (List.getElem?_eq_some_iff.1 hj).1
  have hx : ts.getD j zTask = x := by rw [List.getD_eq_getElem?_getD, hj]; rfl
  obtain ⟨c0, c1⟩ := h.cells j hjl
  rw [hx] at c0 c1
  rw [add_plain]
  match i, hu with
  | 0, hu => obtain rfl := Option.some.inj hu; exact c0
  | 1, hu => obtain rfl := Option.some.inj hu; exact c1
set_option maxHeartbeats 8000000 in
set_option maxRecDepth 100000 in
theorem isort_nil (c : Value) (w : World) : Calls Try.prog 131 #[.slice none 0 0, .int .i64 0, .int .i64 0, c] w fun e w' => e = .returned (.tuple #[]) ∧ w = w' := by
  go_enter Try.func131, Try.ntmps131
  go_wp2
  refine wp_loop_rounds 1 ?_
  rw [rounds_succ]
  go_wp2
  go_end0
  exact ⟨rfl, rfl⟩
set_option maxHeartbeats 8000000 in
set_option maxRecDepth 100000 in
theorem stable_nil (c : Value) (w : World) : Calls Try.prog 118 #[.slice none 0 0, .int .i64 0, c] w fun e w' => e = .returned (.tuple #[]) ∧ w = w' := by
  go_enter Try.func118, Try.ntmps118
  go_wp2
  refine wp_loop_rounds 1 ?_
  rw [rounds_succ]
  go_wp2_with (go_at_call 131; refine (isort_nil _ _).mono ?_; rintro e w' ⟨rfl, rfl⟩)
  refine wp_loop_rounds 1 ?_
  rw [rounds_succ]
  go_wp2
  go_end0
  exact ⟨rfl, rfl⟩
set_option maxHeartbeats 8000000 in
set_option maxRecDepth 100000 in
theorem sortStable_nil (c : Value) (w : World) : Calls Try.prog 92 #[.slice none 0 0, c] w fun e w' => e = .returned (.tuple #[]) ∧ w = w' := by
  go_enter Try.func92, Try.ntmps92
  go_wp2_with (go_at_call 118; refine (stable_nil _ _).mono ?_; rintro e w' ⟨rfl, rfl⟩)
  go_end0
  exact ⟨rfl, rfl⟩
def jobTasks (k : Nat) : List TTask := (List.range k).map fun (i : Nat) => (⟨false, (i : Int)⟩ : TTask)
def shipTasks (k : Nat) : List TTask := (List.range k).map fun (i : Nat) => (⟨true, (i : Int)⟩ : TTask)
def tasksS (p : TProblem) : List TTask := sortS (prioS p) (jobTasks p.Jobs.length ++ shipTasks p.Shipments.length)
theorem jobTasks_succ (k : Nat) : jobTasks (k + 1) = jobTasks k ++ [⟨false, (k : Int)⟩] := by simp [jobTasks, List.range_succ]
theorem shipTasks_succ (k : Nat) : shipTasks (k + 1) = shipTasks k ++ [⟨true, (k : Int)⟩] := by simp [shipTasks, List.range_succ]
theorem jobTasks_length (k : Nat) : (jobTasks k).length = k := by simp [jobTasks]
theorem shipTasks_length (k : Nat) : (shipTasks k).length = k := by simp [shipTasks]
theorem insIn_length (pr : TTask → Int) : ∀ (j : Nat) (l : List TTask), (insIn pr j l).length = l.length
  | 0, l => rfl
  | j + 1, l => by
    unfold insIn
    split
    · rw [insIn_length pr j]
      simp [swpAt]
    · rfl
theorem insOut_length (pr : TTask → Int) : ∀ (m i : Nat) (l : List TTask), (insOut pr m i l).length = l.length
  | 0, _, l => rfl
  | m + 1, i, l => by rw [insOut, insOut_length pr m, insIn_length]
theorem sortS_length (pr : TTask → Int) (l : List TTask) : (sortS pr l).length = l.length := insOut_length _ _ _ _
def TasksPost (ts : List TTask) (w : World) (e : Ending) (w' : World) : Prop :=
  ∃ A c, e = .returned (.slice A ts.length c) ∧ ts.length ≤ c ∧ Kd.C kTask w' A ts.length ts ∧ Below w.heap.size w w' ∧ (0 < ts.length → ∃ g, A = some ⟨g, 0, none⟩ ∧ w.heap.size ≤ g ∧ TB w' g ts)
set_option maxHeartbeats 8000000 in
set_option maxRecDepth 100000 in
theorem tasks_any (q : PV) (p : TProblem) (w : World) (hl : Lens p) (hq : q.Ok p w) (hp : ∀ t, 0 ≤ prioS p t ∧ prioS p t ≤ 100) (hn : p.Jobs.length + p.Shipments.length ≤ 12) :
    Calls Try.prog 34 #[q.val p] w (TasksPost (tasksS p) w) := by
  have HL := Aside0.mk hl
  have HQ := Aside0.mk hq
  have HP := Aside0.mk hp
  have n4 : p.Jobs.length ≤ 12 := by omega
  have n5 : p.Shipments.length ≤ 12 := by omega
  clear hl hq hp
  unfold PV.val
  go_enter Try.func34, Try.ntmps34
  go_wp2
  go_loopw [3, 9] (fun v i wr => ∃ k : Nat, k ≤ p.Jobs.length ∧ i = .int .i64 k ∧ Aside0 (kTask.R 48 wr (w.heap.size + 1) (fun _ => True) v (jobTasks k)) ∧ Aside0 (Below (w.heap.size + 1) (w.alloc (.cells #[.int .i64 p.Dims, .int .i64 p.Time.N, .slice q.a1 p.Time.Cells.length q.c1, .int .i64 p.Dist.N, .slice q.a2 p.Dist.Cells.length q.c2, .slice q.a3 p.Vehicles.length q.c3, .slice q.a4 p.Jobs.length q.c4, .slice q.a5 p.Shipments.length q.c5] 29)) wr) ∧ Aside0 (k = 0 → v = .slice none 0 0)) (fun _ i _ => p.Jobs.length - (intOf i).toNat)
  case atStart => exact ⟨0, Nat.zero_le _, rfl, ⟨Kd.R_nil _ _ _ _ _⟩, ⟨Below.refl _ _⟩, ⟨fun _ => rfl⟩⟩
  case round =>
    obtain ⟨k, hk, rfl, HR, HW, HN⟩ := hrel
    have HW' : Aside0 (Below (w.alloc (.cells #[.int .i64 p.Dims, .int .i64 p.Time.N, .slice q.a1 p.Time.Cells.length q.c1, .int .i64 p.Dist.N, .slice q.a2 p.Dist.Cells.length q.c2, .slice q.a3 p.Vehicles.length q.c3, .slice q.a4 p.Jobs.length q.c4, .slice q.a5 p.Shipments.length q.c5] 29)).heap.size (w.alloc (.cells #[.int .i64 p.Dims, .int .i64 p.Time.N, .slice q.a1 p.Time.Cells.length q.c1, .int .i64 p.Dist.N, .slice q.a2 p.Dist.Cells.length q.c2, .slice q.a3 p.Vehicles.length q.c3, .slice q.a4 p.Jobs.length q.c4, .slice q.a5 p.Shipments.length q.c5] 29)) wr) := ⟨by simpa using HW.out⟩
    by_cases hlt : k < p.Jobs.length
    · go_wp2_with (at_builtin; refine Kd.R_append kTask (w0 := (w.alloc (.cells #[.int .i64 p.Dims, .int .i64 p.Time.N, .slice q.a1 p.Time.Cells.length q.c1, .int .i64 p.Dist.N, .slice q.a2 p.Dist.Cells.length q.c2, .slice q.a3 p.Vehicles.length q.c3, .slice q.a4 p.Jobs.length q.c4, .slice q.a5 p.Shipments.length q.c5] 29))) (w.heap.size + 1) rfl (.tmp 12) (.tmp 15) 51 48 (.agg #[.bool false, .int .i64 0]) 16 rfl Try.underlying51 infoTask rfl (by decide) (by omega) u3 (jobTasks k) ⟨false, (k : Int)⟩ _ (fun _ => True) (fun _ => False) rfl rfl (kTask_mkM _ _ _ _) (fun _ h => h.elim) (fun _ _ => trivial) HR.out HW.out (by have := HW'.out.size; simp at this; omega) (by simp [jobTasks_length]; omega) ?_; intro v1 w1 ho hb hg hat; have HO := Aside0.mk ho; have HBN := Aside0.mk hb; clear ho hb hg hat)
      go_roundw
      case rel => exact ⟨k + 1, by omega, by go_num, ⟨jobTasks_succ k ▸ HO.out⟩, HBN, ⟨fun h => by omega⟩⟩
      case measure => simp [intOf]; omega
    · obtain rfl : k = p.Jobs.length := by omega
      obtain ⟨qc, qf⟩ := bcell HW'.out
      have zr : w.heap.size < wr.heap.size := by
        have := HW'.out.size
        simp at this
        omega
      go_wp2
      have HRa := HR
      have HWa := HW
      have HNa := HN
      obtain ⟨wa, rfl⟩ : ∃ wa : World, wa = wr := ⟨_, rfl⟩
      clear HR HW HN HW' hk hlt qc qf zr
      go_loopw [3, 21] (fun v i wr => ∃ k : Nat, k ≤ p.Shipments.length ∧ i = .int .i64 k ∧ Aside0 (kTask.R 48 wr (w.heap.size + 1) (fun _ => True) v (jobTasks p.Jobs.length ++ shipTasks k)) ∧ Aside0 (Below (w.heap.size + 1) (w.alloc (.cells #[.int .i64 p.Dims, .int .i64 p.Time.N, .slice q.a1 p.Time.Cells.length q.c1, .int .i64 p.Dist.N, .slice q.a2 p.Dist.Cells.length q.c2, .slice q.a3 p.Vehicles.length q.c3, .slice q.a4 p.Jobs.length q.c4, .slice q.a5 p.Shipments.length q.c5] 29)) wr) ∧ Aside0 (p.Jobs.length + k = 0 → v = .slice none 0 0)) (fun _ i _ => p.Shipments.length - (intOf i).toNat)
      case atStart => exact ⟨0, Nat.zero_le _, rfl, ⟨by simpa [shipTasks] using HRa.out⟩, HWa, HNa⟩
      case round =>
        clear HRa HWa HNa
        obtain ⟨k, hk, rfl, HR, HW, HN⟩ := hrel
        have HW' : Aside0 (Below (w.alloc (.cells #[.int .i64 p.Dims, .int .i64 p.Time.N, .slice q.a1 p.Time.Cells.length q.c1, .int .i64 p.Dist.N, .slice q.a2 p.Dist.Cells.length q.c2, .slice q.a3 p.Vehicles.length q.c3, .slice q.a4 p.Jobs.length q.c4, .slice q.a5 p.Shipments.length q.c5] 29)).heap.size (w.alloc (.cells #[.int .i64 p.Dims, .int .i64 p.Time.N, .slice q.a1 p.Time.Cells.length q.c1, .int .i64 p.Dist.N, .slice q.a2 p.Dist.Cells.length q.c2, .slice q.a3 p.Vehicles.length q.c3, .slice q.a4 p.Jobs.length q.c4, .slice q.a5 p.Shipments.length q.c5] 29)) wr) := ⟨by simpa using HW.out⟩
        by_cases hlt : k < p.Shipments.length
        · go_wp2_with (at_builtin; refine Kd.R_append kTask (w0 := (w.alloc (.cells #[.int .i64 p.Dims, .int .i64 p.Time.N, .slice q.a1 p.Time.Cells.length q.c1, .int .i64 p.Dist.N, .slice q.a2 p.Dist.Cells.length q.c2, .slice q.a3 p.Vehicles.length q.c3, .slice q.a4 p.Jobs.length q.c4, .slice q.a5 p.Shipments.length q.c5] 29))) (w.heap.size + 1) rfl (.tmp 24) (.tmp 27) 51 48 (.agg #[.bool false, .int .i64 0]) 16 rfl Try.underlying51 infoTask rfl (by decide) (by omega) u3 (jobTasks p.Jobs.length ++ shipTasks k) ⟨true, (k : Int)⟩ _ (fun _ => True) (fun _ => False) rfl rfl (kTask_mkM _ _ _ _) (fun _ h => h.elim) (fun _ _ => trivial) HR.out HW.out (by have := HW'.out.size; simp at this; omega) (by simp [jobTasks_length, shipTasks_length]; omega) ?_; intro v1 w1 ho hb hg hat; have HO := Aside0.mk ho; have HBN := Aside0.mk hb; clear ho hb hg hat)
          go_roundw
          case rel => exact ⟨k + 1, by omega, by go_num, ⟨by have h := HO.out; rw [List.append_assoc, ← shipTasks_succ] at h; exact h⟩, HBN, ⟨fun h => by omega⟩⟩
          case measure => simp [intOf]; omega
        · obtain rfl : k = p.Shipments.length := by omega
          have HB1 : Aside0 (Below w.heap.size w wr) := ⟨below_to (below_alloc (Below.refl _ _) _) HW'.out⟩
          have hlen : (jobTasks p.Jobs.length ++ shipTasks p.Shipments.length).length = p.Jobs.length + p.Shipments.length := by simp [jobTasks_length, shipTasks_length]
          rcases Nat.eq_zero_or_pos (p.Jobs.length + p.Shipments.length) with h0 | h0
          · have hnil : jobTasks p.Jobs.length ++ shipTasks p.Shipments.length = [] := List.eq_nil_of_length_eq_zero (by omega)
            have hu := HN.out h0
            subst hu
            have ht : tasksS p = [] := by rw [tasksS, hnil]; rfl
            have HZ := Aside0.mk ht
            clear hnil hlen ht
            go_wp2_with (go_at_call 92; refine (sortStable_nil _ _).mono ?_; rintro e w' ⟨rfl, rfl⟩)
            go_ret
            rw [HZ.out]
            exact ⟨none, 0, rfl, Nat.le_refl _, Kd.C_nil _ _, HB1.out, fun h => absurd h (Nat.lt_irrefl 0)⟩
          · have hlenA := Aside0.mk hlen
            obtain ⟨g, cap, hv, hg, hcap, htb⟩ := TB_of_R HR.out (by omega)
            rw [hlen] at hv hcap
            subst hv
            have hcmp : ∀ W, Below (w.heap.size + 1) (w.alloc (.cells #[.int .i64 p.Dims, .int .i64 p.Time.N, .slice q.a1 p.Time.Cells.length q.c1, .int .i64 p.Dist.N, .slice q.a2 p.Dist.Cells.length q.c2, .slice q.a3 p.Vehicles.length q.c3, .slice q.a4 p.Jobs.length q.c4, .slice q.a5 p.Shipments.length q.c5] 29)) W → ∀ x y : TTask, Calls Try.prog 93 #[taskVal x, taskVal y, .pointer (some ⟨w.heap.size, 0, none⟩)] W fun e w' => e = .returned (.int .i64 (prioS p y - prioS p x)) ∧ Below W.heap.size W w' := fun W hW x y =>
              cmpT_any q p x y w.heap.size W HL.out (HQ.out.below (below_to (below_alloc (Below.refl _ _) _) (show Below (w.alloc (.cells #[.int .i64 p.Dims, .int .i64 p.Time.N, .slice q.a1 p.Time.Cells.length q.c1, .int .i64 p.Dist.N, .slice q.a2 p.Dist.Cells.length q.c2, .slice q.a3 p.Vehicles.length q.c3, .slice q.a4 p.Jobs.length q.c4, .slice q.a5 p.Shipments.length q.c5] 29)).heap.size (w.alloc (.cells #[.int .i64 p.Dims, .int .i64 p.Time.N, .slice q.a1 p.Time.Cells.length q.c1, .int .i64 p.Dist.N, .slice q.a2 p.Dist.Cells.length q.c2, .slice q.a3 p.Vehicles.length q.c3, .slice q.a4 p.Jobs.length q.c4, .slice q.a5 p.Shipments.length q.c5] 29)) W by simpa using hW))) HP.out ((hW.block w.heap.size (by omega)).trans (blk_new _ _))
            have HC := Aside0.mk (sortStable_any (w.heap.size + 1) (w.alloc (.cells #[.int .i64 p.Dims, .int .i64 p.Time.N, .slice q.a1 p.Time.Cells.length q.c1, .int .i64 p.Dist.N, .slice q.a2 p.Dist.Cells.length q.c2, .slice q.a3 p.Vehicles.length q.c3, .slice q.a4 p.Jobs.length q.c4, .slice q.a5 p.Shipments.length q.c5] 29)) (prioS p) ⟨w.heap.size, 0, none⟩ hcmp g cap hg (jobTasks p.Jobs.length ++ shipTasks p.Shipments.length) wr HW.out (by have := HW'.out.size; simp at this; omega) htb (by omega))
            rw [hlen] at HC
            clear hcmp htb hlen
            go_wp2_with (go_at_call 92; refine HC.out.mono ?_; rintro e w1 ⟨rfl, h1, h2, h3⟩)
            have h4 : (tasksS p).length = p.Jobs.length + p.Shipments.length := by rw [tasksS, sortS_length]; exact hlenA.out
            go_ret
            refine ⟨some ⟨g, 0, none⟩, cap, by rw [h4]; rfl, by omega, TB.reads h3 (by have h := h4; unfold tasksS at h; omega), ?_, fun _ => ⟨g, rfl, by omega, h3⟩⟩
            exact below_to (below_alloc (Below.refl _ _) _) (show Below (w.alloc (.cells #[.int .i64 p.Dims, .int .i64 p.Time.N, .slice q.a1 p.Time.Cells.length q.c1, .int .i64 p.Dist.N, .slice q.a2 p.Dist.Cells.length q.c2, .slice q.a3 p.Vehicles.length q.c3, .slice q.a4 p.Jobs.length q.c4, .slice q.a5 p.Shipments.length q.c5] 29)).heap.size (w.alloc (.cells #[.int .i64 p.Dims, .int .i64 p.Time.N, .slice q.a1 p.Time.Cells.length q.c1, .int .i64 p.Dist.N, .slice q.a2 p.Dist.Cells.length q.c2, .slice q.a3 p.Vehicles.length q.c3, .slice q.a4 p.Jobs.length q.c4, .slice q.a5 p.Shipments.length q.c5] 29)) w1 by simpa using h1)
end Go.Proofs.Ytemjpgmfignhnaa

/- Contract: the problem Line of the fixed facts.
Conditions: none. -/
namespace Go.Proofs.Ytemjpgmfignhnaa
open Go.RowKit Go.Proofs.YtemjpgmfignhnaaW.PrintWords Go.Proofs.YtemjpgmfignhnaaW.PrintLast Go.Proofs.YtemjpgmfignhnaaW.PrintMore
set_option linter.unusedVariables false
set_option linter.unusedSimpArgs false
def lineM : TMatrix := ⟨2, [0, 10, 10, 0]⟩
def lineV : TVehicle := ⟨0, 0, [], 0, ⟨0, 1000000⟩, 0, 1, 0, 12, []⟩
def lineP : TProblem := ⟨0, lineM, lineM, [lineV], [⟨⟨1, 5, [⟨0, 1000000⟩]⟩, [], [], 0, 1⟩, ⟨⟨1, 0, [⟨0, 1000000⟩]⟩, [], [], 0, 5⟩], []⟩
def linePV (gc gv gj : Nat) : PV := ⟨some ⟨gc, 0, none⟩, 4, some ⟨gc, 0, none⟩, 4, some ⟨gv, 0, none⟩, 1, some ⟨gj, 0, none⟩, 2, none, 0⟩
structure LineIn (gc gw gv gj : Nat) (w w' : World) : Prop where
  lc : w.heap.size ≤ gc
  lw : w.heap.size ≤ gw
  lv : w.heap.size ≤ gv
  lj : w.heap.size ≤ gj
  hc : w'.heap[gc]? = some (.cells #[.int .i64 0, .int .i64 10, .int .i64 10, .int .i64 0] 3 (0, 0))
  hw : w'.heap[gw]? = some (.cells #[.int .i64 0, .int .i64 1000000] 40 (0, 0))
  hv : w'.heap[gv]? = some (.cells #[.int .i64 0, .int .i64 0, .slice none 0 0, .int .u64 0, .int .i64 0, .int .i64 1000000, .int .i64 0, .int .i64 1, .int .i64 0, .int .i64 12, .slice none 0 0] 89 (0, 0))
  hj : w'.heap[gj]? = some (.cells #[.int .i64 1, .int .i64 5, .slice (some ⟨gw, 0, none⟩) 1 1, .slice none 0 0, .slice none 0 0, .int .u64 0, .int .i64 1, .int .i64 1, .int .i64 0, .slice (some ⟨gw, 0, none⟩) 1 1, .slice none 0 0, .slice none 0 0, .int .u64 0, .int .i64 5] 46 (0, 0))
  below : Below w.heap.size w w'
def LinePost (w : World) (e : Ending) (w' : World) : Prop := ∃ gc gw gv gj : Nat, e = .returned ((linePV gc gv gj).val lineP) ∧ LineIn gc gw gv gj w w'
theorem blk_at {W : World} {o : Obj} {n : Nat} (h : W.heap.size = n) : (W.alloc o).heap[n]? = some o := h ▸ blk_new W o
set_option maxHeartbeats 8000000 in
set_option maxRecDepth 100000 in
theorem line_any (w : World) : Calls Try.prog 80 #[] w (LinePost w) := by
  go_enter Try.func80, Try.ntmps80
  go_wp2
  go_region
  all_goals
    go_wp2
    first
      | (refine bodyPost_ret (v := .agg #[.int .i64 0, .int .i64 2, .slice (some ⟨w.heap.size + 1, 0, none⟩) 4 4, .int .i64 2, .slice (some ⟨w.heap.size + 1, 0, none⟩) 4 4, .slice (some ⟨w.heap.size + 1 + 1 + 1 + 1, 0, none⟩) 1 1, .slice (some ⟨w.heap.size + 1 + 1 + 1 + 1+ 1, 0, none⟩) 2 2, .slice none 0 0]) ?_ rfl ⟨w.heap.size + 1, w.heap.size + 1 + 1 + 1, w.heap.size + 1 + 1 + 1 + 1, w.heap.size + 1 + 1 + 1 + 1+ 1, rfl, ⟨by omega, by omega, by omega, by omega, ?_, ?_, ?_, ?_, (by repeat (first | exact Below.refl _ _ | apply below_alloc | apply pw_below_drewN | apply below_drew1 | apply below_drew | (refine Below.setCell ?_ (by (try simp); (try omega)) _) | (refine below_to ?_ HB6.out) | (refine below_to ?_ HB5.out) | (refine below_to ?_ HB4.out) | (refine below_to ?_ HB3.out) | (refine below_to ?_ HB2.out) | (refine below_to ?_ HB1.out)))⟩⟩; focus (simp [results, Try.results80, go_sem]; done)); all_goals (refine blk_drew ?_; repeat (first | (focus (refine blk_at ?_; simp; done)) | apply blk_alloc))
      | (refine bodyPost_ret (v := .agg #[.int .i64 0, .int .i64 2, .slice (some ⟨w.heap.size + 1, 0, none⟩) 4 4, .int .i64 2, .slice (some ⟨w.heap.size + 1, 0, none⟩) 4 4, .slice (some ⟨w.heap.size + 1 + 1 + 1 + 1+ 1, 0, none⟩) 1 1, .slice (some ⟨w.heap.size + 1 + 1 + 1 + 1, 0, none⟩) 2 2, .slice none 0 0]) ?_ rfl ⟨w.heap.size + 1, w.heap.size + 1 + 1 + 1, w.heap.size + 1 + 1 + 1 + 1+ 1, w.heap.size + 1 + 1 + 1 + 1, rfl, ⟨by omega, by omega, by omega, by omega, ?_, ?_, ?_, ?_, (by repeat (first | exact Below.refl _ _ | apply below_alloc | apply pw_below_drewN | apply below_drew1 | apply below_drew | (refine Below.setCell ?_ (by (try simp); (try omega)) _) | (refine below_to ?_ HB6.out) | (refine below_to ?_ HB5.out) | (refine below_to ?_ HB4.out) | (refine below_to ?_ HB3.out) | (refine below_to ?_ HB2.out) | (refine below_to ?_ HB1.out)))⟩⟩; focus (simp [results, Try.results80, go_sem]; done)); all_goals (refine blk_drew ?_; repeat (first | (focus (refine blk_at ?_; simp; done)) | apply blk_alloc))
/-- Line, as it reads. -/
theorem LineIn.ok {gc gw gv gj : Nat} {w w' : World} (h : LineIn gc gw gv gj w w') : (linePV gc gv gj).Ok lineP w' := by
  have hw := C_one (d := kWindow) (W := w') (g := gw) (⟨0, 1000000⟩ : TWindow) h.hw (kWindow_mk _ _)
  refine ⟨Nat.le_refl _, Nat.le_refl _, Nat.le_refl _, Nat.le_refl _, Nat.le_refl _, ?_, ?_, ?_, ?_, ?_⟩
  · refine C_block h.hc [0, 10, 10, 0] ⟨rfl, fun j x hj => ?_⟩ (by decide)
    match j, hj with
    | 0, hj => obtain rfl := Option.some.inj hj; rfl
    | 1, hj => obtain rfl := Option.some.inj hj; rfl
    | 2, hj => obtain rfl := Option.some.inj hj; rfl
    | 3, hj => obtain rfl := Option.some.inj hj; rfl
  · refine C_block h.hc [0, 10, 10, 0] ⟨rfl, fun j x hj => ?_⟩ (by decide)
    match j, hj with
    | 0, hj => obtain rfl := Option.some.inj hj; rfl
    | 1, hj => obtain rfl := Option.some.inj hj; rfl
    | 2, hj => obtain rfl := Option.some.inj hj; rfl
    | 3, hj => obtain rfl := Option.some.inj hj; rfl
  · exact C_one (d := kVehicle) lineV h.hv (kVehicle_mk _ _ none 0 (Nat.le_refl _) (Kd.C_nil _ _) none 0 (Nat.le_refl _) (Kd.C_nil _ _))
  · refine C_block h.hj lineP.Jobs ⟨rfl, fun j x hj => ?_⟩ (by decide)
    match j, hj with
    | 0, hj => obtain rfl := Option.some.inj hj; exact kJob_mk _ _ _ 1 (Nat.le_refl _) hw none 0 (Nat.le_refl _) (Kd.C_nil _ _) none 0 (Nat.le_refl _) (Kd.C_nil _ _)
    | 1, hj => obtain rfl := Option.some.inj hj; exact kJob_mk _ _ _ 1 (Nat.le_refl _) hw none 0 (Nat.le_refl _) (Kd.C_nil _ _) none 0 (Nat.le_refl _) (Kd.C_nil _ _)
  · exact Kd.C_nil _ _
end Go.Proofs.Ytemjpgmfignhnaa

/- What a lawful problem's check tells, in plain words.
Conditions: none. -/
namespace Go.Proofs.Ytemjpgmfignhnaa
open Go.RowKit Go.Proofs.YtemjpgmfignhnaaW.PrintWords Go.Proofs.YtemjpgmfignhnaaW.PrintLast Go.Proofs.YtemjpgmfignhnaaW.PrintMore
set_option linter.unusedVariables false
set_option linter.unusedSimpArgs false
structure Law (p : TProblem) : Prop where
  d0 : 0 ≤ p.Dims
  d1 : p.Dims ≤ 3
  mt : matrixB p.Time p.Time.N = true
  md : matrixB p.Dist p.Time.N = true
  n0 : 1 ≤ p.Time.N
  n1 : p.Time.N ≤ 32
  nv : p.Vehicles.length ≤ 4
  nt : p.Jobs.length + p.Shipments.length ≤ 12
  gv : ∀ v ∈ p.Vehicles, vehicleB v p.Dims p.Time.N = true
  gj : ∀ j ∈ p.Jobs, jobB j p.Dims p.Time.N = true
  gs : ∀ s ∈ p.Shipments, shipB s p.Dims p.Time.N = true
theorem law_of {p : TProblem} (h : checkS p = 0) : Law p := by
  unfold checkS at h
  split at h
  · cases h
  · rename_i hb
    rw [Bool.not_eq_false] at hb
    simp only [Bool.and_eq_true, decide_eq_true_eq] at hb
    obtain ⟨h1, h2, h3, h4, h5⟩ := hb
    split at h
    · cases h
    · rename_i hc
      unfold vehsS at h
      split at h
      · rename_i hv
        unfold jobsS at h
        split at h
        · rename_i hj
          unfold shipsS at h
          split at h
          · rename_i hs
            rw [List.all_eq_true] at hv hj hs
            exact ⟨(upB_true h1).1, (upB_true h1).2, h4, h5, h2, h3, by omega, by omega, hv, hj, hs⟩
          · cases h
        · cases h
      · cases h
theorem matOk_of {m : TMatrix} {n : Int} (h : matrixB m n = true) (h0 : 1 ≤ n) (h1 : n ≤ 32) : MatOk m := by
  simp only [matrixB, Bool.and_eq_true, decide_eq_true_eq] at h
  obtain ⟨⟨a, b⟩, _⟩ := h
  exact ⟨by omega, by omega, by rw [a]; exact b⟩
theorem rdJob_mem (l : List TJob) (i : Int) (h0 : 0 ≤ i) (h1 : i < l.length) : rdJob l i ∈ l := by
  have : rdJob l i = l[i.toNat]'(by omega) := by simp [rdJob, List.getElem?_eq_getElem (show i.toNat < l.length by omega)]
  rw [this]
  exact List.getElem_mem _
theorem rdShip_mem (l : List TShipment) (i : Int) (h0 : 0 ≤ i) (h1 : i < l.length) : rdShipment l i ∈ l := by
  have : rdShipment l i = l[i.toNat]'(by omega) := by simp [rdShipment, List.getElem?_eq_getElem (show i.toNat < l.length by omega)]
  rw [this]
  exact List.getElem_mem _
theorem Law.prio {p : TProblem} (h : Law p) (t : TTask) : 0 ≤ prioS p t ∧ prioS p t ≤ 100 := by
  unfold prioS factsS
  split
  · rename_i ht
    split
    · rename_i hs
      unfold thereB at ht
      rw [if_pos hs] at ht
      have hr := upB_true ht
      have hb := h.gs _ (rdShip_mem p.Shipments t.Item hr.1 (by omega))
      simp only [shipB, Bool.and_eq_true] at hb
      exact upB_true hb.2.2.2.2
    · rename_i hs
      unfold thereB at ht
      rw [if_neg hs] at ht
      have hr := upB_true ht
      have hb := h.gj _ (rdJob_mem p.Jobs t.Item hr.1 (by omega))
      simp only [jobB, Bool.and_eq_true] at hb
      exact upB_true hb.2.2.2.2
  · exact ⟨by decide, by decide⟩
theorem check_line : checkS lineP = 0 := by decide +kernel
theorem tasks_line : tasksS lineP = [⟨false, 1⟩, ⟨false, 0⟩] := by rfl
theorem good_line : Good lineP := by
  refine ⟨⟨by decide, by decide, by decide, by decide, by decide⟩, by decide, fun v hv => ?_, fun j hj => ?_, fun s hs => ?_⟩
  · obtain rfl : v = lineV := by simpa [lineP] using hv
    exact ⟨by decide, by decide, fun b hb => by simp [lineV] at hb, by decide, by decide⟩
  · have : j = ⟨⟨1, 5, [⟨0, 1000000⟩]⟩, [], [], 0, 1⟩ ∨ j = ⟨⟨1, 0, [⟨0, 1000000⟩]⟩, [], [], 0, 5⟩ := by simpa [lineP] using hj
    rcases this with rfl | rfl <;> exact ⟨by decide, by decide, by decide, by decide, by decide⟩
  · simp [lineP] at hs
end Go.Proofs.Ytemjpgmfignhnaa

/- Contracts: a task's visits; two lists that are the same.
Conditions: lists no longer than memory allows. -/
namespace Go.Proofs.Ytemjpgmfignhnaa
open Go.RowKit Go.Proofs.YtemjpgmfignhnaaW.PrintWords Go.Proofs.YtemjpgmfignhnaaW.PrintLast Go.Proofs.YtemjpgmfignhnaaW.PrintMore
set_option linter.unusedVariables false
set_option linter.unusedSimpArgs false
attribute [local go_sem] cell_growBy Option.some_or
set_option maxHeartbeats 4000000 in
set_option maxRecDepth 100000 in
theorem sameTasks_any (l : List TTask) (A A' : Option Addr) (c c' : Nat) (w : World) (hr : Kd.C kTask w A l.length l) (hr' : Kd.C kTask w A' l.length l) (hn : l.length ≤ 4611686018427387904) :
    Calls Try.prog 35 #[.slice A l.length c, .slice A' l.length c'] w fun e w' => e = .returned (.bool true) ∧ Below w.heap.size w w' := by
  have HR := Aside0.mk hr
  have HR' := Aside0.mk hr'
  clear hr hr'
  go_enter Try.func35, Try.ntmps35
  go_wp2
  go_loopw [5] (fun i wr => ∃ k : Nat, k ≤ l.length ∧ i = .int .i64 k ∧ Aside0 (Below w.heap.size w wr)) (fun i _ => l.length - (intOf i).toNat)
  case atStart => exact ⟨0, Nat.zero_le _, rfl, ⟨Below.refl _ _⟩⟩
  case round =>
    obtain ⟨k, hk, rfl, HB1⟩ := hrel
    by_cases hlt : k < l.length
    · obtain ⟨ad, ea, x0, x1⟩ := atNTask (Kd.C_below HR.out HB1.out) k hlt
      obtain ⟨ad', ea', y0, y1⟩ := atNTask (Kd.C_below HR'.out HB1.out) k hlt
      subst ea
      subst ea'
      have r0 : (0 : Int) ≤ (k : Int) := by omega
      have r1 : (k : Int) < (l.length : Int) := by omega
      go_wp2
      go_quiet (fail)
      go_wp2
      go_roundw
      case rel => exact ⟨k + 1, by omega, by go_num, ⟨(by repeat (first | exact Below.refl _ _ | apply below_alloc | apply pw_below_drewN | apply below_drew1 | apply below_drew | (refine Below.setCell ?_ (by (try simp); (try omega)) _) | (refine below_to ?_ HB6.out) | (refine below_to ?_ HB5.out) | (refine below_to ?_ HB4.out) | (refine below_to ?_ HB3.out) | (refine below_to ?_ HB2.out) | (refine below_to ?_ HB1.out)))⟩⟩
      case measure => simp [intOf]; omega
    · obtain rfl : k = l.length := by omega
      go_wp2
      go_ret
      exact ⟨rfl, (by repeat (first | exact Below.refl _ _ | apply below_alloc | apply pw_below_drewN | apply below_drew1 | apply below_drew | (refine Below.setCell ?_ (by (try simp); (try omega)) _) | (refine below_to ?_ HB6.out) | (refine below_to ?_ HB5.out) | (refine below_to ?_ HB4.out) | (refine below_to ?_ HB3.out) | (refine below_to ?_ HB2.out) | (refine below_to ?_ HB1.out)))⟩
set_option maxHeartbeats 4000000 in
set_option maxRecDepth 100000 in
theorem sameVisits_any (l : List TVisit) (A A' : Option Addr) (c c' : Nat) (w : World) (hr : Kd.C kVisit w A l.length l) (hr' : Kd.C kVisit w A' l.length l) (hn : l.length ≤ 4611686018427387904) :
    Calls Try.prog 46 #[.slice A l.length c, .slice A' l.length c'] w fun e w' => e = .returned (.bool true) ∧ Below w.heap.size w w' := by
  have HR := Aside0.mk hr
  have HR' := Aside0.mk hr'
  clear hr hr'
  go_enter Try.func46, Try.ntmps46
  go_wp2
  go_loopw [5] (fun i wr => ∃ k : Nat, k ≤ l.length ∧ i = .int .i64 k ∧ Aside0 (Below w.heap.size w wr)) (fun i _ => l.length - (intOf i).toNat)
  case atStart => exact ⟨0, Nat.zero_le _, rfl, ⟨Below.refl _ _⟩⟩
  case round =>
    obtain ⟨k, hk, rfl, HB1⟩ := hrel
    by_cases hlt : k < l.length
    · obtain ⟨ad, ea, x0, x1⟩ := atNVisit (Kd.C_below HR.out HB1.out) k hlt
      obtain ⟨ad', ea', y0, y1⟩ := atNVisit (Kd.C_below HR'.out HB1.out) k hlt
      subst ea
      subst ea'
      have r0 : (0 : Int) ≤ (k : Int) := by omega
      have r1 : (k : Int) < (l.length : Int) := by omega
      go_wp2
      go_quiet (fail)
      go_wp2
      go_roundw
      case rel => exact ⟨k + 1, by omega, by go_num, ⟨(by repeat (first | exact Below.refl _ _ | apply below_alloc | apply pw_below_drewN | apply below_drew1 | apply below_drew | (refine Below.setCell ?_ (by (try simp); (try omega)) _) | (refine below_to ?_ HB6.out) | (refine below_to ?_ HB5.out) | (refine below_to ?_ HB4.out) | (refine below_to ?_ HB3.out) | (refine below_to ?_ HB2.out) | (refine below_to ?_ HB1.out)))⟩⟩
      case measure => simp [intOf]; omega
    · obtain rfl : k = l.length := by omega
      go_wp2
      go_ret
      exact ⟨rfl, (by repeat (first | exact Below.refl _ _ | apply below_alloc | apply pw_below_drewN | apply below_drew1 | apply below_drew | (refine Below.setCell ?_ (by (try simp); (try omega)) _) | (refine below_to ?_ HB6.out) | (refine below_to ?_ HB5.out) | (refine below_to ?_ HB4.out) | (refine below_to ?_ HB3.out) | (refine below_to ?_ HB2.out) | (refine below_to ?_ HB1.out)))⟩
theorem blk_is {W : World} {o : Obj} {n : Nat} (h : W.heap.size = n) : (W.alloc o).heap[n]? = some o := h ▸ blk_new W o
/-- A list is handed back. -/
def ListPost {α : Type} (d : Kd α) (l : List α) (w : World) (e : Ending) (w' : World) : Prop :=
  ∃ A c, e = .returned (.slice A l.length c) ∧ l.length ≤ c ∧ Kd.C d w' A l.length l ∧ Below w.heap.size w w'
def visitsS (t : TTask) : List TVisit := if t.Ship = true then [⟨2, t.Item⟩, ⟨3, t.Item⟩] else [⟨1, t.Item⟩]
set_option maxHeartbeats 4000000 in
set_option maxRecDepth 100000 in
theorem visits_any (t : TTask) (w : World) : Calls Try.prog 40 #[.agg #[.bool t.Ship, .int .i64 t.Item]] w (ListPost kVisit (visitsS t) w) := by
  obtain ⟨ship, item⟩ := t
  cases ship
  · go_enter Try.func40, Try.ntmps40
    go_wp2
    refine bodyPost_ret (v := .slice (some ⟨w.heap.size + 1, 0, none⟩) 1 1) (by simp [results, Try.results40, go_sem]) rfl ⟨_, _, rfl, Nat.le_refl _, ?_, (by repeat (first | exact Below.refl _ _ | apply below_alloc | apply pw_below_drewN | apply below_drew1 | apply below_drew | (refine Below.setCell ?_ (by (try simp); (try omega)) _) | (refine below_to ?_ HB6.out) | (refine below_to ?_ HB5.out) | (refine below_to ?_ HB4.out) | (refine below_to ?_ HB3.out) | (refine below_to ?_ HB2.out) | (refine below_to ?_ HB1.out)))⟩
    exact C_one (d := kVisit) _ (blk_is (by simp)) (kVisit_mk _ _)
  · go_enter Try.func40, Try.ntmps40
    go_wp2
    refine bodyPost_ret (v := .slice (some ⟨w.heap.size + 1, 0, none⟩) 2 2) (by simp [results, Try.results40, go_sem]) rfl ⟨_, _, rfl, Nat.le_refl _, ?_, (by repeat (first | exact Below.refl _ _ | apply below_alloc | apply pw_below_drewN | apply below_drew1 | apply below_drew | (refine Below.setCell ?_ (by (try simp); (try omega)) _) | (refine below_to ?_ HB6.out) | (refine below_to ?_ HB5.out) | (refine below_to ?_ HB4.out) | (refine below_to ?_ HB3.out) | (refine below_to ?_ HB2.out) | (refine below_to ?_ HB1.out)))⟩
    refine C_block (d := kVisit) (blk_is (by simp)) [⟨2, item⟩, ⟨3, item⟩] ⟨rfl, fun j x hj => ?_⟩ (by simp)
    match j, hj with
    | 0, hj => obtain rfl := Option.some.inj hj; exact kVisit_mk _ _
    | 1, hj => obtain rfl := Option.some.inj hj; exact kVisit_mk _ _
set_option maxHeartbeats 4000000 in
set_option maxRecDepth 100000 in
theorem refVisits_any (t : TTask) (w : World) : Calls Try.prog 47 #[.agg #[.bool t.Ship, .int .i64 t.Item]] w (ListPost kVisit (visitsS t) w) := by
  obtain ⟨ship, item⟩ := t
  cases ship
  · go_enter Try.func47, Try.ntmps47
    go_wp2
    refine bodyPost_ret (v := .slice (some ⟨w.heap.size + 1, 0, none⟩) 1 1) (by simp [results, Try.results47, go_sem]) rfl ⟨_, _, rfl, Nat.le_refl _, ?_, (by repeat (first | exact Below.refl _ _ | apply below_alloc | apply pw_below_drewN | apply below_drew1 | apply below_drew | (refine Below.setCell ?_ (by (try simp); (try omega)) _) | (refine below_to ?_ HB6.out) | (refine below_to ?_ HB5.out) | (refine below_to ?_ HB4.out) | (refine below_to ?_ HB3.out) | (refine below_to ?_ HB2.out) | (refine below_to ?_ HB1.out)))⟩
    exact C_one (d := kVisit) _ (blk_is (by simp)) (kVisit_mk _ _)
  · go_enter Try.func47, Try.ntmps47
    go_wp2
    refine bodyPost_ret (v := .slice (some ⟨w.heap.size + 1, 0, none⟩) 2 2) (by simp [results, Try.results47, go_sem]) rfl ⟨_, _, rfl, Nat.le_refl _, ?_, (by repeat (first | exact Below.refl _ _ | apply below_alloc | apply pw_below_drewN | apply below_drew1 | apply below_drew | (refine Below.setCell ?_ (by (try simp); (try omega)) _) | (refine below_to ?_ HB6.out) | (refine below_to ?_ HB5.out) | (refine below_to ?_ HB4.out) | (refine below_to ?_ HB3.out) | (refine below_to ?_ HB2.out) | (refine below_to ?_ HB1.out)))⟩
    refine C_block (d := kVisit) (blk_is (by simp)) [⟨2, item⟩, ⟨3, item⟩] ⟨rfl, fun j x hj => ?_⟩ (by simp)
    match j, hj with
    | 0, hj => obtain rfl := Option.some.inj hj; exact kVisit_mk _ _
    | 1, hj => obtain rfl := Option.some.inj hj; exact kVisit_mk _ _
set_option maxHeartbeats 4000000 in
set_option maxRecDepth 100000 in
theorem sameStop_any (s : TStop) (A A' : Option Addr) (c c' : Nat) (w : World) (hr : Kd.C kWindow w A s.Windows.length s.Windows) (hr' : Kd.C kWindow w A' s.Windows.length s.Windows) (hn : s.Windows.length ≤ 4611686018427387904) :
    Calls Try.prog 38 #[.agg #[.int .i64 s.Place, .int .i64 s.Service, .slice A s.Windows.length c], .agg #[.int .i64 s.Place, .int .i64 s.Service, .slice A' s.Windows.length c']] w fun e w' => e = .returned (.bool true) ∧ Below w.heap.size w w' := by
  obtain ⟨pl, sv, l⟩ := s
  have hn' : l.length ≤ 4611686018427387904 := hn
  have HR := Aside0.mk hr
  have HR' := Aside0.mk hr'
  clear hr hr' hn
  go_enter Try.func38, Try.ntmps38
  go_wp2
  go_loopw [5] (fun i wr => ∃ k : Nat, k ≤ l.length ∧ i = .int .i64 k ∧ Aside0 (Below (w.heap.size + 1 + 1) ((w.alloc (.cells #[.int .i64 pl, .int .i64 sv, .slice A l.length c] 43)).alloc (.cells #[.int .i64 pl, .int .i64 sv, .slice A' l.length c'] 43)) wr)) (fun i _ => l.length - (intOf i).toNat)
  case atStart => exact ⟨0, Nat.zero_le _, rfl, ⟨Below.refl _ _⟩⟩
  case round =>
    obtain ⟨k, hk, rfl, HW⟩ := hrel
    have HW' : Aside0 (Below ((w.alloc (.cells #[.int .i64 pl, .int .i64 sv, .slice A l.length c] 43)).alloc (.cells #[.int .i64 pl, .int .i64 sv, .slice A' l.length c'] 43)).heap.size ((w.alloc (.cells #[.int .i64 pl, .int .i64 sv, .slice A l.length c] 43)).alloc (.cells #[.int .i64 pl, .int .i64 sv, .slice A' l.length c'] 43)) wr) := ⟨by simpa using HW.out⟩
    have HB1 : Aside0 (Below w.heap.size w wr) := ⟨below_to (below_alloc (below_alloc (Below.refl _ _) _) _) HW'.out⟩
    obtain ⟨qc, qf⟩ := bcell HW'.out
    have zr : w.heap.size + 1 < wr.heap.size := by
      have := HW'.out.size
      simp at this
      omega
    by_cases hlt : k < l.length
    · obtain ⟨ad, ea, x0, x1⟩ := atNWindow (Kd.C_below HR.out HB1.out) k hlt
      obtain ⟨ad', ea', y0, y1⟩ := atNWindow (Kd.C_below HR'.out HB1.out) k hlt
      subst ea
      subst ea'
      have r0 : (0 : Int) ≤ (k : Int) := by omega
      have r1 : (k : Int) < (l.length : Int) := by omega
      go_wp2
      go_quiet (fail)
      go_wp2
      go_roundw
      case rel => exact ⟨k + 1, by omega, by go_num, ⟨pw_below_drewN HW.out _⟩⟩
      case measure => simp [intOf]; omega
    · obtain rfl : k = l.length := by omega
      go_wp2
      go_ret
      exact ⟨rfl, (by repeat (first | exact Below.refl _ _ | apply below_alloc | apply pw_below_drewN | apply below_drew1 | apply below_drew | (refine Below.setCell ?_ (by (try simp); (try omega)) _) | (refine below_to ?_ HB6.out) | (refine below_to ?_ HB5.out) | (refine below_to ?_ HB4.out) | (refine below_to ?_ HB3.out) | (refine below_to ?_ HB2.out) | (refine below_to ?_ HB1.out)))⟩
end Go.Proofs.Ytemjpgmfignhnaa

/- Contracts: slices.Clone of windows, and the program's Stop.
Conditions: lists no longer than memory allows. -/
namespace Go.Proofs.Ytemjpgmfignhnaa
open Go.RowKit Go.Proofs.YtemjpgmfignhnaaW.PrintWords Go.Proofs.YtemjpgmfignhnaaW.PrintLast Go.Proofs.YtemjpgmfignhnaaW.PrintMore
set_option linter.unusedVariables false
set_option linter.unusedSimpArgs false
attribute [local go_sem] cell_growBy Option.some_or
theorem wpl_copy {α : Type} {d : Kd α} {P : Program} {ops : Array Oper} {rest : List Oper} {o : Oper} {a : Act} {w W0 : World} {xs : List α} {Q : Exit → Act → World → Prop} (hgd : o.guard = none) (s x : Operand) (t e : TypeId) (z : Value) (bytes : Nat)
    (ho : o.op = .call { callee := .builtin .append, args := #[s, x], argTypes := #[t, t] }) (ht : P.underlying t = some (.slice e))
    (hinfo : (P.info? e).map (fun i => (i.zero, i.size, i.bytes)) = some (some z, d.sz, bytes)) (hzs : z.cells.size = d.sz) (hsz : 0 < d.sz)
    (hd : Kd.Heap d) (base : Nat) (hbase : base ≤ w.heap.size) (hs : EmptyRow e base (a.eval s) w) (A : Option Addr) (c : Nat) (hx : a.eval x = .slice A xs.length c) (hC : d.C W0 A xs.length xs) (hb : Below W0.heap.size W0 w)
    (hbytes : xs.length * bytes ≤ 140737488355328) (h63 : xs.length ≤ maxLen)
    (hK : ∀ v w', Copied d e base (fun k => k < W0.heap.size) xs v w' → Below w.heap.size w w' → wpList P ops Q rest (a.put o.dst v) w') : wpList P ops Q (o :: rest) a w := by
  refine wpList_plain hgd fun K hk => ?_
  exact wp_copy s x t e z bytes ho ht hinfo hzs hsz hd base hbase hs A c hx hC hb hbytes h63 (fun v w' hc hb' => hk _ _ (hK v w' hc hb'))
def ClonePost {α : Type} (d : Kd α) (e : Nat) (l : List α) (W0 w : World) (en : Ending) (w' : World) : Prop :=
  ∃ v, en = .returned v ∧ Below w.heap.size w w' ∧ ((l = [] ∧ v = .slice none 0 0) ∨ Copied d e w.heap.size (fun k => k < W0.heap.size) l v w')
set_option maxHeartbeats 8000000 in
set_option maxRecDepth 100000 in
theorem cloneW_any (l : List TWindow) (A : Option Addr) (c : Nat) (W0 w : World) (hr : Kd.C kWindow W0 A l.length l) (hb0 : Below W0.heap.size W0 w) (hb : l.length * 16 ≤ 140737488355328) (hm : l.length ≤ maxLen) :
    Calls Try.prog 94 #[.slice A l.length c] w (ClonePost kWindow 40 l W0 w) := by
  have HR := Aside0.mk hr
  have HB0 := Aside0.mk hb0
  clear hb0
  have HL := Aside0.mk (show _ ∧ _ from ⟨hb, hm⟩)
  clear hb hm
  cases A with
  | none =>
    have h0 : l = [] := by
      cases l with
      | nil => rfl
      | cons x l =>
        obtain ⟨ad, e, _⟩ := hr.2.2 (by simp)
        cases e
    subst h0
    have hq : ∀ W, (binOp .eql 41 (.slice none 0 c) (.slice none 0 0)).run Try.prog W = .ok (.bool true) W := fun W => by rfl
    go_enter Try.func94, Try.ntmps94
    go_wp2
    go_ret
    exact ⟨_, rfl, Below.refl _ _, .inl ⟨rfl, rfl⟩⟩
  | some ad =>
    have hq : ∀ W, (binOp .eql 41 (.slice (some ad) l.length c) (.slice none 0 0)).run Try.prog W = .ok (.bool false) W := fun W => by rfl
    clear hr
    go_enter Try.func94, Try.ntmps94
    go_wp2_with (at_builtin; refine wpl_copy (d := kWindow) (W0 := W0) (xs := l) rfl (.tmp 5) (.tmp 6) 41 40 (.agg #[.int .i64 0, .int .i64 0]) 16 rfl Try.underlying41 infoWindow rfl (by decide) heap_window w.heap.size (by simp) ⟨w.heap.size, rfl, Nat.le_refl _, blk_new _ _⟩ _ c rfl HR.out (below_alloc HB0.out _) HL.out.1 HL.out.2 ?_; intro v w1 hc hb; have HC := Aside0.mk hc; have hb' := Aside0.mk (below_to (below_alloc (Below.refl _ _) _) hb); clear hc hb)
    go_ret
    exact ⟨_, rfl, hb'.out, .inr HC.out⟩
def ModStopPost (s : TStop × Bool) (w : World) (e : Ending) (w' : World) : Prop :=
  ∃ A c, e = .returned (.tuple #[.agg #[.int .i64 s.1.Place, .int .i64 s.1.Service, .slice A s.1.Windows.length c], .bool s.2]) ∧ s.1.Windows.length ≤ c ∧ Below w.heap.size w w' ∧
    ((s.1.Windows = [] ∧ A = none) ∨ ∃ g, A = some ⟨g, 0, none⟩ ∧ w.heap.size ≤ g ∧ RowAt kWindow 40 w' (fun k => k < w.heap.size) g s.1.Windows)
set_option maxHeartbeats 8000000 in
set_option maxRecDepth 100000 in
theorem modStop_any (q : PV) (p : TProblem) (v : TVisit) (w : World) (hl : Lens p) (hq : q.Ok p w) (hwl : (stopS p v).2 = true → (stopS p v).1.Windows.length * 16 ≤ 140737488355328 ∧ (stopS p v).1.Windows.length ≤ maxLen) :
    Calls Try.prog 36 #[q.val p, .agg #[.int .i64 v.Kind, .int .i64 v.Item]] w (ModStopPost (stopS p v) w) := by
  have HL := Aside0.mk hl
  have HQ := Aside0.mk hq
  clear hl hq
  cases hb : (taskOf v).2 && thereB p (taskOf v).1 with
  | false =>
    have es : stopS p v = (zStop, false) := by simp [stopS, hb]
    rw [es]
    clear hwl
    obtain ⟨k, item⟩ := v
    unfold PV.val
    cases ht : (taskOf ⟨k, item⟩).2 with
    | false =>
      have E := Aside0.mk ht
      clear ht hb es
      go_enter Try.func36, Try.ntmps36
      go_wp2_with (go_at_call 41; refine (of_any ⟨k, item⟩ _).mono ?_; rw [E.out]; rintro e w1 ⟨rfl, hb⟩; have HB1 := Aside0.mk hb; obtain ⟨qc1, qf1⟩ := bcell hb; have hs1 := hb.size; (try simp at hs1); (try have z01 : w.heap.size < w1.heap.size := (by omega)); (try have z11 : w.heap.size + 1 < w1.heap.size := (by omega)); (try have z21 : w.heap.size + 1 + 1 < w1.heap.size := (by omega)); (try have z31 : w.heap.size + 1 + 1 + 1 < w1.heap.size := (by omega)); (try have z41 : w.heap.size + 1 + 1 + 1 + 1 < w1.heap.size := (by omega)); clear hs1 hb; skip)
      exact bodyPost_ret (v := .tuple #[.agg #[.int .i64 0, .int .i64 0, .slice none 0 0], .bool false]) (by simp [results, Try.results36, go_sem, *]) rfl ⟨none, 0, rfl, Nat.le_refl _, (by repeat (first | exact Below.refl _ _ | apply below_alloc | apply pw_below_drewN | apply below_drew1 | apply below_drew | (refine Below.setCell ?_ (by (try simp); (try omega)) _) | (refine below_to ?_ HB6.out) | (refine below_to ?_ HB5.out) | (refine below_to ?_ HB4.out) | (refine below_to ?_ HB3.out) | (refine below_to ?_ HB2.out) | (refine below_to ?_ HB1.out))), .inl ⟨rfl, rfl⟩⟩
    | true =>
      have E := Aside0.mk ht
      have E2 : Aside0 (thereB p (taskOf ⟨k, item⟩).1 = false) := ⟨by simpa [ht] using hb⟩
      clear ht hb es
      go_enter Try.func36, Try.ntmps36
      go_wp2_with (first
        | (go_at_call 41; refine (of_any ⟨k, item⟩ _).mono ?_; rw [E.out]; rintro e w1 ⟨rfl, hb⟩; have HB1 := Aside0.mk hb; obtain ⟨qc1, qf1⟩ := bcell hb; have hs1 := hb.size; (try simp at hs1); (try have z01 : w.heap.size < w1.heap.size := (by omega)); (try have z11 : w.heap.size + 1 < w1.heap.size := (by omega)); (try have z21 : w.heap.size + 1 + 1 < w1.heap.size := (by omega)); (try have z31 : w.heap.size + 1 + 1 + 1 < w1.heap.size := (by omega)); (try have z41 : w.heap.size + 1 + 1 + 1 + 1 < w1.heap.size := (by omega)); clear hs1 hb; skip)
        | (go_at_call 33; refine (there_any q p (taskOf ⟨k, item⟩).1 _ HL.out).mono ?_; rw [E2.out]; rintro e w2 ⟨rfl, hb⟩; have HB2 := Aside0.mk hb; obtain ⟨qc2, qf2⟩ := bcell hb; have hs2 := hb.size; (try simp at hs2); (try have z02 : w.heap.size < w2.heap.size := (by omega)); (try have z12 : w.heap.size + 1 < w2.heap.size := (by omega)); (try have z22 : w.heap.size + 1 + 1 < w2.heap.size := (by omega)); (try have z32 : w.heap.size + 1 + 1 + 1 < w2.heap.size := (by omega)); (try have z42 : w.heap.size + 1 + 1 + 1 + 1 < w2.heap.size := (by omega)); clear hs2 hb; skip))
      exact bodyPost_ret (v := .tuple #[.agg #[.int .i64 0, .int .i64 0, .slice none 0 0], .bool false]) (by simp [results, Try.results36, go_sem, *]) rfl ⟨none, 0, rfl, Nat.le_refl _, (by repeat (first | exact Below.refl _ _ | apply below_alloc | apply pw_below_drewN | apply below_drew1 | apply below_drew | (refine Below.setCell ?_ (by (try simp); (try omega)) _) | (refine below_to ?_ HB6.out) | (refine below_to ?_ HB5.out) | (refine below_to ?_ HB4.out) | (refine below_to ?_ HB3.out) | (refine below_to ?_ HB2.out) | (refine below_to ?_ HB1.out))), .inl ⟨rfl, rfl⟩⟩
  | true =>
    obtain ⟨k, item⟩ := v
    simp only [Bool.and_eq_true] at hb
    obtain ⟨ht, hth⟩ := hb
    obtain ⟨a1, c1, a2, c2, a3, c3, a4, c4, a5, c5⟩ := q
    by_cases h1 : k = 1
    · subst h1
      have e1 : taskOf ⟨1, item⟩ = (⟨false, item⟩, true) := by simp [taskOf]
      have es : stopS p ⟨1, item⟩ = ((rdJob p.Jobs item).Stop, true) := by simp [stopS, ht, hth]
      rw [es]
      have hr : 0 ≤ item ∧ item < p.Jobs.length := by
        rw [e1] at hth
        have := upB_true (show upB item ((p.Jobs.length : Int) - 1) = true from hth)
        omega
      obtain ⟨ad, A2, c2_, A3, c3_, A4, c4_, ea, y0, y1, y2, -, -, -, -, l2, g2, -, -, -, -⟩ := atJob HQ.out.h4 item hr.1 hr.2
      have ea' : a4 = some ad := ea
      subst ea'
      have X0 := stays y0
      have X1 := stays y1
      have X2 := stays y2
      have T : Aside0 (thereB p ⟨false, item⟩ = true) := ⟨by rw [e1] at hth; exact hth⟩
      have r1 := hr.1
      have r2 := hr.2
      have E := Aside0.mk e1
      have HWL := Aside0.mk (hwl (by rw [es]))
      rw [es] at HWL
      have HE := Aside0.mk (show _ ∧ _ from ⟨l2, g2⟩)
      clear y0 y1 y2 l2 g2 hr hth ht es e1 ea hwl
      unfold PV.val
      go_enter Try.func36, Try.ntmps36
      go_wp2_with (first
        | (go_at_call 41; refine (of_any ⟨1, item⟩ _).mono ?_; rw [E.out]; rintro e w1 ⟨rfl, hb⟩; have HB1 := Aside0.mk hb; obtain ⟨qc1, qf1⟩ := bcell hb; have hs1 := hb.size; (try simp at hs1); (try have z01 : w.heap.size < w1.heap.size := (by omega)); (try have z11 : w.heap.size + 1 < w1.heap.size := (by omega)); (try have z21 : w.heap.size + 1 + 1 < w1.heap.size := (by omega)); (try have z31 : w.heap.size + 1 + 1 + 1 < w1.heap.size := (by omega)); (try have z41 : w.heap.size + 1 + 1 + 1 + 1 < w1.heap.size := (by omega)); clear hs1 hb; skip)
        | (go_at_call 33; refine (there_any ⟨a1, c1, a2, c2, a3, c3, some ad, c4, a5, c5⟩ p ⟨false, item⟩ _ HL.out).mono ?_; rw [T.out]; rintro e w2 ⟨rfl, hb⟩; have HB2 := Aside0.mk hb; obtain ⟨qc2, qf2⟩ := bcell hb; have hs2 := hb.size; (try simp at hs2); (try have z02 : w.heap.size < w2.heap.size := (by omega)); (try have z12 : w.heap.size + 1 < w2.heap.size := (by omega)); (try have z22 : w.heap.size + 1 + 1 < w2.heap.size := (by omega)); (try have z32 : w.heap.size + 1 + 1 + 1 < w2.heap.size := (by omega)); (try have z42 : w.heap.size + 1 + 1 + 1 + 1 < w2.heap.size := (by omega)); clear hs2 hb; have g0 := alloc_cell (X0.out w2 (by repeat (first | exact Below.refl _ _ | apply below_alloc | apply pw_below_drewN | apply below_drew1 | apply below_drew | (refine Below.setCell ?_ (by (try simp); (try omega)) _) | (refine below_to ?_ HB6.out) | (refine below_to ?_ HB5.out) | (refine below_to ?_ HB4.out) | (refine below_to ?_ HB3.out) | (refine below_to ?_ HB2.out) | (refine below_to ?_ HB1.out)))); have g1 := alloc_cell (X1.out w2 (by repeat (first | exact Below.refl _ _ | apply below_alloc | apply pw_below_drewN | apply below_drew1 | apply below_drew | (refine Below.setCell ?_ (by (try simp); (try omega)) _) | (refine below_to ?_ HB6.out) | (refine below_to ?_ HB5.out) | (refine below_to ?_ HB4.out) | (refine below_to ?_ HB3.out) | (refine below_to ?_ HB2.out) | (refine below_to ?_ HB1.out)))); have g2 := alloc_cell (X2.out w2 (by repeat (first | exact Below.refl _ _ | apply below_alloc | apply pw_below_drewN | apply below_drew1 | apply below_drew | (refine Below.setCell ?_ (by (try simp); (try omega)) _) | (refine below_to ?_ HB6.out) | (refine below_to ?_ HB5.out) | (refine below_to ?_ HB4.out) | (refine below_to ?_ HB3.out) | (refine below_to ?_ HB2.out) | (refine below_to ?_ HB1.out))))))
      have zz : w.heap.size + 1 + 1 < (w2.alloc (.cells #[.int .i64 ((rdJob p.Jobs item).Stop).Place, .int .i64 ((rdJob p.Jobs item).Stop).Service, .slice A2 ((rdJob p.Jobs item).Stop).Windows.length c2_] 43)).heap.size := by simp; omega
      refine (cloneW_any ((rdJob p.Jobs item).Stop).Windows A2 c2_ w _ HE.out.2 (by repeat (first | exact Below.refl _ _ | apply below_alloc | apply pw_below_drewN | apply below_drew1 | apply below_drew | (refine Below.setCell ?_ (by (try simp); (try omega)) _) | (refine below_to ?_ HB6.out) | (refine below_to ?_ HB5.out) | (refine below_to ?_ HB4.out) | (refine below_to ?_ HB3.out) | (refine below_to ?_ HB2.out) | (refine below_to ?_ HB1.out))) HWL.out.1 HWL.out.2).mono ?_
      rintro e w3 ⟨vv, rfl, hb, hc⟩
      have z43 : w2.heap.size < w3.heap.size := by
        have := hb.size
        simp at this
        omega
      have HB3 := Aside0.mk hb; obtain ⟨qc3, qf3⟩ := bcell hb; have hs3 := hb.size; (try simp at hs3); (try have z03 : w.heap.size < w3.heap.size := (by omega)); (try have z13 : w.heap.size + 1 < w3.heap.size := (by omega)); (try have z23 : w.heap.size + 1 + 1 < w3.heap.size := (by omega)); (try have z33 : w.heap.size + 1 + 1 + 1 < w3.heap.size := (by omega)); (try have z43 : w.heap.size + 1 + 1 + 1 + 1 < w3.heap.size := (by omega)); clear hs3 hb
      have z53 : w.heap.size + 1 + 1 < w3.heap.size := by omega
      rcases hc with ⟨h0, rfl⟩ | ⟨g, cc, rfl, hcc, hg, hrow⟩
      · have HR := Aside0.mk h0
        clear h0 g0 g1 g2
        go_wp2
        refine bodyPost_ret (v := .tuple #[.agg #[.int .i64 ((rdJob p.Jobs item).Stop).Place, .int .i64 ((rdJob p.Jobs item).Stop).Service, .slice none 0 0], .bool true]) (by simp [results, Try.results36, go_sem, *]) rfl ⟨none, 0, by rw [HR.out]; rfl, by rw [HR.out]; exact Nat.le_refl _, (by repeat (first | exact Below.refl _ _ | apply below_alloc | apply pw_below_drewN | apply below_drew1 | apply below_drew | (refine Below.setCell ?_ (by (try simp); (try omega)) _) | (refine below_to ?_ HB6.out) | (refine below_to ?_ HB5.out) | (refine below_to ?_ HB4.out) | (refine below_to ?_ HB3.out) | (refine below_to ?_ HB2.out) | (refine below_to ?_ HB1.out))), .inl ⟨HR.out, rfl⟩⟩
      · have HR := Aside0.mk hrow
        have hg' : w2.heap.size + 1 ≤ g := by simpa using hg
        clear hrow hg g0 g1 g2
        go_wp2
        refine bodyPost_ret (v := .tuple #[.agg #[.int .i64 ((rdJob p.Jobs item).Stop).Place, .int .i64 ((rdJob p.Jobs item).Stop).Service, .slice (some ⟨g, 0, none⟩) ((rdJob p.Jobs item).Stop).Windows.length cc], .bool true]) (by simp [results, Try.results36, go_sem, *]) rfl ⟨some ⟨g, 0, none⟩, cc, rfl, hcc, (by repeat (first | exact Below.refl _ _ | apply below_alloc | apply pw_below_drewN | apply below_drew1 | apply below_drew | (refine Below.setCell ?_ (by (try simp); (try omega)) _) | (refine below_to ?_ HB6.out) | (refine below_to ?_ HB5.out) | (refine below_to ?_ HB4.out) | (refine below_to ?_ HB3.out) | (refine below_to ?_ HB2.out) | (refine below_to ?_ HB1.out))), .inr ⟨g, rfl, by omega, ?_⟩⟩
        repeat (first | exact HR.out | refine RowAt.far ?_ (by dsimp only; omega) (fun k hk => by dsimp only; omega) _)
    by_cases h2 : k = 2
    · subst h2
      have e1 : taskOf ⟨2, item⟩ = (⟨true, item⟩, true) := by simp [taskOf]
      have es : stopS p ⟨2, item⟩ = ((rdShipment p.Shipments item).Pickup, true) := by simp [stopS, ht, hth]
      rw [es]
      have hr : 0 ≤ item ∧ item < p.Shipments.length := by
        rw [e1] at hth
        have := upB_true (show upB item ((p.Shipments.length : Int) - 1) = true from hth)
        omega
      obtain ⟨ad, A2, c2_, A3, c3_, A4, c4_, ea, y0, y1, y2, -, -, -, -, -, -, l2, g2, -, -, -, -⟩ := atShipment HQ.out.h5 item hr.1 hr.2
      have ea' : a5 = some ad := ea
      subst ea'
      have X0 := stays y0
      have X1 := stays y1
      have X2 := stays y2
      have T : Aside0 (thereB p ⟨true, item⟩ = true) := ⟨by rw [e1] at hth; exact hth⟩
      have r1 := hr.1
      have r2 := hr.2
      have E := Aside0.mk e1
      have HWL := Aside0.mk (hwl (by rw [es]))
      rw [es] at HWL
      have HE := Aside0.mk (show _ ∧ _ from ⟨l2, g2⟩)
      clear y0 y1 y2 l2 g2 hr hth ht es e1 ea hwl
      unfold PV.val
      go_enter Try.func36, Try.ntmps36
      go_wp2_with (first
        | (go_at_call 41; refine (of_any ⟨2, item⟩ _).mono ?_; rw [E.out]; rintro e w1 ⟨rfl, hb⟩; have HB1 := Aside0.mk hb; obtain ⟨qc1, qf1⟩ := bcell hb; have hs1 := hb.size; (try simp at hs1); (try have z01 : w.heap.size < w1.heap.size := (by omega)); (try have z11 : w.heap.size + 1 < w1.heap.size := (by omega)); (try have z21 : w.heap.size + 1 + 1 < w1.heap.size := (by omega)); (try have z31 : w.heap.size + 1 + 1 + 1 < w1.heap.size := (by omega)); (try have z41 : w.heap.size + 1 + 1 + 1 + 1 < w1.heap.size := (by omega)); clear hs1 hb; skip)
        | (go_at_call 33; refine (there_any ⟨a1, c1, a2, c2, a3, c3, a4, c4, some ad, c5⟩ p ⟨true, item⟩ _ HL.out).mono ?_; rw [T.out]; rintro e w2 ⟨rfl, hb⟩; have HB2 := Aside0.mk hb; obtain ⟨qc2, qf2⟩ := bcell hb; have hs2 := hb.size; (try simp at hs2); (try have z02 : w.heap.size < w2.heap.size := (by omega)); (try have z12 : w.heap.size + 1 < w2.heap.size := (by omega)); (try have z22 : w.heap.size + 1 + 1 < w2.heap.size := (by omega)); (try have z32 : w.heap.size + 1 + 1 + 1 < w2.heap.size := (by omega)); (try have z42 : w.heap.size + 1 + 1 + 1 + 1 < w2.heap.size := (by omega)); clear hs2 hb; have g0 := alloc_cell (X0.out w2 (by repeat (first | exact Below.refl _ _ | apply below_alloc | apply pw_below_drewN | apply below_drew1 | apply below_drew | (refine Below.setCell ?_ (by (try simp); (try omega)) _) | (refine below_to ?_ HB6.out) | (refine below_to ?_ HB5.out) | (refine below_to ?_ HB4.out) | (refine below_to ?_ HB3.out) | (refine below_to ?_ HB2.out) | (refine below_to ?_ HB1.out)))); have g1 := alloc_cell (X1.out w2 (by repeat (first | exact Below.refl _ _ | apply below_alloc | apply pw_below_drewN | apply below_drew1 | apply below_drew | (refine Below.setCell ?_ (by (try simp); (try omega)) _) | (refine below_to ?_ HB6.out) | (refine below_to ?_ HB5.out) | (refine below_to ?_ HB4.out) | (refine below_to ?_ HB3.out) | (refine below_to ?_ HB2.out) | (refine below_to ?_ HB1.out)))); have g2 := alloc_cell (X2.out w2 (by repeat (first | exact Below.refl _ _ | apply below_alloc | apply pw_below_drewN | apply below_drew1 | apply below_drew | (refine Below.setCell ?_ (by (try simp); (try omega)) _) | (refine below_to ?_ HB6.out) | (refine below_to ?_ HB5.out) | (refine below_to ?_ HB4.out) | (refine below_to ?_ HB3.out) | (refine below_to ?_ HB2.out) | (refine below_to ?_ HB1.out))))))
      have zz : w.heap.size + 1 + 1 < (w2.alloc (.cells #[.int .i64 ((rdShipment p.Shipments item).Pickup).Place, .int .i64 ((rdShipment p.Shipments item).Pickup).Service, .slice A2 ((rdShipment p.Shipments item).Pickup).Windows.length c2_] 43)).heap.size := by simp; omega
      refine (cloneW_any ((rdShipment p.Shipments item).Pickup).Windows A2 c2_ w _ HE.out.2 (by repeat (first | exact Below.refl _ _ | apply below_alloc | apply pw_below_drewN | apply below_drew1 | apply below_drew | (refine Below.setCell ?_ (by (try simp); (try omega)) _) | (refine below_to ?_ HB6.out) | (refine below_to ?_ HB5.out) | (refine below_to ?_ HB4.out) | (refine below_to ?_ HB3.out) | (refine below_to ?_ HB2.out) | (refine below_to ?_ HB1.out))) HWL.out.1 HWL.out.2).mono ?_
      rintro e w3 ⟨vv, rfl, hb, hc⟩
      have z43 : w2.heap.size < w3.heap.size := by
        have := hb.size
        simp at this
        omega
      have HB3 := Aside0.mk hb; obtain ⟨qc3, qf3⟩ := bcell hb; have hs3 := hb.size; (try simp at hs3); (try have z03 : w.heap.size < w3.heap.size := (by omega)); (try have z13 : w.heap.size + 1 < w3.heap.size := (by omega)); (try have z23 : w.heap.size + 1 + 1 < w3.heap.size := (by omega)); (try have z33 : w.heap.size + 1 + 1 + 1 < w3.heap.size := (by omega)); (try have z43 : w.heap.size + 1 + 1 + 1 + 1 < w3.heap.size := (by omega)); clear hs3 hb
      have z53 : w.heap.size + 1 + 1 < w3.heap.size := by omega
      rcases hc with ⟨h0, rfl⟩ | ⟨g, cc, rfl, hcc, hg, hrow⟩
      · have HR := Aside0.mk h0
        clear h0 g0 g1 g2
        go_wp2
        refine bodyPost_ret (v := .tuple #[.agg #[.int .i64 ((rdShipment p.Shipments item).Pickup).Place, .int .i64 ((rdShipment p.Shipments item).Pickup).Service, .slice none 0 0], .bool true]) (by simp [results, Try.results36, go_sem, *]) rfl ⟨none, 0, by rw [HR.out]; rfl, by rw [HR.out]; exact Nat.le_refl _, (by repeat (first | exact Below.refl _ _ | apply below_alloc | apply pw_below_drewN | apply below_drew1 | apply below_drew | (refine Below.setCell ?_ (by (try simp); (try omega)) _) | (refine below_to ?_ HB6.out) | (refine below_to ?_ HB5.out) | (refine below_to ?_ HB4.out) | (refine below_to ?_ HB3.out) | (refine below_to ?_ HB2.out) | (refine below_to ?_ HB1.out))), .inl ⟨HR.out, rfl⟩⟩
      · have HR := Aside0.mk hrow
        have hg' : w2.heap.size + 1 ≤ g := by simpa using hg
        clear hrow hg g0 g1 g2
        go_wp2
        refine bodyPost_ret (v := .tuple #[.agg #[.int .i64 ((rdShipment p.Shipments item).Pickup).Place, .int .i64 ((rdShipment p.Shipments item).Pickup).Service, .slice (some ⟨g, 0, none⟩) ((rdShipment p.Shipments item).Pickup).Windows.length cc], .bool true]) (by simp [results, Try.results36, go_sem, *]) rfl ⟨some ⟨g, 0, none⟩, cc, rfl, hcc, (by repeat (first | exact Below.refl _ _ | apply below_alloc | apply pw_below_drewN | apply below_drew1 | apply below_drew | (refine Below.setCell ?_ (by (try simp); (try omega)) _) | (refine below_to ?_ HB6.out) | (refine below_to ?_ HB5.out) | (refine below_to ?_ HB4.out) | (refine below_to ?_ HB3.out) | (refine below_to ?_ HB2.out) | (refine below_to ?_ HB1.out))), .inr ⟨g, rfl, by omega, ?_⟩⟩
        repeat (first | exact HR.out | refine RowAt.far ?_ (by dsimp only; omega) (fun k hk => by dsimp only; omega) _)
    by_cases h3 : k = 3
    · subst h3
      have e1 : taskOf ⟨3, item⟩ = (⟨true, item⟩, true) := by simp [taskOf]
      have es : stopS p ⟨3, item⟩ = ((rdShipment p.Shipments item).Delivery, true) := by simp [stopS, ht, hth]
      rw [es]
      have hr : 0 ≤ item ∧ item < p.Shipments.length := by
        rw [e1] at hth
        have := upB_true (show upB item ((p.Shipments.length : Int) - 1) = true from hth)
        omega
      obtain ⟨ad, A0, c0_, A2, c2_, A4, c4_, ea, -, -, -, y0, y1, y2, -, -, -, -, -, l2, g2, -, -⟩ := atShipment HQ.out.h5 item hr.1 hr.2
      have ea' : a5 = some ad := ea
      subst ea'
      have X0 := stays y0
      have X1 := stays y1
      have X2 := stays y2
      have T : Aside0 (thereB p ⟨true, item⟩ = true) := ⟨by rw [e1] at hth; exact hth⟩
      have r1 := hr.1
      have r2 := hr.2
      have E := Aside0.mk e1
      have HWL := Aside0.mk (hwl (by rw [es]))
      rw [es] at HWL
      have HE := Aside0.mk (show _ ∧ _ from ⟨l2, g2⟩)
      clear y0 y1 y2 l2 g2 hr hth ht es e1 ea hwl
      unfold PV.val
      go_enter Try.func36, Try.ntmps36
      go_wp2_with (first
        | (go_at_call 41; refine (of_any ⟨3, item⟩ _).mono ?_; rw [E.out]; rintro e w1 ⟨rfl, hb⟩; have HB1 := Aside0.mk hb; obtain ⟨qc1, qf1⟩ := bcell hb; have hs1 := hb.size; (try simp at hs1); (try have z01 : w.heap.size < w1.heap.size := (by omega)); (try have z11 : w.heap.size + 1 < w1.heap.size := (by omega)); (try have z21 : w.heap.size + 1 + 1 < w1.heap.size := (by omega)); (try have z31 : w.heap.size + 1 + 1 + 1 < w1.heap.size := (by omega)); (try have z41 : w.heap.size + 1 + 1 + 1 + 1 < w1.heap.size := (by omega)); clear hs1 hb; skip)
        | (go_at_call 33; refine (there_any ⟨a1, c1, a2, c2, a3, c3, a4, c4, some ad, c5⟩ p ⟨true, item⟩ _ HL.out).mono ?_; rw [T.out]; rintro e w2 ⟨rfl, hb⟩; have HB2 := Aside0.mk hb; obtain ⟨qc2, qf2⟩ := bcell hb; have hs2 := hb.size; (try simp at hs2); (try have z02 : w.heap.size < w2.heap.size := (by omega)); (try have z12 : w.heap.size + 1 < w2.heap.size := (by omega)); (try have z22 : w.heap.size + 1 + 1 < w2.heap.size := (by omega)); (try have z32 : w.heap.size + 1 + 1 + 1 < w2.heap.size := (by omega)); (try have z42 : w.heap.size + 1 + 1 + 1 + 1 < w2.heap.size := (by omega)); clear hs2 hb; have g0 := alloc_cell (X0.out w2 (by repeat (first | exact Below.refl _ _ | apply below_alloc | apply pw_below_drewN | apply below_drew1 | apply below_drew | (refine Below.setCell ?_ (by (try simp); (try omega)) _) | (refine below_to ?_ HB6.out) | (refine below_to ?_ HB5.out) | (refine below_to ?_ HB4.out) | (refine below_to ?_ HB3.out) | (refine below_to ?_ HB2.out) | (refine below_to ?_ HB1.out)))); have g1 := alloc_cell (X1.out w2 (by repeat (first | exact Below.refl _ _ | apply below_alloc | apply pw_below_drewN | apply below_drew1 | apply below_drew | (refine Below.setCell ?_ (by (try simp); (try omega)) _) | (refine below_to ?_ HB6.out) | (refine below_to ?_ HB5.out) | (refine below_to ?_ HB4.out) | (refine below_to ?_ HB3.out) | (refine below_to ?_ HB2.out) | (refine below_to ?_ HB1.out)))); have g2 := alloc_cell (X2.out w2 (by repeat (first | exact Below.refl _ _ | apply below_alloc | apply pw_below_drewN | apply below_drew1 | apply below_drew | (refine Below.setCell ?_ (by (try simp); (try omega)) _) | (refine below_to ?_ HB6.out) | (refine below_to ?_ HB5.out) | (refine below_to ?_ HB4.out) | (refine below_to ?_ HB3.out) | (refine below_to ?_ HB2.out) | (refine below_to ?_ HB1.out))))))
      have zz : w.heap.size + 1 + 1 < (w2.alloc (.cells #[.int .i64 ((rdShipment p.Shipments item).Delivery).Place, .int .i64 ((rdShipment p.Shipments item).Delivery).Service, .slice A2 ((rdShipment p.Shipments item).Delivery).Windows.length c2_] 43)).heap.size := by simp; omega
      refine (cloneW_any ((rdShipment p.Shipments item).Delivery).Windows A2 c2_ w _ HE.out.2 (by repeat (first | exact Below.refl _ _ | apply below_alloc | apply pw_below_drewN | apply below_drew1 | apply below_drew | (refine Below.setCell ?_ (by (try simp); (try omega)) _) | (refine below_to ?_ HB6.out) | (refine below_to ?_ HB5.out) | (refine below_to ?_ HB4.out) | (refine below_to ?_ HB3.out) | (refine below_to ?_ HB2.out) | (refine below_to ?_ HB1.out))) HWL.out.1 HWL.out.2).mono ?_
      rintro e w3 ⟨vv, rfl, hb, hc⟩
      have z43 : w2.heap.size < w3.heap.size := by
        have := hb.size
        simp at this
        omega
      have HB3 := Aside0.mk hb; obtain ⟨qc3, qf3⟩ := bcell hb; have hs3 := hb.size; (try simp at hs3); (try have z03 : w.heap.size < w3.heap.size := (by omega)); (try have z13 : w.heap.size + 1 < w3.heap.size := (by omega)); (try have z23 : w.heap.size + 1 + 1 < w3.heap.size := (by omega)); (try have z33 : w.heap.size + 1 + 1 + 1 < w3.heap.size := (by omega)); (try have z43 : w.heap.size + 1 + 1 + 1 + 1 < w3.heap.size := (by omega)); clear hs3 hb
      have z53 : w.heap.size + 1 + 1 < w3.heap.size := by omega
      rcases hc with ⟨h0, rfl⟩ | ⟨g, cc, rfl, hcc, hg, hrow⟩
      · have HR := Aside0.mk h0
        clear h0 g0 g1 g2
        go_wp2
        refine bodyPost_ret (v := .tuple #[.agg #[.int .i64 ((rdShipment p.Shipments item).Delivery).Place, .int .i64 ((rdShipment p.Shipments item).Delivery).Service, .slice none 0 0], .bool true]) (by simp [results, Try.results36, go_sem, *]) rfl ⟨none, 0, by rw [HR.out]; rfl, by rw [HR.out]; exact Nat.le_refl _, (by repeat (first | exact Below.refl _ _ | apply below_alloc | apply pw_below_drewN | apply below_drew1 | apply below_drew | (refine Below.setCell ?_ (by (try simp); (try omega)) _) | (refine below_to ?_ HB6.out) | (refine below_to ?_ HB5.out) | (refine below_to ?_ HB4.out) | (refine below_to ?_ HB3.out) | (refine below_to ?_ HB2.out) | (refine below_to ?_ HB1.out))), .inl ⟨HR.out, rfl⟩⟩
      · have HR := Aside0.mk hrow
        have hg' : w2.heap.size + 1 ≤ g := by simpa using hg
        clear hrow hg g0 g1 g2
        go_wp2
        refine bodyPost_ret (v := .tuple #[.agg #[.int .i64 ((rdShipment p.Shipments item).Delivery).Place, .int .i64 ((rdShipment p.Shipments item).Delivery).Service, .slice (some ⟨g, 0, none⟩) ((rdShipment p.Shipments item).Delivery).Windows.length cc], .bool true]) (by simp [results, Try.results36, go_sem, *]) rfl ⟨some ⟨g, 0, none⟩, cc, rfl, hcc, (by repeat (first | exact Below.refl _ _ | apply below_alloc | apply pw_below_drewN | apply below_drew1 | apply below_drew | (refine Below.setCell ?_ (by (try simp); (try omega)) _) | (refine below_to ?_ HB6.out) | (refine below_to ?_ HB5.out) | (refine below_to ?_ HB4.out) | (refine below_to ?_ HB3.out) | (refine below_to ?_ HB2.out) | (refine below_to ?_ HB1.out))), .inr ⟨g, rfl, by omega, ?_⟩⟩
        repeat (first | exact HR.out | refine RowAt.far ?_ (by dsimp only; omega) (fun k hk => by dsimp only; omega) _)
    rw [taskOf_none h1 h2 h3] at ht
    cases ht
end Go.Proofs.Ytemjpgmfignhnaa
