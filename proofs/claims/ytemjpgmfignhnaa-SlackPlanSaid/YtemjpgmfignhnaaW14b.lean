/- The walk of SlackPlan: it answers true.
Conditions: lists no longer than memory allows. -/
import Derived.Test.YtemjpgmfignhnaaAW14
import Derived.Test.YtemjpgmfignhnaaP14c
import Derived.Test.YtemjpgmfignhnaaGoodOf
namespace Go.Proofs.Ytemjpgmfignhnaa
open Go.RowKit Go.Proofs.YtemjpgmfignhnaaW.PrintWords Go.Proofs.YtemjpgmfignhnaaW.PrintLast Go.Proofs.YtemjpgmfignhnaaW.PrintMore
set_option linter.unusedVariables false
set_option linter.unusedSimpArgs false
attribute [local go_sem] cell_growBy Option.some_or
set_option maxHeartbeats 16000000 in
set_option maxRecDepth 100000 in
theorem slackPlanLaw_any (q : PV) (p : TProblem) (vehicle : Int) (l : List TVisit) (A : Option Addr) (c : Nat) (more : Int) (w : World) (hg : GProblem p) (hq : q.Ok p w) (hl : l.length ≤ 4611686018427387904) (hr : Kd.C kVisit w A l.length l) :
    Calls Try.prog 18 #[q.val p, .int .i64 vehicle, .slice A l.length c, .int .i64 more] w fun e w' => e = .returned (.bool true) ∧ Below w.heap.size w w' := by
  have HL := Aside0.mk (good_of hg)
  have HMD := Aside0.mk (fun W (hb : Below w.heap.size w W) => made_any q p vehicle l A c W HL.out (hq.below hb) (Kd.C_below hr hb) hl)
  have HEN := Aside0.mk (fun (x : TPlan) (A : Option Addr) (c : Nat) W (hb : Below w.heap.size w W) (i t : Int) law hr hv0 hv1 hx => slackEnds_x q p x A c W i t HL.out law (hq.below hb) hr hv0 hv1 hx)
  have hMM := @made_ok p vehicle l
  generalize madeS p vehicle l = r at *
  obtain ⟨x, b⟩ := r
  obtain ⟨a1, c1, a2, c2, a3, c3, a4, c4, a5, c5⟩ := q
  clear hg hq hr
  unfold PV.val at HMD HEN ⊢
  cases b
  · clear hMM HEN
    go_enter Try.func18, Try.ntmps18
    go_wp2_with (first
      | (go_at_call 62; refine (awake14_any _).mono ?_; skip; rintro e w1 ⟨rfl, hb⟩; have HB1 := Aside0.mk hb; obtain ⟨qc1, qf1⟩ := bcell hb; have hs1 := hb.size; (try simp at hs1); (try have z01 : w.heap.size < w1.heap.size := (by omega)); (try have z11 : w.heap.size + 1 < w1.heap.size := (by omega)); (try have z21 : w.heap.size + 1 + 1 < w1.heap.size := (by omega)); (try have z31 : w.heap.size + 1 + 1 + 1 < w1.heap.size := (by omega)); (try have z41 : w.heap.size + 1 + 1 + 1 + 1 < w1.heap.size := (by omega)); clear hs1 hb; skip)
      | (go_at_call 63; refine (HMD.out _ (by repeat (first | exact Below.refl _ _ | apply below_alloc | apply pw_below_drewN | apply below_drew1 | apply below_drew | (refine Below.setCell ?_ (by (try simp); (try omega)) _) | (refine below_to ?_ HB6.out) | (refine below_to ?_ HB5.out) | (refine below_to ?_ HB4.out) | (refine below_to ?_ HB3.out) | (refine below_to ?_ HB2.out) | (refine below_to ?_ HB1.out)))).mono ?_; rintro e w2 ⟨Ax, cx, rfl, hle2, hF2, hb⟩; dsimp only [planV]; have HB2 := Aside0.mk hb; obtain ⟨qc2, qf2⟩ := bcell hb; have hs2 := hb.size; (try simp at hs2); (try have z02 : w.heap.size < w2.heap.size := (by omega)); (try have z12 : w.heap.size + 1 < w2.heap.size := (by omega)); (try have z22 : w.heap.size + 1 + 1 < w2.heap.size := (by omega)); (try have z32 : w.heap.size + 1 + 1 + 1 < w2.heap.size := (by omega)); (try have z42 : w.heap.size + 1 + 1 + 1 + 1 < w2.heap.size := (by omega)); clear hs2 hb; clear hle2 hF2))
    go_ret
    exact ⟨rfl, (by repeat (first | exact Below.refl _ _ | apply below_alloc | apply pw_below_drewN | apply below_drew1 | apply below_drew | (refine Below.setCell ?_ (by (try simp); (try omega)) _) | (refine below_to ?_ HB6.out) | (refine below_to ?_ HB5.out) | (refine below_to ?_ HB4.out) | (refine below_to ?_ HB3.out) | (refine below_to ?_ HB2.out) | (refine below_to ?_ HB1.out)))⟩
  · obtain ⟨law, hv0, hv1, hvv, MX⟩ := hMM rfl
    simp only at hv1 hvv MX
    subst hvv
    have LAW := Aside0.mk law
    have HMX := Aside0.mk MX
    have hlen := MX.len
    have hlen2 := MX.made.len
    clear hMM law MX
    go_enter Try.func18, Try.ntmps18
    go_upto_region 6 with (first
      | (go_at_call 62; refine (awake14_any _).mono ?_; skip; rintro e w1 ⟨rfl, hb⟩; have HB1 := Aside0.mk hb; obtain ⟨qc1, qf1⟩ := bcell hb; have hs1 := hb.size; (try simp at hs1); (try have z01 : w.heap.size < w1.heap.size := (by omega)); (try have z11 : w.heap.size + 1 < w1.heap.size := (by omega)); (try have z21 : w.heap.size + 1 + 1 < w1.heap.size := (by omega)); (try have z31 : w.heap.size + 1 + 1 + 1 < w1.heap.size := (by omega)); (try have z41 : w.heap.size + 1 + 1 + 1 + 1 < w1.heap.size := (by omega)); clear hs1 hb; skip)
      | (go_at_call 63; refine (HMD.out _ (by repeat (first | exact Below.refl _ _ | apply below_alloc | apply pw_below_drewN | apply below_drew1 | apply below_drew | (refine Below.setCell ?_ (by (try simp); (try omega)) _) | (refine below_to ?_ HB6.out) | (refine below_to ?_ HB5.out) | (refine below_to ?_ HB4.out) | (refine below_to ?_ HB3.out) | (refine below_to ?_ HB2.out) | (refine below_to ?_ HB1.out)))).mono ?_; rintro e w2 ⟨Ax, cx, rfl, hle2, hF2, hb⟩; dsimp only [planV]; have HB2 := Aside0.mk hb; obtain ⟨qc2, qf2⟩ := bcell hb; have hs2 := hb.size; (try simp at hs2); (try have z02 : w.heap.size < w2.heap.size := (by omega)); (try have z12 : w.heap.size + 1 < w2.heap.size := (by omega)); (try have z22 : w.heap.size + 1 + 1 < w2.heap.size := (by omega)); (try have z32 : w.heap.size + 1 + 1 + 1 < w2.heap.size := (by omega)); (try have z42 : w.heap.size + 1 + 1 + 1 + 1 < w2.heap.size := (by omega)); clear hs2 hb; have HF2 := Aside0.mk hF2; clear hle2 hF2))
    refine gen_wp (fun W => Below w.heap.size w W ∧ W.heap[w.heap.size]? = some (.cells #[.int .i64 p.Dims, .int .i64 p.Time.N, .slice a1 p.Time.Cells.length c1, .int .i64 p.Dist.N, .slice a2 p.Dist.Cells.length c2, .slice a3 p.Vehicles.length c3, .slice a4 p.Jobs.length c4, .slice a5 p.Shipments.length c5] 29 (0, 0)) ∧ W.heap[w2.heap.size]? = some (.cells #[.int .i64 x.Vehicle, .slice Ax x.Steps.length cx, .int .i64 x.Time, .int .i64 x.Dist, .int .i64 x.Wait, .int .i64 x.Service, .int .i64 x.Cost] 74 (0, 0)) ∧ Kd.C kStep W Ax x.Steps.length x.Steps)
      ⟨(by repeat (first | exact Below.refl _ _ | apply below_alloc | apply pw_below_drewN | apply below_drew1 | apply below_drew | (refine Below.setCell ?_ (by (try simp); (try omega)) _) | (refine below_to ?_ HB6.out) | (refine below_to ?_ HB5.out) | (refine below_to ?_ HB4.out) | (refine below_to ?_ HB3.out) | (refine below_to ?_ HB2.out) | (refine below_to ?_ HB1.out))), blk_alloc (blk_below (blk_below (blk_new _ _) HB1.out) HB2.out) _, blk_new _ _, Kd.C_below (Kd.F_now HF2.out) (below_alloc (Below.refl _ _) _)⟩ (fun w3 H3 => ?_)
    clear qc1 qf1 qc2 qf2 HB1 HB2 HF2 HMD
    have hlb := H3.out.2.2.1
    have l0 := blk_cell hlb 0; have l1 := blk_cell hlb 1; have l2 := blk_cell hlb 2; have l3 := blk_cell hlb 3; have l4 := blk_cell hlb 4; have l5 := blk_cell hlb 5; have l6 := blk_cell hlb 6; simp only [List.getElem?_toArray, List.getElem?_cons_succ, List.getElem?_cons_zero] at l0 l1 l2 l3 l4 l5 l6; have hlw := blk_lt hlb
    clear hlb
    go_upto_region 7 with fail
    obtain ⟨hm0, hm1⟩ := mod_in more 1000 (by decide) (by decide)
    generalize wrap64 ((IntKind.u64.wrap more).tmod 1000) = m at *
    have e1 : IntKind.i64.wrap ((x.Steps.length : Int) - 1) = ((x.Steps.length - 1 : Nat) : Int) := by rw [show ((x.Steps.length - 1 : Nat) : Int) = (x.Steps.length : Int) - 1 by omega]; exact IntWalk.i64_in _ (by omega)
    have r0 : (0 : Int) ≤ ((x.Steps.length - 1 : Nat) : Int) := by omega
    have r1 : ((x.Steps.length - 1 : Nat) : Int) < (x.Steps.length : Int) := by omega
    obtain ⟨ad, _, _, ea, -, -, -, y3, -⟩ := atNStep H3.out.2.2.2 (x.Steps.length - 1) (by omega)
    subst ea
    have elast : x.Steps[x.Steps.length - 1].Arrival = (x.Steps.getLastD zStep).Arrival := by
      rw [List.getLastD_eq_getLast?, List.getLast?_eq_getElem?, List.getElem?_eq_getElem (show x.Steps.length - 1 < x.Steps.length by omega)]
      rfl
    rw [elast] at y3
    clear elast
    generalize hL : (x.Steps.getLastD zStep).Arrival = L at *
    have HLL := Aside0.mk hL
    clear hL
    go_wp2
    clear e1 r0 r1 y3 l0 l1 l2 l3 l4 l5 l6 hlw
    go_loopw [45] (fun vi wr => ∃ k : Nat, k ≤ x.Steps.length ∧ vi = .int .i64 k ∧ Aside0 (Below w3.heap.size w3 wr)) (fun vi _ => x.Steps.length - (intOf vi).toNat)
    case atStart => exact ⟨0, Nat.zero_le _, rfl, ⟨(by repeat (first | with_reducible exact Below.refl _ _ | with_reducible apply below_alloc | with_reducible apply below_drew | with_reducible apply pw_below_drewN | (with_reducible refine Below.setCell ?_ (by first | (simp; done) | (simp; omega) | (dsimp only; omega)) _) | (with_reducible refine below_to ?_ (by assumption))))⟩⟩
    case round =>
      obtain ⟨k, hk, rfl, HW⟩ := hrel
      have HB0 : Aside0 (Below w.heap.size w wr) := ⟨below_to H3.out.1 HW.out⟩
      by_cases hlt : k < x.Steps.length
      · have r0 : (0 : Int) ≤ (k : Int) := by omega
        have r1 : (k : Int) < (x.Steps.length : Int) := by omega
        obtain ⟨ad2, A6, c6, ea2, x0, x1, x2, x3, x4, x5, x6, x7, x8, -⟩ := atNStep (Kd.C_below H3.out.2.2.2 HW.out) k hlt
        obtain rfl := Option.some.inj ea2
        obtain ⟨f1, f2⟩ := law_plan LAW.out HMX.out k hlt m hm0 hm1
        have harr := HMX.out.arr _ (List.getElem_mem hlt)
        have hlb := blk_below H3.out.2.2.1 HW.out
        have hpb := blk_below H3.out.2.1 HW.out
        have l0 := blk_cell hlb 0; have l1 := blk_cell hlb 1; have l2 := blk_cell hlb 2; have l3 := blk_cell hlb 3; have l4 := blk_cell hlb 4; have l5 := blk_cell hlb 5; have l6 := blk_cell hlb 6; simp only [List.getElem?_toArray, List.getElem?_cons_succ, List.getElem?_cons_zero] at l0 l1 l2 l3 l4 l5 l6; have hlw := blk_lt hlb
        have p0 := blk_cell hpb 0; have p1 := blk_cell hpb 1; have p2 := blk_cell hpb 2; have p3 := blk_cell hpb 3; have p4 := blk_cell hpb 4; have p5 := blk_cell hpb 5; have p6 := blk_cell hpb 6; have p7 := blk_cell hpb 7; simp only [List.getElem?_toArray, List.getElem?_cons_succ, List.getElem?_cons_zero] at p0 p1 p2 p3 p4 p5 p6 p7; have hpw := blk_lt hpb
        have e2 : IntKind.i64.wrap (x.Steps[k].Arrival + m) = x.Steps[k].Arrival + m := IntWalk.i64_in _ (by omega)
        have HE := Aside0.mk (fun t W (hb : Below wr.heap.size wr W) => HEN.out x (some ad) cx W (below_to HB0.out hb) k t LAW.out (Kd.C_below H3.out.2.2.2 (below_to HW.out hb)) hv0 hv1 HMX.out)
        rw [HLL.out] at f1
        generalize hEA : endsW p (rdVehicle p.Vehicles x.Vehicle) x.Steps k x.Steps[k].Arrival = EA at *
        generalize hEB : endsW p (rdVehicle p.Vehicles x.Vehicle) x.Steps k (x.Steps[k].Arrival + m) = EB at *
        have HEA := Aside0.mk hEA
        have HEB := Aside0.mk hEB
        clear hEA hEB hlb hpb ea2
        generalize hxk : x.Steps[k] = s at *
        subst f1
        obtain ⟨u, late⟩ := EB
        simp only at f2
        have f3 : late = true → decide (u < L) = false := fun h => decide_eq_false (by have := f2 h; omega)
        clear f2 hxk
        cases late
        all_goals
          (try have f4 := f3 rfl)
          clear f3
          go_upto_region 11 with fail
          refine gen_wp (fun W => Below wr.heap.size wr W ∧ W.heap[wr.heap.size]? = some (.cells #[.int .i64 s.Visit.Kind, .int .i64 s.Visit.Item, .int .i64 s.Place, .int .i64 s.Arrival, .int .i64 s.Wait, .int .i64 s.Service, .slice A6 s.Load.length c6, .int .i64 s.Time, .int .i64 s.Dist] 91 (0, 0))) ⟨(by repeat (first | with_reducible exact Below.refl _ _ | with_reducible apply below_alloc | with_reducible apply below_drew | with_reducible apply pw_below_drewN | (with_reducible refine Below.setCell ?_ (by first | (simp; done) | (simp; omega) | (dsimp only; omega)) _) | (with_reducible refine below_to ?_ (by assumption)))), blk_new _ _⟩ (fun w4 H4 => ?_)
          clear p0 p1 p2 p3 p4 p5 p6 p7 hpw l0 l1 l2 l3 l4 l5 l6 hlw x0 x1 x2 x3 x4 x5 x6 x7 x8
          have hlb := blk_below (blk_below H3.out.2.2.1 HW.out) H4.out.1
          have hpb := blk_below (blk_below H3.out.2.1 HW.out) H4.out.1
          have hsb := H4.out.2
          have l0 := blk_cell hlb 0; have l1 := blk_cell hlb 1; have l2 := blk_cell hlb 2; have l3 := blk_cell hlb 3; have l4 := blk_cell hlb 4; have l5 := blk_cell hlb 5; have l6 := blk_cell hlb 6; simp only [List.getElem?_toArray, List.getElem?_cons_succ, List.getElem?_cons_zero] at l0 l1 l2 l3 l4 l5 l6; have hlw := blk_lt hlb
          have p0 := blk_cell hpb 0; have p1 := blk_cell hpb 1; have p2 := blk_cell hpb 2; have p3 := blk_cell hpb 3; have p4 := blk_cell hpb 4; have p5 := blk_cell hpb 5; have p6 := blk_cell hpb 6; have p7 := blk_cell hpb 7; simp only [List.getElem?_toArray, List.getElem?_cons_succ, List.getElem?_cons_zero] at p0 p1 p2 p3 p4 p5 p6 p7; have hpw := blk_lt hpb
          have s3 := blk_cell hsb 3
          have hsw := blk_lt hsb
          simp only [List.getElem?_toArray, List.getElem?_cons_succ, List.getElem?_cons_zero] at s3
          clear hlb hpb hsb
          go_wp2_with (go_at_call 64; refine (HE.out _ _ (below_to H4.out.1 (by repeat (first | with_reducible exact Below.refl _ _ | with_reducible apply below_alloc | with_reducible apply below_drew | with_reducible apply pw_below_drewN | (with_reducible refine Below.setCell ?_ (by first | (simp; done) | (simp; omega) | (dsimp only; omega)) _) | (with_reducible refine below_to ?_ (by assumption)))))).mono ?_; rintro e w5 ⟨rfl, hb⟩; (first | rw [HEA.out] | rw [HEB.out]); have hB5 : Below w4.heap.size w4 w5 := (by repeat (first | with_reducible exact Below.refl _ _ | with_reducible apply below_alloc | with_reducible apply below_drew | with_reducible apply pw_below_drewN | (with_reducible refine Below.setCell ?_ (by first | (simp; done) | (simp; omega) | (dsimp only; omega)) _) | (with_reducible refine below_to ?_ (by assumption)))); have HB5 := Aside0.mk hB5; obtain ⟨qcs, qfs⟩ := bcell hb; clear hB5)
          go_roundw
          case rel => exact ⟨k + 1, by omega, by go_num, ⟨below_to HW.out (below_to H4.out.1 (by repeat (first | with_reducible exact Below.refl _ _ | with_reducible apply below_alloc | with_reducible apply below_drew | with_reducible apply pw_below_drewN | (with_reducible refine Below.setCell ?_ (by first | (simp; done) | (simp; omega) | (dsimp only; omega)) _) | (with_reducible refine below_to ?_ (by assumption)))))⟩⟩
          case measure => simp [intOf]; omega
      · obtain rfl : k = x.Steps.length := by omega
        go_wp2
        go_ret
        exact ⟨rfl, HB0.out⟩
/-- The same, as the row wants it. -/
theorem slackPlanLaw_row (q : PV) (p : TProblem) (vehicle : Int) (l : List TVisit) (A : Option Addr) (c : Nat) (more : Int) (w : World) (hg : GProblem p) (hq : q.Ok p w) (_ : (Lit.int .i64 vehicle).wf = true) (hl : l.length ≤ maxLen ∧ l.length * 16 ≤ 140737488351232 ∧ ∀ y ∈ l, GVisit y) (_ : l.length ≤ c) (hr : Kd.C kVisit w A l.length l) (_ : (Lit.int .i64 more).wf = true) :
    Calls Try.prog 18 #[q.val p, .int .i64 vehicle, .slice A l.length c, .int .i64 more] w fun e w' => e = .returned (.bool true) ∧ Below w.heap.size w w' :=
  slackPlanLaw_any q p vehicle l A c more w hg hq (by have := hl.1; unfold maxLen at this; omega) hr
end Go.Proofs.Ytemjpgmfignhnaa
