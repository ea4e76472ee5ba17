/- The walk of PlanRight: it answers true.
Conditions: lists no longer than memory allows. -/
import Derived.Test.YtemjpgmfignhnaaM0
import Derived.Test.YtemjpgmfignhnaaAW13
import Derived.Test.YtemjpgmfignhnaaM13
import Derived.Test.YtemjpgmfignhnaaP13y
import Derived.Test.YtemjpgmfignhnaaM8
import Derived.Test.YtemjpgmfignhnaaM6
import Derived.Test.YtemjpgmfignhnaaM12
import Derived.Test.YtemjpgmfignhnaaPut
import Derived.Test.YtemjpgmfignhnaaGoodOf
namespace Go.Proofs.Ytemjpgmfignhnaa
open Go.RowKit Go.Proofs.YtemjpgmfignhnaaW.PrintWords Go.Proofs.YtemjpgmfignhnaaW.PrintLast Go.Proofs.YtemjpgmfignhnaaW.PrintMore
set_option linter.unusedVariables false
set_option linter.unusedSimpArgs false
attribute [local go_sem] cell_growBy Option.some_or
def prevS (xs : List TStep) : Nat → Option TStep
 | 0 => none
 | k + 1 => xs[k]?
theorem RightGo.step {p : TProblem} {v : TVehicle} {l : List TVisit} {F : Int → Int → Nat → Prop} {xs : List TStep} {w z : Int} {bk tq i : Nat} (h : RightGo p v l F (prevS xs i) w z bk tq (xs.drop i)) (hi : i < xs.length) :
  StepRight p v l bk tq xs[i] ∧ (∀ j (hj : j + 1 = i), LinkRight p (xs[j]'(by omega)) xs[i]) ∧
   RightGo p v l F (prevS xs (i + 1)) (w + xs[i].Wait) (z + xs[i].Service) (if xs[i].Visit.Kind = 4 then bk + 1 else bk) (if xs[i].Visit.Kind = 1 ∨ xs[i].Visit.Kind = 2 ∨ xs[i].Visit.Kind = 3 then tq + 1 else tq) (xs.drop (i + 1)) := by
 rw [List.drop_eq_getElem_cons hi] at h
 obtain ⟨h1, h2, h3⟩ := h
 refine ⟨h1, fun j hj => h2 _ ?_, ?_⟩
 ·subst hj
  show xs[j]? = _
  rw [List.getElem?_eq_getElem]
 ·show RightGo p v l F xs[i]? _ _ _ _ _
  rw [List.getElem?_eq_getElem hi]
  exact h3
theorem RightGo.bnd {p : TProblem} {v : TVehicle} {l : List TVisit} {F : Int → Int → Nat → Prop} : ∀ (xs : List TStep) (b : Option TStep) (w z : Int) (bk tq : Nat), RightGo p v l F b w z bk tq xs → ∀ s ∈ xs, (0 ≤ s.Arrival ∧ s.Arrival ≤ 34000000) ∧ (0 ≤ s.Wait ∧ s.Wait ≤ 1000000) ∧ (0 ≤ s.Service ∧ s.Service ≤ 1000000) ∧ (-100000000000 ≤ s.Time ∧ s.Time ≤ 100000000000) ∧ (-100000000000 ≤ s.Dist ∧ s.Dist ≤ 100000000000)
 | [], _, _, _, _, _, _, s, hs => by cases hs
 | x :: xs, _, _, _, _, _, h, s, hs => by
  rcases List.mem_cons.1 hs with rfl | hs
  ·exact ⟨h.1.arr, h.1.wait, h.1.ser, h.1.tm, h.1.di⟩
  ·exact RightGo.bnd xs _ _ _ _ _ h.2.2 s hs
theorem run_neSame (x : TVisit) (w : World) : (binOp .neq 57 (.agg #[.int .i64 x.Kind, .int .i64 x.Item]) (.agg #[.int .i64 x.Kind, .int .i64 x.Item])).run Try.prog w = .ok (.bool false) w := by
 simp only [binOp, Sem.run_bind, Sem.run_pure]
 rw [keyVisit.eqv x x w, eqVisit_iff.2 rfl]
 rfl
theorem mul_inR {a b : Int} (h0 : -1000 ≤ a) (h1 : a ≤ 10000000000) (h2 : 0 ≤ b) (h3 : b ≤ 1000000) : -1000000000 ≤ a * b ∧ a * b ≤ 10000000000000000 := by
 have k1 : (-1000) * b ≤ a * b := Int.mul_le_mul_of_nonneg_right h0 h2
 have k2 : a * b ≤ 10000000000 * b := Int.mul_le_mul_of_nonneg_right h1 h2
 omega
-- stands on: refStart_any winOk_of windowsB refStop_at StopAt atNBreak atBreak rdBreak_nat atNVisit rdVisit_nat atNWindow atWindow Kd C_one C_block WinOk stopB startS_ok startS refCell_any matOk_of cells8 cells7 wp_sliceStep
set_option maxHeartbeats 16000000 in
set_option maxRecDepth 100000 in
theorem planRightLaw_any (q : PV) (p : TProblem) (vehicle : Int) (l : List TVisit) (A : Option Addr) (c : Nat) (w : World) (hg : GProblem p) (hq : q.Ok p w) (hl : l.length ≤ maxLen ∧ l.length * 16 ≤ 140737488351232) (hr : Kd.C kVisit w A l.length l) :
  Calls Try.prog 12 #[q.val p, .int .i64 vehicle, .slice A l.length c] w fun e w' => e = .returned (.bool true) ∧ Below w.heap.size w w' := by
 have HL := Aside0.mk (good_of hg)
 have HQ := Aside0.mk hq
 have HR := Aside0.mk hr
 have hln : l.length ≤ 4611686018427387904 := by have := hl.2; omega
 have HLW := Aside0.mk (fun W (hb : Below w.heap.size w W) => lawful_any q p W HL.out (hq.below hb))
 have HCP := Aside0.mk (fun W (hb : Below w.heap.size w W) => copied_any q p W (hq.below hb) hg)
 have HCL := Aside0.mk (fun W (hb : Below w.heap.size w W) => copied13_any l A c W (Kd.C_below hr hb) (by have := hl.2; omega) hl.1)
 by_cases hc : checkS p = 0
 case neg =>
  have dc : decide (checkS p = 0) = false := decide_eq_false hc
  obtain ⟨a1, c1, a2, c2, a3, c3, a4, c4, a5, c5⟩ := q
  unfold PV.val at HLW HCP ⊢
  clear hg hq hr hl hc
  go_enter Try.func12, Try.ntmps12
  go_wp2_with (first
   | (go_at_call 48; refine (awake13_any _).mono ?_; skip; rintro e w1 ⟨rfl, hb⟩; have HB1 := Aside0.mk hb; obtain ⟨qc1, qf1⟩ := bcell hb; have hs1 := hb.size; (try simp at hs1); (try have z01 : w.heap.size < w1.heap.size := (by omega)); (try have z11 : w.heap.size + 1 < w1.heap.size := (by omega)); (try have z21 : w.heap.size + 1 + 1 < w1.heap.size := (by omega)); (try have z31 : w.heap.size + 1 + 1 + 1 < w1.heap.size := (by omega)); (try have z41 : w.heap.size + 1 + 1 + 1 + 1 < w1.heap.size := (by omega)); clear hs1 hb; skip)
   | (go_at_call 29; refine (HLW.out _ clb).mono ?_; rw [dc]; rintro e w2 ⟨rfl, hb⟩; have HB2 := Aside0.mk hb; obtain ⟨qc2, qf2⟩ := bcell hb; have hs2 := hb.size; (try simp at hs2); (try have z02 : w.heap.size < w2.heap.size := (by omega)); (try have z12 : w.heap.size + 1 < w2.heap.size := (by omega)); (try have z22 : w.heap.size + 1 + 1 < w2.heap.size := (by omega)); (try have z32 : w.heap.size + 1 + 1 + 1 < w2.heap.size := (by omega)); (try have z42 : w.heap.size + 1 + 1 + 1 + 1 < w2.heap.size := (by omega)); clear hs2 hb; skip))
  go_ret
  exact ⟨rfl, clb⟩
 have dc : decide (checkS p = 0) = true := decide_eq_true hc
 by_cases h30 : 30 < l.length
 ·have d1 : decide ((30 : Int) < (l.length : Int)) = true := decide_eq_true (by omega)
  obtain ⟨a1, c1, a2, c2, a3, c3, a4, c4, a5, c5⟩ := q
  unfold PV.val at HLW HCP ⊢
  clear hg hq hr hl hc h30
  go_enter Try.func12, Try.ntmps12
  go_wp2_with (first
   | (go_at_call 48; refine (awake13_any _).mono ?_; skip; rintro e w1 ⟨rfl, hb⟩; have HB1 := Aside0.mk hb; obtain ⟨qc1, qf1⟩ := bcell hb; have hs1 := hb.size; (try simp at hs1); (try have z01 : w.heap.size < w1.heap.size := (by omega)); (try have z11 : w.heap.size + 1 < w1.heap.size := (by omega)); (try have z21 : w.heap.size + 1 + 1 < w1.heap.size := (by omega)); (try have z31 : w.heap.size + 1 + 1 + 1 < w1.heap.size := (by omega)); (try have z41 : w.heap.size + 1 + 1 + 1 + 1 < w1.heap.size := (by omega)); clear hs1 hb; skip)
   | (go_at_call 29; refine (HLW.out _ clb).mono ?_; rw [dc]; rintro e w2 ⟨rfl, hb⟩; have HB2 := Aside0.mk hb; obtain ⟨qc2, qf2⟩ := bcell hb; have hs2 := hb.size; (try simp at hs2); (try have z02 : w.heap.size < w2.heap.size := (by omega)); (try have z12 : w.heap.size + 1 < w2.heap.size := (by omega)); (try have z22 : w.heap.size + 1 + 1 < w2.heap.size := (by omega)); (try have z32 : w.heap.size + 1 + 1 + 1 < w2.heap.size := (by omega)); (try have z42 : w.heap.size + 1 + 1 + 1 + 1 < w2.heap.size := (by omega)); clear hs2 hb; skip))
  go_ret
  exact ⟨rfl, clb⟩
 have d1 : decide ((30 : Int) < (l.length : Int)) = false := decide_eq_false (by omega)
 have law := law_of hc
 have LAW := Aside0.mk law
 have HPF : Aside0 (∀ (q' : PV) (A' : Option Addr) (c' : Nat) W, q'.Ok p W → Kd.C kVisit W A' l.length l → Calls Try.prog 53 #[q'.val p, .int .i64 vehicle, .slice A' l.length c'] W (PlanPost (fitS p vehicle l) W)) :=
  ⟨fun q' A' c' W hq' hC => planFit_any q' p vehicle l A' c' W HL.out law hq' hC (by omega)⟩
 have HFR := Aside0.mk (fun h => fit_right (vehicle := vehicle) (l := l) law (by omega) h)
 have HFZ := Aside0.mk (fun h => fitS_zero (p := p) (vehicle := vehicle) (l := l) h)
 have HFA : Aside0 ((fitS p vehicle l).2 = 0 → 0 ≤ vehicle ∧ vehicle < (p.Vehicles.length : Int)) := ⟨fun h => by
  obtain ⟨v0, v1, -⟩ := fitS_at law h
  exact ⟨v0, v1⟩⟩
 have hM1 := Aside0.mk (fun (i j : Int) W (hb : Below w.heap.size w W) => refCell_any p.Time q.a1 q.c1 i j W (matOk_of law.mt law.n0 law.n1) (hq.below hb).h1)
 have hM2 := Aside0.mk (fun (i j : Int) W (hb : Below w.heap.size w W) => refCell_any p.Dist q.a2 q.c2 i j W (matOk_of law.md law.n0 law.n1) (hq.below hb).h2)
 have HST := Aside0.mk (fun (x : TVisit) W (hb : Below w.heap.size w W) => refStop_at q p x w W HL.out.toLens hq hb)
 have HAV := Aside0.mk (fun h0 h1 => atVehicle hq.h3 vehicle h0 h1)
 obtain ⟨a1, c1, a2, c2, a3, c3, a4, c4, a5, c5⟩ := q
 unfold PV.val at HLW HCP HST ⊢
 dsimp only at hM1 hM2 HAV
 clear hg hq hr hl hc law
 have HLN := Aside0.mk ((fitS_lens3 (vehicle := vehicle) (l := l) LAW.out).2)
 generalize fitS p vehicle l = r at *
 go_enter Try.func12, Try.ntmps12
 go_upto_region 6 with (first
  | (go_at_call 48; refine (awake13_any _).mono ?_; skip; rintro e w1 ⟨rfl, hb⟩; have HB1 := Aside0.mk hb; obtain ⟨qc1, qf1⟩ := bcell hb; have hs1 := hb.size; (try simp at hs1); (try have z01 : w.heap.size < w1.heap.size := (by omega)); (try have z11 : w.heap.size + 1 < w1.heap.size := (by omega)); (try have z21 : w.heap.size + 1 + 1 < w1.heap.size := (by omega)); (try have z31 : w.heap.size + 1 + 1 + 1 < w1.heap.size := (by omega)); (try have z41 : w.heap.size + 1 + 1 + 1 + 1 < w1.heap.size := (by omega)); clear hs1 hb; skip)
  | (go_at_call 29; refine (HLW.out _ clb).mono ?_; rw [dc]; rintro e w2 ⟨rfl, hb⟩; have HB2 := Aside0.mk hb; obtain ⟨qc2, qf2⟩ := bcell hb; have hs2 := hb.size; (try simp at hs2); (try have z02 : w.heap.size < w2.heap.size := (by omega)); (try have z12 : w.heap.size + 1 < w2.heap.size := (by omega)); (try have z22 : w.heap.size + 1 + 1 < w2.heap.size := (by omega)); (try have z32 : w.heap.size + 1 + 1 + 1 < w2.heap.size := (by omega)); (try have z42 : w.heap.size + 1 + 1 + 1 + 1 < w2.heap.size := (by omega)); clear hs2 hb; skip)
  | (go_at_call 27; refine (HCP.out _ clb).mono ?_; rintro e w3 ⟨o, rfl, hown, hb⟩; have HOK := Aside0.mk (hown.ok HL.out.toLens); have HB3 := Aside0.mk hb; obtain ⟨qc3, qf3⟩ := bcell hb; have hs3 := hb.size; (try simp at hs3); (try have z03 : w.heap.size < w3.heap.size := (by omega)); (try have z13 : w.heap.size + 1 < w3.heap.size := (by omega)); (try have z23 : w.heap.size + 1 + 1 < w3.heap.size := (by omega)); (try have z33 : w.heap.size + 1 + 1 + 1 < w3.heap.size := (by omega)); (try have z43 : w.heap.size + 1 + 1 + 1 + 1 < w3.heap.size := (by omega)); clear hs3 hb; clear hown)
  | (go_at_call 50; refine (HCL.out _ clb).mono ?_; rintro e w4 ⟨A4, k4, rfl, hle4, hC4, hb⟩; have HC4 := Aside0.mk hC4; have HK4 := Aside0.mk (HOK.out.below hb); have HB4 := Aside0.mk hb; obtain ⟨qc4, qf4⟩ := bcell hb; have hs4 := hb.size; (try simp at hs4); (try have z04 : w.heap.size < w4.heap.size := (by omega)); (try have z14 : w.heap.size + 1 < w4.heap.size := (by omega)); (try have z24 : w.heap.size + 1 + 1 < w4.heap.size := (by omega)); (try have z34 : w.heap.size + 1 + 1 + 1 < w4.heap.size := (by omega)); (try have z44 : w.heap.size + 1 + 1 + 1 + 1 < w4.heap.size := (by omega)); clear hs4 hb; clear hle4 hC4)
  | (go_at_call 53; refine (HPF.out o.pv A4 k4 _ HK4.out HC4.out).mono ?_; rintro e w5 ⟨A5, k5, rfl, hle5, hF5, hb⟩; have HF5 := Aside0.mk hF5; have HB5 := Aside0.mk hb; obtain ⟨qc5, qf5⟩ := bcell hb; have hs5 := hb.size; (try simp at hs5); (try have z05 : w.heap.size < w5.heap.size := (by omega)); (try have z15 : w.heap.size + 1 < w5.heap.size := (by omega)); (try have z25 : w.heap.size + 1 + 1 < w5.heap.size := (by omega)); (try have z35 : w.heap.size + 1 + 1 + 1 < w5.heap.size := (by omega)); (try have z45 : w.heap.size + 1 + 1 + 1 + 1 < w5.heap.size := (by omega)); clear hs5 hb; clear hle5 hF5))
 refine gen_wp (fun W => Below w.heap.size w W ∧ W.heap[w.heap.size]? = some (.cells #[.int .i64 p.Dims, .int .i64 p.Time.N, .slice a1 p.Time.Cells.length c1, .int .i64 p.Dist.N, .slice a2 p.Dist.Cells.length c2, .slice a3 p.Vehicles.length c3, .slice a4 p.Jobs.length c4, .slice a5 p.Shipments.length c5] 29 (0, 0)) ∧ W.heap[w5.heap.size]? = some (.cells #[.int .i64 r.1.Vehicle, .slice A5 r.1.Steps.length k5, .int .i64 r.1.Time, .int .i64 r.1.Dist, .int .i64 r.1.Wait, .int .i64 r.1.Service, .int .i64 r.1.Cost] 74 (0, 0)) ∧ Kd.C kStep W A5 r.1.Steps.length r.1.Steps)
  ⟨clb, blk_alloc (blk_below (blk_below (blk_below (blk_below (blk_below (blk_new _ _) HB1.out) HB2.out) HB3.out) HB4.out) HB5.out) _, blk_new _ _, Kd.C_below (Kd.F_now HF5.out) (below_alloc (Below.refl _ _) _)⟩ (fun w6 H6 => ?_)
 clear qc1 qf1 qc2 qf2 qc3 qf3 qc4 qf4 qc5 qf5 HB1 HB2 HB3 HB4 HB5 HF5 HC4 HK4 HOK HCL HCP HLW HPF dc d1
 have hxb := H6.out.2.2.1
 by_cases e : r.2 = 0
 case neg =>
  have d2 : (r.2 != 0) = true := by simp [e]
  have hz := HFZ.out e
  have h1 : r.1.Steps.length = 0 := by rw [hz]; rfl
  have h6 : r.1.Cost = 0 := by rw [hz]; rfl
  obtain ⟨u_0, u_1, u_2, u_3, u_4, u_5, u_6⟩ := cells7 hxb; have u_w := blk_lt hxb
  rw [h1] at u_1
  rw [h6] at u_6
  clear hxb e hz h1 h6
  go_wp2
  go_ret
  exact ⟨rfl, H6.out.1⟩
 have d2 : (r.2 != 0) = false := by simp [e]
 obtain ⟨hi0, hi1⟩ := HFA.out e
 have HRT := Aside0.mk (HFR.out e)
 clear hxb HFA HFR HFZ
 obtain ⟨⟨pve, xs, ptm, pdi, pwt, pse, pco⟩, er⟩ := r
 obtain rfl : pve = vehicle := HRT.out.veh
 obtain ⟨av, AC, cC, AB, cB, eav, v0, v1, v2, v3, v4, v5, v6, v7, v8, v9, v10, lC, gC, lB, gB⟩ := HAV.out hi0 hi1
 have VOK := Aside0.mk (LAW.out.veh _ (rdVeh_mem p.Vehicles pve hi0 hi1))
 generalize rdVehicle p.Vehicles pve = v at *
 have eav' : a3 = some av := eav
 subst eav'
 have HVB := Aside0.mk (show _ ∧ _ ∧ _ ∧ _ from ⟨lC, gC, lB, gB⟩)
 have v0' := pw_cell_below H6.out.1 v0
 have v1' := pw_cell_below H6.out.1 v1
 have v2' := pw_cell_below H6.out.1 v2
 have v3' := pw_cell_below H6.out.1 v3
 have v4' := pw_cell_below H6.out.1 v4
 have v5' := pw_cell_below H6.out.1 v5
 have v6' := pw_cell_below H6.out.1 v6
 have v7' := pw_cell_below H6.out.1 v7
 have v8' := pw_cell_below H6.out.1 v8
 have v9' := pw_cell_below H6.out.1 v9
 have v10' := pw_cell_below H6.out.1 v10
 clear lC gC lB gB v0 v1 v2 v3 v4 v5 v6 v7 v8 v9 v10 HAV eav e
 have hpb := H6.out.2.1
 have hxb := H6.out.2.2.1
 obtain ⟨p0, p1, p2, p3, p4, p5, p6, p7⟩ := cells8 hpb; have hpw := blk_lt hpb
 obtain ⟨u_0, u_1, u_2, u_3, u_4, u_5, u_6⟩ := cells7 hxb; have u_w := blk_lt hxb
 clear hpb hxb
 go_upto_region 9 with fail
 clear v0' v1' v2' v3' v4' v5' v6' v7' v8' v9' v10'
 refine gen_wp (fun W => Below w6.heap.size w6 W ∧ W.heap[w6.heap.size]? = some (.cells #[.int .i64 v.Start, .int .i64 v.End, .slice AC v.Cap.length cC, .int .u64 v.Skills, .int .i64 v.Shift.From, .int .i64 v.Shift.To, .int .i64 v.Fixed, .int .i64 v.PerTime, .int .i64 v.PerDist, .int .i64 v.MaxTasks, .slice AB v.Breaks.length cB] 89 (0, 0))) ⟨chn, blk_new _ _⟩ (fun w7 H7 => ?_)
 have HB67 : Aside0 (Below w6.heap.size w6 w7) := ⟨H7.out.1⟩
 have HB7 : Aside0 (Below w.heap.size w w7) := ⟨below_to H6.out.1 HB67.out⟩
 have HVX : Aside0 (w7.heap[w6.heap.size]? = some (.cells #[.int .i64 v.Start, .int .i64 v.End, .slice AC v.Cap.length cC, .int .u64 v.Skills, .int .i64 v.Shift.From, .int .i64 v.Shift.To, .int .i64 v.Fixed, .int .i64 v.PerTime, .int .i64 v.PerDist, .int .i64 v.MaxTasks, .slice AB v.Breaks.length cB] 89 (0, 0))) := ⟨H7.out.2⟩
 have HPX : Aside0 (w7.heap[w.heap.size]? = some (.cells #[.int .i64 p.Dims, .int .i64 p.Time.N, .slice a1 p.Time.Cells.length c1, .int .i64 p.Dist.N, .slice a2 p.Dist.Cells.length c2, .slice (some av) p.Vehicles.length c3, .slice a4 p.Jobs.length c4, .slice a5 p.Shipments.length c5] 29 (0, 0))) := ⟨blk_below H6.out.2.1 HB67.out⟩
 have HLX : Aside0 (w7.heap[w5.heap.size]? = some (.cells #[.int .i64 pve, .slice A5 xs.length k5, .int .i64 ptm, .int .i64 pdi, .int .i64 pwt, .int .i64 pse, .int .i64 pco] 74 (0, 0))) := ⟨blk_below H6.out.2.2.1 HB67.out⟩
 have HXS : Aside0 (Kd.C kStep w7 A5 xs.length xs) := ⟨Kd.C_below H6.out.2.2.2 HB67.out⟩
 clear p0 p1 p2 p3 p4 p5 p6 p7 hpw
 clear u_0 u_1 u_2 u_3 u_4 u_5 u_6 u_w
 clear H6 H7 HB67
 have hnb := VOK.out.brl
 have HN := Aside0.mk (show xs.length = l.length + 2 + v.Breaks.length from HRT.out.len)
 have hxn : 1 < xs.length := by have := HN.out; omega
 have hx0 : 0 < xs.length := by omega
 have hx0' : (0 : Int) < (xs.length : Int) := by omega
 have hxm : xs.length ≤ 34 := by have := HN.out; omega
 have dlen : ((xs.length : Int) != (l.length : Int) + 2 + (v.Breaks.length : Int)) = false := by have := HN.out; simp; omega
 have eL1 : IntKind.i64.wrap ((l.length : Int) + 2) = (l.length : Int) + 2 := IntWalk.i64_in _ (by omega)
 have eL2 : IntKind.i64.wrap ((l.length : Int) + 2 + (v.Breaks.length : Int)) = (l.length : Int) + 2 + (v.Breaks.length : Int) := IntWalk.i64_in _ (by omega)
 have hvb := HVX.out
 have hlb := HLX.out
 obtain ⟨ad, A6, c6, ea, x0, x1, x2, x3, x4, x5, x6, x7, x8, l6, hC6⟩ := atNStep HXS.out 0 (by omega)
 subst ea
 have hs0 := HRT.out.s0.1
 rw [show rdStep xs (0 : Int) = xs[0] from rdStep_nat xs 0 (by omega)] at hs0
 rw [hs0] at x3
 obtain ⟨v0, v1, v2, v3, v4, v5, v6, v7, v8, v9, v10⟩ := cells11 hvb; have hvw := blk_lt hvb
 obtain ⟨u_0, u_1, u_2, u_3, u_4, u_5, u_6⟩ := cells7 hlb; have u_w := blk_lt hlb
 have x3a : w7.cell? ⟨(ad.add 0).block, (ad.add 0).off + 3, none⟩ = some (.int .i64 v.Shift.From) := by simpa using x3
 have x3b : w7.cell? ⟨ad.block, ad.off + 3, none⟩ = some (.int .i64 v.Shift.From) := by simpa [Addr.add] using x3
 clear hvb hlb x0 x1 x2 x4 x5 x6 x7 x8 l6 hC6 hs0
 go_quiet (fail)
 go_upto_region 11 with fail
 clear x3 x3a x3b
 refine gen_wp (fun W => Below w7.heap.size w7 W) chn (fun w8 HB8 => ?_)
 clear v0 v1 v2 v3 v4 v5 v6 v7 v8 v9 v10 hvw
 clear u_0 u_1 u_2 u_3 u_4 u_5 u_6 u_w
 have hlb := blk_below HLX.out HB8.out
 obtain ⟨u_0, u_1, u_2, u_3, u_4, u_5, u_6⟩ := cells7 hlb; have u_w := blk_lt hlb
 clear hlb
 have HB8w : Aside0 (Below w.heap.size w w8) := ⟨below_to HB7.out HB8.out⟩
 clear dlen eL1 eL2
 have HBND := Aside0.mk (RightGo.bnd _ _ _ _ _ _ HRT.out.go)
 go_wp2
 go_loopw [10, 11, 12, 13, 93] (fun vw vz vb vt vi wr => ∃ (i bk tq : Nat) (W Z : Int), i ≤ xs.length ∧ bk ≤ i ∧ tq ≤ i ∧ vw = .int .i64 W ∧ vz = .int .i64 Z ∧ vb = .int .i64 bk ∧ vt = .int .i64 tq ∧ vi = .int .i64 i ∧ Aside0 ((0 ≤ W ∧ W ≤ i * 1000000) ∧ (0 ≤ Z ∧ Z ≤ i * 1000000)) ∧ Aside0 (RightGo p v l (fun w z k => w = pwt ∧ z = pse ∧ k = v.Breaks.length) (prevS xs i) W Z bk tq (xs.drop i)) ∧ Aside0 (Below w8.heap.size w8 wr)) (fun _ _ _ _ vi _ => xs.length - (intOf vi).toNat)
 case atStart => exact ⟨0, 0, 0, 0, 0, Nat.zero_le _, Nat.le_refl _, Nat.le_refl _, rfl, rfl, rfl, rfl, rfl, ⟨by omega⟩, ⟨HRT.out.go⟩, ⟨Below.refl _ _⟩⟩
 case round =>
  obtain ⟨i, bk, tq, W, Z, hi, hbk, htk, rfl, rfl, rfl, rfl, rfl, HWZ, HGO, HW⟩ := hrel
  by_cases hlt : i < xs.length
  ·
   obtain ⟨HSR, HLK, HNX⟩ : Aside0 _ ∧ Aside0 _ ∧ Aside0 _ := ⟨⟨(HGO.out.step hlt).1⟩, ⟨(HGO.out.step hlt).2.1⟩, ⟨(HGO.out.step hlt).2.2⟩⟩
   have HBr7 : Aside0 (Below w7.heap.size w7 wr) := ⟨below_to HB8.out HW.out⟩
   obtain ⟨ad', A6, c6, ea, x0, x1, x2, x3, x4, x5, x6, x7, x8, l6, hC6⟩ := atNStep (Kd.C_below HXS.out HBr7.out) i hlt
   obtain rfl := Option.some.inj ea
   have HC6 := Aside0.mk hC6
   clear hC6 l6
   have r0 : (0 : Int) ≤ (i : Int) := by omega
   have r1 : (i : Int) < (xs.length : Int) := by omega
   have hxw := World.block_lt_of_cell? _ _ x0
   go_upto_region 15 with fail
   refine gen_wp (fun W => Below wr.heap.size wr W ∧ W.heap[wr.heap.size]? = some (.cells #[.int .i64 xs[i].Visit.Kind, .int .i64 xs[i].Visit.Item, .int .i64 xs[i].Place, .int .i64 xs[i].Arrival, .int .i64 xs[i].Wait, .int .i64 xs[i].Service, .slice A6 xs[i].Load.length c6, .int .i64 xs[i].Time, .int .i64 xs[i].Dist] 91 (0, 0))) ⟨chn, blk_new _ _⟩ (fun w9 H9 => ?_)
   clear x0 x1 x2 x3 x4 x5 x6 x7 x8 hxw
   clear u_0 u_1 u_2 u_3 u_4 u_5 u_6 u_w
   have HB97 : Aside0 (Below w7.heap.size w7 w9) := ⟨below_to HBr7.out H9.out.1⟩
   have HB9w : Aside0 (Below w.heap.size w w9) := ⟨below_to HB7.out HB97.out⟩
   have HSB : Aside0 (w9.heap[wr.heap.size]? = some (.cells #[.int .i64 xs[i].Visit.Kind, .int .i64 xs[i].Visit.Item, .int .i64 xs[i].Place, .int .i64 xs[i].Arrival, .int .i64 xs[i].Wait, .int .i64 xs[i].Service, .slice A6 xs[i].Load.length c6, .int .i64 xs[i].Time, .int .i64 xs[i].Dist] 91 (0, 0))) := ⟨H9.out.2⟩
   have HB9 : Aside0 (Below wr.heap.size wr w9) := ⟨H9.out.1⟩
   have HUN : Aside0 (∀ W, Below w9.heap.size w9 W → Calls Try.prog 60 #[.slice A6 xs[i].Load.length c6, .slice AC v.Cap.length cC] W fun e w' => e = .returned (.bool true) ∧ Below W.heap.size W w') := ⟨fun W hb => by
    have h := refUnder_any xs[i].Load v.Cap A6 AC c6 cC W (Kd.C_below HC6.out (below_to HB9.out hb)) (Kd.C_below HVB.out.2.1 (below_to HB9w.out hb)) (Nat.le_trans (HLN.out _ (List.getElem_mem hlt)) (by omega))
    rw [HSR.out.load] at h
    exact h⟩
   have hvb := blk_below HVX.out HB97.out
   have hsb := HSB.out
   obtain ⟨v0, v1, v2, v3, v4, v5, v6, v7, v8, v9, v10⟩ := cells11 hvb; have hvw := blk_lt hvb
   have s_0 := blk_cell hsb 0; have s_1 := blk_cell hsb 1; have s_2 := blk_cell hsb 2; have s_3 := blk_cell hsb 3; have s_4 := blk_cell hsb 4; have s_5 := blk_cell hsb 5; have s_6 := blk_cell hsb 6; have s_7 := blk_cell hsb 7; have s_8 := blk_cell hsb 8; simp only [List.getElem?_toArray, List.getElem?_cons_succ, List.getElem?_cons_zero] at s_0 s_1 s_2 s_3 s_4 s_5 s_6 s_7 s_8; have s_w := blk_lt hsb
   clear hvb hsb H9
   have hsb := HBND.out _ (List.getElem_mem hlt)
   have hwz := HWZ.out
   have eW : IntKind.i64.wrap (W + xs[i].Wait) = W + xs[i].Wait := IntWalk.i64_in _ (by omega)
   have eZ : IntKind.i64.wrap (Z + xs[i].Service) = Z + xs[i].Service := IntWalk.i64_in _ (by omega)
   clear hsb hwz
   go_upto_region 17 with (go_at_call 60; refine (HUN.out _ chn).mono ?_; rintro e w10 ⟨rfl, hb⟩; have HB10 := Aside0.mk hb; clear hb)
   clear v0 v1 v2 v3 v4 v5 v6 v7 v8 v9 v10 hvw
   clear s_0 s_1 s_2 s_3 s_4 s_5 s_6 s_7 s_8 s_w
   refine gen_wp (fun W => Below w9.heap.size w9 W) (by exact HB10.out) (fun w11 H11 => ?_)
   clear HB10 HUN
   have hsb := blk_below HSB.out H11.out
   have s_0 := blk_cell hsb 0; have s_1 := blk_cell hsb 1; have s_2 := blk_cell hsb 2; have s_3 := blk_cell hsb 3; have s_4 := blk_cell hsb 4; have s_5 := blk_cell hsb 5; have s_6 := blk_cell hsb 6; have s_7 := blk_cell hsb 7; have s_8 := blk_cell hsb 8; simp only [List.getElem?_toArray, List.getElem?_cons_succ, List.getElem?_cons_zero] at s_0 s_1 s_2 s_3 s_4 s_5 s_6 s_7 s_8; have s_w := blk_lt hsb
   clear hsb
   go_quiet (fail)
   clear eW eZ
   go_upto_if 113 with fail
   clear s_0 s_1 s_2 s_3 s_4 s_5 s_6 s_7 s_8 s_w
   refine gen_wp (fun W => Below w11.heap.size w11 W) chn (fun w12 H12 => ?_)
   have HB12 : Aside0 (Below w9.heap.size w9 w12) := ⟨below_to H11.out H12.out⟩
   clear H11 H12
   go_cut [17] (fun s17 wx => Aside0 (Below w12.heap.size w12 wx))
   case first =>
    by_cases hi1 : 0 < i
    ·have d5 : decide ((0 : Int) < (i : Int)) = true := decide_eq_true (by omega)
     obtain ⟨j, hj⟩ : ∃ j, j + 1 = i := ⟨i - 1, by omega⟩
     have hji : j < xs.length := by omega
     have HLJ : Aside0 (LinkRight p xs[j] xs[i]) := ⟨HLK.out j hj⟩
     have HIM : Aside0 (xs[i] ∈ xs) := ⟨List.getElem_mem hlt⟩
     have HJM : Aside0 (xs[j] ∈ xs) := ⟨List.getElem_mem hji⟩
     have ej : IntKind.i64.wrap ((i : Int) - 1) = (j : Int) := by rw [IntWalk.i64_in _ (by omega)]; omega
     have q0 : (0 : Int) ≤ (j : Int) := by omega
     have q1 : (j : Int) < (xs.length : Int) := by omega
     have HB127 : Aside0 (Below w7.heap.size w7 w12) := ⟨below_to HB97.out HB12.out⟩
     obtain ⟨ad', A7, c7, ea', x0, x1, x2, x3, x4, x5, x6, x7, x8, l7, hC7⟩ := atNStep (Kd.C_below HXS.out HB127.out) j hji
     obtain rfl := Option.some.inj ea'
     have hxw := World.block_lt_of_cell? _ _ x0
     clear l7 hC7 ea'
     have hlb := blk_below HLX.out HB127.out
     obtain ⟨u_0, u_1, u_2, u_3, u_4, u_5, u_6⟩ := cells7 hlb; have u_w := blk_lt hlb
     clear hlb hi1
     go_upto_region 20 with fail
     refine gen_wp (fun W => Below w12.heap.size w12 W ∧ W.heap[w12.heap.size]? = some (.cells #[.int .i64 xs[j].Visit.Kind, .int .i64 xs[j].Visit.Item, .int .i64 xs[j].Place, .int .i64 xs[j].Arrival, .int .i64 xs[j].Wait, .int .i64 xs[j].Service, .slice A7 xs[j].Load.length c7, .int .i64 xs[j].Time, .int .i64 xs[j].Dist] 91 (0, 0))) ⟨chn, blk_new _ _⟩ (fun w13 H13 => ?_)
     clear x0 x1 x2 x3 x4 x5 x6 x7 x8 hxw ej
     clear u_0 u_1 u_2 u_3 u_4 u_5 u_6 u_w
     have HB13 : Aside0 (Below w12.heap.size w12 w13) := ⟨H13.out.1⟩
     have HB13w : Aside0 (Below w.heap.size w w13) := ⟨below_to HB7.out (below_to HB127.out HB13.out)⟩
     have hpb := blk_below HPX.out (below_to HB127.out HB13.out)
     have hsb := blk_below HSB.out (below_to HB12.out HB13.out)
     have htb := H13.out.2
     have HTB : Aside0 (w13.heap[w12.heap.size]? = some (.cells #[.int .i64 xs[j].Visit.Kind, .int .i64 xs[j].Visit.Item, .int .i64 xs[j].Place, .int .i64 xs[j].Arrival, .int .i64 xs[j].Wait, .int .i64 xs[j].Service, .slice A7 xs[j].Load.length c7, .int .i64 xs[j].Time, .int .i64 xs[j].Dist] 91 (0, 0))) := ⟨htb⟩
     have p1 := blk_cell hpb 1; have p2 := blk_cell hpb 2; have p3 := blk_cell hpb 3; have p4 := blk_cell hpb 4
     have s2 := blk_cell hsb 2
     have t2 := blk_cell htb 2
     simp only [List.getElem?_toArray, List.getElem?_cons_succ, List.getElem?_cons_zero] at p1 p2 p3 p4 s2 t2
     have hw1 := blk_lt hpb
     have hw2 := blk_lt hsb
     have hw3 := blk_lt htb
     clear hpb hsb htb H13 r0 r1 q0 q1 hbk htk hx0 hx0' hxn hnb hln hi0 hi1 d2 d5
     refine wp_region_held_drew (S := fun W' => Below w13.heap.size w13 W' ∧ ∀ a : Addr, a.block < w13.heap.size → W'.cell? a = w13.cell? a) (by kernel_rfl) (hl_start _) (fun hHeld => ?_)
     refine (show wpAnyH _ _ _ _ _ 16 (Array.replicate 16 false) _ _ from ?_)
     refine tk 0 (h := ?_)
     refine tk 1 (h := ?_)
     refine tk 2 (h := ?_)
     refine tk 3 (h := ?_)
     refine tk 4 (h := ?_)
     refine tk 5 (h := ?_)
     refine tk 7 (h := ?_)
     refine tk 8 (h := ?_)
     refine tk 9 (h := ?_)
     refine tk 10 (h := ?_)
     refine tk 11 (h := ?_)
     refine tk 12 (h := ?_)
     refine wpAnyH_ready (rs := [6]) (by kernel_rfl) (by simp) ?_
     refine rcn (fun K hK => ?_) AllReadyH.nil
     go_simp
     with_reducible refine (hM1.out xs[j].Place xs[i].Place _ (below_to HB13w.out (And.left (show Below w13.heap.size w13 _ ∧ _ from by assumption)))).mono ?_; rintro e w14 ⟨rfl, hb⟩; dsimp only
     clear hHeld
     refine hko hK _ _ _ (hl_of chn) (fun hHeld => ?_)
     clear hK K
     refine wpAnyH_ready (rs := [13]) (by kernel_rfl) (by simp) ?_
     refine rcn (fun K hK => ?_) AllReadyH.nil
     go_simp
     with_reducible refine (hM2.out xs[j].Place xs[i].Place _ (below_to HB13w.out (And.left (show Below w13.heap.size w13 _ ∧ _ from by assumption)))).mono ?_; rintro e w15 ⟨rfl, hb2⟩; dsimp only
     clear hHeld
     refine hko hK _ _ _ (hl_of chn) (fun hHeld => ?_)
     clear hK K
     refine tk 14 (h := ?_)
     refine tk 15 (h := ?_)
     refine wpAnyH_done (by kernel_rfl) ?_ _
     all_goals
      go_upto_region 21 with fail
      refine gen_wp (fun W => Below w13.heap.size w13 W) chn (fun w16 H16 => ?_)
      have hsb := blk_below HSB.out (below_to (below_to HB12.out HB13.out) H16.out)
      have htb := blk_below HTB.out H16.out
      have s_0 := blk_cell hsb 0; have s_1 := blk_cell hsb 1; have s_2 := blk_cell hsb 2; have s_3 := blk_cell hsb 3; have s_4 := blk_cell hsb 4; have s_5 := blk_cell hsb 5; have s_6 := blk_cell hsb 6; have s_7 := blk_cell hsb 7; have s_8 := blk_cell hsb 8; simp only [List.getElem?_toArray, List.getElem?_cons_succ, List.getElem?_cons_zero] at s_0 s_1 s_2 s_3 s_4 s_5 s_6 s_7 s_8; have s_w := blk_lt hsb
      have t_0 := blk_cell htb 0; have t_1 := blk_cell htb 1; have t_2 := blk_cell htb 2; have t_3 := blk_cell htb 3; have t_4 := blk_cell htb 4; have t_5 := blk_cell htb 5; have t_6 := blk_cell htb 6; have t_7 := blk_cell htb 7; have t_8 := blk_cell htb 8; simp only [List.getElem?_toArray, List.getElem?_cons_succ, List.getElem?_cons_zero] at t_0 t_1 t_2 t_3 t_4 t_5 t_6 t_7 t_8; have t_w := blk_lt htb
      clear hsb htb
      obtain ⟨l1, l2, l3, l4, l5⟩ := HLJ.out
      obtain ⟨i1, i2, i3, i4, i5⟩ := HBND.out _ HIM.out
      obtain ⟨j1, j2, j3, j4, j5⟩ := HBND.out _ HJM.out
      generalize cellS p.Time xs[j].Place xs[i].Place = tt at *
      generalize cellS p.Dist xs[j].Place xs[i].Place = dd at *
      have d1 : decide (tt < 0) = false := decide_eq_false (by omega)
      have d2 : decide (dd < 0) = false := decide_eq_false (by omega)
      have e1 : IntKind.i64.wrap (xs[j].Arrival + xs[j].Wait) = xs[j].Arrival + xs[j].Wait := IntWalk.i64_in _ (by omega)
      have e2 : IntKind.i64.wrap (xs[j].Arrival + xs[j].Wait + xs[j].Service) = xs[j].Arrival + xs[j].Wait + xs[j].Service := IntWalk.i64_in _ (by omega)
      have e3 : IntKind.i64.wrap (xs[j].Arrival + xs[j].Wait + xs[j].Service + tt) = xs[j].Arrival + xs[j].Wait + xs[j].Service + tt := IntWalk.i64_in _ (by omega)
      have e4 : IntKind.i64.wrap (xs[j].Time + tt) = xs[j].Time + tt := IntWalk.i64_in _ (by omega)
      have e5 : IntKind.i64.wrap (xs[j].Dist + dd) = xs[j].Dist + dd := IntWalk.i64_in _ (by omega)
      have d3 : (xs[i].Arrival != xs[j].Arrival + xs[j].Wait + xs[j].Service + tt) = false := by rw [l3]; simp
      have d4 : (xs[i].Time != xs[j].Time + tt) = false := by rw [l4]; simp
      have d5 : (xs[i].Dist != xs[j].Dist + dd) = false := by rw [l5]; simp
      clear l1 l2 l3 l4 l5 i1 i2 i3 i4 i5 j1 j2 j3 j4 j5 HLJ
      go_wp2_with fail
      go_meet
      exact ⟨below_to HB13.out H16.out⟩
    ·have d5 : decide ((0 : Int) < (i : Int)) = false := decide_eq_false (by omega)
     go_wp2_with fail
     go_meet
     exact ⟨Below.refl _ _⟩
   case rest =>
    as_aux_lemma =>
    have HBc : Aside0 (Below w12.heap.size w12 wc) := hcut
    have HBc9 : Aside0 (Below w9.heap.size w9 wc) := ⟨below_to HB12.out HBc.out⟩
    have HBc7 : Aside0 (Below w7.heap.size w7 wc) := ⟨below_to HB97.out HBc9.out⟩
    have hvb := blk_below HVX.out HBc7.out
    have v4 := blk_cell hvb 4; have v5 := blk_cell hvb 5
    simp only [List.getElem?_toArray, List.getElem?_cons_succ, List.getElem?_cons_zero] at v4 v5
    have hvw := blk_lt hvb
    clear hvb hcut HLK
    go_upto_region 24 with fail
    refine gen_wp (fun W => Below wc.heap.size wc W ∧ Kd.C kWindow W (some ⟨wc.heap.size, 0, none⟩) 1 [v.Shift]) ⟨chn, Kd.C_below (C_one v.Shift (blk_new _ _) (kWindow_mk _ _)) (by first | exact Below.refl _ _ | exact below_drew (Below.refl _ _))⟩ (fun wk Hk => ?_)
    clear v4 v5 hvw
    have HBk : Aside0 (Below w9.heap.size w9 wk) := ⟨below_to HBc9.out Hk.out.1⟩
    have HBk7 : Aside0 (Below w7.heap.size w7 wk) := ⟨below_to HB97.out HBk.out⟩
    have HBkw : Aside0 (Below w.heap.size w wk) := ⟨below_to HB7.out HBk7.out⟩
    have HWK := Aside0.mk Hk.out.2
    have hsb := blk_below HSB.out HBk.out
    have s_0 := blk_cell hsb 0; have s_1 := blk_cell hsb 1; have s_2 := blk_cell hsb 2; have s_3 := blk_cell hsb 3; have s_4 := blk_cell hsb 4; have s_5 := blk_cell hsb 5; have s_6 := blk_cell hsb 6; have s_7 := blk_cell hsb 7; have s_8 := blk_cell hsb 8; simp only [List.getElem?_toArray, List.getElem?_cons_succ, List.getElem?_cons_zero] at s_0 s_1 s_2 s_3 s_4 s_5 s_6 s_7 s_8; have s_w := blk_lt hsb
    clear hsb Hk
    go_upto_block 2 with fail
    clear s_0 s_1 s_2 s_3 s_4 s_5 s_6 s_7 s_8 s_w
    go_cut [12, 13, 19, 20] (fun s12 s13 s19 s20 wx => ∃ (bk' tq' : Nat) (AW : Option Addr) (cW : Nat) (L : List TWindow), s12 = .int .i64 bk' ∧ s13 = .int .i64 tq' ∧ s19 = .slice AW L.length cW ∧ s20 = .int .i64 xs[i].Service ∧ Aside0 (bk' = (if xs[i].Visit.Kind = 4 then bk + 1 else bk) ∧ tq' = (if xs[i].Visit.Kind = 1 ∨ xs[i].Visit.Kind = 2 ∨ xs[i].Visit.Kind = 3 then tq + 1 else tq)) ∧ Aside0 (Kd.C kWindow wx AW L.length L ∧ WinOk L ∧ startS (xs[i].Arrival + xs[i].Wait) L = (xs[i].Arrival + xs[i].Wait, true)) ∧ Aside0 (Below wk.heap.size wk wx))
    case first =>
     by_cases k4 : xs[i].Visit.Kind = 4
     ·have d4 : (xs[i].Visit.Kind == 4) = true := by simp [k4]
      obtain ⟨hbl, hse, hst⟩ := HSR.out.brk k4
      have hAt := Kd.C_below HVB.out.2.2.2 HBkw.out
      obtain ⟨ad, A0, c0, ea, y0, y1, l0, g0⟩ := atNBreak hAt bk hbl
      subst ea
      rw [rdBreak_nat v.Breaks bk hbl] at hse hst
      have hW0 := winOk_of (VOK.out.brk _ (List.getElem_mem hbl)).1
      have HG := Aside0.mk (show _ ∧ _ ∧ _ from ⟨g0, hW0, hst⟩)
      rw [← hse] at y1
      have hvb := blk_below HVX.out HBk7.out
      have v10 := blk_cell hvb 10
      simp only [List.getElem?_toArray, List.getElem?_cons_succ, List.getElem?_cons_zero] at v10
      have hvw := blk_lt hvb
      have b0 : (0 : Int) ≤ (bk : Int) := by omega
      have b1 : (bk : Int) < (v.Breaks.length : Int) := by omega
      clear hvb hAt hst hse g0 hW0 l0
      go_upto_region 26 with fail
      go_quiet (fail)
      go_wp2_with fail
      go_meet
      refine ⟨bk + 1, tq, A0, c0, _, by go_num, rfl, rfl, rfl, ⟨by rw [if_pos k4], by rw [if_neg (by omega)]⟩, ⟨Kd.C_below HG.out.1 chn, HG.out.2⟩, ⟨chn⟩⟩
     ·have d4 : (xs[i].Visit.Kind == 4) = false := by simp [k4]
      by_cases kt : xs[i].Visit.Kind = 1 ∨ xs[i].Visit.Kind = 2 ∨ xs[i].Visit.Kind = 3
      ·skip
       obtain ⟨t1, t2, t3, t4, t5⟩ := HSR.out.task kt
       have hwin := winOk_of (by have := LAW.out.stopB t1; simp only [stopB, Bool.and_eq_true] at this; exact this.2)
       have HSS := Aside0.mk (fun W hb => HST.out xs[i].Visit W hb)
       generalize stopS p xs[i].Visit = S at *
       obtain ⟨S, sb⟩ := S
       dsimp only at t1 t3 t4 t5 hwin HSS
       subst t1
       have htl : tq < l.length := (List.getElem?_eq_some_iff.1 t2).1
       have hlv : l[tq] = xs[i].Visit := (List.getElem?_eq_some_iff.1 t2).2
       obtain ⟨ad, ea, y0, y1⟩ := atNVisit (Kd.C_below HR.out HBkw.out) tq htl
       subst ea
       rw [hlv] at y0 y1
       have Y0 := stays y0
       have Y1 := stays y1
       have HG := Aside0.mk (show WinOk S.Windows ∧ _ from ⟨hwin, t5⟩)
       have dP : (xs[i].Place != S.Place) = false := by simp [t3]
       have HSE := Aside0.mk t4
       have b0 : (0 : Int) ≤ (tq : Int) := by omega
       have b1 : (tq : Int) < (l.length : Int) := by omega
       have hpb := blk_below HPX.out HBk7.out
       have hsb := blk_below HSB.out HBk.out
       obtain ⟨p0, p1, p2, p3, p4, p5, p6, p7⟩ := cells8 hpb; have hpw := blk_lt hpb
       have s0 := blk_cell hsb 0; have s1 := blk_cell hsb 1
       simp only [List.getElem?_toArray, List.getElem?_cons_succ, List.getElem?_cons_zero] at s0 s1
       have hsw := blk_lt hsb
       clear hpb hsb t2 t3 t4 t5 hwin hlv y0 y1
       have dk : (xs[i].Visit.Kind == 1) = true ∨ (xs[i].Visit.Kind == 1) = false ∧ (xs[i].Visit.Kind == 2) = true ∨ (xs[i].Visit.Kind == 1) = false ∧ (xs[i].Visit.Kind == 2) = false ∧ (xs[i].Visit.Kind == 3) = true := by
        rcases kt with h | h | h <;> simp [h]
       rcases dk with d1 | ⟨d1, d2⟩ | ⟨d1, d2, d3⟩
       all_goals
        go_upto_region 31 with fail
        go_upto_region 32 with (go_at_call 37; refine (HSS.out _ (below_to HBkw.out chn)).mono ?_; rintro e w19 ⟨AW, cW, rfl, hcw, hCW, hb⟩; have HB19 := Aside0.mk hb; have HCW := Aside0.mk hCW; clear hb hCW)
        refine gen_wp (fun W => Below wk.heap.size wk W ∧ W.heap[w19.heap.size]? = some (.cells #[.int .i64 S.Place, .int .i64 S.Service, .slice AW S.Windows.length cW] 43 (0, 0))) ⟨below_to HB19.out chn, blk_new _ _⟩ (fun w20 H20 => ?_)
        clear p0 p1 p2 p3 p4 p5 p6 p7 hpw
        clear s0 s1 hsw
        have y0 := Y0.out _ H20.out.1
        have y1 := Y1.out _ H20.out.1
        have hsb := blk_below HSB.out (below_to HBk.out H20.out.1)
        have htb := H20.out.2
        have s0 := blk_cell hsb 0; have s1 := blk_cell hsb 1; have s2 := blk_cell hsb 2
        have t0 := blk_cell htb 0; have t1 := blk_cell htb 1; have t2 := blk_cell htb 2
        simp only [List.getElem?_toArray, List.getElem?_cons_succ, List.getElem?_cons_zero] at s0 s1 s2 t0 t1 t2
        have hsw := blk_lt hsb
        have htw := blk_lt htb
        have hyw := World.block_lt_of_cell? _ _ y0
        have hne := fun W => run_neSame xs[i].Visit W
        have HB20 := Aside0.mk H20.out.1
        clear hsb htb H20
        go_quiet (fail)
        go_upto_region 34 with fail
        go_quiet (fail)
        go_wp2_with fail
        go_meet
        refine ⟨bk, tq + 1, AW, cW, S.Windows, rfl, by go_num, rfl, by rw [HSE.out], ⟨by rw [if_neg k4], by rw [if_pos kt]⟩, ⟨Kd.C_below HCW.out (below_to HBkw.out (below_to HB20.out chn)), HG.out⟩, ⟨below_to HB20.out chn⟩⟩
      ·have d1 : (xs[i].Visit.Kind == 1) = false := by simp; omega
       have d2 : (xs[i].Visit.Kind == 2) = false := by simp; omega
       have d3 : (xs[i].Visit.Kind == 3) = false := by simp; omega
       obtain ⟨o1, o2⟩ := HSR.out.other k4 kt
       have HO := Aside0.mk o2
       have HO1 := Aside0.mk o1
       clear o1 o2
       go_wp2_with fail
       go_meet
       refine ⟨bk, tq, some ⟨wc.heap.size, 0, none⟩, 1, [v.Shift], rfl, rfl, rfl, by rw [HO1.out], ⟨by rw [if_neg k4], by rw [if_neg kt]⟩, ⟨Kd.C_below HWK.out chn, ⟨by simp, fun i h => ?_, fun i j h1 h2 => ?_⟩, HO.out⟩, ⟨chn⟩⟩
       ·obtain rfl : i = 0 := by simpa using h
        exact VOK.out.shift
       ·simp at h2; omega
    case rest =>
     as_aux_lemma =>
     obtain ⟨bk', tq', AW, cW, L, rfl, rfl, rfl, rfl, HKT, HWL, HBx⟩ := hcut
     have HB9x : Aside0 (Below w9.heap.size w9 wc) := ⟨below_to HBk.out HBx.out⟩
     have hsb := blk_below HSB.out HB9x.out
     have s_0 := blk_cell hsb 0; have s_1 := blk_cell hsb 1; have s_2 := blk_cell hsb 2; have s_3 := blk_cell hsb 3; have s_4 := blk_cell hsb 4; have s_5 := blk_cell hsb 5; have s_6 := blk_cell hsb 6; have s_7 := blk_cell hsb 7; have s_8 := blk_cell hsb 8; simp only [List.getElem?_toArray, List.getElem?_cons_succ, List.getElem?_cons_zero] at s_0 s_1 s_2 s_3 s_4 s_5 s_6 s_7 s_8; have s_w := blk_lt hsb
     clear hsb
     obtain ⟨i1, i2, i3, i4, i5⟩ := HBND.out _ (List.getElem_mem hlt)
     have eA : IntKind.i64.wrap (xs[i].Arrival + xs[i].Wait) = xs[i].Arrival + xs[i].Wait := IntWalk.i64_in _ (by omega)
     have dW : decide (xs[i].Wait < 0) = false := decide_eq_false (by omega)
     have HSTT : Aside0 (∀ W, Below wc.heap.size wc W → Calls Try.prog 61 #[.slice AW L.length cW, .int .i64 (xs[i].Arrival + xs[i].Wait)] W fun e w' => e = .returned (.tuple #[.int .i64 (xs[i].Arrival + xs[i].Wait), .bool true]) ∧ Below W.heap.size W w') := ⟨fun W hb => by
      have h := refStart_any L AW cW (xs[i].Arrival + xs[i].Wait) W (Kd.C_below HWL.out.1 hb) HWL.out.2.1
      rw [HWL.out.2.2] at h
      exact h⟩
     have hwz := HWZ.out
     have HWZ2 : Aside0 ((0 ≤ W + xs[i].Wait ∧ W + xs[i].Wait ≤ (i + 1 : Nat) * 1000000) ∧ (0 ≤ Z + xs[i].Service ∧ Z + xs[i].Service ≤ (i + 1 : Nat) * 1000000)) := ⟨by omega⟩
     have hnx := HNX.out
     rw [← HKT.out.1, ← HKT.out.2] at hnx
     have HNX2 := Aside0.mk hnx
     have HBB : Aside0 (bk' ≤ i + 1 ∧ tq' ≤ i + 1) := ⟨by
      obtain ⟨h1, h2⟩ := HKT.out
      constructor
      ·split at h1 <;> omega
      ·split at h2 <;> omega⟩
     clear hwz hnx i1 i2 i3 i4 i5 HNX HWZ
     go_upto_region 38 with (go_at_call 61; refine (HSTT.out _ chn).mono ?_; rintro e w21 ⟨rfl, hb⟩; have HB21 := Aside0.mk hb; clear hb)
     clear s_0 s_1 s_2 s_3 s_4 s_5 s_6 s_7 s_8 s_w
     refine gen_wp (fun W => Below wc.heap.size wc W) (by first | exact HB21.out | exact below_to HB21.out chn) (fun w22 H22 => ?_)
     clear HB21
     have hsb := blk_below HSB.out (below_to HB9x.out H22.out)
     have s_0 := blk_cell hsb 0; have s_1 := blk_cell hsb 1; have s_2 := blk_cell hsb 2; have s_3 := blk_cell hsb 3; have s_4 := blk_cell hsb 4; have s_5 := blk_cell hsb 5; have s_6 := blk_cell hsb 6; have s_7 := blk_cell hsb 7; have s_8 := blk_cell hsb 8; simp only [List.getElem?_toArray, List.getElem?_cons_succ, List.getElem?_cons_zero] at s_0 s_1 s_2 s_3 s_4 s_5 s_6 s_7 s_8; have s_w := blk_lt hsb
     clear hsb
     go_wp2_with fail
     go_roundw
     case rel =>
      exact ⟨i + 1, bk', tq', _, _, hlt, HBB.out.1, HBB.out.2, rfl, rfl, rfl, rfl, by go_num, HWZ2, HNX2, ⟨below_to HW.out (below_to HB9.out (below_to HB9x.out H22.out))⟩⟩
     case measure => simp [intOf]; omega
  ·
   as_aux_lemma =>
   obtain rfl : i = xs.length := by omega
   have HBr7 : Aside0 (Below w7.heap.size w7 wr) := ⟨below_to HB8.out HW.out⟩
   have HBrw : Aside0 (Below w.heap.size w wr) := ⟨below_to HB7.out HBr7.out⟩
   have hgo := HGO.out
   rw [List.drop_of_length_le (Nat.le_refl _)] at hgo
   obtain ⟨rfl, rfl, hbr⟩ : W = pwt ∧ Z = pse ∧ bk = v.Breaks.length := hgo
   obtain ⟨j, hj⟩ : ∃ j, j + 1 = xs.length := ⟨xs.length - 1, by omega⟩
   have hji : j < xs.length := by omega
   have ej : IntKind.i64.wrap ((xs.length : Int) - 1) = (j : Int) := by rw [IntWalk.i64_in _ (by omega)]; omega
   have q0 : (0 : Int) ≤ (j : Int) := by omega
   have q1 : (j : Int) < (xs.length : Int) := by omega
   have HEN := HRT.out.en
   have hjn : l.length + 1 + v.Breaks.length = j := by have := HN.out; omega
   rw [hjn, rdStep_nat xs j hji] at HEN
   obtain ⟨n1, n2, n3⟩ := HEN
   dsimp only at n2 n3
   have HNN := Aside0.mk (show _ ∧ _ ∧ _ from ⟨n1, n2, n3⟩)
   clear n1 n2 n3
   have HS0 := HRT.out.s0.2
   rw [show rdStep xs (0 : Int) = xs[0] from rdStep_nat xs 0 (by omega)] at HS0
   have HCO : Aside0 (pco = v.Fixed + ptm * v.PerTime + pdi * v.PerDist) := ⟨HRT.out.cost⟩
   have hbt : -1000 ≤ ptm ∧ ptm ≤ 10000000000 := HRT.out.bt
   have hbd : -1000 ≤ pdi ∧ pdi ≤ 10000000000 := HRT.out.bd
   have hpt := VOK.out.pt
   have hpd := VOK.out.pd
   have hfx := VOK.out.fx
   have k1 := mul_inR (a := ptm) (b := v.PerTime) hbt.1 hbt.2 hpt.1 hpt.2
   have k2 := mul_inR (a := pdi) (b := v.PerDist) hbd.1 hbd.2 hpd.1 hpd.2
   have m1 : IntKind.i64.wrap (ptm * v.PerTime) = ptm * v.PerTime := IntWalk.i64_in _ (by omega)
   have m2 : IntKind.i64.wrap (pdi * v.PerDist) = pdi * v.PerDist := IntWalk.i64_in _ (by omega)
   have m3 : IntKind.i64.wrap (v.Fixed + ptm * v.PerTime) = v.Fixed + ptm * v.PerTime := IntWalk.i64_in _ (by omega)
   have m4 : IntKind.i64.wrap (v.Fixed + ptm * v.PerTime + pdi * v.PerDist) = v.Fixed + ptm * v.PerTime + pdi * v.PerDist := IntWalk.i64_in _ (by omega)
   have HM := Aside0.mk (show _ ∧ _ ∧ _ ∧ _ from ⟨m1, m2, m3, m4⟩)
   obtain ⟨ad, A6, c6, ea, x0, x1, x2, x3, x4, x5, x6, x7, x8, l6, hC6⟩ := atNStep (Kd.C_below HXS.out HBr7.out) j hji
   obtain ⟨ad', A7, c7, ea', z0, z1, z2, z3, z4, z5, z6, z7, z8, l7, hC7⟩ := atNStep (Kd.C_below HXS.out HBr7.out) 0 (by omega)
   obtain rfl := Option.some.inj ea
   obtain rfl := Option.some.inj ea'
   rw [HS0] at z2
   have z2b : wr.cell? ⟨ad.block, ad.off + 2, none⟩ = some (.int .i64 v.Start) := by simpa [Addr.add] using z2
   have Z2 := stays z2
   have Z2B := stays z2b
   have hlb := blk_below HLX.out HBr7.out
   obtain ⟨u_0, u_1, u_2, u_3, u_4, u_5, u_6⟩ := cells7 hlb; have u_w := blk_lt hlb
   have hxw := World.block_lt_of_cell? _ _ x0
   clear hlb l6 hC6 l7 hC7 ea' z0 z1 z2 z3 z4 z5 z6 z7 z8 z2b hi hlt hbk htk m1 m2 m3 m4 k1 k2 hbt hbd hpt hpd hfx hjn HS0 HGO
   go_upto_region 42 with fail
   refine gen_wp (fun W => Below wr.heap.size wr W ∧ W.heap[wr.heap.size]? = some (.cells #[.int .i64 xs[j].Visit.Kind, .int .i64 xs[j].Visit.Item, .int .i64 xs[j].Place, .int .i64 xs[j].Arrival, .int .i64 xs[j].Wait, .int .i64 xs[j].Service, .slice A6 xs[j].Load.length c6, .int .i64 xs[j].Time, .int .i64 xs[j].Dist] 91 (0, 0))) ⟨chn, blk_new _ _⟩ (fun w9 H9 => ?_)
   clear x0 x1 x2 x3 x4 x5 x6 x7 x8 hxw ej
   clear u_0 u_1 u_2 u_3 u_4 u_5 u_6 u_w
   have HB9 : Aside0 (Below wr.heap.size wr w9) := ⟨H9.out.1⟩
   have hlb := blk_below HLX.out (below_to HBr7.out HB9.out)
   have hvb := blk_below HVX.out (below_to HBr7.out HB9.out)
   have htb := H9.out.2
   obtain ⟨u_0, u_1, u_2, u_3, u_4, u_5, u_6⟩ := cells7 hlb; have u_w := blk_lt hlb
   obtain ⟨v0, v1, v2, v3, v4, v5, v6, v7, v8, v9, v10⟩ := cells11 hvb; have hvw := blk_lt hvb
   have t2 := blk_cell htb 2; have t7 := blk_cell htb 7; have t8 := blk_cell htb 8
   simp only [List.getElem?_toArray, List.getElem?_cons_succ, List.getElem?_cons_zero] at t2 t7 t8
   have htw := blk_lt htb
   obtain ⟨n1, n2, n3⟩ := HNN.out
   rw [n1] at t2
   rw [← n2] at t7
   rw [← n3] at t8
   have z2 := Z2.out _ HB9.out
   have z2b := Z2B.out _ HB9.out
   have hzw := World.block_lt_of_cell? _ _ z2
   have hzw' := World.block_lt_of_cell? _ _ z2b
   subst hbr
   rw [HCO.out] at u_6
   obtain ⟨m1, m2, m3, m4⟩ := HM.out
   clear hlb hvb htb H9 n1 n2 n3 Z2 Z2B HCO HNN
   as_aux_lemma =>
   go_quiet (fail)
   go_wp2
   go_ret
   exact ⟨by rfl, below_to HBrw.out (below_to HB9.out chn)⟩
/-- The same, as the row wants it. -/
theorem planRightLaw_row (q : PV) (p : TProblem) (vehicle : Int) (l : List TVisit) (A : Option Addr) (c : Nat) (w : World) (hg : GProblem p) (hq : q.Ok p w) (_ : (Lit.int .i64 vehicle).wf = true) (hl : l.length ≤ maxLen ∧ l.length * 16 ≤ 140737488351232 ∧ ∀ y ∈ l, GVisit y) (_ : l.length ≤ c) (hr : Kd.C kVisit w A l.length l) :
  Calls Try.prog 12 #[q.val p, .int .i64 vehicle, .slice A l.length c] w fun e w' => e = .returned (.bool true) ∧ Below w.heap.size w w' :=
 planRightLaw_any q p vehicle l A c w hg hq ⟨hl.1, hl.2.1⟩ hr
end Go.Proofs.Ytemjpgmfignhnaa
