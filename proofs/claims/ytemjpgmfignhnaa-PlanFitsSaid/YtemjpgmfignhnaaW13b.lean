/- The walk of PlanFits: it answers true.
Conditions: lists no longer than memory allows. -/
import Derived.Test.YtemjpgmfignhnaaM0
import Derived.Test.YtemjpgmfignhnaaAW13
import Derived.Test.YtemjpgmfignhnaaR13i
import Derived.Test.YtemjpgmfignhnaaM13
import Derived.Test.YtemjpgmfignhnaaP13y
import Derived.Test.YtemjpgmfignhnaaPut
import Derived.Test.YtemjpgmfignhnaaGoodOf
namespace Go.Proofs.Ytemjpgmfignhnaa
open Go.RowKit Go.Proofs.YtemjpgmfignhnaaW.PrintWords Go.Proofs.YtemjpgmfignhnaaW.PrintLast Go.Proofs.YtemjpgmfignhnaaW.PrintMore
set_option linter.unusedVariables false
set_option linter.unusedSimpArgs false
attribute [local go_sem] cell_growBy Option.some_or
set_option maxHeartbeats 16000000 in
set_option maxRecDepth 100000 in
theorem planFitsLaw_any (q : PV) (p : TProblem) (vehicle : Int) (l : List TVisit) (A : Option Addr) (c : Nat) (w : World) (hg : GProblem p) (hq : q.Ok p w) (hl : l.length ≤ maxLen ∧ l.length * 16 ≤ 140737488351232) (hr : Kd.C kVisit w A l.length l) :
  Calls Try.prog 10 #[q.val p, .int .i64 vehicle, .slice A l.length c] w fun e w' => e = .returned (.bool true) ∧ Below w.heap.size w w' := by
 have HL := Aside0.mk (good_of hg)
 have HQ := Aside0.mk hq
 have HR := Aside0.mk hr
 have HLL := Aside0.mk hl
 have hln : l.length ≤ 4611686018427387904 := by have := hl.2; omega
 have HLW := Aside0.mk (fun W (hb : Below w.heap.size w W) => lawful_any q p W HL.out (hq.below hb))
 have HCP := Aside0.mk (fun W (hb : Below w.heap.size w W) => copied_any q p W (hq.below hb) hg)
 have HCL := Aside0.mk (fun W (hb : Below w.heap.size w W) => copied13_any l A c W (Kd.C_below hr hb) (by have := hl.2; omega) hl.1)
 have HPO := Aside0.mk (fun (law : Law p) (hl : l.length ≤ 30) (q' : PV) (A' : Option Addr) (c' : Nat) W hq' hC => planFit_any q' p vehicle l A' c' W HL.out law hq' hC (by omega))
 have HRO := Aside0.mk (fun (law : Law p) (hl : l.length ≤ 30) W (hb : Below w.heap.size w W) => refFit_any q p vehicle l A c W HL.out law (hq.below hb) (Kd.C_below hr hb) (by omega))
 have HSL := Aside0.mk (fun (law : Law p) (hl : l.length ≤ 30) => fitS_lens (p := p) (vehicle := vehicle) (l := l) law (by omega))
 obtain ⟨a1, c1, a2, c2, a3, c3, a4, c4, a5, c5⟩ := q
 clear hg hq hr hl
 unfold PV.val at HLW HCP HRO ⊢
 by_cases hc : checkS p = 0
 ·have dc : decide (checkS p = 0) = true := decide_eq_true hc
  by_cases h30 : 30 < l.length
  ·have d1 : decide ((30 : Int) < (l.length : Int)) = true := decide_eq_true (by omega)
   clear hc h30 HPO HRO HSL
   go_enter Try.func10, Try.ntmps10
   go_wp2_with (first
    | (go_at_call 48; refine (awake13_any _).mono ?_; skip; rintro e w1 ⟨rfl, hb⟩; have HB1 := Aside0.mk hb; obtain ⟨qc1, qf1⟩ := bcell hb; have hs1 := hb.size; (try simp at hs1); (try have z01 : w.heap.size < w1.heap.size := (by omega)); (try have z11 : w.heap.size + 1 < w1.heap.size := (by omega)); (try have z21 : w.heap.size + 1 + 1 < w1.heap.size := (by omega)); (try have z31 : w.heap.size + 1 + 1 + 1 < w1.heap.size := (by omega)); (try have z41 : w.heap.size + 1 + 1 + 1 + 1 < w1.heap.size := (by omega)); clear hs1 hb; skip)
    | (go_at_call 29; refine (HLW.out _ clb).mono ?_; rw [dc]; rintro e w2 ⟨rfl, hb⟩; have HB2 := Aside0.mk hb; obtain ⟨qc2, qf2⟩ := bcell hb; have hs2 := hb.size; (try simp at hs2); (try have z02 : w.heap.size < w2.heap.size := (by omega)); (try have z12 : w.heap.size + 1 < w2.heap.size := (by omega)); (try have z22 : w.heap.size + 1 + 1 < w2.heap.size := (by omega)); (try have z32 : w.heap.size + 1 + 1 + 1 < w2.heap.size := (by omega)); (try have z42 : w.heap.size + 1 + 1 + 1 + 1 < w2.heap.size := (by omega)); clear hs2 hb; skip))
   go_ret
   exact ⟨rfl, clb⟩
  ·have d1 : decide ((30 : Int) < (l.length : Int)) = false := decide_eq_false (by omega)
   have HP1 := Aside0.mk (HPO.out (law_of hc) (by omega))
   have HR1 := Aside0.mk (HRO.out (law_of hc) (by omega))
   have HS1 := Aside0.mk (HSL.out (law_of hc) (by omega))
   clear hc HPO HRO HSL
   generalize fitS p vehicle l = r at *
   go_enter Try.func10, Try.ntmps10
   go_upto_region 6 with (first
    | (go_at_call 48; refine (awake13_any _).mono ?_; skip; rintro e w1 ⟨rfl, hb⟩; have HB1 := Aside0.mk hb; obtain ⟨qc1, qf1⟩ := bcell hb; have hs1 := hb.size; (try simp at hs1); (try have z01 : w.heap.size < w1.heap.size := (by omega)); (try have z11 : w.heap.size + 1 < w1.heap.size := (by omega)); (try have z21 : w.heap.size + 1 + 1 < w1.heap.size := (by omega)); (try have z31 : w.heap.size + 1 + 1 + 1 < w1.heap.size := (by omega)); (try have z41 : w.heap.size + 1 + 1 + 1 + 1 < w1.heap.size := (by omega)); clear hs1 hb; skip)
    | (go_at_call 29; refine (HLW.out _ clb).mono ?_; rw [dc]; rintro e w2 ⟨rfl, hb⟩; have HB2 := Aside0.mk hb; obtain ⟨qc2, qf2⟩ := bcell hb; have hs2 := hb.size; (try simp at hs2); (try have z02 : w.heap.size < w2.heap.size := (by omega)); (try have z12 : w.heap.size + 1 < w2.heap.size := (by omega)); (try have z22 : w.heap.size + 1 + 1 < w2.heap.size := (by omega)); (try have z32 : w.heap.size + 1 + 1 + 1 < w2.heap.size := (by omega)); (try have z42 : w.heap.size + 1 + 1 + 1 + 1 < w2.heap.size := (by omega)); clear hs2 hb; skip)
    | (go_at_call 27; refine (HCP.out _ clb).mono ?_; rintro e w3 ⟨o, rfl, hown, hb⟩; have HOK := Aside0.mk (hown.ok HL.out.toLens); have HB3 := Aside0.mk hb; obtain ⟨qc3, qf3⟩ := bcell hb; have hs3 := hb.size; (try simp at hs3); (try have z03 : w.heap.size < w3.heap.size := (by omega)); (try have z13 : w.heap.size + 1 < w3.heap.size := (by omega)); (try have z23 : w.heap.size + 1 + 1 < w3.heap.size := (by omega)); (try have z33 : w.heap.size + 1 + 1 + 1 < w3.heap.size := (by omega)); (try have z43 : w.heap.size + 1 + 1 + 1 + 1 < w3.heap.size := (by omega)); clear hs3 hb; clear hown)
    | (go_at_call 50; refine (HCL.out _ clb).mono ?_; rintro e w4 ⟨A4, k4, rfl, hle4, hC4, hb⟩; have HC4 := Aside0.mk hC4; have HK4 := Aside0.mk (HOK.out.below hb); have HB4 := Aside0.mk hb; obtain ⟨qc4, qf4⟩ := bcell hb; have hs4 := hb.size; (try simp at hs4); (try have z04 : w.heap.size < w4.heap.size := (by omega)); (try have z14 : w.heap.size + 1 < w4.heap.size := (by omega)); (try have z24 : w.heap.size + 1 + 1 < w4.heap.size := (by omega)); (try have z34 : w.heap.size + 1 + 1 + 1 < w4.heap.size := (by omega)); (try have z44 : w.heap.size + 1 + 1 + 1 + 1 < w4.heap.size := (by omega)); clear hs4 hb; clear hle4 hC4)
    | (go_at_call 53; refine (HP1.out o.pv A4 k4 _ HK4.out HC4.out).mono ?_; rintro e w5 ⟨A5, k5, rfl, hle5, hF5, hb⟩; have HF5 := Aside0.mk hF5; have HB5 := Aside0.mk hb; obtain ⟨qc5, qf5⟩ := bcell hb; have hs5 := hb.size; (try simp at hs5); (try have z05 : w.heap.size < w5.heap.size := (by omega)); (try have z15 : w.heap.size + 1 < w5.heap.size := (by omega)); (try have z25 : w.heap.size + 1 + 1 < w5.heap.size := (by omega)); (try have z35 : w.heap.size + 1 + 1 + 1 < w5.heap.size := (by omega)); (try have z45 : w.heap.size + 1 + 1 + 1 + 1 < w5.heap.size := (by omega)); clear hs5 hb; clear hle5 hF5))
   refine gen_wp (fun W => Below w.heap.size w W ∧ W.heap[w.heap.size]? = some (.cells #[.int .i64 p.Dims, .int .i64 p.Time.N, .slice a1 p.Time.Cells.length c1, .int .i64 p.Dist.N, .slice a2 p.Dist.Cells.length c2, .slice a3 p.Vehicles.length c3, .slice a4 p.Jobs.length c4, .slice a5 p.Shipments.length c5] 29 (0, 0)) ∧ W.heap[w5.heap.size]? = some (.cells #[.int .i64 r.1.Vehicle, .slice A5 r.1.Steps.length k5, .int .i64 r.1.Time, .int .i64 r.1.Dist, .int .i64 r.1.Wait, .int .i64 r.1.Service, .int .i64 r.1.Cost] 74 (0, 0)) ∧ Kd.C kStep W A5 r.1.Steps.length r.1.Steps)
    ⟨clb, blk_alloc (blk_below (blk_below (blk_below (blk_below (blk_below (blk_new _ _) HB1.out) HB2.out) HB3.out) HB4.out) HB5.out) _, blk_new _ _, Kd.C_below (Kd.F_now HF5.out) (below_alloc (Below.refl _ _) _)⟩ (fun w6 H6 => ?_)
   clear qc1 qf1 qc2 qf2 qc3 qf3 qc4 qf4 qc5 qf5 HB1 HB2 HB3 HB4 HB5 HF5 HC4 HK4 HOK HCL HCP HLW HP1
   have hpb := H6.out.2.1
   have hxb := H6.out.2.2.1
   obtain ⟨p0, p1, p2, p3, p4, p5, p6, p7⟩ := cells8 hpb; have hpw := blk_lt hpb
   obtain ⟨u_0, u_1, u_2, u_3, u_4, u_5, u_6⟩ := cells7 hxb; have u_w := blk_lt hxb
   clear hpb hxb
   go_upto_region 7 with (go_at_call 54; refine (HR1.out _ H6.out.1).mono ?_; rintro e w7 ⟨A7, k7, rfl, hle7, hF7, hb⟩; have HF7 := Aside0.mk hF7; have HB7 := Aside0.mk hb; clear hb hle7 hF7)
   refine gen_wp (fun W => Below w6.heap.size w6 W ∧ W.heap[w7.heap.size]? = some (.cells #[.int .i64 r.1.Vehicle, .slice A7 r.1.Steps.length k7, .int .i64 r.1.Time, .int .i64 r.1.Dist, .int .i64 r.1.Wait, .int .i64 r.1.Service, .int .i64 r.1.Cost] 74 (0, 0)) ∧ Kd.C kStep W A7 r.1.Steps.length r.1.Steps) ⟨below_alloc HB7.out _, blk_new _ _, Kd.C_below (Kd.F_now HF7.out) (below_alloc (Below.refl _ _) _)⟩ (fun w8 H8 => ?_)
   clear p0 p1 p2 p3 p4 p5 p6 p7 hpw u_0 u_1 u_2 u_3 u_4 u_5 u_6 u_w HF7 HB7 HR1
   have hxb := blk_below H6.out.2.2.1 H8.out.1
   have hyb := H8.out.2.1
   obtain ⟨u_0, u_1, u_2, u_3, u_4, u_5, u_6⟩ := cells7 hxb; have u_w := blk_lt hxb
   obtain ⟨v_0, v_1, v_2, v_3, v_4, v_5, v_6⟩ := cells7 hyb; have v_w := blk_lt hyb
   clear hxb hyb
   have HSM := Aside0.mk (refSame_any r.1 A5 A7 k5 k7 w8 (Kd.C_below H6.out.2.2.2 H8.out.1) H8.out.2.2 HS1.out.1 HS1.out.2)
   unfold planV at HSM
   go_wp2_with (go_at_call 52; refine HSM.out.mono ?_; rintro e w9 ⟨rfl, hb⟩; have HB9 := Aside0.mk hb; clear hb)
   go_ret
   exact ⟨rfl, below_to H6.out.1 (below_to H8.out.1 HB9.out)⟩
 ·have dc : decide (checkS p = 0) = false := decide_eq_false hc
  clear hc HPO HRO HSL
  go_enter Try.func10, Try.ntmps10
  go_wp2_with (first
   | (go_at_call 48; refine (awake13_any _).mono ?_; skip; rintro e w1 ⟨rfl, hb⟩; have HB1 := Aside0.mk hb; obtain ⟨qc1, qf1⟩ := bcell hb; have hs1 := hb.size; (try simp at hs1); (try have z01 : w.heap.size < w1.heap.size := (by omega)); (try have z11 : w.heap.size + 1 < w1.heap.size := (by omega)); (try have z21 : w.heap.size + 1 + 1 < w1.heap.size := (by omega)); (try have z31 : w.heap.size + 1 + 1 + 1 < w1.heap.size := (by omega)); (try have z41 : w.heap.size + 1 + 1 + 1 + 1 < w1.heap.size := (by omega)); clear hs1 hb; skip)
   | (go_at_call 29; refine (HLW.out _ clb).mono ?_; rw [dc]; rintro e w2 ⟨rfl, hb⟩; have HB2 := Aside0.mk hb; obtain ⟨qc2, qf2⟩ := bcell hb; have hs2 := hb.size; (try simp at hs2); (try have z02 : w.heap.size < w2.heap.size := (by omega)); (try have z12 : w.heap.size + 1 < w2.heap.size := (by omega)); (try have z22 : w.heap.size + 1 + 1 < w2.heap.size := (by omega)); (try have z32 : w.heap.size + 1 + 1 + 1 < w2.heap.size := (by omega)); (try have z42 : w.heap.size + 1 + 1 + 1 + 1 < w2.heap.size := (by omega)); clear hs2 hb; skip))
  go_ret
  exact ⟨rfl, clb⟩
/-- The same, as the row wants it. -/
theorem planFitsLaw_row (q : PV) (p : TProblem) (vehicle : Int) (l : List TVisit) (A : Option Addr) (c : Nat) (w : World) (hg : GProblem p) (hq : q.Ok p w) (_ : (Lit.int .i64 vehicle).wf = true) (hl : l.length ≤ maxLen ∧ l.length * 16 ≤ 140737488351232 ∧ ∀ y ∈ l, GVisit y) (_ : l.length ≤ c) (hr : Kd.C kVisit w A l.length l) :
  Calls Try.prog 10 #[q.val p, .int .i64 vehicle, .slice A l.length c] w fun e w' => e = .returned (.bool true) ∧ Below w.heap.size w w' :=
 planFitsLaw_any q p vehicle l A c w hg hq ⟨hl.1, hl.2.1⟩ hr
end Go.Proofs.Ytemjpgmfignhnaa
