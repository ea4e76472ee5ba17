/- The walk of PlanLater: it answers true.
Conditions: lists no longer than memory allows. -/
import Derived.Test.YtemjpgmfignhnaaM0
import Derived.Test.YtemjpgmfignhnaaAW13
import Derived.Test.YtemjpgmfignhnaaM13
import Derived.Test.YtemjpgmfignhnaaP13z
import Derived.Test.YtemjpgmfignhnaaGoodOf
namespace Go.Proofs.Ytemjpgmfignhnaa
open Go.RowKit Go.Proofs.YtemjpgmfignhnaaW.PrintWords Go.Proofs.YtemjpgmfignhnaaW.PrintLast Go.Proofs.YtemjpgmfignhnaaW.PrintMore
set_option linter.unusedVariables false
set_option linter.unusedSimpArgs false
attribute [local go_sem] cell_growBy Option.some_or
set_option maxHeartbeats 16000000 in
set_option maxRecDepth 100000 in
theorem planLaterLaw_any (q : PV) (p : TProblem) (vehicle : Int) (l : List TVisit) (A : Option Addr) (c : Nat) (by_ : Int) (w : World) (hg : GProblem p) (hq : q.Ok p w) (hl : l.length ≤ maxLen ∧ l.length * 16 ≤ 140737488351232) (hr : Kd.C kVisit w A l.length l) :
  Calls Try.prog 15 #[q.val p, .int .i64 vehicle, .slice A l.length c, .int .i64 by_] w fun e w' => e = .returned (.bool true) ∧ Below w.heap.size w w' := by
 have HL := Aside0.mk (good_of hg)
 have hln : l.length ≤ 4611686018427387904 := by have := hl.2; omega
 have HLW := Aside0.mk (fun W (hb : Below w.heap.size w W) => lawful_any q p W HL.out (hq.below hb))
 have HCP := Aside0.mk (fun W (hb : Below w.heap.size w W) => copied_any q p W (hq.below hb) hg)
 have HCL := Aside0.mk (fun W (hb : Below w.heap.size w W) => copied13_any l A c W (Kd.C_below hr hb) (by have := hl.2; omega) hl.1)
 by_cases hc : checkS p = 0
 case neg =>
  have dc : decide (checkS p = 0) = false := decide_eq_false hc
  obtain ⟨a1, c1, a2, c2, a3, c3, a4, c4, a5, c5⟩ := q
  unfold PV.val at HLW HCP ⊢
  clear hg hq hr hl hc
  go_enter Try.func15, Try.ntmps15
  go_wp2_with (first
   | (go_at_call 48; refine (awake13_any _).mono ?_; skip; rintro e w1 ⟨rfl, hb⟩; have HB1 := Aside0.mk hb; obtain ⟨qc1, qf1⟩ := bcell hb; have hs1 := hb.size; (try simp at hs1); (try have z01 : w.heap.size < w1.heap.size := (by omega)); (try have z11 : w.heap.size + 1 < w1.heap.size := (by omega)); (try have z21 : w.heap.size + 1 + 1 < w1.heap.size := (by omega)); (try have z31 : w.heap.size + 1 + 1 + 1 < w1.heap.size := (by omega)); (try have z41 : w.heap.size + 1 + 1 + 1 + 1 < w1.heap.size := (by omega)); clear hs1 hb; skip)
   | (go_at_call 29; refine (HLW.out _ clb).mono ?_; rw [dc]; rintro e w2 ⟨rfl, hb⟩; have HB2 := Aside0.mk hb; obtain ⟨qc2, qf2⟩ := bcell hb; have hs2 := hb.size; (try simp at hs2); (try have z02 : w.heap.size < w2.heap.size := (by omega)); (try have z12 : w.heap.size + 1 < w2.heap.size := (by omega)); (try have z22 : w.heap.size + 1 + 1 < w2.heap.size := (by omega)); (try have z32 : w.heap.size + 1 + 1 + 1 < w2.heap.size := (by omega)); (try have z42 : w.heap.size + 1 + 1 + 1 + 1 < w2.heap.size := (by omega)); clear hs2 hb; skip))
  go_ret
  exact ⟨rfl, clb⟩
 have dc : decide (checkS p = 0) = true := decide_eq_true hc
 by_cases h30 : 30 < l.length
 ·have d1 : decide ((30 : Int) < (l.length : Int)) = true := decide_eq_true (by omega)
  obtain ⟨a1, c1, a2, c2, a3, c3, a4, c4, a5, c5⟩ := q
  unfold PV.val at HLW HCP ⊢
  clear hg hq hr hl hc h30
  go_enter Try.func15, Try.ntmps15
  go_wp2_with (first
   | (go_at_call 48; refine (awake13_any _).mono ?_; skip; rintro e w1 ⟨rfl, hb⟩; have HB1 := Aside0.mk hb; obtain ⟨qc1, qf1⟩ := bcell hb; have hs1 := hb.size; (try simp at hs1); (try have z01 : w.heap.size < w1.heap.size := (by omega)); (try have z11 : w.heap.size + 1 < w1.heap.size := (by omega)); (try have z21 : w.heap.size + 1 + 1 < w1.heap.size := (by omega)); (try have z31 : w.heap.size + 1 + 1 + 1 < w1.heap.size := (by omega)); (try have z41 : w.heap.size + 1 + 1 + 1 + 1 < w1.heap.size := (by omega)); clear hs1 hb; skip)
   | (go_at_call 29; refine (HLW.out _ clb).mono ?_; rw [dc]; rintro e w2 ⟨rfl, hb⟩; have HB2 := Aside0.mk hb; obtain ⟨qc2, qf2⟩ := bcell hb; have hs2 := hb.size; (try simp at hs2); (try have z02 : w.heap.size < w2.heap.size := (by omega)); (try have z12 : w.heap.size + 1 < w2.heap.size := (by omega)); (try have z22 : w.heap.size + 1 + 1 < w2.heap.size := (by omega)); (try have z32 : w.heap.size + 1 + 1 + 1 < w2.heap.size := (by omega)); (try have z42 : w.heap.size + 1 + 1 + 1 + 1 < w2.heap.size := (by omega)); clear hs2 hb; skip))
  go_ret
  exact ⟨rfl, clb⟩
 have d1 : decide ((30 : Int) < (l.length : Int)) = false := decide_eq_false (by omega)
 by_cases hv0 : vehicle < 0
 ·have d2 : decide (vehicle < 0) = true := decide_eq_true hv0
  obtain ⟨a1, c1, a2, c2, a3, c3, a4, c4, a5, c5⟩ := q
  unfold PV.val at HLW HCP ⊢
  clear hg hq hr hl hc h30 hv0
  go_enter Try.func15, Try.ntmps15
  go_wp2_with (first
   | (go_at_call 48; refine (awake13_any _).mono ?_; skip; rintro e w1 ⟨rfl, hb⟩; have HB1 := Aside0.mk hb; obtain ⟨qc1, qf1⟩ := bcell hb; have hs1 := hb.size; (try simp at hs1); (try have z01 : w.heap.size < w1.heap.size := (by omega)); (try have z11 : w.heap.size + 1 < w1.heap.size := (by omega)); (try have z21 : w.heap.size + 1 + 1 < w1.heap.size := (by omega)); (try have z31 : w.heap.size + 1 + 1 + 1 < w1.heap.size := (by omega)); (try have z41 : w.heap.size + 1 + 1 + 1 + 1 < w1.heap.size := (by omega)); clear hs1 hb; skip)
   | (go_at_call 29; refine (HLW.out _ clb).mono ?_; rw [dc]; rintro e w2 ⟨rfl, hb⟩; have HB2 := Aside0.mk hb; obtain ⟨qc2, qf2⟩ := bcell hb; have hs2 := hb.size; (try simp at hs2); (try have z02 : w.heap.size < w2.heap.size := (by omega)); (try have z12 : w.heap.size + 1 < w2.heap.size := (by omega)); (try have z22 : w.heap.size + 1 + 1 < w2.heap.size := (by omega)); (try have z32 : w.heap.size + 1 + 1 + 1 < w2.heap.size := (by omega)); (try have z42 : w.heap.size + 1 + 1 + 1 + 1 < w2.heap.size := (by omega)); clear hs2 hb; skip))
  go_ret
  exact ⟨rfl, clb⟩
 have d2 : decide (vehicle < 0) = false := decide_eq_false hv0
 by_cases hv1 : (p.Vehicles.length : Int) ≤ vehicle
 ·have d3 : decide ((p.Vehicles.length : Int) ≤ vehicle) = true := decide_eq_true hv1
  obtain ⟨a1, c1, a2, c2, a3, c3, a4, c4, a5, c5⟩ := q
  unfold PV.val at HLW HCP ⊢
  clear hg hq hr hl hc h30 hv0 hv1
  go_enter Try.func15, Try.ntmps15
  go_wp2_with (first
   | (go_at_call 48; refine (awake13_any _).mono ?_; skip; rintro e w1 ⟨rfl, hb⟩; have HB1 := Aside0.mk hb; obtain ⟨qc1, qf1⟩ := bcell hb; have hs1 := hb.size; (try simp at hs1); (try have z01 : w.heap.size < w1.heap.size := (by omega)); (try have z11 : w.heap.size + 1 < w1.heap.size := (by omega)); (try have z21 : w.heap.size + 1 + 1 < w1.heap.size := (by omega)); (try have z31 : w.heap.size + 1 + 1 + 1 < w1.heap.size := (by omega)); (try have z41 : w.heap.size + 1 + 1 + 1 + 1 < w1.heap.size := (by omega)); clear hs1 hb; skip)
   | (go_at_call 29; refine (HLW.out _ clb).mono ?_; rw [dc]; rintro e w2 ⟨rfl, hb⟩; have HB2 := Aside0.mk hb; obtain ⟨qc2, qf2⟩ := bcell hb; have hs2 := hb.size; (try simp at hs2); (try have z02 : w.heap.size < w2.heap.size := (by omega)); (try have z12 : w.heap.size + 1 < w2.heap.size := (by omega)); (try have z22 : w.heap.size + 1 + 1 < w2.heap.size := (by omega)); (try have z32 : w.heap.size + 1 + 1 + 1 < w2.heap.size := (by omega)); (try have z42 : w.heap.size + 1 + 1 + 1 + 1 < w2.heap.size := (by omega)); clear hs2 hb; skip))
  go_ret
  exact ⟨rfl, clb⟩
 have d3 : decide ((p.Vehicles.length : Int) ≤ vehicle) = false := decide_eq_false hv1
 have hi0 : 0 ≤ vehicle := by omega
 have hi1 : vehicle < (p.Vehicles.length : Int) := by omega
 obtain ⟨av, AC, cC, AB, cB, eav, v0, v1, v2, v3, v4, v5, v6, v7, v8, v9, v10, lC, gC, lB, gB⟩ := atVehicle hq.h3 vehicle hi0 hi1
 have law := law_of hc
 have VOK := Aside0.mk (law.veh _ (rdVeh_mem p.Vehicles vehicle hi0 hi1))
 have HPF := Aside0.mk (fun (q' : PV) (A' : Option Addr) (c' : Nat) W hq' hC => planFit_any q' p vehicle l A' c' W HL.out law hq' hC (by omega))
 have LAW := Aside0.mk law
 obtain ⟨a1, c1, a2, c2, a3, c3, a4, c4, a5, c5⟩ := q
 have eav' : a3 = some av := eav
 subst eav'
 have V10 := Aside0.mk v10
 unfold PV.val at HLW HCP ⊢
 clear hg hq hr hl hc eav lC gC lB gB v0 v1 v2 v3 v4 v5 v6 v7 v8 v9 v10 law
 by_cases hbr : 0 < (rdVehicle p.Vehicles vehicle).Breaks.length
 ·have d4 : decide ((0 : Int) < ((rdVehicle p.Vehicles vehicle).Breaks.length : Int)) = true := decide_eq_true (by omega)
  clear h30 hv0 hv1 HPF LAW VOK
  go_enter Try.func15, Try.ntmps15
  go_wp2_with (first
   | (go_at_call 48; refine (awake13_any _).mono ?_; skip; rintro e w1 ⟨rfl, hb⟩; have HB1 := Aside0.mk hb; obtain ⟨qc1, qf1⟩ := bcell hb; have hs1 := hb.size; (try simp at hs1); (try have z01 : w.heap.size < w1.heap.size := (by omega)); (try have z11 : w.heap.size + 1 < w1.heap.size := (by omega)); (try have z21 : w.heap.size + 1 + 1 < w1.heap.size := (by omega)); (try have z31 : w.heap.size + 1 + 1 + 1 < w1.heap.size := (by omega)); (try have z41 : w.heap.size + 1 + 1 + 1 + 1 < w1.heap.size := (by omega)); clear hs1 hb; skip)
   | (go_at_call 29; refine (HLW.out _ clb).mono ?_; rw [dc]; rintro e w2 ⟨rfl, hb⟩; have HB2 := Aside0.mk hb; obtain ⟨qc2, qf2⟩ := bcell hb; have hs2 := hb.size; (try simp at hs2); (try have z02 : w.heap.size < w2.heap.size := (by omega)); (try have z12 : w.heap.size + 1 < w2.heap.size := (by omega)); (try have z22 : w.heap.size + 1 + 1 < w2.heap.size := (by omega)); (try have z32 : w.heap.size + 1 + 1 + 1 < w2.heap.size := (by omega)); (try have z42 : w.heap.size + 1 + 1 + 1 + 1 < w2.heap.size := (by omega)); clear hs2 hb; have y10 := pw_cell_below (show Below w.heap.size w w2 from clb) V10.out))
  go_ret
  exact ⟨rfl, clb⟩
 have d4 : decide ((0 : Int) < ((rdVehicle p.Vehicles vehicle).Breaks.length : Int)) = false := decide_eq_false (by omega)
 have hsh := VOK.out.shift
 obtain ⟨hm0, hm1⟩ := mod_inz by_ 100 (by decide) (by decide)
 have e1 : IntKind.i64.wrap ((rdVehicle p.Vehicles vehicle).Shift.From + wrap64 ((IntKind.u64.wrap by_).tmod 100)) = (rdVehicle p.Vehicles vehicle).Shift.From + wrap64 ((IntKind.u64.wrap by_).tmod 100) := IntWalk.i64_in _ (by omega)
 obtain ⟨kv, hkv⟩ := Int.eq_ofNat_of_zero_le hi0
 have hkl : kv < p.Vehicles.length := by omega
 have HKV := Aside0.mk hkv
 clear hkv
 go_enter Try.func15, Try.ntmps15
 go_upto_region 5 with (first
  | (go_at_call 48; refine (awake13_any _).mono ?_; skip; rintro e w1 ⟨rfl, hb⟩; have HB1 := Aside0.mk hb; obtain ⟨qc1, qf1⟩ := bcell hb; have hs1 := hb.size; (try simp at hs1); (try have z01 : w.heap.size < w1.heap.size := (by omega)); (try have z11 : w.heap.size + 1 < w1.heap.size := (by omega)); (try have z21 : w.heap.size + 1 + 1 < w1.heap.size := (by omega)); (try have z31 : w.heap.size + 1 + 1 + 1 < w1.heap.size := (by omega)); (try have z41 : w.heap.size + 1 + 1 + 1 + 1 < w1.heap.size := (by omega)); clear hs1 hb; skip)
  | (go_at_call 29; refine (HLW.out _ clb).mono ?_; rw [dc]; rintro e w2 ⟨rfl, hb⟩; have HB2 := Aside0.mk hb; obtain ⟨qc2, qf2⟩ := bcell hb; have hs2 := hb.size; (try simp at hs2); (try have z02 : w.heap.size < w2.heap.size := (by omega)); (try have z12 : w.heap.size + 1 < w2.heap.size := (by omega)); (try have z22 : w.heap.size + 1 + 1 < w2.heap.size := (by omega)); (try have z32 : w.heap.size + 1 + 1 + 1 < w2.heap.size := (by omega)); (try have z42 : w.heap.size + 1 + 1 + 1 + 1 < w2.heap.size := (by omega)); clear hs2 hb; have y10 := pw_cell_below (show Below w.heap.size w w2 from clb) V10.out))
 refine gen_wp (fun W => Below w.heap.size w W ∧ W.heap[w.heap.size]? = some (.cells #[.int .i64 p.Dims, .int .i64 p.Time.N, .slice a1 p.Time.Cells.length c1, .int .i64 p.Dist.N, .slice a2 p.Dist.Cells.length c2, .slice (some av) p.Vehicles.length c3, .slice a4 p.Jobs.length c4, .slice a5 p.Shipments.length c5] 29 (0, 0))) ⟨clb, blk_below (blk_below (blk_new _ _) HB1.out) HB2.out⟩ (fun w3 H3 => ?_)
 clear qc1 qf1 qc2 qf2 HB1 HB2 y10 V10
 have hpb := H3.out.2
 obtain ⟨p0, p1, p2, p3, p4, p5, p6, p7⟩ := cells8 hpb; have hpw := blk_lt hpb
 clear hpb
 go_upto_region 6 with (go_at_call 27; refine (HCP.out _ (below_to H3.out.1 chn)).mono ?_; rintro e w4 ⟨o, rfl, hown, hb⟩; have HOW := Aside0.mk hown; have HB4 := Aside0.mk (show Below w3.heap.size w3 w4 from below_to chn hb); clear hown hb)
 refine gen_wp (fun W => Below w3.heap.size w3 W ∧ W.heap[w4.heap.size]? = some (.cells #[.int .i64 p.Dims, .int .i64 p.Time.N, .slice (some ⟨o.gt, 0, none⟩) p.Time.Cells.length o.ct, .int .i64 p.Dist.N, .slice (some ⟨o.gd, 0, none⟩) p.Dist.Cells.length o.cd, .slice (some ⟨o.gv, 0, none⟩) p.Vehicles.length o.cv, .slice (some ⟨o.gj, 0, none⟩) p.Jobs.length o.cj, .slice (some ⟨o.gs, 0, none⟩) p.Shipments.length o.cs] 29 (0, 0)) ∧ OwnP w3.heap.size o p W) ⟨below_alloc HB4.out _, blk_new _ _, (show OwnP w3.heap.size o p w4 from by simpa using HOW.out).below (below_alloc (Below.refl _ _) _)⟩ (fun w5 H5 => ?_)
 have hgv : o.gv < w4.heap.size := by have h1 := HOW.out.bv.2; have h2 := HOW.out.top; omega
 have hg3 : w3.heap.size ≤ o.gv := by simpa using HOW.out.bv.1
 clear p0 p1 p2 p3 p4 p5 p6 p7 hpw
 clear HB4 HOW
 have hqb := H5.out.2.1
 obtain ⟨s0, s1, s2, s3, s4, s5, s6, s7⟩ := cells8 hqb; have hsw := blk_lt hqb
 have v4 : w5.cell? ⟨o.gv, vehicle.toNat * 11 + 4, none⟩ = some (.int .i64 (rdVehicle p.Vehicles vehicle).Shift.From) := by
  rw [HKV.out]
  obtain ⟨cs, _, hfk, hcell⟩ := H5.out.2.2.r3.cell kv (rdVehicle p.Vehicles kv) (by simp [rdVehicle, List.getElem?_eq_getElem hkl])
  obtain ⟨A2, c2, A10, c10, rfl, -⟩ := kVehicle_open (Kd.FK_now hfk)
  exact hcell 4 _ rfl
 have hfz := H5.out.2.2.frozen
 clear hqb
 go_upto_region 7 with fail
 have HE1 := Aside0.mk e1
 generalize wrap64 ((IntKind.u64.wrap by_).tmod 100) = m at *
 refine gen_wp (fun W => Below w3.heap.size w3 W ∧ W.heap[w4.heap.size]? = some (.cells #[.int .i64 p.Dims, .int .i64 p.Time.N, .slice (some ⟨o.gt, 0, none⟩) p.Time.Cells.length o.ct, .int .i64 p.Dist.N, .slice (some ⟨o.gd, 0, none⟩) p.Dist.Cells.length o.cd, .slice (some ⟨o.gv, 0, none⟩) p.Vehicles.length o.cv, .slice (some ⟨o.gj, 0, none⟩) p.Jobs.length o.cj, .slice (some ⟨o.gs, 0, none⟩) p.Shipments.length o.cs] 29 (0, 0)) ∧ OwnP w3.heap.size o (fromP p kv m) W) ⟨Below.setCell H5.out.1 hg3 _, (Below.heap_setCell _ _ _ _ (by show w4.heap.size ≠ o.gv; omega)).trans H5.out.2.1, by
  have h := H5.out.2.2.from_ kv hkl m
  rw [HKV.out]
  exact h⟩ (fun w6 H6 => ?_)
 clear s0 s1 s2 s3 s4 s5 s6 s7 hsw
 clear v4 hfz e1 HE1 H5
 have HG2 := Aside0.mk (fromP_good HL.out kv hkl m)
 have HLW2 := Aside0.mk (fun W (hb : Below w6.heap.size w6 W) => (fromP_val o.pv p kv m) ▸ lawful_any o.pv (fromP p kv m) W HG2.out ((H6.out.2.2.below hb).ok HG2.out.toLens))
 have hqb := H6.out.2.1
 obtain ⟨s0, s1, s2, s3, s4, s5, s6, s7⟩ := cells8 hqb; have hsw := blk_lt hqb
 clear hqb
 by_cases hc2 : checkS (fromP p kv m) = 0
 case neg =>
  have dc2 : decide (checkS (fromP p kv m) = 0) = false := decide_eq_false hc2
  clear hc2
  go_wp2_with (go_at_call 29; refine (HLW2.out _ chn).mono ?_; rintro e w7 ⟨rfl, hb⟩; rw [dc2]; have HB7 := Aside0.mk hb; clear hb)
  go_ret
  exact ⟨rfl, below_to H3.out.1 (below_to H6.out.1 HB7.out)⟩
 have dc2 : decide (checkS (fromP p kv m) = 0) = true := decide_eq_true hc2
 have hear := fun h => fit_early LAW.out hkl hm0 (l := l) (by rw [HKV.out] at hbr; omega) h
 have HEAR := Aside0.mk hear
 have HLN := Aside0.mk (fitS_lens3 (vehicle := vehicle) (l := l) LAW.out)
 have HLN2 := Aside0.mk (fitS_lens3 (vehicle := (kv : Int)) (l := l) (law_of hc2))
 have HPF2 : Aside0 (∀ (A' : Option Addr) (c' : Nat) W, Below w6.heap.size w6 W → Kd.C kVisit W A' l.length l → Calls Try.prog 53 #[(.agg #[.int .i64 p.Dims, .int .i64 p.Time.N, .slice (some ⟨o.gt, 0, none⟩) p.Time.Cells.length o.ct, .int .i64 p.Dist.N, .slice (some ⟨o.gd, 0, none⟩) p.Dist.Cells.length o.cd, .slice (some ⟨o.gv, 0, none⟩) p.Vehicles.length o.cv, .slice (some ⟨o.gj, 0, none⟩) p.Jobs.length o.cj, .slice (some ⟨o.gs, 0, none⟩) p.Shipments.length o.cs]), .int .i64 vehicle, .slice A' l.length c'] W (PlanPost (fitS (fromP p kv m) kv l) W)) :=
  ⟨fun A' c' W hb hC => by
   have h := planFit_any o.pv (fromP p kv m) kv l A' c' W HG2.out (law_of hc2) ((H6.out.2.2.below hb).ok HG2.out.toLens) hC (by omega)
   rw [fromP_val, ← HKV.out] at h
   rw [← HKV.out]
   exact h⟩
 rw [← HKV.out] at HEAR HLN2
 rw [← HKV.out] at HPF2
 clear hc2 hear
 generalize fitS p vehicle l = r1 at *
 generalize fitS (fromP p kv m) vehicle l = r2 at *
 have HPX := Aside0.mk H3.out.2
 go_upto_region 9 with (go_at_call 29; refine (HLW2.out _ chn).mono ?_; rintro e w7 ⟨rfl, hb⟩; rw [dc2]; have HB7 := Aside0.mk hb; clear hb)
 clear s0 s1 s2 s3 s4 s5 s6 s7 hsw
 have HB37 : Aside0 (Below w3.heap.size w3 w7) := ⟨below_to H6.out.1 HB7.out⟩
 have hpb := blk_below H3.out.2 HB37.out
 obtain ⟨p0, p1, p2, p3, p4, p5, p6, p7⟩ := cells8 hpb; have hpw := blk_lt hpb
 clear hpb
 go_upto_region 10 with (first
  | (go_at_call 27; refine (HCP.out _ (below_to H3.out.1 (below_to HB37.out chn))).mono ?_; rintro e w8 ⟨o2, rfl, hown, hb⟩; have HOK := Aside0.mk (hown.ok HL.out.toLens); have HB8 := Aside0.mk (show Below w7.heap.size w7 w8 from below_to chn hb); clear hown hb)
  | (go_at_call 50; refine (HCL.out _ (below_to H3.out.1 (below_to HB37.out (below_to HB8.out chn)))).mono ?_; rintro e w9 ⟨A9, k9, rfl, hle9, hC9, hb⟩; have HC9 := Aside0.mk hC9; have HK9 := Aside0.mk (HOK.out.below hb); have HB9 := Aside0.mk (show Below w7.heap.size w7 w9 from below_to HB8.out hb); clear hle9 hC9 hb)
  | (go_at_call 53; refine (HPF.out o2.pv A9 k9 _ HK9.out HC9.out).mono ?_; rintro e w10 ⟨A10, k10, rfl, hle10, hF10, hb⟩; have HF10 := Aside0.mk hF10; have HB10 := Aside0.mk (show Below w7.heap.size w7 w10 from below_to HB9.out hb); clear hle10 hF10 hb))
 refine gen_wp (fun W => Below w7.heap.size w7 W ∧ W.heap[w10.heap.size]? = some (.cells #[.int .i64 r1.1.Vehicle, .slice A10 r1.1.Steps.length k10, .int .i64 r1.1.Time, .int .i64 r1.1.Dist, .int .i64 r1.1.Wait, .int .i64 r1.1.Service, .int .i64 r1.1.Cost] 74 (0, 0)) ∧ Kd.C kStep W A10 r1.1.Steps.length r1.1.Steps) ⟨below_alloc HB10.out _, blk_new _ _, Kd.C_below (Kd.F_now HF10.out) (below_alloc (Below.refl _ _) _)⟩ (fun w11 H11 => ?_)
 clear p0 p1 p2 p3 p4 p5 p6 p7 hpw
 clear HB8 HB9 HB10 HF10 HC9 HK9 HOK
 have HB3b : Aside0 (Below w3.heap.size w3 w11) := ⟨below_to HB37.out H11.out.1⟩
 have HB6b : Aside0 (Below w6.heap.size w6 w11) := ⟨below_to HB7.out H11.out.1⟩
 have HBw : Aside0 (Below w.heap.size w w11) := ⟨below_to H3.out.1 HB3b.out⟩
 have hqb := blk_below H6.out.2.1 HB6b.out
 obtain ⟨s0, s1, s2, s3, s4, s5, s6, s7⟩ := cells8 hqb; have hsw := blk_lt hqb
 clear hqb
 go_cut [12, 13] (fun s12 s13 wx => ∃ b A5 k5, s12 = .pointer (some ⟨b, 0, none⟩) ∧ s13 = .int .i64 r2.2 ∧ Aside0 (wx.heap[b]? = some (.cells #[.int .i64 r2.1.Vehicle, .slice A5 r2.1.Steps.length k5, .int .i64 r2.1.Time, .int .i64 r2.1.Dist, .int .i64 r2.1.Wait, .int .i64 r2.1.Service, .int .i64 r2.1.Cost] 74 (0, 0)) ∧ Kd.C kStep wx A5 r2.1.Steps.length r2.1.Steps) ∧ Aside0 (Below w11.heap.size w11 wx))
 case first =>
  as_aux_lemma =>
  clear HEAR HLN HLN2 HPF HLW HLW2 HCP hm0 hm1 hsh LAW VOK dc dc2 d1 d2 d3 d4
  refine wp_region_held_drew (S := fun W' => Below w11.heap.size w11 W' ∧ ∀ a : Addr, a.block < w11.heap.size → W'.cell? a = w11.cell? a) (by kernel_rfl) (hl_start _) (fun hHeld => ?_)
  refine (show wpAnyH _ _ _ _ _ 11 (Array.replicate 11 false) _ _ from ?_)
  refine tk 0 (h := ?_)
  refine tk 1 (h := ?_)
  refine tk 2 (h := ?_)
  refine wpAnyH_ready (rs := [3, 8]) (by kernel_rfl) (by simp) ?_
  refine rcn (fun K hK => ?_) (rcn (fun K hK => ?_) AllReadyH.nil)
  ·go_simp
   refine (HCL.out _ (below_to HBw.out (And.left (show Below w11.heap.size w11 _ ∧ _ from by assumption)))).mono ?_; rintro e w4 ⟨A4, k4, rfl, hle4, hC4, hb4⟩; obtain ⟨qcs, qfs⟩ := bcell hb4; have hs4 := hb4.size; (try simp at hs4); dsimp only
   clear hHeld
   refine hko hK _ _ _ (hl_of chn) (fun hHeld => ?_)
   clear hK K
   refine wpAnyH_ready (rs := [4, 8]) (by kernel_rfl) (by simp) ?_
   refine rcn (fun K hK => ?_) (rcn (fun K hK => ?_) AllReadyH.nil)
   ·go_simp
    refine (HPF2.out A4 k4 _ (below_to HB6b.out (And.left (show Below w11.heap.size w11 _ ∧ _ from by assumption))) (Kd.C_below hC4 chn)).mono ?_; rintro e w5 ⟨A5, k5, rfl, hle5, hF5, hb5⟩; have hs5 := hb5.size; (try simp at hs5); dsimp only
    clear hHeld
    refine hko hK _ _ _ (hl_of chn) (fun hHeld => ?_)
    clear hK K
    refine tk 5 (h := ?_)
    refine tk 6 (h := ?_)
    refine tk 7 (h := ?_)
    refine wpAnyH_ready (rs := [8]) (by kernel_rfl) (by simp) ?_
    refine rcn (fun K hK => ?_) AllReadyH.nil
    go_simp
    skip
    clear hHeld
    refine hko hK _ _ _ (hl_of chn) (fun hHeld => ?_)
    clear hK K
    refine wpAnyH_ready (rs := [9]) (by kernel_rfl) (by simp) ?_
    refine rcn (fun K hK => ?_) AllReadyH.nil
    go_simp
    skip
    clear hHeld
    refine hko hK _ _ _ (hl_of chn) (fun hHeld => ?_)
    clear hK K
    refine tk 10 (h := ?_)
    refine wpAnyH_done (by kernel_rfl) ?_ _
    go_wp2_with fail
    go_meet
    exact ⟨_, A5, k5, rfl, rfl, ⟨blk_new _ _, Kd.C_below (Kd.F_now hF5) (below_alloc (Below.refl _ _) _)⟩, ⟨(And.left (show Below w11.heap.size w11 _ ∧ _ from by assumption))⟩⟩
   ·go_simp
    skip
    clear hHeld
    refine hko hK _ _ _ (hl_of chn) (fun hHeld => ?_)
    clear hK K
    refine wpAnyH_ready (rs := [4]) (by kernel_rfl) (by simp) ?_
    refine rcn (fun K hK => ?_) AllReadyH.nil
    go_simp
    refine (HPF2.out A4 k4 _ (below_to HB6b.out (And.left (show Below w11.heap.size w11 _ ∧ _ from by assumption))) (Kd.C_below hC4 chn)).mono ?_; rintro e w5 ⟨A5, k5, rfl, hle5, hF5, hb5⟩; have hs5 := hb5.size; (try simp at hs5); dsimp only
    clear hHeld
    refine hko hK _ _ _ (hl_of chn) (fun hHeld => ?_)
    clear hK K
    refine tk 5 (h := ?_)
    refine tk 6 (h := ?_)
    refine tk 7 (h := ?_)
    have hz5 := blk_below (blk_new _ (.cells #[.int .i64 0, .slice none 0 0, .int .i64 0, .int .i64 0, .int .i64 0, .int .i64 0, .int .i64 0] 74)) hb5
    clear hs5 qcs qfs
    refine wpAnyH_ready (rs := [9]) (by kernel_rfl) (by simp) ?_
    refine rcn (fun K hK => ?_) AllReadyH.nil
    refine wp_store7 rfl rfl rfl hz5 ?_
    clear hHeld
    refine hko hK _ _ _ (hl_of chn) (fun hHeld => ?_)
    clear hK K
    refine tk 10 (h := ?_)
    refine wpAnyH_done (by kernel_rfl) ?_ _
    go_wp2_with fail
    go_meet
    exact ⟨_, A5, k5, rfl, rfl, ⟨blk_set7 hz5 _ _ _ _ _ _ _, Kd.F_now (F_set7 hF5 (fun k hk => by have hk' : (w4.alloc (.cells #[.int .i64 0, .slice none 0 0, .int .i64 0, .int .i64 0, .int .i64 0, .int .i64 0, .int .i64 0] 74)).heap.size ≤ k := hk; simp at hk'; omega) _ _ _ _ _ _ _)⟩, ⟨(And.left (show Below w11.heap.size w11 _ ∧ _ from by assumption))⟩⟩
  ·go_simp
   skip
   clear hHeld
   refine hko hK _ _ _ (hl_of chn) (fun hHeld => ?_)
   clear hK K
   refine wpAnyH_ready (rs := [3]) (by kernel_rfl) (by simp) ?_
   refine rcn (fun K hK => ?_) AllReadyH.nil
   go_simp
   refine (HCL.out _ (below_to HBw.out (And.left (show Below w11.heap.size w11 _ ∧ _ from by assumption)))).mono ?_; rintro e w4 ⟨A4, k4, rfl, hle4, hC4, hb4⟩; obtain ⟨qcs, qfs⟩ := bcell hb4; have hs4 := hb4.size; (try simp at hs4); dsimp only
   clear hHeld
   refine hko hK _ _ _ (hl_of chn) (fun hHeld => ?_)
   clear hK K
   have hz4 := blk_below (show (w11.alloc (.cells #[.int .i64 0, .slice none 0 0, .int .i64 0, .int .i64 0, .int .i64 0, .int .i64 0, .int .i64 0] 74)).drew.heap[w11.heap.size]? = some (.cells #[.int .i64 0, .slice none 0 0, .int .i64 0, .int .i64 0, .int .i64 0, .int .i64 0, .int .i64 0] 74) from blk_new _ _) hb4
   refine wpAnyH_ready (rs := [4]) (by kernel_rfl) (by simp) ?_
   refine rcn (fun K hK => ?_) AllReadyH.nil
   go_simp
   refine (HPF2.out A4 k4 _ (below_to HB6b.out (And.left (show Below w11.heap.size w11 _ ∧ _ from by assumption))) (Kd.C_below hC4 chn)).mono ?_; rintro e w5 ⟨A5, k5, rfl, hle5, hF5, hb5⟩; have hs5 := hb5.size; (try simp at hs5); dsimp only
   clear hHeld
   refine hko hK _ _ _ (hl_of chn) (fun hHeld => ?_)
   clear hK K
   refine tk 5 (h := ?_)
   refine tk 6 (h := ?_)
   refine tk 7 (h := ?_)
   have hz5 := blk_below hz4 hb5
   clear hs5 qcs qfs
   refine wpAnyH_ready (rs := [9]) (by kernel_rfl) (by simp) ?_
   refine rcn (fun K hK => ?_) AllReadyH.nil
   refine wp_store7 rfl rfl rfl hz5 ?_
   clear hHeld
   refine hko hK _ _ _ (hl_of chn) (fun hHeld => ?_)
   clear hK K
   refine tk 10 (h := ?_)
   refine wpAnyH_done (by kernel_rfl) ?_ _
   go_wp2_with fail
   go_meet
   exact ⟨_, A5, k5, rfl, rfl, ⟨blk_set7 hz5 _ _ _ _ _ _ _, Kd.F_now (F_set7 hF5 (fun k hk => by have hk' : w4.heap.size ≤ k := hk; omega) _ _ _ _ _ _ _)⟩, ⟨(And.left (show Below w11.heap.size w11 _ ∧ _ from by assumption))⟩⟩
 case rest =>
  as_aux_lemma =>
  obtain ⟨b, A5, k5, rfl, rfl, HX, HBx⟩ := hcut
  have HBwc : Aside0 (Below w.heap.size w wc) := ⟨below_to HBw.out HBx.out⟩
  have hx1 := blk_below H11.out.2.1 HBx.out
  have hx2 := HX.out.1
  obtain ⟨f_0, f_1, f_2, f_3, f_4, f_5, f_6⟩ := cells7 hx1; have f_w := blk_lt hx1
  obtain ⟨g_0, g_1, g_2, g_3, g_4, g_5, g_6⟩ := cells7 hx2; have g_w := blk_lt hx2
  have HC1 := Aside0.mk (Kd.C_below H11.out.2.2 HBx.out)
  have HC2 := Aside0.mk HX.out.2
  clear s0 s1 s2 s3 s4 s5 s6 s7 hsw
  clear hx1 hx2 HPF HPF2 HLW HLW2 HCP HCL HX H11
  by_cases e2 : r2.2 = 0
  case neg =>
   have d7 : (r2.2 != 0) = true := by simp [e2]
   clear e2 HEAR
   go_wp2
   go_ret
   exact ⟨rfl, HBwc.out⟩
  have d7 : (r2.2 != 0) = false := by simp [e2]
  obtain ⟨h1, h2, h3, h4⟩ := HEAR.out e2
  have d8 : (r1.2 != 0) = false := by simp [h1]
  have hl1 := HLN.out.1
  have H4 := Aside0.mk h4
  rw [h2] at f_6
  rw [h3] at f_1
  have h3' := Aside0.mk h3
  clear e2 HEAR h1 h2 h3 h4
  go_wp2
  go_loopw [106] (fun vi wr => ∃ k : Nat, k ≤ r2.1.Steps.length ∧ vi = .int .i64 k ∧ Aside0 (Below wc.heap.size wc wr)) (fun vi _ => r2.1.Steps.length - (intOf vi).toNat)
  case atStart => exact ⟨0, Nat.zero_le _, rfl, ⟨Below.refl _ _⟩⟩
  case round =>
   obtain ⟨k, hk, rfl, HW⟩ := hrel
   obtain ⟨qcw, qfw⟩ := bcell HW.out
   have hzw := HW.out.size
   by_cases hlt : k < r2.1.Steps.length
   ·have r0 : (0 : Int) ≤ (k : Int) := by omega
    have r1_ : (k : Int) < (r2.1.Steps.length : Int) := by omega
    have hlt1 : k < r1.1.Steps.length := by rw [h3'.out]; exact hlt
    obtain ⟨ad, _, _, ea, -, -, -, x3, -, -, -, x7, -⟩ := atNStep (Kd.C_below HC1.out HW.out) k hlt1
    obtain ⟨ad', _, _, ea', -, -, -, y3, -, -, -, y7, -⟩ := atNStep (Kd.C_below HC2.out HW.out) k hlt
    subst ea
    subst ea'
    obtain ⟨g1, g2⟩ := H4.out k _ _ (List.getElem?_eq_getElem hlt1) (List.getElem?_eq_getElem hlt)
    rw [g2] at x7
    generalize r1.1.Steps[k].Arrival = ar1 at *
    have d9 : decide (r2.1.Steps[k].Arrival < ar1) = false := decide_eq_false (by omega)
    have hw1 : b < wr.heap.size := by omega
    have hw2 : w10.heap.size < wr.heap.size := by omega
    clear g1 g2
    go_upto_region 18 with fail
    go_quiet (fail)
    go_wp2
    go_roundw
    case rel => exact ⟨k + 1, by omega, by go_num, ⟨below_to HW.out chn⟩⟩
    case measure => simp [intOf]; omega
   ·obtain rfl : k = r2.1.Steps.length := by omega
    go_wp2
    go_ret
    exact ⟨rfl, below_to HBwc.out HW.out⟩
/-- The same, as the row wants it. -/
theorem planLaterLaw_row (q : PV) (p : TProblem) (vehicle : Int) (l : List TVisit) (A : Option Addr) (c : Nat) (by_ : Int) (w : World) (hg : GProblem p) (hq : q.Ok p w) (_ : (Lit.int .i64 vehicle).wf = true) (hl : l.length ≤ maxLen ∧ l.length * 16 ≤ 140737488351232 ∧ ∀ y ∈ l, GVisit y) (_ : l.length ≤ c) (hr : Kd.C kVisit w A l.length l) (_ : (Lit.int .i64 by_).wf = true) :
  Calls Try.prog 15 #[q.val p, .int .i64 vehicle, .slice A l.length c, .int .i64 by_] w fun e w' => e = .returned (.bool true) ∧ Below w.heap.size w w' :=
 planLaterLaw_any q p vehicle l A c by_ w hg hq ⟨hl.1, hl.2.1⟩ hr
end Go.Proofs.Ytemjpgmfignhnaa
