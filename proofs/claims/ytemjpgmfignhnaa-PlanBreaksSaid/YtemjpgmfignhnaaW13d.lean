/- The walk of PlanBreaks: it answers true.
Conditions: lists no longer than memory allows. -/
import Derived.Test.YtemjpgmfignhnaaM0
import Derived.Test.YtemjpgmfignhnaaAW13
import Derived.Test.YtemjpgmfignhnaaM13
import Derived.Test.YtemjpgmfignhnaaP13y
import Derived.Test.YtemjpgmfignhnaaP13z
import Derived.Test.YtemjpgmfignhnaaArr2
import Derived.Test.YtemjpgmfignhnaaPut
import Derived.Test.YtemjpgmfignhnaaGoodOf
namespace Go.Proofs.Ytemjpgmfignhnaa
open Go.RowKit Go.Proofs.YtemjpgmfignhnaaW.PrintWords Go.Proofs.YtemjpgmfignhnaaW.PrintLast Go.Proofs.YtemjpgmfignhnaaW.PrintMore
set_option linter.unusedVariables false
set_option linter.unusedSimpArgs false
attribute [local go_sem] cell_growBy Option.some_or
theorem C_takeB {α : Type} {d : Kd α} {W : World} {A : Option Addr} {n : Nat} {xs : List α} (h : d.C W A n xs) (m : Nat) (hm : m ≤ n) : d.C W A m (xs.take m) := by
 refine ⟨by rw [List.length_take]; have := h.1; omega, by have := h.2.1; omega, fun hpos => ?_⟩
 obtain ⟨ad, e, hc⟩ := h.2.2 (by omega)
 refine ⟨ad, e, fun j p hj => ?_⟩
 have hjm : j < m := by
  have := (List.getElem?_eq_some_iff.1 hj).1
  rw [List.length_take] at this
  omega
 rw [List.getElem?_take, if_pos hjm] at hj
 exact hc j p hj
theorem C_twoB {W : World} {g t : Nat} {a b : Int} (h : W.heap[g]? = some (.cells #[.int .i64 a, .int .i64 b] t (0, 0))) : Kd.C (Kd.int .i64) W (some ⟨g, 0, none⟩) 2 [a, b] := by
 refine C_block h [a, b] ⟨rfl, fun j p hj => ?_⟩ (by simp)
 match j, hj with
 | 0, hj =>
  obtain rfl : a = p := by simpa using hj
  rfl
 | 1, hj =>
  obtain rfl : b = p := by simpa using hj
  rfl
/-- What the walk wants of the two plans. -/
structure BrkFit (x y : TPlan × Int) : Prop where
 ok : x.2 = 0 → y.2 = 0 ∧ x.1.Time = y.1.Time ∧ x.1.Dist = y.1.Dist ∧ x.1.Cost = y.1.Cost ∧ x.1.Service = y.1.Service
 no : x.2 ≠ 0 → x.2 = 167 ∨ x.2 = y.2
set_option maxHeartbeats 16000000 in
set_option maxRecDepth 100000 in
theorem planBreaksLaw_any (q : PV) (p : TProblem) (vehicle : Int) (l : List TVisit) (A : Option Addr) (c : Nat) (i k : Int) (w : World) (hg : GProblem p) (hq : q.Ok p w) (hl : l.length ≤ maxLen ∧ l.length * 16 ≤ 140737488351232) (hr : Kd.C kVisit w A l.length l) :
  Calls Try.prog 13 #[q.val p, .int .i64 vehicle, .slice A l.length c, .agg #[.int .i64 i, .int .i64 k]] w fun e w' => e = .returned (.bool true) ∧ Below w.heap.size w w' := by
 have HL := Aside0.mk (good_of hg)
 have HR := Aside0.mk hr
 have hln : l.length ≤ 4611686018427387904 := by have := hl.2; omega
 have HLW := Aside0.mk (fun W (hb : Below w.heap.size w W) => lawful_any q p W HL.out (hq.below hb))
 have HCP := Aside0.mk (fun W (hb : Below w.heap.size w W) => copied_any q p W (hq.below hb) hg)
 have HCL := Aside0.mk (fun W (hb : Below w.heap.size w W) => copied13_any l A c W (Kd.C_below hr hb) (by have := hl.2; omega) hl.1)
 by_cases hc : checkS p = 0
 case neg =>
  have dc : decide (checkS p = 0) = false := decide_eq_false hc
  obtain ⟨a1, c1, a2, c2, a3, c3, a4, c4, a5, c5⟩ := q
  unfold PV.val at HLW HCP ⊢
  clear hg hq hr hl hc
  go_enter Try.func13, Try.ntmps13
  go_wp2_with (first
   | (go_at_call 48; refine (awake13_any _).mono ?_; skip; rintro e w1 ⟨rfl, hb⟩; have HB1 := Aside0.mk hb; obtain ⟨qc1, qf1⟩ := bcell hb; have hs1 := hb.size; (try simp at hs1); (try have z01 : w.heap.size < w1.heap.size := (by omega)); (try have z11 : w.heap.size + 1 < w1.heap.size := (by omega)); (try have z21 : w.heap.size + 1 + 1 < w1.heap.size := (by omega)); (try have z31 : w.heap.size + 1 + 1 + 1 < w1.heap.size := (by omega)); (try have z41 : w.heap.size + 1 + 1 + 1 + 1 < w1.heap.size := (by omega)); clear hs1 hb; skip)
   | (go_at_call 29; refine (HLW.out _ clb).mono ?_; rw [dc]; rintro e w2 ⟨rfl, hb⟩; have HB2 := Aside0.mk hb; obtain ⟨qc2, qf2⟩ := bcell hb; have hs2 := hb.size; (try simp at hs2); (try have z02 : w.heap.size < w2.heap.size := (by omega)); (try have z12 : w.heap.size + 1 < w2.heap.size := (by omega)); (try have z22 : w.heap.size + 1 + 1 < w2.heap.size := (by omega)); (try have z32 : w.heap.size + 1 + 1 + 1 < w2.heap.size := (by omega)); (try have z42 : w.heap.size + 1 + 1 + 1 + 1 < w2.heap.size := (by omega)); clear hs2 hb; skip))
  go_ret
  exact ⟨rfl, clb⟩
 have dc : decide (checkS p = 0) = true := decide_eq_true hc
 by_cases h30 : 30 < l.length
 ·have d1 : decide ((30 : Int) < (l.length : Int)) = true := decide_eq_true (by omega)
  obtain ⟨a1, c1, a2, c2, a3, c3, a4, c4, a5, c5⟩ := q
  unfold PV.val at HLW HCP ⊢
  clear hg hq hr hl hc h30
  go_enter Try.func13, Try.ntmps13
  go_wp2_with (first
   | (go_at_call 48; refine (awake13_any _).mono ?_; skip; rintro e w1 ⟨rfl, hb⟩; have HB1 := Aside0.mk hb; obtain ⟨qc1, qf1⟩ := bcell hb; have hs1 := hb.size; (try simp at hs1); (try have z01 : w.heap.size < w1.heap.size := (by omega)); (try have z11 : w.heap.size + 1 < w1.heap.size := (by omega)); (try have z21 : w.heap.size + 1 + 1 < w1.heap.size := (by omega)); (try have z31 : w.heap.size + 1 + 1 + 1 < w1.heap.size := (by omega)); (try have z41 : w.heap.size + 1 + 1 + 1 + 1 < w1.heap.size := (by omega)); clear hs1 hb; skip)
   | (go_at_call 29; refine (HLW.out _ clb).mono ?_; rw [dc]; rintro e w2 ⟨rfl, hb⟩; have HB2 := Aside0.mk hb; obtain ⟨qc2, qf2⟩ := bcell hb; have hs2 := hb.size; (try simp at hs2); (try have z02 : w.heap.size < w2.heap.size := (by omega)); (try have z12 : w.heap.size + 1 < w2.heap.size := (by omega)); (try have z22 : w.heap.size + 1 + 1 < w2.heap.size := (by omega)); (try have z32 : w.heap.size + 1 + 1 + 1 < w2.heap.size := (by omega)); (try have z42 : w.heap.size + 1 + 1 + 1 + 1 < w2.heap.size := (by omega)); clear hs2 hb; skip))
  go_ret
  exact ⟨rfl, clb⟩
 have d1 : decide ((30 : Int) < (l.length : Int)) = false := decide_eq_false (by omega)
 by_cases hv0 : vehicle < 0
 ·have d2 : decide (vehicle < 0) = true := decide_eq_true hv0
  obtain ⟨a1, c1, a2, c2, a3, c3, a4, c4, a5, c5⟩ := q
  unfold PV.val at HLW HCP ⊢
  clear hg hq hr hl hc h30 hv0
  go_enter Try.func13, Try.ntmps13
  go_wp2_with (first
   | (go_at_call 48; refine (awake13_any _).mono ?_; skip; rintro e w1 ⟨rfl, hb⟩; have HB1 := Aside0.mk hb; obtain ⟨qc1, qf1⟩ := bcell hb; have hs1 := hb.size; (try simp at hs1); (try have z01 : w.heap.size < w1.heap.size := (by omega)); (try have z11 : w.heap.size + 1 < w1.heap.size := (by omega)); (try have z21 : w.heap.size + 1 + 1 < w1.heap.size := (by omega)); (try have z31 : w.heap.size + 1 + 1 + 1 < w1.heap.size := (by omega)); (try have z41 : w.heap.size + 1 + 1 + 1 + 1 < w1.heap.size := (by omega)); clear hs1 hb; skip)
   | (go_at_call 29; refine (HLW.out _ clb).mono ?_; rw [dc]; rintro e w2 ⟨rfl, hb⟩; have HB2 := Aside0.mk hb; obtain ⟨qc2, qf2⟩ := bcell hb; have hs2 := hb.size; (try simp at hs2); (try have z02 : w.heap.size < w2.heap.size := (by omega)); (try have z12 : w.heap.size + 1 < w2.heap.size := (by omega)); (try have z22 : w.heap.size + 1 + 1 < w2.heap.size := (by omega)); (try have z32 : w.heap.size + 1 + 1 + 1 < w2.heap.size := (by omega)); (try have z42 : w.heap.size + 1 + 1 + 1 + 1 < w2.heap.size := (by omega)); clear hs2 hb; skip))
  go_ret
  exact ⟨rfl, clb⟩
 have d2 : decide (vehicle < 0) = false := decide_eq_false hv0
 by_cases hv1 : (p.Vehicles.length : Int) ≤ vehicle
 ·have d3 : decide ((p.Vehicles.length : Int) ≤ vehicle) = true := decide_eq_true hv1
  obtain ⟨a1, c1, a2, c2, a3, c3, a4, c4, a5, c5⟩ := q
  unfold PV.val at HLW HCP ⊢
  clear hg hq hr hl hc h30 hv0 hv1
  go_enter Try.func13, Try.ntmps13
  go_wp2_with (first
   | (go_at_call 48; refine (awake13_any _).mono ?_; skip; rintro e w1 ⟨rfl, hb⟩; have HB1 := Aside0.mk hb; obtain ⟨qc1, qf1⟩ := bcell hb; have hs1 := hb.size; (try simp at hs1); (try have z01 : w.heap.size < w1.heap.size := (by omega)); (try have z11 : w.heap.size + 1 < w1.heap.size := (by omega)); (try have z21 : w.heap.size + 1 + 1 < w1.heap.size := (by omega)); (try have z31 : w.heap.size + 1 + 1 + 1 < w1.heap.size := (by omega)); (try have z41 : w.heap.size + 1 + 1 + 1 + 1 < w1.heap.size := (by omega)); clear hs1 hb; skip)
   | (go_at_call 29; refine (HLW.out _ clb).mono ?_; rw [dc]; rintro e w2 ⟨rfl, hb⟩; have HB2 := Aside0.mk hb; obtain ⟨qc2, qf2⟩ := bcell hb; have hs2 := hb.size; (try simp at hs2); (try have z02 : w.heap.size < w2.heap.size := (by omega)); (try have z12 : w.heap.size + 1 < w2.heap.size := (by omega)); (try have z22 : w.heap.size + 1 + 1 < w2.heap.size := (by omega)); (try have z32 : w.heap.size + 1 + 1 + 1 < w2.heap.size := (by omega)); (try have z42 : w.heap.size + 1 + 1 + 1 + 1 < w2.heap.size := (by omega)); clear hs2 hb; skip))
  go_ret
  exact ⟨rfl, clb⟩
 have d3 : decide ((p.Vehicles.length : Int) ≤ vehicle) = false := decide_eq_false hv1
 have hi0 : 0 ≤ vehicle := by omega
 have hi1 : vehicle < (p.Vehicles.length : Int) := by omega
 have hvv : ¬ (vehicle < 0 ∨ (p.Vehicles.length : Int) ≤ vehicle) := by omega
 obtain ⟨av, AC, cC, AB, cB, eav, v0, v1, v2, v3, v4, v5, v6, v7, v8, v9, v10, lC, gC, lB, gB⟩ := atVehicle hq.h3 vehicle hi0 hi1
 have law := law_of hc
 have hbrl := (law.veh _ (rdVeh_mem p.Vehicles vehicle hi0 hi1)).brl
 have HPF := Aside0.mk (fun (q' : PV) (A' : Option Addr) (c' : Nat) W hq' hC => planFit_any q' p vehicle l A' c' W HL.out law hq' hC (by omega))
 have HPO := Aside0.mk (fun (q' : PV) (l' : List TVisit) (A' : Option Addr) (c' : Nat) W hq' hC hl' => planOf_any q' p vehicle l' A' c' W HL.out law hq' hC hl')
 have HBF := Aside0.mk (fun (hk : ∀ x ∈ l, x.Kind ≠ 4) (a b : Nat) (h1 : a ≤ b) (h2 : b ≤ l.length) => show BrkFit _ _ from ⟨(fit_brk law hvv hk h1 h2).1, (fit_brk law hvv hk h1 h2).2⟩)
 obtain ⟨a1, c1, a2, c2, a3, c3, a4, c4, a5, c5⟩ := q
 have eav' : a3 = some av := eav
 subst eav'
 have V10 := Aside0.mk v10
 unfold PV.val at HLW HCP ⊢
 clear hg hq hr hl hc eav lC gC lB gB v0 v1 v2 v3 v4 v5 v6 v7 v8 v9 v10 law hv0 hv1 hvv
 generalize hn : (rdVehicle p.Vehicles vehicle).Breaks.length = n at *
 go_enter Try.func13, Try.ntmps13
 go_upto_region 5 with (first
  | (go_at_call 48; refine (awake13_any _).mono ?_; skip; rintro e w1 ⟨rfl, hb⟩; have HB1 := Aside0.mk hb; obtain ⟨qc1, qf1⟩ := bcell hb; have hs1 := hb.size; (try simp at hs1); (try have z01 : w.heap.size < w1.heap.size := (by omega)); (try have z11 : w.heap.size + 1 < w1.heap.size := (by omega)); (try have z21 : w.heap.size + 1 + 1 < w1.heap.size := (by omega)); (try have z31 : w.heap.size + 1 + 1 + 1 < w1.heap.size := (by omega)); (try have z41 : w.heap.size + 1 + 1 + 1 + 1 < w1.heap.size := (by omega)); clear hs1 hb; skip)
  | (go_at_call 29; refine (HLW.out _ clb).mono ?_; rw [dc]; rintro e w2 ⟨rfl, hb⟩; have HB2 := Aside0.mk hb; obtain ⟨qc2, qf2⟩ := bcell hb; have hs2 := hb.size; (try simp at hs2); (try have z02 : w.heap.size < w2.heap.size := (by omega)); (try have z12 : w.heap.size + 1 < w2.heap.size := (by omega)); (try have z22 : w.heap.size + 1 + 1 < w2.heap.size := (by omega)); (try have z32 : w.heap.size + 1 + 1 + 1 < w2.heap.size := (by omega)); (try have z42 : w.heap.size + 1 + 1 + 1 + 1 < w2.heap.size := (by omega)); clear hs2 hb; skip))
 refine gen_wp (fun W => Below w.heap.size w W ∧ W.heap[w.heap.size]? = some (.cells #[.int .i64 p.Dims, .int .i64 p.Time.N, .slice a1 p.Time.Cells.length c1, .int .i64 p.Dist.N, .slice a2 p.Dist.Cells.length c2, .slice (some av) p.Vehicles.length c3, .slice a4 p.Jobs.length c4, .slice a5 p.Shipments.length c5] 29 (0, 0)) ∧ W.heap[w.heap.size + 1]? = some (.cells #[.int .i64 i, .int .i64 k] 96 (0, 0))) ⟨clb, blk_below (blk_below (blk_alloc (blk_new _ _) _) HB1.out) HB2.out, blk_below (blk_below (blk_is (n := w.heap.size + 1) (by simp)) HB1.out) HB2.out⟩ (fun w3 H3 => ?_)
 clear qc1 qf1 qc2 qf2 HB1 HB2 z01 z11 z02 z12
 have hab := H3.out.2.2
 have t0 := blk_cell hab 0
 have t1 := blk_cell hab 1
 simp only [List.getElem?_toArray, List.getElem?_cons_succ, List.getElem?_cons_zero] at t0 t1
 have htw := blk_lt hab
 have e1 : IntKind.i64.wrap ((l.length : Int) + 1) = (l.length : Int) + 1 := IntWalk.i64_in _ (by omega)
 have e2 : IntKind.u64.wrap ((l.length : Int) + 1) = (l.length : Int) + 1 := IntWalk.u64_in _ (by omega)
 obtain ⟨i0, i1⟩ := mod_inz i ((l.length : Int) + 1) (by omega) (by omega)
 obtain ⟨k0, k1⟩ := mod_inz k ((l.length : Int) + 1) (by omega) (by omega)
 have hne : ((l.length : Int) + 1 == 0) = false := by simp; omega
 have hne2 : ((l.length : Int) + 1 = 0) = False := eq_false (by omega)
 clear hab
 go_quiet (fail)
 go_upto_region 6 with fail
 generalize wrap64 ((IntKind.u64.wrap i).tmod ((l.length : Int) + 1)) = I0 at *
 generalize wrap64 ((IntKind.u64.wrap k).tmod ((l.length : Int) + 1)) = K0 at *
 obtain ⟨I, rfl⟩ := Int.eq_ofNat_of_zero_le i0
 obtain ⟨K, rfl⟩ := Int.eq_ofNat_of_zero_le k0
 have hIl : I ≤ l.length := by omega
 have hKl : K ≤ l.length := by omega
 clear i0 i1 k0 k1
 go_upto_if 59 with fail
 have HB3 : Aside0 (Below w.heap.size w w3) := ⟨H3.out.1⟩
 have HPB3 : Aside0 (w3.heap[w.heap.size]? = some (.cells #[.int .i64 p.Dims, .int .i64 p.Time.N, .slice a1 p.Time.Cells.length c1, .int .i64 p.Dist.N, .slice a2 p.Dist.Cells.length c2, .slice (some av) p.Vehicles.length c3, .slice a4 p.Jobs.length c4, .slice a5 p.Shipments.length c5] 29 (0, 0))) := ⟨H3.out.2.1⟩
 clear t0 t1 htw e1 e2 hne hne2 H3
 go_cut [9, 10] (fun s9 s10 wx => ∃ I K : Nat, s9 = .int .i64 I ∧ s10 = .int .i64 K ∧ I ≤ K ∧ K ≤ l.length ∧ Aside0 (Below w3.heap.size w3 wx))
 case first =>
  by_cases hik : K < I
  ·have d5 : decide ((K : Int) < (I : Int)) = true := decide_eq_true (by omega)
   go_wp2_with fail
   go_meet
   exact ⟨K, I, rfl, rfl, by omega, by omega, ⟨chn⟩⟩
  ·have d5 : decide ((K : Int) < (I : Int)) = false := decide_eq_false (by omega)
   go_wp2_with fail
   go_meet
   exact ⟨I, K, rfl, rfl, by omega, by omega, ⟨chn⟩⟩
 case rest =>
  as_aux_lemma =>
  obtain ⟨I, K, rfl, rfl, hIK, hK, HBc⟩ := hcut
  have HBw : Aside0 (Below w.heap.size w wc) := ⟨below_to HB3.out HBc.out⟩
  have HPB : Aside0 (wc.heap[w.heap.size]? = some (.cells #[.int .i64 p.Dims, .int .i64 p.Time.N, .slice a1 p.Time.Cells.length c1, .int .i64 p.Dist.N, .slice a2 p.Dist.Cells.length c2, .slice (some av) p.Vehicles.length c3, .slice a4 p.Jobs.length c4, .slice a5 p.Shipments.length c5] 29 (0, 0))) := ⟨blk_below HPB3.out HBc.out⟩
  obtain ⟨wy, rfl⟩ : ∃ wy : World, wy = wc := ⟨_, rfl⟩
  clear hIl hKl HB3 HPB3 HBc
  go_wp2
  go_loopw [64] (fun vj wr => ∃ j : Nat, j ≤ l.length ∧ vj = .int .i64 j ∧ Aside0 (∀ x ∈ l.take j, x.Kind ≠ 4) ∧ Aside0 (Below wy.heap.size wy wr)) (fun vj _ => l.length - (intOf vj).toNat)
  case atStart => exact ⟨0, Nat.zero_le _, rfl, ⟨by simp⟩, ⟨Below.refl _ _⟩⟩
  case round =>
   obtain ⟨j, hj, rfl, HK, HW⟩ := hrel
   have HB0 : Aside0 (Below w.heap.size w wr) := ⟨below_to HBw.out HW.out⟩
   by_cases hlt : j < l.length
   ·
    obtain ⟨ad, ea, x0, x1⟩ := atNVisit (Kd.C_below HR.out HB0.out) j hlt
    subst ea
    have r0 : (0 : Int) ≤ (j : Int) := by omega
    have r1 : (j : Int) < (l.length : Int) := by omega
    by_cases k4 : l[j].Kind = 4
    ·have d4 : (l[j].Kind == 4) = true := by simp [k4]
     clear HK k4
     go_wp2
     go_ret
     exact ⟨rfl, below_alloc HB0.out _⟩
    ·have d4 : (l[j].Kind == 4) = false := by simp [k4]
     have hN : ∀ x ∈ l.take (j + 1), x.Kind ≠ 4 := by
      intro x hx
      rw [List.take_succ_eq_append_getElem hlt] at hx
      rcases List.mem_append.1 hx with hx | hx
      ·exact HK.out x hx
      ·rw [List.mem_singleton.1 hx]; exact k4
     have HN := Aside0.mk hN
     clear hN k4 HK
     go_wp2
     go_roundw
     case rel => exact ⟨j + 1, by omega, by go_num, HN, ⟨below_alloc HW.out _⟩⟩
     case measure => simp [intOf]; omega
   ·
    as_aux_lemma =>
    obtain rfl : j = l.length := by omega
    have hbf := HBF.out (by have := HK.out; rw [List.take_length] at this; exact this) I K hIK hK
    have hatl : (([(I : Int), (K : Int)] : List Int).take n).length = n := by simp; omega
    have hsln : (setP l (([(I : Int), (K : Int)] : List Int).take n) 0 0).length ≤ 200 := by have := setP_len l (([(I : Int), (K : Int)] : List Int).take n) 0 0; omega
    have HST := Aside0.mk (fun (A' : Option Addr) (c' g : Nat) W (hC : Kd.C kVisit W A' l.length l) (hb : W.heap[g]? = some (.cells #[.int .i64 I, .int .i64 K] 3 (0, 0))) => by
     have h := planSet_any l (([(I : Int), (K : Int)] : List Int).take n) A' (some ⟨g, 0, none⟩) c' 2 W hC (by rw [hatl]; exact C_takeB (C_twoB hb) n (by omega)) (by omega) (by omega)
     rw [hatl] at h
     exact h)
    have HOF := Aside0.mk (fun (q' : PV) (A' : Option Addr) (c' : Nat) W hq' hC => HPO.out q' (setP l (([(I : Int), (K : Int)] : List Int).take n) 0 0) A' c' W hq' hC hsln)
    generalize setP l (([(I : Int), (K : Int)] : List Int).take n) 0 0 = S at *
    have HBF2 := Aside0.mk hbf
    clear hbf hatl hsln HBF HPO HK
    generalize ofS p vehicle S = r1 at *
    generalize fitS p vehicle l = r2 at *
    have hpb := HPB.out
    have hpb2 := blk_below hpb HW.out
    obtain ⟨p0, p1, p2, p3, p4, p5, p6, p7⟩ := cells8 hpb2; have hpw := blk_lt hpb2
    have y10 := pw_cell_below HB0.out V10.out
    have n0 : (0 : Int) ≤ (n : Int) := by omega
    have n2 : (n : Int) ≤ 2 := by omega
    clear hpb hpb2
    go_upto_region 15 with fail
    obtain ⟨wS, rfl⟩ : ∃ wS : World, wS = wr := ⟨_, rfl⟩
    have HBS := HB0
    clear y10 HB0
    go_cut [14, 15] (fun s14 s15 wx => ∃ b A7 k7, s14 = .pointer (some ⟨b, 0, none⟩) ∧ s15 = .int .i64 r1.2 ∧ Aside0 (wx.heap[b]? = some (.cells #[.int .i64 r1.1.Vehicle, .slice A7 r1.1.Steps.length k7, .int .i64 r1.1.Time, .int .i64 r1.1.Dist, .int .i64 r1.1.Wait, .int .i64 r1.1.Service, .int .i64 r1.1.Cost] 74 (0, 0))) ∧ Aside0 (Below wS.heap.size wS wx))
    case first =>
     as_aux_lemma =>
     clear HBF2 HPF HLW V10 HPB dc d1 d2 d3 hIK hK hbrl hi0 hi1
     refine wp_region_held_drew (S := fun W' => Below wS.heap.size wS W' ∧ ∀ a : Addr, a.block < wS.heap.size → W'.cell? a = wS.cell? a) (by kernel_rfl) (hl_start _) (fun hHeld => ?_)
     refine (show wpAnyH _ _ _ _ _ 18 (Array.replicate 18 false) _ _ from ?_)
     refine tk 0 (h := ?_)
     refine tk 2 (h := ?_)
     refine tk 3 (h := ?_)
     refine tk 5 (h := ?_)
     refine tk 6 (h := ?_)
     refine tk 8 (h := ?_)
     refine wpAnyH_ready (rs := [1, 7, 15]) (by kernel_rfl) (by simp) ?_
     refine rcn (fun K hK => ?_) (rcn (fun K hK => ?_) (rcn (fun K hK => ?_) AllReadyH.nil))
     ·go_simp
      refine (HCP.out _ (below_to HBS.out (And.left (show Below wS.heap.size wS _ ∧ _ from by assumption)))).mono ?_; rintro e w4 ⟨o, rfl, hown, hb4⟩; obtain ⟨qc4, qf4⟩ := bcell hb4; have HOK := Aside0.mk (hown.ok HL.out.toLens); clear hown; have hs4 := hb4.size; (try simp at hs4); dsimp only
      clear hHeld
      refine hko hK _ _ _ (hl_of chn) (fun hHeld => ?_)
      clear hK K
      refine wpAnyH_ready (rs := [4, 7, 15]) (by kernel_rfl) (by simp) ?_
      refine rcn (fun K hK => ?_) (rcn (fun K hK => ?_) (rcn (fun K hK => ?_) AllReadyH.nil))
      ·go_simp
       refine (HCL.out _ (below_to HBS.out (And.left (show Below wS.heap.size wS _ ∧ _ from by assumption)))).mono ?_; rintro e w5 ⟨A5, k5, rfl, hle5, hC5, hb5⟩; obtain ⟨qc5, qf5⟩ := bcell hb5; have hs5 := hb5.size; (try simp at hs5); dsimp only
       clear hHeld
       refine hko hK _ _ _ (hl_of chn) (fun hHeld => ?_)
       clear hK K
       refine wpAnyH_ready (rs := [7, 15]) (by kernel_rfl) (by simp) ?_
       refine rcn (fun K hK => ?_) (rcn (fun K hK => ?_) AllReadyH.nil)
       ·go_simp
        skip
        clear hHeld
        refine hko hK _ _ _ (hl_of chn) (fun hHeld => ?_)
        clear hK K
        refine tk 9 (h := ?_)
        refine wpAnyH_ready (rs := [10, 15]) (by kernel_rfl) (by simp) ?_
        refine rcn (fun K hK => ?_) (rcn (fun K hK => ?_) AllReadyH.nil)
        ·go_simp
         refine (HST.out A5 k5 _ _ (Kd.C_below hC5 chn) (by repeat (first | exact blk_new _ _ | exact blk_is (by simp) | refine blk_alloc ?_ _ | refine blk_below ?_ (by assumption)))).mono ?_; rintro e w6 ⟨A6, k6, rfl, hle6, hC6, hb6⟩; obtain ⟨qc6, qf6⟩ := bcell hb6; have hs6 := hb6.size; (try simp at hs6); dsimp only
         clear hHeld
         refine hko hK _ _ _ (hl_of chn) (fun hHeld => ?_)
         clear hK K
         refine wpAnyH_ready (rs := [11, 15]) (by kernel_rfl) (by simp) ?_
         refine rcn (fun K hK => ?_) (rcn (fun K hK => ?_) AllReadyH.nil)
         ·go_simp
          refine (HOF.out o.pv A6 k6 _ (HOK.out.below chn) (Kd.C_below hC6 chn)).mono ?_; rintro e w7 ⟨A7, k7, rfl, hle7, hF7, hb7⟩; have hs7 := hb7.size; (try simp at hs7); dsimp only
          clear hHeld
          refine hko hK _ _ _ (hl_of chn) (fun hHeld => ?_)
          clear hK K
          refine tk 12 (h := ?_)
          refine tk 13 (h := ?_)
          refine tk 14 (h := ?_)
          refine wpAnyH_ready (rs := [15]) (by kernel_rfl) (by simp) ?_
          refine rcn (fun K hK => ?_) AllReadyH.nil
          go_simp
          skip
          clear hHeld
          refine hko hK _ _ _ (hl_of chn) (fun hHeld => ?_)
          clear hK K
          refine wpAnyH_ready (rs := [16]) (by kernel_rfl) (by simp) ?_
          refine rcn (fun K hK => ?_) AllReadyH.nil
          go_simp
          skip
          clear hHeld
          refine hko hK _ _ _ (hl_of chn) (fun hHeld => ?_)
          clear hK K
          refine tk 17 (h := ?_)
          refine wpAnyH_done (by kernel_rfl) ?_ _
          go_wp2_with fail
          go_meet
          exact ⟨_, A7, k7, rfl, rfl, ⟨blk_new _ _⟩, ⟨(And.left (show Below wS.heap.size wS _ ∧ _ from by assumption))⟩⟩
         ·go_simp
          skip
          clear hHeld
          refine hko hK _ _ _ (hl_of chn) (fun hHeld => ?_)
          clear hK K
          refine wpAnyH_ready (rs := [11]) (by kernel_rfl) (by simp) ?_
          refine rcn (fun K hK => ?_) AllReadyH.nil
          go_simp
          refine (HOF.out o.pv A6 k6 _ (HOK.out.below chn) (Kd.C_below hC6 chn)).mono ?_; rintro e w7 ⟨A7, k7, rfl, hle7, hF7, hb7⟩; have hs7 := hb7.size; (try simp at hs7); dsimp only
          clear hHeld
          refine hko hK _ _ _ (hl_of chn) (fun hHeld => ?_)
          clear hK K
          refine tk 12 (h := ?_)
          refine tk 13 (h := ?_)
          refine tk 14 (h := ?_)
          refine wpAnyH_ready (rs := [16]) (by kernel_rfl) (by simp) ?_
          refine rcn (fun K hK => ?_) AllReadyH.nil
          refine wp_store7 rfl rfl rfl (by repeat (first | exact blk_new _ _ | exact blk_is (by simp) | refine blk_alloc ?_ _ | refine blk_below ?_ (by assumption))) ?_
          clear hHeld
          refine hko hK _ _ _ (hl_of chn) (fun hHeld => ?_)
          clear hK K
          refine tk 17 (h := ?_)
          refine wpAnyH_done (by kernel_rfl) ?_ _
          go_wp2_with fail
          go_meet
          exact ⟨_, A7, k7, rfl, rfl, ⟨blk_set7 (by repeat (first | exact blk_new _ _ | exact blk_is (by simp) | refine blk_alloc ?_ _ | refine blk_below ?_ (by assumption))) _ _ _ _ _ _ _⟩, ⟨(And.left (show Below wS.heap.size wS _ ∧ _ from by assumption))⟩⟩
        ·go_simp
         skip
         clear hHeld
         refine hko hK _ _ _ (hl_of chn) (fun hHeld => ?_)
         clear hK K
         refine wpAnyH_ready (rs := [10]) (by kernel_rfl) (by simp) ?_
         refine rcn (fun K hK => ?_) AllReadyH.nil
         go_simp
         refine (HST.out A5 k5 _ _ (Kd.C_below hC5 chn) (by repeat (first | exact blk_new _ _ | exact blk_is (by simp) | refine blk_alloc ?_ _ | refine blk_below ?_ (by assumption)))).mono ?_; rintro e w6 ⟨A6, k6, rfl, hle6, hC6, hb6⟩; obtain ⟨qc6, qf6⟩ := bcell hb6; have hs6 := hb6.size; (try simp at hs6); dsimp only
         clear hHeld
         refine hko hK _ _ _ (hl_of chn) (fun hHeld => ?_)
         clear hK K
         refine wpAnyH_ready (rs := [11]) (by kernel_rfl) (by simp) ?_
         refine rcn (fun K hK => ?_) AllReadyH.nil
         go_simp
         refine (HOF.out o.pv A6 k6 _ (HOK.out.below chn) (Kd.C_below hC6 chn)).mono ?_; rintro e w7 ⟨A7, k7, rfl, hle7, hF7, hb7⟩; have hs7 := hb7.size; (try simp at hs7); dsimp only
         clear hHeld
         refine hko hK _ _ _ (hl_of chn) (fun hHeld => ?_)
         clear hK K
         refine tk 12 (h := ?_)
         refine tk 13 (h := ?_)
         refine tk 14 (h := ?_)
         refine wpAnyH_ready (rs := [16]) (by kernel_rfl) (by simp) ?_
         refine rcn (fun K hK => ?_) AllReadyH.nil
         refine wp_store7 rfl rfl rfl (by repeat (first | exact blk_new _ _ | exact blk_is (by simp) | refine blk_alloc ?_ _ | refine blk_below ?_ (by assumption))) ?_
         clear hHeld
         refine hko hK _ _ _ (hl_of chn) (fun hHeld => ?_)
         clear hK K
         refine tk 17 (h := ?_)
         refine wpAnyH_done (by kernel_rfl) ?_ _
         go_wp2_with fail
         go_meet
         exact ⟨_, A7, k7, rfl, rfl, ⟨blk_set7 (by repeat (first | exact blk_new _ _ | exact blk_is (by simp) | refine blk_alloc ?_ _ | refine blk_below ?_ (by assumption))) _ _ _ _ _ _ _⟩, ⟨(And.left (show Below wS.heap.size wS _ ∧ _ from by assumption))⟩⟩
       ·go_simp
        skip
        clear hHeld
        refine hko hK _ _ _ (hl_of chn) (fun hHeld => ?_)
        clear hK K
        refine wpAnyH_ready (rs := [7]) (by kernel_rfl) (by simp) ?_
        refine rcn (fun K hK => ?_) AllReadyH.nil
        go_simp
        skip
        clear hHeld
        refine hko hK _ _ _ (hl_of chn) (fun hHeld => ?_)
        clear hK K
        refine tk 9 (h := ?_)
        refine wpAnyH_ready (rs := [10]) (by kernel_rfl) (by simp) ?_
        refine rcn (fun K hK => ?_) AllReadyH.nil
        go_simp
        refine (HST.out A5 k5 _ _ (Kd.C_below hC5 chn) (by repeat (first | exact blk_new _ _ | exact blk_is (by simp) | refine blk_alloc ?_ _ | refine blk_below ?_ (by assumption)))).mono ?_; rintro e w6 ⟨A6, k6, rfl, hle6, hC6, hb6⟩; obtain ⟨qc6, qf6⟩ := bcell hb6; have hs6 := hb6.size; (try simp at hs6); dsimp only
        clear hHeld
        refine hko hK _ _ _ (hl_of chn) (fun hHeld => ?_)
        clear hK K
        refine wpAnyH_ready (rs := [11]) (by kernel_rfl) (by simp) ?_
        refine rcn (fun K hK => ?_) AllReadyH.nil
        go_simp
        refine (HOF.out o.pv A6 k6 _ (HOK.out.below chn) (Kd.C_below hC6 chn)).mono ?_; rintro e w7 ⟨A7, k7, rfl, hle7, hF7, hb7⟩; have hs7 := hb7.size; (try simp at hs7); dsimp only
        clear hHeld
        refine hko hK _ _ _ (hl_of chn) (fun hHeld => ?_)
        clear hK K
        refine tk 12 (h := ?_)
        refine tk 13 (h := ?_)
        refine tk 14 (h := ?_)
        refine wpAnyH_ready (rs := [16]) (by kernel_rfl) (by simp) ?_
        refine rcn (fun K hK => ?_) AllReadyH.nil
        refine wp_store7 rfl rfl rfl (by repeat (first | exact blk_new _ _ | exact blk_is (by simp) | refine blk_alloc ?_ _ | refine blk_below ?_ (by assumption))) ?_
        clear hHeld
        refine hko hK _ _ _ (hl_of chn) (fun hHeld => ?_)
        clear hK K
        refine tk 17 (h := ?_)
        refine wpAnyH_done (by kernel_rfl) ?_ _
        go_wp2_with fail
        go_meet
        exact ⟨_, A7, k7, rfl, rfl, ⟨blk_set7 (by repeat (first | exact blk_new _ _ | exact blk_is (by simp) | refine blk_alloc ?_ _ | refine blk_below ?_ (by assumption))) _ _ _ _ _ _ _⟩, ⟨(And.left (show Below wS.heap.size wS _ ∧ _ from by assumption))⟩⟩
      ·go_simp
       skip
       clear hHeld
       refine hko hK _ _ _ (hl_of chn) (fun hHeld => ?_)
       clear hK K
       refine tk 9 (h := ?_)
       refine wpAnyH_ready (rs := [4, 15]) (by kernel_rfl) (by simp) ?_
       refine rcn (fun K hK => ?_) (rcn (fun K hK => ?_) AllReadyH.nil)
       ·go_simp
        refine (HCL.out _ (below_to HBS.out (And.left (show Below wS.heap.size wS _ ∧ _ from by assumption)))).mono ?_; rintro e w5 ⟨A5, k5, rfl, hle5, hC5, hb5⟩; obtain ⟨qc5, qf5⟩ := bcell hb5; have hs5 := hb5.size; (try simp at hs5); dsimp only
        clear hHeld
        refine hko hK _ _ _ (hl_of chn) (fun hHeld => ?_)
        clear hK K
        refine wpAnyH_ready (rs := [10, 15]) (by kernel_rfl) (by simp) ?_
        refine rcn (fun K hK => ?_) (rcn (fun K hK => ?_) AllReadyH.nil)
        ·go_simp
         refine (HST.out A5 k5 _ _ (Kd.C_below hC5 chn) (by repeat (first | exact blk_new _ _ | exact blk_is (by simp) | refine blk_alloc ?_ _ | refine blk_below ?_ (by assumption)))).mono ?_; rintro e w6 ⟨A6, k6, rfl, hle6, hC6, hb6⟩; obtain ⟨qc6, qf6⟩ := bcell hb6; have hs6 := hb6.size; (try simp at hs6); dsimp only
         clear hHeld
         refine hko hK _ _ _ (hl_of chn) (fun hHeld => ?_)
         clear hK K
         refine wpAnyH_ready (rs := [11, 15]) (by kernel_rfl) (by simp) ?_
         refine rcn (fun K hK => ?_) (rcn (fun K hK => ?_) AllReadyH.nil)
         ·go_simp
          refine (HOF.out o.pv A6 k6 _ (HOK.out.below chn) (Kd.C_below hC6 chn)).mono ?_; rintro e w7 ⟨A7, k7, rfl, hle7, hF7, hb7⟩; have hs7 := hb7.size; (try simp at hs7); dsimp only
          clear hHeld
          refine hko hK _ _ _ (hl_of chn) (fun hHeld => ?_)
          clear hK K
          refine tk 12 (h := ?_)
          refine tk 13 (h := ?_)
          refine tk 14 (h := ?_)
          refine wpAnyH_ready (rs := [15]) (by kernel_rfl) (by simp) ?_
          refine rcn (fun K hK => ?_) AllReadyH.nil
          go_simp
          skip
          clear hHeld
          refine hko hK _ _ _ (hl_of chn) (fun hHeld => ?_)
          clear hK K
          refine wpAnyH_ready (rs := [16]) (by kernel_rfl) (by simp) ?_
          refine rcn (fun K hK => ?_) AllReadyH.nil
          go_simp
          skip
          clear hHeld
          refine hko hK _ _ _ (hl_of chn) (fun hHeld => ?_)
          clear hK K
          refine tk 17 (h := ?_)
          refine wpAnyH_done (by kernel_rfl) ?_ _
          go_wp2_with fail
          go_meet
          exact ⟨_, A7, k7, rfl, rfl, ⟨blk_new _ _⟩, ⟨(And.left (show Below wS.heap.size wS _ ∧ _ from by assumption))⟩⟩
         ·go_simp
          skip
          clear hHeld
          refine hko hK _ _ _ (hl_of chn) (fun hHeld => ?_)
          clear hK K
          refine wpAnyH_ready (rs := [11]) (by kernel_rfl) (by simp) ?_
          refine rcn (fun K hK => ?_) AllReadyH.nil
          go_simp
          refine (HOF.out o.pv A6 k6 _ (HOK.out.below chn) (Kd.C_below hC6 chn)).mono ?_; rintro e w7 ⟨A7, k7, rfl, hle7, hF7, hb7⟩; have hs7 := hb7.size; (try simp at hs7); dsimp only
          clear hHeld
          refine hko hK _ _ _ (hl_of chn) (fun hHeld => ?_)
          clear hK K
          refine tk 12 (h := ?_)
          refine tk 13 (h := ?_)
          refine tk 14 (h := ?_)
          refine wpAnyH_ready (rs := [16]) (by kernel_rfl) (by simp) ?_
          refine rcn (fun K hK => ?_) AllReadyH.nil
          refine wp_store7 rfl rfl rfl (by repeat (first | exact blk_new _ _ | exact blk_is (by simp) | refine blk_alloc ?_ _ | refine blk_below ?_ (by assumption))) ?_
          clear hHeld
          refine hko hK _ _ _ (hl_of chn) (fun hHeld => ?_)
          clear hK K
          refine tk 17 (h := ?_)
          refine wpAnyH_done (by kernel_rfl) ?_ _
          go_wp2_with fail
          go_meet
          exact ⟨_, A7, k7, rfl, rfl, ⟨blk_set7 (by repeat (first | exact blk_new _ _ | exact blk_is (by simp) | refine blk_alloc ?_ _ | refine blk_below ?_ (by assumption))) _ _ _ _ _ _ _⟩, ⟨(And.left (show Below wS.heap.size wS _ ∧ _ from by assumption))⟩⟩
        ·go_simp
         skip
         clear hHeld
         refine hko hK _ _ _ (hl_of chn) (fun hHeld => ?_)
         clear hK K
         refine wpAnyH_ready (rs := [10]) (by kernel_rfl) (by simp) ?_
         refine rcn (fun K hK => ?_) AllReadyH.nil
         go_simp
         refine (HST.out A5 k5 _ _ (Kd.C_below hC5 chn) (by repeat (first | exact blk_new _ _ | exact blk_is (by simp) | refine blk_alloc ?_ _ | refine blk_below ?_ (by assumption)))).mono ?_; rintro e w6 ⟨A6, k6, rfl, hle6, hC6, hb6⟩; obtain ⟨qc6, qf6⟩ := bcell hb6; have hs6 := hb6.size; (try simp at hs6); dsimp only
         clear hHeld
         refine hko hK _ _ _ (hl_of chn) (fun hHeld => ?_)
         clear hK K
         refine wpAnyH_ready (rs := [11]) (by kernel_rfl) (by simp) ?_
         refine rcn (fun K hK => ?_) AllReadyH.nil
         go_simp
         refine (HOF.out o.pv A6 k6 _ (HOK.out.below chn) (Kd.C_below hC6 chn)).mono ?_; rintro e w7 ⟨A7, k7, rfl, hle7, hF7, hb7⟩; have hs7 := hb7.size; (try simp at hs7); dsimp only
         clear hHeld
         refine hko hK _ _ _ (hl_of chn) (fun hHeld => ?_)
         clear hK K
         refine tk 12 (h := ?_)
         refine tk 13 (h := ?_)
         refine tk 14 (h := ?_)
         refine wpAnyH_ready (rs := [16]) (by kernel_rfl) (by simp) ?_
         refine rcn (fun K hK => ?_) AllReadyH.nil
         refine wp_store7 rfl rfl rfl (by repeat (first | exact blk_new _ _ | exact blk_is (by simp) | refine blk_alloc ?_ _ | refine blk_below ?_ (by assumption))) ?_
         clear hHeld
         refine hko hK _ _ _ (hl_of chn) (fun hHeld => ?_)
         clear hK K
         refine tk 17 (h := ?_)
         refine wpAnyH_done (by kernel_rfl) ?_ _
         go_wp2_with fail
         go_meet
         exact ⟨_, A7, k7, rfl, rfl, ⟨blk_set7 (by repeat (first | exact blk_new _ _ | exact blk_is (by simp) | refine blk_alloc ?_ _ | refine blk_below ?_ (by assumption))) _ _ _ _ _ _ _⟩, ⟨(And.left (show Below wS.heap.size wS _ ∧ _ from by assumption))⟩⟩
       ·go_simp
        skip
        clear hHeld
        refine hko hK _ _ _ (hl_of chn) (fun hHeld => ?_)
        clear hK K
        refine wpAnyH_ready (rs := [4]) (by kernel_rfl) (by simp) ?_
        refine rcn (fun K hK => ?_) AllReadyH.nil
        go_simp
        refine (HCL.out _ (below_to HBS.out (And.left (show Below wS.heap.size wS _ ∧ _ from by assumption)))).mono ?_; rintro e w5 ⟨A5, k5, rfl, hle5, hC5, hb5⟩; obtain ⟨qc5, qf5⟩ := bcell hb5; have hs5 := hb5.size; (try simp at hs5); dsimp only
        clear hHeld
        refine hko hK _ _ _ (hl_of chn) (fun hHeld => ?_)
        clear hK K
        refine wpAnyH_ready (rs := [10]) (by kernel_rfl) (by simp) ?_
        refine rcn (fun K hK => ?_) AllReadyH.nil
        go_simp
        refine (HST.out A5 k5 _ _ (Kd.C_below hC5 chn) (by repeat (first | exact blk_new _ _ | exact blk_is (by simp) | refine blk_alloc ?_ _ | refine blk_below ?_ (by assumption)))).mono ?_; rintro e w6 ⟨A6, k6, rfl, hle6, hC6, hb6⟩; obtain ⟨qc6, qf6⟩ := bcell hb6; have hs6 := hb6.size; (try simp at hs6); dsimp only
        clear hHeld
        refine hko hK _ _ _ (hl_of chn) (fun hHeld => ?_)
        clear hK K
        refine wpAnyH_ready (rs := [11]) (by kernel_rfl) (by simp) ?_
        refine rcn (fun K hK => ?_) AllReadyH.nil
        go_simp
        refine (HOF.out o.pv A6 k6 _ (HOK.out.below chn) (Kd.C_below hC6 chn)).mono ?_; rintro e w7 ⟨A7, k7, rfl, hle7, hF7, hb7⟩; have hs7 := hb7.size; (try simp at hs7); dsimp only
        clear hHeld
        refine hko hK _ _ _ (hl_of chn) (fun hHeld => ?_)
        clear hK K
        refine tk 12 (h := ?_)
        refine tk 13 (h := ?_)
        refine tk 14 (h := ?_)
        refine wpAnyH_ready (rs := [16]) (by kernel_rfl) (by simp) ?_
        refine rcn (fun K hK => ?_) AllReadyH.nil
        refine wp_store7 rfl rfl rfl (by repeat (first | exact blk_new _ _ | exact blk_is (by simp) | refine blk_alloc ?_ _ | refine blk_below ?_ (by assumption))) ?_
        clear hHeld
        refine hko hK _ _ _ (hl_of chn) (fun hHeld => ?_)
        clear hK K
        refine tk 17 (h := ?_)
        refine wpAnyH_done (by kernel_rfl) ?_ _
        go_wp2_with fail
        go_meet
        exact ⟨_, A7, k7, rfl, rfl, ⟨blk_set7 (by repeat (first | exact blk_new _ _ | exact blk_is (by simp) | refine blk_alloc ?_ _ | refine blk_below ?_ (by assumption))) _ _ _ _ _ _ _⟩, ⟨(And.left (show Below wS.heap.size wS _ ∧ _ from by assumption))⟩⟩
      ·go_simp
       skip
       clear hHeld
       refine hko hK _ _ _ (hl_of chn) (fun hHeld => ?_)
       clear hK K
       refine wpAnyH_ready (rs := [4, 7]) (by kernel_rfl) (by simp) ?_
       refine rcn (fun K hK => ?_) (rcn (fun K hK => ?_) AllReadyH.nil)
       ·go_simp
        refine (HCL.out _ (below_to HBS.out (And.left (show Below wS.heap.size wS _ ∧ _ from by assumption)))).mono ?_; rintro e w5 ⟨A5, k5, rfl, hle5, hC5, hb5⟩; obtain ⟨qc5, qf5⟩ := bcell hb5; have hs5 := hb5.size; (try simp at hs5); dsimp only
        clear hHeld
        refine hko hK _ _ _ (hl_of chn) (fun hHeld => ?_)
        clear hK K
        refine wpAnyH_ready (rs := [7]) (by kernel_rfl) (by simp) ?_
        refine rcn (fun K hK => ?_) AllReadyH.nil
        go_simp
        skip
        clear hHeld
        refine hko hK _ _ _ (hl_of chn) (fun hHeld => ?_)
        clear hK K
        refine tk 9 (h := ?_)
        refine wpAnyH_ready (rs := [10]) (by kernel_rfl) (by simp) ?_
        refine rcn (fun K hK => ?_) AllReadyH.nil
        go_simp
        refine (HST.out A5 k5 _ _ (Kd.C_below hC5 chn) (by repeat (first | exact blk_new _ _ | exact blk_is (by simp) | refine blk_alloc ?_ _ | refine blk_below ?_ (by assumption)))).mono ?_; rintro e w6 ⟨A6, k6, rfl, hle6, hC6, hb6⟩; obtain ⟨qc6, qf6⟩ := bcell hb6; have hs6 := hb6.size; (try simp at hs6); dsimp only
        clear hHeld
        refine hko hK _ _ _ (hl_of chn) (fun hHeld => ?_)
        clear hK K
        refine wpAnyH_ready (rs := [11]) (by kernel_rfl) (by simp) ?_
        refine rcn (fun K hK => ?_) AllReadyH.nil
        go_simp
        refine (HOF.out o.pv A6 k6 _ (HOK.out.below chn) (Kd.C_below hC6 chn)).mono ?_; rintro e w7 ⟨A7, k7, rfl, hle7, hF7, hb7⟩; have hs7 := hb7.size; (try simp at hs7); dsimp only
        clear hHeld
        refine hko hK _ _ _ (hl_of chn) (fun hHeld => ?_)
        clear hK K
        refine tk 12 (h := ?_)
        refine tk 13 (h := ?_)
        refine tk 14 (h := ?_)
        refine wpAnyH_ready (rs := [16]) (by kernel_rfl) (by simp) ?_
        refine rcn (fun K hK => ?_) AllReadyH.nil
        refine wp_store7 rfl rfl rfl (by repeat (first | exact blk_new _ _ | exact blk_is (by simp) | refine blk_alloc ?_ _ | refine blk_below ?_ (by assumption))) ?_
        clear hHeld
        refine hko hK _ _ _ (hl_of chn) (fun hHeld => ?_)
        clear hK K
        refine tk 17 (h := ?_)
        refine wpAnyH_done (by kernel_rfl) ?_ _
        go_wp2_with fail
        go_meet
        exact ⟨_, A7, k7, rfl, rfl, ⟨blk_set7 (by repeat (first | exact blk_new _ _ | exact blk_is (by simp) | refine blk_alloc ?_ _ | refine blk_below ?_ (by assumption))) _ _ _ _ _ _ _⟩, ⟨(And.left (show Below wS.heap.size wS _ ∧ _ from by assumption))⟩⟩
       ·go_simp
        skip
        clear hHeld
        refine hko hK _ _ _ (hl_of chn) (fun hHeld => ?_)
        clear hK K
        refine tk 9 (h := ?_)
        refine wpAnyH_ready (rs := [4]) (by kernel_rfl) (by simp) ?_
        refine rcn (fun K hK => ?_) AllReadyH.nil
        go_simp
        refine (HCL.out _ (below_to HBS.out (And.left (show Below wS.heap.size wS _ ∧ _ from by assumption)))).mono ?_; rintro e w5 ⟨A5, k5, rfl, hle5, hC5, hb5⟩; obtain ⟨qc5, qf5⟩ := bcell hb5; have hs5 := hb5.size; (try simp at hs5); dsimp only
        clear hHeld
        refine hko hK _ _ _ (hl_of chn) (fun hHeld => ?_)
        clear hK K
        refine wpAnyH_ready (rs := [10]) (by kernel_rfl) (by simp) ?_
        refine rcn (fun K hK => ?_) AllReadyH.nil
        go_simp
        refine (HST.out A5 k5 _ _ (Kd.C_below hC5 chn) (by repeat (first | exact blk_new _ _ | exact blk_is (by simp) | refine blk_alloc ?_ _ | refine blk_below ?_ (by assumption)))).mono ?_; rintro e w6 ⟨A6, k6, rfl, hle6, hC6, hb6⟩; obtain ⟨qc6, qf6⟩ := bcell hb6; have hs6 := hb6.size; (try simp at hs6); dsimp only
        clear hHeld
        refine hko hK _ _ _ (hl_of chn) (fun hHeld => ?_)
        clear hK K
        refine wpAnyH_ready (rs := [11]) (by kernel_rfl) (by simp) ?_
        refine rcn (fun K hK => ?_) AllReadyH.nil
        go_simp
        refine (HOF.out o.pv A6 k6 _ (HOK.out.below chn) (Kd.C_below hC6 chn)).mono ?_; rintro e w7 ⟨A7, k7, rfl, hle7, hF7, hb7⟩; have hs7 := hb7.size; (try simp at hs7); dsimp only
        clear hHeld
        refine hko hK _ _ _ (hl_of chn) (fun hHeld => ?_)
        clear hK K
        refine tk 12 (h := ?_)
        refine tk 13 (h := ?_)
        refine tk 14 (h := ?_)
        refine wpAnyH_ready (rs := [16]) (by kernel_rfl) (by simp) ?_
        refine rcn (fun K hK => ?_) AllReadyH.nil
        refine wp_store7 rfl rfl rfl (by repeat (first | exact blk_new _ _ | exact blk_is (by simp) | refine blk_alloc ?_ _ | refine blk_below ?_ (by assumption))) ?_
        clear hHeld
        refine hko hK _ _ _ (hl_of chn) (fun hHeld => ?_)
        clear hK K
        refine tk 17 (h := ?_)
        refine wpAnyH_done (by kernel_rfl) ?_ _
        go_wp2_with fail
        go_meet
        exact ⟨_, A7, k7, rfl, rfl, ⟨blk_set7 (by repeat (first | exact blk_new _ _ | exact blk_is (by simp) | refine blk_alloc ?_ _ | refine blk_below ?_ (by assumption))) _ _ _ _ _ _ _⟩, ⟨(And.left (show Below wS.heap.size wS _ ∧ _ from by assumption))⟩⟩
     ·go_simp
      skip
      clear hHeld
      refine hko hK _ _ _ (hl_of chn) (fun hHeld => ?_)
      clear hK K
      refine tk 9 (h := ?_)
      refine wpAnyH_ready (rs := [1, 15]) (by kernel_rfl) (by simp) ?_
      refine rcn (fun K hK => ?_) (rcn (fun K hK => ?_) AllReadyH.nil)
      ·go_simp
       refine (HCP.out _ (below_to HBS.out (And.left (show Below wS.heap.size wS _ ∧ _ from by assumption)))).mono ?_; rintro e w4 ⟨o, rfl, hown, hb4⟩; obtain ⟨qc4, qf4⟩ := bcell hb4; have HOK := Aside0.mk (hown.ok HL.out.toLens); clear hown; have hs4 := hb4.size; (try simp at hs4); dsimp only
       clear hHeld
       refine hko hK _ _ _ (hl_of chn) (fun hHeld => ?_)
       clear hK K
       refine wpAnyH_ready (rs := [4, 15]) (by kernel_rfl) (by simp) ?_
       refine rcn (fun K hK => ?_) (rcn (fun K hK => ?_) AllReadyH.nil)
       ·go_simp
        refine (HCL.out _ (below_to HBS.out (And.left (show Below wS.heap.size wS _ ∧ _ from by assumption)))).mono ?_; rintro e w5 ⟨A5, k5, rfl, hle5, hC5, hb5⟩; obtain ⟨qc5, qf5⟩ := bcell hb5; have hs5 := hb5.size; (try simp at hs5); dsimp only
        clear hHeld
        refine hko hK _ _ _ (hl_of chn) (fun hHeld => ?_)
        clear hK K
        refine wpAnyH_ready (rs := [10, 15]) (by kernel_rfl) (by simp) ?_
        refine rcn (fun K hK => ?_) (rcn (fun K hK => ?_) AllReadyH.nil)
        ·go_simp
         refine (HST.out A5 k5 _ _ (Kd.C_below hC5 chn) (by repeat (first | exact blk_new _ _ | exact blk_is (by simp) | refine blk_alloc ?_ _ | refine blk_below ?_ (by assumption)))).mono ?_; rintro e w6 ⟨A6, k6, rfl, hle6, hC6, hb6⟩; obtain ⟨qc6, qf6⟩ := bcell hb6; have hs6 := hb6.size; (try simp at hs6); dsimp only
         clear hHeld
         refine hko hK _ _ _ (hl_of chn) (fun hHeld => ?_)
         clear hK K
         refine wpAnyH_ready (rs := [11, 15]) (by kernel_rfl) (by simp) ?_
         refine rcn (fun K hK => ?_) (rcn (fun K hK => ?_) AllReadyH.nil)
         ·go_simp
          refine (HOF.out o.pv A6 k6 _ (HOK.out.below chn) (Kd.C_below hC6 chn)).mono ?_; rintro e w7 ⟨A7, k7, rfl, hle7, hF7, hb7⟩; have hs7 := hb7.size; (try simp at hs7); dsimp only
          clear hHeld
          refine hko hK _ _ _ (hl_of chn) (fun hHeld => ?_)
          clear hK K
          refine tk 12 (h := ?_)
          refine tk 13 (h := ?_)
          refine tk 14 (h := ?_)
          refine wpAnyH_ready (rs := [15]) (by kernel_rfl) (by simp) ?_
          refine rcn (fun K hK => ?_) AllReadyH.nil
          go_simp
          skip
          clear hHeld
          refine hko hK _ _ _ (hl_of chn) (fun hHeld => ?_)
          clear hK K
          refine wpAnyH_ready (rs := [16]) (by kernel_rfl) (by simp) ?_
          refine rcn (fun K hK => ?_) AllReadyH.nil
          go_simp
          skip
          clear hHeld
          refine hko hK _ _ _ (hl_of chn) (fun hHeld => ?_)
          clear hK K
          refine tk 17 (h := ?_)
          refine wpAnyH_done (by kernel_rfl) ?_ _
          go_wp2_with fail
          go_meet
          exact ⟨_, A7, k7, rfl, rfl, ⟨blk_new _ _⟩, ⟨(And.left (show Below wS.heap.size wS _ ∧ _ from by assumption))⟩⟩
         ·go_simp
          skip
          clear hHeld
          refine hko hK _ _ _ (hl_of chn) (fun hHeld => ?_)
          clear hK K
          refine wpAnyH_ready (rs := [11]) (by kernel_rfl) (by simp) ?_
          refine rcn (fun K hK => ?_) AllReadyH.nil
          go_simp
          refine (HOF.out o.pv A6 k6 _ (HOK.out.below chn) (Kd.C_below hC6 chn)).mono ?_; rintro e w7 ⟨A7, k7, rfl, hle7, hF7, hb7⟩; have hs7 := hb7.size; (try simp at hs7); dsimp only
          clear hHeld
          refine hko hK _ _ _ (hl_of chn) (fun hHeld => ?_)
          clear hK K
          refine tk 12 (h := ?_)
          refine tk 13 (h := ?_)
          refine tk 14 (h := ?_)
          refine wpAnyH_ready (rs := [16]) (by kernel_rfl) (by simp) ?_
          refine rcn (fun K hK => ?_) AllReadyH.nil
          refine wp_store7 rfl rfl rfl (by repeat (first | exact blk_new _ _ | exact blk_is (by simp) | refine blk_alloc ?_ _ | refine blk_below ?_ (by assumption))) ?_
          clear hHeld
          refine hko hK _ _ _ (hl_of chn) (fun hHeld => ?_)
          clear hK K
          refine tk 17 (h := ?_)
          refine wpAnyH_done (by kernel_rfl) ?_ _
          go_wp2_with fail
          go_meet
          exact ⟨_, A7, k7, rfl, rfl, ⟨blk_set7 (by repeat (first | exact blk_new _ _ | exact blk_is (by simp) | refine blk_alloc ?_ _ | refine blk_below ?_ (by assumption))) _ _ _ _ _ _ _⟩, ⟨(And.left (show Below wS.heap.size wS _ ∧ _ from by assumption))⟩⟩
        ·go_simp
         skip
         clear hHeld
         refine hko hK _ _ _ (hl_of chn) (fun hHeld => ?_)
         clear hK K
         refine wpAnyH_ready (rs := [10]) (by kernel_rfl) (by simp) ?_
         refine rcn (fun K hK => ?_) AllReadyH.nil
         go_simp
         refine (HST.out A5 k5 _ _ (Kd.C_below hC5 chn) (by repeat (first | exact blk_new _ _ | exact blk_is (by simp) | refine blk_alloc ?_ _ | refine blk_below ?_ (by assumption)))).mono ?_; rintro e w6 ⟨A6, k6, rfl, hle6, hC6, hb6⟩; obtain ⟨qc6, qf6⟩ := bcell hb6; have hs6 := hb6.size; (try simp at hs6); dsimp only
         clear hHeld
         refine hko hK _ _ _ (hl_of chn) (fun hHeld => ?_)
         clear hK K
         refine wpAnyH_ready (rs := [11]) (by kernel_rfl) (by simp) ?_
         refine rcn (fun K hK => ?_) AllReadyH.nil
         go_simp
         refine (HOF.out o.pv A6 k6 _ (HOK.out.below chn) (Kd.C_below hC6 chn)).mono ?_; rintro e w7 ⟨A7, k7, rfl, hle7, hF7, hb7⟩; have hs7 := hb7.size; (try simp at hs7); dsimp only
         clear hHeld
         refine hko hK _ _ _ (hl_of chn) (fun hHeld => ?_)
         clear hK K
         refine tk 12 (h := ?_)
         refine tk 13 (h := ?_)
         refine tk 14 (h := ?_)
         refine wpAnyH_ready (rs := [16]) (by kernel_rfl) (by simp) ?_
         refine rcn (fun K hK => ?_) AllReadyH.nil
         refine wp_store7 rfl rfl rfl (by repeat (first | exact blk_new _ _ | exact blk_is (by simp) | refine blk_alloc ?_ _ | refine blk_below ?_ (by assumption))) ?_
         clear hHeld
         refine hko hK _ _ _ (hl_of chn) (fun hHeld => ?_)
         clear hK K
         refine tk 17 (h := ?_)
         refine wpAnyH_done (by kernel_rfl) ?_ _
         go_wp2_with fail
         go_meet
         exact ⟨_, A7, k7, rfl, rfl, ⟨blk_set7 (by repeat (first | exact blk_new _ _ | exact blk_is (by simp) | refine blk_alloc ?_ _ | refine blk_below ?_ (by assumption))) _ _ _ _ _ _ _⟩, ⟨(And.left (show Below wS.heap.size wS _ ∧ _ from by assumption))⟩⟩
       ·go_simp
        skip
        clear hHeld
        refine hko hK _ _ _ (hl_of chn) (fun hHeld => ?_)
        clear hK K
        refine wpAnyH_ready (rs := [4]) (by kernel_rfl) (by simp) ?_
        refine rcn (fun K hK => ?_) AllReadyH.nil
        go_simp
        refine (HCL.out _ (below_to HBS.out (And.left (show Below wS.heap.size wS _ ∧ _ from by assumption)))).mono ?_; rintro e w5 ⟨A5, k5, rfl, hle5, hC5, hb5⟩; obtain ⟨qc5, qf5⟩ := bcell hb5; have hs5 := hb5.size; (try simp at hs5); dsimp only
        clear hHeld
        refine hko hK _ _ _ (hl_of chn) (fun hHeld => ?_)
        clear hK K
        refine wpAnyH_ready (rs := [10]) (by kernel_rfl) (by simp) ?_
        refine rcn (fun K hK => ?_) AllReadyH.nil
        go_simp
        refine (HST.out A5 k5 _ _ (Kd.C_below hC5 chn) (by repeat (first | exact blk_new _ _ | exact blk_is (by simp) | refine blk_alloc ?_ _ | refine blk_below ?_ (by assumption)))).mono ?_; rintro e w6 ⟨A6, k6, rfl, hle6, hC6, hb6⟩; obtain ⟨qc6, qf6⟩ := bcell hb6; have hs6 := hb6.size; (try simp at hs6); dsimp only
        clear hHeld
        refine hko hK _ _ _ (hl_of chn) (fun hHeld => ?_)
        clear hK K
        refine wpAnyH_ready (rs := [11]) (by kernel_rfl) (by simp) ?_
        refine rcn (fun K hK => ?_) AllReadyH.nil
        go_simp
        refine (HOF.out o.pv A6 k6 _ (HOK.out.below chn) (Kd.C_below hC6 chn)).mono ?_; rintro e w7 ⟨A7, k7, rfl, hle7, hF7, hb7⟩; have hs7 := hb7.size; (try simp at hs7); dsimp only
        clear hHeld
        refine hko hK _ _ _ (hl_of chn) (fun hHeld => ?_)
        clear hK K
        refine tk 12 (h := ?_)
        refine tk 13 (h := ?_)
        refine tk 14 (h := ?_)
        refine wpAnyH_ready (rs := [16]) (by kernel_rfl) (by simp) ?_
        refine rcn (fun K hK => ?_) AllReadyH.nil
        refine wp_store7 rfl rfl rfl (by repeat (first | exact blk_new _ _ | exact blk_is (by simp) | refine blk_alloc ?_ _ | refine blk_below ?_ (by assumption))) ?_
        clear hHeld
        refine hko hK _ _ _ (hl_of chn) (fun hHeld => ?_)
        clear hK K
        refine tk 17 (h := ?_)
        refine wpAnyH_done (by kernel_rfl) ?_ _
        go_wp2_with fail
        go_meet
        exact ⟨_, A7, k7, rfl, rfl, ⟨blk_set7 (by repeat (first | exact blk_new _ _ | exact blk_is (by simp) | refine blk_alloc ?_ _ | refine blk_below ?_ (by assumption))) _ _ _ _ _ _ _⟩, ⟨(And.left (show Below wS.heap.size wS _ ∧ _ from by assumption))⟩⟩
      ·go_simp
       skip
       clear hHeld
       refine hko hK _ _ _ (hl_of chn) (fun hHeld => ?_)
       clear hK K
       refine wpAnyH_ready (rs := [1]) (by kernel_rfl) (by simp) ?_
       refine rcn (fun K hK => ?_) AllReadyH.nil
       go_simp
       refine (HCP.out _ (below_to HBS.out (And.left (show Below wS.heap.size wS _ ∧ _ from by assumption)))).mono ?_; rintro e w4 ⟨o, rfl, hown, hb4⟩; obtain ⟨qc4, qf4⟩ := bcell hb4; have HOK := Aside0.mk (hown.ok HL.out.toLens); clear hown; have hs4 := hb4.size; (try simp at hs4); dsimp only
       clear hHeld
       refine hko hK _ _ _ (hl_of chn) (fun hHeld => ?_)
       clear hK K
       refine wpAnyH_ready (rs := [4]) (by kernel_rfl) (by simp) ?_
       refine rcn (fun K hK => ?_) AllReadyH.nil
       go_simp
       refine (HCL.out _ (below_to HBS.out (And.left (show Below wS.heap.size wS _ ∧ _ from by assumption)))).mono ?_; rintro e w5 ⟨A5, k5, rfl, hle5, hC5, hb5⟩; obtain ⟨qc5, qf5⟩ := bcell hb5; have hs5 := hb5.size; (try simp at hs5); dsimp only
       clear hHeld
       refine hko hK _ _ _ (hl_of chn) (fun hHeld => ?_)
       clear hK K
       refine wpAnyH_ready (rs := [10]) (by kernel_rfl) (by simp) ?_
       refine rcn (fun K hK => ?_) AllReadyH.nil
       go_simp
       refine (HST.out A5 k5 _ _ (Kd.C_below hC5 chn) (by repeat (first | exact blk_new _ _ | exact blk_is (by simp) | refine blk_alloc ?_ _ | refine blk_below ?_ (by assumption)))).mono ?_; rintro e w6 ⟨A6, k6, rfl, hle6, hC6, hb6⟩; obtain ⟨qc6, qf6⟩ := bcell hb6; have hs6 := hb6.size; (try simp at hs6); dsimp only
       clear hHeld
       refine hko hK _ _ _ (hl_of chn) (fun hHeld => ?_)
       clear hK K
       refine wpAnyH_ready (rs := [11]) (by kernel_rfl) (by simp) ?_
       refine rcn (fun K hK => ?_) AllReadyH.nil
       go_simp
       refine (HOF.out o.pv A6 k6 _ (HOK.out.below chn) (Kd.C_below hC6 chn)).mono ?_; rintro e w7 ⟨A7, k7, rfl, hle7, hF7, hb7⟩; have hs7 := hb7.size; (try simp at hs7); dsimp only
       clear hHeld
       refine hko hK _ _ _ (hl_of chn) (fun hHeld => ?_)
       clear hK K
       refine tk 12 (h := ?_)
       refine tk 13 (h := ?_)
       refine tk 14 (h := ?_)
       refine wpAnyH_ready (rs := [16]) (by kernel_rfl) (by simp) ?_
       refine rcn (fun K hK => ?_) AllReadyH.nil
       refine wp_store7 rfl rfl rfl (by repeat (first | exact blk_new _ _ | exact blk_is (by simp) | refine blk_alloc ?_ _ | refine blk_below ?_ (by assumption))) ?_
       clear hHeld
       refine hko hK _ _ _ (hl_of chn) (fun hHeld => ?_)
       clear hK K
       refine tk 17 (h := ?_)
       refine wpAnyH_done (by kernel_rfl) ?_ _
       go_wp2_with fail
       go_meet
       exact ⟨_, A7, k7, rfl, rfl, ⟨blk_set7 (by repeat (first | exact blk_new _ _ | exact blk_is (by simp) | refine blk_alloc ?_ _ | refine blk_below ?_ (by assumption))) _ _ _ _ _ _ _⟩, ⟨(And.left (show Below wS.heap.size wS _ ∧ _ from by assumption))⟩⟩
     ·go_simp
      skip
      clear hHeld
      refine hko hK _ _ _ (hl_of chn) (fun hHeld => ?_)
      clear hK K
      refine wpAnyH_ready (rs := [1, 7]) (by kernel_rfl) (by simp) ?_
      refine rcn (fun K hK => ?_) (rcn (fun K hK => ?_) AllReadyH.nil)
      ·go_simp
       refine (HCP.out _ (below_to HBS.out (And.left (show Below wS.heap.size wS _ ∧ _ from by assumption)))).mono ?_; rintro e w4 ⟨o, rfl, hown, hb4⟩; obtain ⟨qc4, qf4⟩ := bcell hb4; have HOK := Aside0.mk (hown.ok HL.out.toLens); clear hown; have hs4 := hb4.size; (try simp at hs4); dsimp only
       clear hHeld
       refine hko hK _ _ _ (hl_of chn) (fun hHeld => ?_)
       clear hK K
       refine wpAnyH_ready (rs := [4, 7]) (by kernel_rfl) (by simp) ?_
       refine rcn (fun K hK => ?_) (rcn (fun K hK => ?_) AllReadyH.nil)
       ·go_simp
        refine (HCL.out _ (below_to HBS.out (And.left (show Below wS.heap.size wS _ ∧ _ from by assumption)))).mono ?_; rintro e w5 ⟨A5, k5, rfl, hle5, hC5, hb5⟩; obtain ⟨qc5, qf5⟩ := bcell hb5; have hs5 := hb5.size; (try simp at hs5); dsimp only
        clear hHeld
        refine hko hK _ _ _ (hl_of chn) (fun hHeld => ?_)
        clear hK K
        refine wpAnyH_ready (rs := [7]) (by kernel_rfl) (by simp) ?_
        refine rcn (fun K hK => ?_) AllReadyH.nil
        go_simp
        skip
        clear hHeld
        refine hko hK _ _ _ (hl_of chn) (fun hHeld => ?_)
        clear hK K
        refine tk 9 (h := ?_)
        refine wpAnyH_ready (rs := [10]) (by kernel_rfl) (by simp) ?_
        refine rcn (fun K hK => ?_) AllReadyH.nil
        go_simp
        refine (HST.out A5 k5 _ _ (Kd.C_below hC5 chn) (by repeat (first | exact blk_new _ _ | exact blk_is (by simp) | refine blk_alloc ?_ _ | refine blk_below ?_ (by assumption)))).mono ?_; rintro e w6 ⟨A6, k6, rfl, hle6, hC6, hb6⟩; obtain ⟨qc6, qf6⟩ := bcell hb6; have hs6 := hb6.size; (try simp at hs6); dsimp only
        clear hHeld
        refine hko hK _ _ _ (hl_of chn) (fun hHeld => ?_)
        clear hK K
        refine wpAnyH_ready (rs := [11]) (by kernel_rfl) (by simp) ?_
        refine rcn (fun K hK => ?_) AllReadyH.nil
        go_simp
        refine (HOF.out o.pv A6 k6 _ (HOK.out.below chn) (Kd.C_below hC6 chn)).mono ?_; rintro e w7 ⟨A7, k7, rfl, hle7, hF7, hb7⟩; have hs7 := hb7.size; (try simp at hs7); dsimp only
        clear hHeld
        refine hko hK _ _ _ (hl_of chn) (fun hHeld => ?_)
        clear hK K
        refine tk 12 (h := ?_)
        refine tk 13 (h := ?_)
        refine tk 14 (h := ?_)
        refine wpAnyH_ready (rs := [16]) (by kernel_rfl) (by simp) ?_
        refine rcn (fun K hK => ?_) AllReadyH.nil
        refine wp_store7 rfl rfl rfl (by repeat (first | exact blk_new _ _ | exact blk_is (by simp) | refine blk_alloc ?_ _ | refine blk_below ?_ (by assumption))) ?_
        clear hHeld
        refine hko hK _ _ _ (hl_of chn) (fun hHeld => ?_)
        clear hK K
        refine tk 17 (h := ?_)
        refine wpAnyH_done (by kernel_rfl) ?_ _
        go_wp2_with fail
        go_meet
        exact ⟨_, A7, k7, rfl, rfl, ⟨blk_set7 (by repeat (first | exact blk_new _ _ | exact blk_is (by simp) | refine blk_alloc ?_ _ | refine blk_below ?_ (by assumption))) _ _ _ _ _ _ _⟩, ⟨(And.left (show Below wS.heap.size wS _ ∧ _ from by assumption))⟩⟩
       ·go_simp
        skip
        clear hHeld
        refine hko hK _ _ _ (hl_of chn) (fun hHeld => ?_)
        clear hK K
        refine tk 9 (h := ?_)
        refine wpAnyH_ready (rs := [4]) (by kernel_rfl) (by simp) ?_
        refine rcn (fun K hK => ?_) AllReadyH.nil
        go_simp
        refine (HCL.out _ (below_to HBS.out (And.left (show Below wS.heap.size wS _ ∧ _ from by assumption)))).mono ?_; rintro e w5 ⟨A5, k5, rfl, hle5, hC5, hb5⟩; obtain ⟨qc5, qf5⟩ := bcell hb5; have hs5 := hb5.size; (try simp at hs5); dsimp only
        clear hHeld
        refine hko hK _ _ _ (hl_of chn) (fun hHeld => ?_)
        clear hK K
        refine wpAnyH_ready (rs := [10]) (by kernel_rfl) (by simp) ?_
        refine rcn (fun K hK => ?_) AllReadyH.nil
        go_simp
        refine (HST.out A5 k5 _ _ (Kd.C_below hC5 chn) (by repeat (first | exact blk_new _ _ | exact blk_is (by simp) | refine blk_alloc ?_ _ | refine blk_below ?_ (by assumption)))).mono ?_; rintro e w6 ⟨A6, k6, rfl, hle6, hC6, hb6⟩; obtain ⟨qc6, qf6⟩ := bcell hb6; have hs6 := hb6.size; (try simp at hs6); dsimp only
        clear hHeld
        refine hko hK _ _ _ (hl_of chn) (fun hHeld => ?_)
        clear hK K
        refine wpAnyH_ready (rs := [11]) (by kernel_rfl) (by simp) ?_
        refine rcn (fun K hK => ?_) AllReadyH.nil
        go_simp
        refine (HOF.out o.pv A6 k6 _ (HOK.out.below chn) (Kd.C_below hC6 chn)).mono ?_; rintro e w7 ⟨A7, k7, rfl, hle7, hF7, hb7⟩; have hs7 := hb7.size; (try simp at hs7); dsimp only
        clear hHeld
        refine hko hK _ _ _ (hl_of chn) (fun hHeld => ?_)
        clear hK K
        refine tk 12 (h := ?_)
        refine tk 13 (h := ?_)
        refine tk 14 (h := ?_)
        refine wpAnyH_ready (rs := [16]) (by kernel_rfl) (by simp) ?_
        refine rcn (fun K hK => ?_) AllReadyH.nil
        refine wp_store7 rfl rfl rfl (by repeat (first | exact blk_new _ _ | exact blk_is (by simp) | refine blk_alloc ?_ _ | refine blk_below ?_ (by assumption))) ?_
        clear hHeld
        refine hko hK _ _ _ (hl_of chn) (fun hHeld => ?_)
        clear hK K
        refine tk 17 (h := ?_)
        refine wpAnyH_done (by kernel_rfl) ?_ _
        go_wp2_with fail
        go_meet
        exact ⟨_, A7, k7, rfl, rfl, ⟨blk_set7 (by repeat (first | exact blk_new _ _ | exact blk_is (by simp) | refine blk_alloc ?_ _ | refine blk_below ?_ (by assumption))) _ _ _ _ _ _ _⟩, ⟨(And.left (show Below wS.heap.size wS _ ∧ _ from by assumption))⟩⟩
      ·go_simp
       skip
       clear hHeld
       refine hko hK _ _ _ (hl_of chn) (fun hHeld => ?_)
       clear hK K
       refine tk 9 (h := ?_)
       refine wpAnyH_ready (rs := [1]) (by kernel_rfl) (by simp) ?_
       refine rcn (fun K hK => ?_) AllReadyH.nil
       go_simp
       refine (HCP.out _ (below_to HBS.out (And.left (show Below wS.heap.size wS _ ∧ _ from by assumption)))).mono ?_; rintro e w4 ⟨o, rfl, hown, hb4⟩; obtain ⟨qc4, qf4⟩ := bcell hb4; have HOK := Aside0.mk (hown.ok HL.out.toLens); clear hown; have hs4 := hb4.size; (try simp at hs4); dsimp only
       clear hHeld
       refine hko hK _ _ _ (hl_of chn) (fun hHeld => ?_)
       clear hK K
       refine wpAnyH_ready (rs := [4]) (by kernel_rfl) (by simp) ?_
       refine rcn (fun K hK => ?_) AllReadyH.nil
       go_simp
       refine (HCL.out _ (below_to HBS.out (And.left (show Below wS.heap.size wS _ ∧ _ from by assumption)))).mono ?_; rintro e w5 ⟨A5, k5, rfl, hle5, hC5, hb5⟩; obtain ⟨qc5, qf5⟩ := bcell hb5; have hs5 := hb5.size; (try simp at hs5); dsimp only
       clear hHeld
       refine hko hK _ _ _ (hl_of chn) (fun hHeld => ?_)
       clear hK K
       refine wpAnyH_ready (rs := [10]) (by kernel_rfl) (by simp) ?_
       refine rcn (fun K hK => ?_) AllReadyH.nil
       go_simp
       refine (HST.out A5 k5 _ _ (Kd.C_below hC5 chn) (by repeat (first | exact blk_new _ _ | exact blk_is (by simp) | refine blk_alloc ?_ _ | refine blk_below ?_ (by assumption)))).mono ?_; rintro e w6 ⟨A6, k6, rfl, hle6, hC6, hb6⟩; obtain ⟨qc6, qf6⟩ := bcell hb6; have hs6 := hb6.size; (try simp at hs6); dsimp only
       clear hHeld
       refine hko hK _ _ _ (hl_of chn) (fun hHeld => ?_)
       clear hK K
       refine wpAnyH_ready (rs := [11]) (by kernel_rfl) (by simp) ?_
       refine rcn (fun K hK => ?_) AllReadyH.nil
       go_simp
       refine (HOF.out o.pv A6 k6 _ (HOK.out.below chn) (Kd.C_below hC6 chn)).mono ?_; rintro e w7 ⟨A7, k7, rfl, hle7, hF7, hb7⟩; have hs7 := hb7.size; (try simp at hs7); dsimp only
       clear hHeld
       refine hko hK _ _ _ (hl_of chn) (fun hHeld => ?_)
       clear hK K
       refine tk 12 (h := ?_)
       refine tk 13 (h := ?_)
       refine tk 14 (h := ?_)
       refine wpAnyH_ready (rs := [16]) (by kernel_rfl) (by simp) ?_
       refine rcn (fun K hK => ?_) AllReadyH.nil
       refine wp_store7 rfl rfl rfl (by repeat (first | exact blk_new _ _ | exact blk_is (by simp) | refine blk_alloc ?_ _ | refine blk_below ?_ (by assumption))) ?_
       clear hHeld
       refine hko hK _ _ _ (hl_of chn) (fun hHeld => ?_)
       clear hK K
       refine tk 17 (h := ?_)
       refine wpAnyH_done (by kernel_rfl) ?_ _
       go_wp2_with fail
       go_meet
       exact ⟨_, A7, k7, rfl, rfl, ⟨blk_set7 (by repeat (first | exact blk_new _ _ | exact blk_is (by simp) | refine blk_alloc ?_ _ | refine blk_below ?_ (by assumption))) _ _ _ _ _ _ _⟩, ⟨(And.left (show Below wS.heap.size wS _ ∧ _ from by assumption))⟩⟩
    case rest =>
     as_aux_lemma =>
     obtain ⟨b, A7, k7, rfl, rfl, HX, HBx⟩ := hcut
     have HB1 : Aside0 (Below w.heap.size w wc) := ⟨below_to HBS.out HBx.out⟩
     have hpb := blk_below HPB.out (below_to HW.out HBx.out)
     clear p0 p1 p2 p3 p4 p5 p6 p7 hpw
     obtain ⟨p0, p1, p2, p3, p4, p5, p6, p7⟩ := cells8 hpb; have hpw := blk_lt hpb
     clear hpb
     go_upto_region 17 with (first
      | (go_at_call 27; refine (HCP.out _ HB1.out).mono ?_; rintro e w8 ⟨o2, rfl, hown, hb⟩; have HOK := Aside0.mk (hown.ok HL.out.toLens); have HB8 := Aside0.mk (show Below wc.heap.size wc w8 from hb); clear hown hb)
      | (go_at_call 50; refine (HCL.out _ (below_to HB1.out HB8.out)).mono ?_; rintro e w9 ⟨A9, k9, rfl, hle9, hC9, hb⟩; have HC9 := Aside0.mk hC9; have HK9 := Aside0.mk (HOK.out.below hb); have HB9 := Aside0.mk (below_to HB8.out hb); clear hle9 hC9 hb)
      | (go_at_call 53; refine (HPF.out o2.pv A9 k9 _ HK9.out HC9.out).mono ?_; rintro e w10 ⟨A10, k10, rfl, hle10, hF10, hb⟩; have HB10 := Aside0.mk (below_to HB9.out hb); clear hle10 hF10 hb))
     refine gen_wp (fun W => Below wc.heap.size wc W ∧ W.heap[w10.heap.size]? = some (.cells #[.int .i64 r2.1.Vehicle, .slice A10 r2.1.Steps.length k10, .int .i64 r2.1.Time, .int .i64 r2.1.Dist, .int .i64 r2.1.Wait, .int .i64 r2.1.Service, .int .i64 r2.1.Cost] 74 (0, 0))) ⟨below_alloc HB10.out _, blk_new _ _⟩ (fun w11 H11 => ?_)
     clear p0 p1 p2 p3 p4 p5 p6 p7 hpw
     have hx1 := blk_below HX.out H11.out.1
     have hx2 := H11.out.2
     obtain ⟨f_0, f_1, f_2, f_3, f_4, f_5, f_6⟩ := cells7 hx1; have f_w := blk_lt hx1
     obtain ⟨g_0, g_1, g_2, g_3, g_4, g_5, g_6⟩ := cells7 hx2; have g_w := blk_lt hx2
     clear hx1 hx2 HB8 HB9 HB10 HC9 HK9 HOK HX HPF HLW HCP HCL
     by_cases e0 : r1.2 = 0
     ·have d8 : (r1.2 == 0) = true := by simp [e0]
      obtain ⟨h1, h2, h3, h4, h5⟩ := HBF2.out.ok e0
      have d9 : (r2.2 == 0) = true := by simp [h1]
      rw [h2] at f_2
      rw [h3] at f_3
      rw [h4] at f_6
      rw [h5] at f_5
      clear e0 h1 h2 h3 h4 h5 HBF2
      go_wp2
      go_ret
      exact ⟨by first | rfl | simp, below_to HB1.out H11.out.1⟩
     ·have d8 : (r1.2 == 0) = false := by simp [e0]
      rcases HBF2.out.no e0 with h1 | h1
      ·have d9 : (r1.2 == 167) = true := by simp [h1]
       clear e0 h1 HBF2
       go_wp2
       go_ret
       exact ⟨by first | rfl | simp, below_to HB1.out H11.out.1⟩
      ·rw [h1] at d8
       cases d9 : (r2.2 == 167)
       all_goals
        rw [h1]
        clear e0 h1 HBF2
        go_wp2
        go_ret
        exact ⟨by first | rfl | simp, below_to HB1.out H11.out.1⟩
/-- The same, as the row wants it. -/
theorem planBreaksLaw_row (q : PV) (p : TProblem) (vehicle : Int) (l : List TVisit) (A : Option Addr) (c : Nat) (i k : Int) (w : World) (hg : GProblem p) (hq : q.Ok p w) (_ : (Lit.int .i64 vehicle).wf = true) (hl : l.length ≤ maxLen ∧ l.length * 16 ≤ 140737488351232 ∧ ∀ y ∈ l, GVisit y) (_ : l.length ≤ c) (hr : Kd.C kVisit w A l.length l) :
  Calls Try.prog 13 #[q.val p, .int .i64 vehicle, .slice A l.length c, .agg #[.int .i64 i, .int .i64 k]] w fun e w' => e = .returned (.bool true) ∧ Below w.heap.size w w' :=
 planBreaksLaw_any q p vehicle l A c i k w hg hq ⟨hl.1, hl.2.1⟩ hr
end Go.Proofs.Ytemjpgmfignhnaa
