/- The walk of PlanLoads: it answers true.
Conditions: lists no longer than memory allows. -/
import Derived.Test.YtemjpgmfignhnaaM0
import Derived.Test.YtemjpgmfignhnaaAW13
import Derived.Test.YtemjpgmfignhnaaM13
import Derived.Test.YtemjpgmfignhnaaP13y
import Derived.Test.YtemjpgmfignhnaaP13z
import Derived.Test.YtemjpgmfignhnaaPut
import Derived.Test.YtemjpgmfignhnaaGoodOf
namespace Go.Proofs.Ytemjpgmfignhnaa
open Go.RowKit Go.Proofs.YtemjpgmfignhnaaW.PrintWords Go.Proofs.YtemjpgmfignhnaaW.PrintLast Go.Proofs.YtemjpgmfignhnaaW.PrintMore
set_option linter.unusedVariables false
set_option linter.unusedSimpArgs false
attribute [local go_sem] cell_growBy Option.some_or
set_option maxHeartbeats 4000000 in
set_option maxRecDepth 100000 in
theorem sameVisits13_any (l : List TVisit) (A A' : Option Addr) (c c' : Nat) (w : World) (hr : Kd.C kVisit w A l.length l) (hr' : Kd.C kVisit w A' l.length l) (hn : l.length ≤ 4611686018427387904) :
  Calls Try.prog 46 #[.slice A l.length c, .slice A' l.length c'] w fun e w' => e = .returned (.bool true) ∧ Below w.heap.size w w' := by
 have HR := Aside0.mk hr
 have HR' := Aside0.mk hr'
 clear hr hr'
 go_enter Try.func46, Try.ntmps46
 go_wp2
 go_loopw [5] (fun i wr => ∃ k : Nat, k ≤ l.length ∧ i = .int .i64 k ∧ Aside0 (Below w.heap.size w wr)) (fun i _ => l.length - (intOf i).toNat)
 case atStart => exact ⟨0, Nat.zero_le _, rfl, ⟨Below.refl _ _⟩⟩
 case round =>
  obtain ⟨k, hk, rfl, HB1⟩ := hrel
  by_cases hlt : k < l.length
  ·obtain ⟨ad, ea, x0, x1⟩ := atNVisit (Kd.C_below HR.out HB1.out) k hlt
   obtain ⟨ad', ea', y0, y1⟩ := atNVisit (Kd.C_below HR'.out HB1.out) k hlt
   subst ea
   subst ea'
   have r0 : (0 : Int) ≤ (k : Int) := by omega
   have r1 : (k : Int) < (l.length : Int) := by omega
   go_wp2
   go_quiet (fail)
   go_wp2
   go_roundw
   case rel => exact ⟨k + 1, by omega, by go_num, ⟨clb⟩⟩
   case measure => simp [intOf]; omega
  ·obtain rfl : k = l.length := by omega
   go_wp2
   go_ret
   exact ⟨rfl, clb⟩
theorem C_twoE {W : World} {g t : Nat} {a b : Int} (h : W.heap[g]? = some (.cells #[.int .i64 a, .int .i64 b] t (0, 0))) : Kd.C (Kd.int .i64) W (some ⟨g, 0, none⟩) 2 [a, b] := by
 refine C_block h [a, b] ⟨rfl, fun j p hj => ?_⟩ (by simp)
 match j, hj with
 | 0, hj =>
  obtain rfl : a = p := by simpa using hj
  rfl
 | 1, hj =>
  obtain rfl : b = p := by simpa using hj
  rfl
set_option maxHeartbeats 16000000 in
set_option maxRecDepth 100000 in
theorem planLoadsLaw_any (q : PV) (p : TProblem) (l : List TVisit) (A : Option Addr) (c : Nat) (i k : Int) (w : World) (hg : GProblem p) (hq : q.Ok p w) (hl : l.length ≤ maxLen ∧ l.length * 16 ≤ 140737488351232) (hr : Kd.C kVisit w A l.length l) :
  Calls Try.prog 11 #[q.val p, .slice A l.length c, .int .i64 i, .int .i64 k] w fun e w' => e = .returned (.bool true) ∧ Below w.heap.size w w' := by
 have HL := Aside0.mk (good_of hg)
 have HR := Aside0.mk hr
 have HLN : Aside0 (l.length ≤ 4611686018427387904) := ⟨by have := hl.2; omega⟩
 have hln := HLN.out
 have HLW := Aside0.mk (fun W (hb : Below w.heap.size w W) => lawful_any q p W HL.out (hq.below hb))
 have HCP := Aside0.mk (fun W (hb : Below w.heap.size w W) => copied_any q p W (hq.below hb) hg)
 have HCL := Aside0.mk (fun W (hb : Below w.heap.size w W) => copied13_any l A c W (Kd.C_below hr hb) (by have := hl.2; omega) hl.1)
 by_cases hc : checkS p = 0
 case neg =>
  have dc : decide (checkS p = 0) = false := decide_eq_false hc
  obtain ⟨a1, c1, a2, c2, a3, c3, a4, c4, a5, c5⟩ := q
  unfold PV.val at HLW HCP ⊢
  clear hg hq hr hl hc
  go_enter Try.func11, Try.ntmps11
  go_wp2_with (first
   | (go_at_call 48; refine (awake13_any _).mono ?_; skip; rintro e w1 ⟨rfl, hb⟩; have HB1 := Aside0.mk hb; obtain ⟨qc1, qf1⟩ := bcell hb; have hs1 := hb.size; (try simp at hs1); (try have z01 : w.heap.size < w1.heap.size := (by omega)); (try have z11 : w.heap.size + 1 < w1.heap.size := (by omega)); (try have z21 : w.heap.size + 1 + 1 < w1.heap.size := (by omega)); (try have z31 : w.heap.size + 1 + 1 + 1 < w1.heap.size := (by omega)); (try have z41 : w.heap.size + 1 + 1 + 1 + 1 < w1.heap.size := (by omega)); clear hs1 hb; skip)
   | (go_at_call 29; refine (HLW.out _ clb).mono ?_; rw [dc]; rintro e w2 ⟨rfl, hb⟩; have HB2 := Aside0.mk hb; obtain ⟨qc2, qf2⟩ := bcell hb; have hs2 := hb.size; (try simp at hs2); (try have z02 : w.heap.size < w2.heap.size := (by omega)); (try have z12 : w.heap.size + 1 < w2.heap.size := (by omega)); (try have z22 : w.heap.size + 1 + 1 < w2.heap.size := (by omega)); (try have z32 : w.heap.size + 1 + 1 + 1 < w2.heap.size := (by omega)); (try have z42 : w.heap.size + 1 + 1 + 1 + 1 < w2.heap.size := (by omega)); clear hs2 hb; skip))
  go_ret
  exact ⟨rfl, clb⟩
 have dc : decide (checkS p = 0) = true := decide_eq_true hc
 by_cases h30 : 100 < l.length
 ·have d1 : decide ((100 : Int) < (l.length : Int)) = true := decide_eq_true (by omega)
  obtain ⟨a1, c1, a2, c2, a3, c3, a4, c4, a5, c5⟩ := q
  unfold PV.val at HLW HCP ⊢
  clear hg hq hr hl hc h30
  go_enter Try.func11, Try.ntmps11
  go_wp2_with (first
   | (go_at_call 48; refine (awake13_any _).mono ?_; skip; rintro e w1 ⟨rfl, hb⟩; have HB1 := Aside0.mk hb; obtain ⟨qc1, qf1⟩ := bcell hb; have hs1 := hb.size; (try simp at hs1); (try have z01 : w.heap.size < w1.heap.size := (by omega)); (try have z11 : w.heap.size + 1 < w1.heap.size := (by omega)); (try have z21 : w.heap.size + 1 + 1 < w1.heap.size := (by omega)); (try have z31 : w.heap.size + 1 + 1 + 1 < w1.heap.size := (by omega)); (try have z41 : w.heap.size + 1 + 1 + 1 + 1 < w1.heap.size := (by omega)); clear hs1 hb; skip)
   | (go_at_call 29; refine (HLW.out _ clb).mono ?_; rw [dc]; rintro e w2 ⟨rfl, hb⟩; have HB2 := Aside0.mk hb; obtain ⟨qc2, qf2⟩ := bcell hb; have hs2 := hb.size; (try simp at hs2); (try have z02 : w.heap.size < w2.heap.size := (by omega)); (try have z12 : w.heap.size + 1 < w2.heap.size := (by omega)); (try have z22 : w.heap.size + 1 + 1 < w2.heap.size := (by omega)); (try have z32 : w.heap.size + 1 + 1 + 1 < w2.heap.size := (by omega)); (try have z42 : w.heap.size + 1 + 1 + 1 + 1 < w2.heap.size := (by omega)); clear hs2 hb; skip))
  go_ret
  exact ⟨rfl, clb⟩
 have d1 : decide ((100 : Int) < (l.length : Int)) = false := decide_eq_false (by omega)
 have law := law_of hc
 have HPL : Aside0 (∀ (q' : PV) (A' : Option Addr) (c' : Nat) W, q'.Ok p W → Kd.C kVisit W A' l.length l → Calls Try.prog 55 #[q'.val p, .slice A' l.length c'] W (LoadsPost (loadsS p l) W)) :=
  ⟨fun q' A' c' W hq' hC => by
   have h := planLoads_any q' p l A' c' W HL.out law hq' hC (by omega)
   rw [loadsP_same law.amts.toAmtLens l] at h
   exact h⟩
 have HRL := Aside0.mk (fun W (hb : Below w.heap.size w W) => refLoads_own q p l A c W HL.out.toLens law (hq.below hb) (Kd.C_below hr hb) (by omega))
 have hll : (loadsS p l).length = l.length + 1 := by simp [loadsS]
 have hls : ∀ j (h : j < (loadsS p l).length), (loadsS p l)[j].length ≤ 4611686018427387904 := fun j h => by
  have h1 : (loadsS p l)[j] = nowS p l j := by simp [loadsS]
  have h2 := law.d1
  rw [h1, nowS_length]
  omega
 obtain ⟨a1, c1, a2, c2, a3, c3, a4, c4, a5, c5⟩ := q
 unfold PV.val at HLW HCP HRL ⊢
 clear hg hq hr hc law
 generalize loadsS p l = LS at *
 have HLS := Aside0.mk hls
 have HLLS := Aside0.mk hll
 clear hls hll
 go_enter Try.func11, Try.ntmps11
 go_upto_region 5 with (first
  | (go_at_call 48; refine (awake13_any _).mono ?_; skip; rintro e w1 ⟨rfl, hb⟩; have HB1 := Aside0.mk hb; obtain ⟨qc1, qf1⟩ := bcell hb; have hs1 := hb.size; (try simp at hs1); (try have z01 : w.heap.size < w1.heap.size := (by omega)); (try have z11 : w.heap.size + 1 < w1.heap.size := (by omega)); (try have z21 : w.heap.size + 1 + 1 < w1.heap.size := (by omega)); (try have z31 : w.heap.size + 1 + 1 + 1 < w1.heap.size := (by omega)); (try have z41 : w.heap.size + 1 + 1 + 1 + 1 < w1.heap.size := (by omega)); clear hs1 hb; skip)
  | (go_at_call 29; refine (HLW.out _ clb).mono ?_; rw [dc]; rintro e w2 ⟨rfl, hb⟩; have HB2 := Aside0.mk hb; obtain ⟨qc2, qf2⟩ := bcell hb; have hs2 := hb.size; (try simp at hs2); (try have z02 : w.heap.size < w2.heap.size := (by omega)); (try have z12 : w.heap.size + 1 < w2.heap.size := (by omega)); (try have z22 : w.heap.size + 1 + 1 < w2.heap.size := (by omega)); (try have z32 : w.heap.size + 1 + 1 + 1 < w2.heap.size := (by omega)); (try have z42 : w.heap.size + 1 + 1 + 1 + 1 < w2.heap.size := (by omega)); clear hs2 hb; skip))
 refine gen_wp (fun W => Below w.heap.size w W ∧ W.heap[w.heap.size]? = some (.cells #[.int .i64 p.Dims, .int .i64 p.Time.N, .slice a1 p.Time.Cells.length c1, .int .i64 p.Dist.N, .slice a2 p.Dist.Cells.length c2, .slice a3 p.Vehicles.length c3, .slice a4 p.Jobs.length c4, .slice a5 p.Shipments.length c5] 29 (0, 0))) ⟨clb, blk_below (blk_below (blk_new _ _) HB1.out) HB2.out⟩ (fun w3 H3 => ?_)
 clear qc1 qf1 qc2 qf2 HB1 HB2 dc d1
 have hpb := H3.out.2
 obtain ⟨p0, p1, p2, p3, p4, p5, p6, p7⟩ := cells8 hpb; have hpw := blk_lt hpb
 clear hpb
 go_cut [9, 10] (fun s9 s10 wx => ∃ A9 c9 A10 c10 b9, s9 = .slice A9 LS.length c9 ∧ s10 = .slice A10 LS.length c10 ∧ Aside0 (LoadRow wx b9 (.slice A9 LS.length c9) LS) ∧ Aside0 (Kd.C kInts wx A10 LS.length LS) ∧ Aside0 (Below w3.heap.size w3 wx))
 case first =>
  as_aux_lemma =>
  go_region_held3 (fun W' => Below w3.heap.size w3 W' ∧ ∀ a : Addr, a.block < w3.heap.size → W'.cell? a = w3.cell? a) (first | exact hl_start _ | exact hl_of chn)
    (first
     | (go_at_call 27; refine (HCP.out _ (below_to H3.out.1 (And.left (show Below w3.heap.size w3 _ ∧ _ from by assumption)))).mono ?_; rintro e w4 ⟨o, rfl, hown, hb⟩; obtain ⟨qcs, qfs⟩ := bcell hb; have HOK := Aside0.mk (hown.ok HL.out.toLens); clear hown) | (go_at_call 50; refine (HCL.out _ (below_to H3.out.1 (And.left (show Below w3.heap.size w3 _ ∧ _ from by assumption)))).mono ?_; rintro e w5 ⟨A5, k5, rfl, hle5, hC5, hb⟩; obtain ⟨qct, qft⟩ := bcell hb; have HC5 := Aside0.mk hC5; have HK5 := Aside0.mk (HOK.out.below chn); clear hle5 hC5) | (go_at_call 55; refine (HPL.out o.pv A5 k5 _ (PV.Ok.below HOK.out chn) (Kd.C_below HC5.out chn)).mono ?_; rintro e w6 ⟨A9, c9, rfl, hL9, hb⟩; obtain ⟨qcu, qfu⟩ := bcell hb; have HL9 := Aside0.mk hL9; clear hL9) | (go_at_call 56; refine (HRL.out _ (below_to H3.out.1 (And.left (show Below w3.heap.size w3 _ ∧ _ from by assumption)))).mono ?_; rintro e w7 ⟨A10, c10, rfl, hle10, hR10, hb⟩; have HR10 := Aside0.mk hR10; clear hle10 hR10))
  all_goals
   go_wp2_with fail
   go_meet
   obtain ⟨A', c', e', _, hC10⟩ := Kd.R_reads HR10.out
   simp only [Value.slice.injEq] at e'
   obtain ⟨eA, -, -⟩ := e'
   rw [← eA] at hC10
   exact ⟨A9, c9, A10, c10, _, rfl, rfl, ⟨LoadRow.below HL9.out chn⟩, ⟨Kd.C_below hC10 chn⟩, ⟨(And.left (show Below w3.heap.size w3 _ ∧ _ from by assumption))⟩⟩
 case rest =>
  as_aux_lemma =>
  obtain ⟨A9, c9, A10, c10, b9, rfl, rfl, HL9, HC10, HBx⟩ := hcut
  have HBc : Aside0 (Below w.heap.size w wc) := ⟨below_to H3.out.1 HBx.out⟩
  clear p0 p1 p2 p3 p4 p5 p6 p7 hpw HPL HRL HCP HLW HBx
  have HSN := Aside0.mk (fun (A' : Option Addr) (c' : Nat) W (hC : Kd.C kVisit W A' l.length l) => planSet_any l [] A' none c' 0 W hC (Kd.C_nil _ _) (by omega) (by simp))
  rw [show setP l [] 0 0 = l from setP_0 l 0 0] at HSN
  go_wp2
  go_loopw [37] (fun vj wr => ∃ j : Nat, j ≤ LS.length ∧ vj = .int .i64 j ∧ Aside0 (Below wc.heap.size wc wr)) (fun vj _ => LS.length - (intOf vj).toNat)
  case atStart => exact ⟨0, Nat.zero_le _, rfl, ⟨Below.refl _ _⟩⟩
  case round =>
   obtain ⟨j, hj, rfl, HW⟩ := hrel
   have HBW : Aside0 (Below w.heap.size w wr) := ⟨below_to HBc.out HW.out⟩
   by_cases hlt : j < LS.length
   ·
    obtain ⟨ad, A1, k1, ea, y0, hI⟩ := atLoad (LoadRow.below HL9.out HW.out) j hlt
    obtain ⟨ad', A2, k2, ea', z0, -, hC2⟩ := atNInts (Kd.C_below HC10.out HW.out) j hlt
    subst ea
    subst ea'
    have r0 : (0 : Int) ≤ (j : Int) := by omega
    have r1 : (j : Int) < (LS.length : Int) := by omega
    have hj1 : j < 4611686018427387904 := by have := HLLS.out; omega
    have hyw := World.block_lt_of_cell? _ _ y0
    have hzw := World.block_lt_of_cell? _ _ z0
    have HSI := Aside0.mk (fun W (hb : Below wr.heap.size wr W) => sameInts_any LS[j] A1 A2 k1 k2 W (Kd.C_below hI.C hb) (Kd.C_below hC2 hb) (HLS.out j hlt))
    clear hI hC2
    generalize LS[j] = ld at *
    go_upto_region 11 with fail
    go_region_held3 (fun W' => Below wr.heap.size wr W' ∧ ∀ a : Addr, a.block < wr.heap.size → W'.cell? a = wr.cell? a) (first | exact hl_start _ | exact hl_of chn)
      (first
       | (go_at_call 57; refine (HSI.out _ (And.left (show Below wr.heap.size wr _ ∧ _ from by assumption))).mono ?_; rintro e w8 ⟨rfl, hb⟩))
    go_wp2_with fail
    go_roundw
    case rel => exact ⟨j + 1, by omega, by go_num, ⟨below_to HW.out (And.left (show Below wr.heap.size wr _ ∧ _ from by assumption))⟩⟩
    case measure => simp [intOf]; omega
   ·
    obtain rfl : j = LS.length := by omega
    have hl100 : l.length ≤ 100 := by omega
    have e1 : IntKind.i64.wrap ((l.length : Int) + 1) = (l.length : Int) + 1 := IntWalk.i64_in _ (by omega)
    have e2 : IntKind.u64.wrap ((l.length : Int) + 1) = (l.length : Int) + 1 := IntWalk.u64_in _ (by omega)
    obtain ⟨i0, i1⟩ := mod_inz i ((l.length : Int) + 1) (by omega) (by omega)
    obtain ⟨k0, k1⟩ := mod_inz k ((l.length : Int) + 1) (by omega) (by omega)
    have hne : ((l.length : Int) + 1 == 0) = false := by simp; omega
    have hne2 : ((l.length : Int) + 1 = 0) = False := eq_false (by omega)
    clear HL9 HC10 HLS HLLS HW
    go_upto_region 14 with fail
    go_quiet (fail)
    go_upto_region 15 with fail
    generalize wrap64 ((IntKind.u64.wrap i).tmod ((l.length : Int) + 1)) = I at *
    generalize wrap64 ((IntKind.u64.wrap k).tmod ((l.length : Int) + 1)) = K at *
    have hset : ∀ a b : Int, 0 ≤ a → a ≤ b → setP l [a, b] 0 0 = setS l [a, b] := fun a b h0 h1 => set_same2 l h0 h1
    have hsln : ∀ a b : Int, (setP l [a, b] 0 0).length ≤ 4611686018427387904 := fun a b => by have := setP_len l [a, b] 0 0; simp at this; omega
    have HP := Aside0.mk (fun (a b : Int) (A' : Option Addr) (c' g : Nat) W (hC : Kd.C kVisit W A' l.length l) (hb : W.heap[g]? = some (.cells #[.int .i64 a, .int .i64 b] 3 (0, 0))) => planSet_any l [a, b] A' (some ⟨g, 0, none⟩) c' 2 W hC (C_twoE hb) (by omega) (by simp))
    have HQ := Aside0.mk (fun (a b : Int) (g : Nat) W (hB : Below w.heap.size w W) (hb : W.heap[g]? = some (.cells #[.int .i64 a, .int .i64 b] 3 (0, 0))) => refSet_any l [a, b] A (some ⟨g, 0, none⟩) c 2 W (Kd.C_below HR.out hB) (C_twoE hb) (by omega) (by simp))
    by_cases hik : K < I
    ·have d2 : decide (K < I) = true := decide_eq_true hik
     have HST := Aside0.mk (HP.out K I)
     have HRS := Aside0.mk (HQ.out K I)
     rw [← hset K I k0 (by omega)] at HRS
     have HSL := Aside0.mk (hsln K I)
     generalize setP l [K, I] 0 0 = S at *
     clear hset hsln HP HQ hik
     go_upto_region 17 with fail
     refine gen_wp (fun W => Below w.heap.size w W) (below_to HBW.out chn) (fun wd HD => ?_)
     have FL1 : Aside0 True := ⟨trivial⟩
     have FL2 : Aside0 True := ⟨trivial⟩
     go_wp2_with (first
      | (go_at_call 50; have hfl := FL1; clear hfl FL1; refine (HCL.out _ (below_to HD.out chn)).mono ?_; rintro e w4 ⟨A4, k4, rfl, hle4, hC4, hb⟩; have HC4 := Aside0.mk hC4; have HB4 := Aside0.mk (show Below wd.heap.size wd w4 from below_to chn hb); clear hle4 hC4 hb)
      | (go_at_call 58; have hfl := FL2; clear hfl FL2; refine (HST.out A4 k4 w4.heap.size _ (Kd.C_below HC4.out chn) (by first | exact blk_new _ _ | exact blk_is (by simp))).mono ?_; rintro e w5 ⟨A5, k5, rfl, hle5, hC5, hb⟩; have HC5 := Aside0.mk hC5; have HB5 := Aside0.mk (show Below wd.heap.size wd w5 from below_to (below_to HB4.out chn) hb); clear hle5 hC5 hb)
      | (go_at_call 59; refine (HRS.out w5.heap.size _ (below_to HD.out (below_to HB5.out chn)) (by first | exact blk_new _ _ | exact blk_is (by simp))).mono ?_; rintro e w6 ⟨A6, k6, rfl, hle6, hC6, hb⟩; have HC6 := Aside0.mk hC6; have HB6 := Aside0.mk (show Below wd.heap.size wd w6 from below_to (below_to HB5.out chn) hb); have HC5b := Aside0.mk (Kd.C_below HC5.out (show Below w5.heap.size w5 w6 from below_to chn hb)); have FL3 : Aside0 True := ⟨trivial⟩; clear hle6 hC6 hb)
      | (go_at_call 46; have hfl := FL3; clear hfl FL3; refine (sameVisits13_any _ A5 A6 k5 k6 _ HC5b.out HC6.out HSL.out).mono ?_; rintro e w7 ⟨rfl, hb⟩; have HB7 := Aside0.mk (below_to HB6.out hb); have FL4 : Aside0 True := ⟨trivial⟩; clear hb)
      | (go_at_call 50; have hfl := FL4; clear hfl FL4; refine (HCL.out _ (below_to HD.out HB7.out)).mono ?_; rintro e w8 ⟨A8, k8, rfl, hle8, hC8, hb⟩; have HC8 := Aside0.mk hC8; have HB8 := Aside0.mk (below_to HB7.out hb); have FL5 : Aside0 True := ⟨trivial⟩; clear hle8 hC8 hb)
      | (go_at_call 58; have hfl := FL5; clear hfl FL5; refine (HSN.out A8 k8 _ HC8.out).mono ?_; rintro e w9 ⟨A9, k9, rfl, hle9, hC9, hb⟩; have HC9 := Aside0.mk hC9; have HB9 := Aside0.mk (below_to HB8.out hb); have FL6 : Aside0 True := ⟨trivial⟩; clear hle9 hC9 hb)
      | (go_at_call 46; have hfl := FL6; clear hfl FL6; refine (sameVisits13_any l A9 A k9 c _ HC9.out (Kd.C_below HR.out (below_to HD.out HB9.out)) HLN.out).mono ?_; rintro e w10 ⟨rfl, hb⟩; have HB10 := Aside0.mk (below_to HB9.out hb); clear hb))
     go_ret
     exact ⟨rfl, below_to HD.out HB10.out⟩
    ·have d2 : decide (K < I) = false := decide_eq_false hik
     have HST := Aside0.mk (HP.out I K)
     have HRS := Aside0.mk (HQ.out I K)
     rw [← hset I K i0 (by omega)] at HRS
     have HSL := Aside0.mk (hsln I K)
     generalize setP l [I, K] 0 0 = S at *
     clear hset hsln HP HQ hik
     go_upto_region 17 with fail
     refine gen_wp (fun W => Below w.heap.size w W) (below_to HBW.out chn) (fun wd HD => ?_)
     have FL1 : Aside0 True := ⟨trivial⟩
     have FL2 : Aside0 True := ⟨trivial⟩
     go_wp2_with (first
      | (go_at_call 50; have hfl := FL1; clear hfl FL1; refine (HCL.out _ (below_to HD.out chn)).mono ?_; rintro e w4 ⟨A4, k4, rfl, hle4, hC4, hb⟩; have HC4 := Aside0.mk hC4; have HB4 := Aside0.mk (show Below wd.heap.size wd w4 from below_to chn hb); clear hle4 hC4 hb)
      | (go_at_call 58; have hfl := FL2; clear hfl FL2; refine (HST.out A4 k4 w4.heap.size _ (Kd.C_below HC4.out chn) (by first | exact blk_new _ _ | exact blk_is (by simp))).mono ?_; rintro e w5 ⟨A5, k5, rfl, hle5, hC5, hb⟩; have HC5 := Aside0.mk hC5; have HB5 := Aside0.mk (show Below wd.heap.size wd w5 from below_to (below_to HB4.out chn) hb); clear hle5 hC5 hb)
      | (go_at_call 59; refine (HRS.out w5.heap.size _ (below_to HD.out (below_to HB5.out chn)) (by first | exact blk_new _ _ | exact blk_is (by simp))).mono ?_; rintro e w6 ⟨A6, k6, rfl, hle6, hC6, hb⟩; have HC6 := Aside0.mk hC6; have HB6 := Aside0.mk (show Below wd.heap.size wd w6 from below_to (below_to HB5.out chn) hb); have HC5b := Aside0.mk (Kd.C_below HC5.out (show Below w5.heap.size w5 w6 from below_to chn hb)); have FL3 : Aside0 True := ⟨trivial⟩; clear hle6 hC6 hb)
      | (go_at_call 46; have hfl := FL3; clear hfl FL3; refine (sameVisits13_any _ A5 A6 k5 k6 _ HC5b.out HC6.out HSL.out).mono ?_; rintro e w7 ⟨rfl, hb⟩; have HB7 := Aside0.mk (below_to HB6.out hb); have FL4 : Aside0 True := ⟨trivial⟩; clear hb)
      | (go_at_call 50; have hfl := FL4; clear hfl FL4; refine (HCL.out _ (below_to HD.out HB7.out)).mono ?_; rintro e w8 ⟨A8, k8, rfl, hle8, hC8, hb⟩; have HC8 := Aside0.mk hC8; have HB8 := Aside0.mk (below_to HB7.out hb); have FL5 : Aside0 True := ⟨trivial⟩; clear hle8 hC8 hb)
      | (go_at_call 58; have hfl := FL5; clear hfl FL5; refine (HSN.out A8 k8 _ HC8.out).mono ?_; rintro e w9 ⟨A9, k9, rfl, hle9, hC9, hb⟩; have HC9 := Aside0.mk hC9; have HB9 := Aside0.mk (below_to HB8.out hb); have FL6 : Aside0 True := ⟨trivial⟩; clear hle9 hC9 hb)
      | (go_at_call 46; have hfl := FL6; clear hfl FL6; refine (sameVisits13_any l A9 A k9 c _ HC9.out (Kd.C_below HR.out (below_to HD.out HB9.out)) HLN.out).mono ?_; rintro e w10 ⟨rfl, hb⟩; have HB10 := Aside0.mk (below_to HB9.out hb); clear hb))
     go_ret
     exact ⟨rfl, below_to HD.out HB10.out⟩
/-- The same, as the row wants it. -/
theorem planLoadsLaw_row (q : PV) (p : TProblem) (l : List TVisit) (A : Option Addr) (c : Nat) (i k : Int) (w : World) (hg : GProblem p) (hq : q.Ok p w) (hl : l.length ≤ maxLen ∧ l.length * 16 ≤ 140737488351232 ∧ ∀ y ∈ l, GVisit y) (_ : l.length ≤ c) (hr : Kd.C kVisit w A l.length l) (_ : (Lit.int .i64 i).wf = true) (_ : (Lit.int .i64 k).wf = true) :
  Calls Try.prog 11 #[q.val p, .slice A l.length c, .int .i64 i, .int .i64 k] w fun e w' => e = .returned (.bool true) ∧ Below w.heap.size w w' :=
 planLoadsLaw_any q p l A c i k w hg hq ⟨hl.1, hl.2.1⟩ hr
end Go.Proofs.Ytemjpgmfignhnaa
