/- Contract: the plan of task visits, with breaks set in. The document's Fit.
Conditions: a lawful problem, at most 60 visits. -/
import Derived.Test.YtemjpgmfignhnaaM0
import Derived.Test.YtemjpgmfignhnaaR13f
import Derived.Test.YtemjpgmfignhnaaM11
namespace Go.Proofs.Ytemjpgmfignhnaa
open Go.RowKit Go.Proofs.YtemjpgmfignhnaaW.PrintWords Go.Proofs.YtemjpgmfignhnaaW.PrintLast Go.Proofs.YtemjpgmfignhnaaW.PrintMore
set_option linter.unusedVariables false
set_option linter.unusedSimpArgs false
attribute [local go_sem] cell_growBy Option.some_or
theorem C_take {α : Type} {d : Kd α} {W : World} {A : Option Addr} {n : Nat} {xs : List α} (h : d.C W A n xs) (m : Nat) (hm : m ≤ n) : d.C W A m (xs.take m) := by
 obtain ⟨h1, h2, h3⟩ := h
 refine ⟨by rw [List.length_take]; omega, by omega, fun hp => ?_⟩
 obtain ⟨ad, e, hc⟩ := h3 (by omega)
 refine ⟨ad, e, fun j p hj => hc j p ?_⟩
 rw [List.getElem?_take] at hj
 split at hj
 ·exact hj
 ·cases hj
theorem C_two {W : World} {g t : Nat} {a b : Int} (h : W.heap[g]? = some (.cells #[.int .i64 a, .int .i64 b] t (0, 0))) : Kd.C (Kd.int .i64) W (some ⟨g, 0, none⟩) 2 [a, b] := by
 refine C_block h [a, b] ⟨rfl, fun j p hj => ?_⟩ (by simp)
 match j, hj with
 | 0, hj =>
  obtain rfl : a = p := by simpa using hj
  rfl
 | 1, hj =>
  obtain rfl : b = p := by simpa using hj
  rfl
/-- What is still to be tried, at the i-th row's k-th place. -/
def leftS (n m i k : Nat) : List (Nat × Nat) := (if n = 1 then [(i, i)] else rowPairs i m k) ++ pairsFrom n m (i + 1)
set_option maxHeartbeats 16000000 in
set_option maxRecDepth 100000 in
theorem refFit_any (q : PV) (p : TProblem) (vehicle : Int) (l : List TVisit) (A : Option Addr) (c : Nat) (w : World) (hlp : Good p) (law : Law p) (hq : q.Ok p w) (hr : Kd.C kVisit w A l.length l) (hl : l.length ≤ 60) :
  Calls Try.prog 54 #[q.val p, .int .i64 vehicle, .slice A l.length c] w (PlanPost (fitS p vehicle l) w) := by
 have hnv := law.nv
 have HR := Aside0.mk hr
 have HQ := Aside0.mk hq
 by_cases hv0 : vehicle < 0
 ·have e : fitS p vehicle l = (zPlan, 160) := by unfold fitS; rw [if_pos (.inl hv0)]
  rw [e]
  have d1 : decide (vehicle < 0) = true := decide_eq_true hv0
  clear e hr hq hlp law hv0
  unfold PV.val
  go_enter Try.func54, Try.ntmps54
  go_wp2
  exact bodyPost_ret (v := .tuple #[.agg #[.int .i64 0, .slice none 0 0, .int .i64 0, .int .i64 0, .int .i64 0, .int .i64 0, .int .i64 0], .int .i64 160]) (by simp [results, Try.results54, go_sem, *]) rfl ⟨none, 0, rfl, Nat.le_refl _, Kd.F_nil _ _ _, clb⟩
 by_cases hv1 : (p.Vehicles.length : Int) ≤ vehicle
 ·have e : fitS p vehicle l = (zPlan, 160) := by unfold fitS; rw [if_pos (.inr hv1)]
  rw [e]
  have d0 : decide (vehicle < 0) = false := decide_eq_false hv0
  have d1 : decide ((p.Vehicles.length : Int) ≤ vehicle) = true := decide_eq_true hv1
  clear e hr hq hlp law hv0 hv1
  unfold PV.val
  go_enter Try.func54, Try.ntmps54
  go_wp2
  exact bodyPost_ret (v := .tuple #[.agg #[.int .i64 0, .slice none 0 0, .int .i64 0, .int .i64 0, .int .i64 0, .int .i64 0, .int .i64 0], .int .i64 160]) (by simp [results, Try.results54, go_sem, *]) rfl ⟨none, 0, rfl, Nat.le_refl _, Kd.F_nil _ _ _, clb⟩
 have d0 : decide (vehicle < 0) = false := decide_eq_false hv0
 have d1 : decide ((p.Vehicles.length : Int) ≤ vehicle) = false := decide_eq_false hv1
 have efit : fitS p vehicle l = if l.any (fun x => decide (x.Kind = 4)) = true then (zPlan, 162) else
   if (rdVehicle p.Vehicles vehicle).Breaks.length = 0 then ofS p vehicle l else
   tryS p vehicle l (rdVehicle p.Vehicles vehicle).Breaks.length (pairsFrom (rdVehicle p.Vehicles vehicle).Breaks.length l.length 0) := by
  unfold fitS
  rw [if_neg (fun h => h.elim hv0 hv1)]
 have hvm := rdVeh_mem p.Vehicles vehicle (by omega) (by omega)
 have hbrl := (law.veh _ hvm).brl
 have hi0 : 0 ≤ vehicle := by omega
 have hi1 : vehicle < (p.Vehicles.length : Int) := by omega
 obtain ⟨av, AC, cC, AB, cB, eav, v0, v1, v2, v3, v4, v5, v6, v7, v8, v9, v10, lC, gC, lB, gB⟩ := atVehicle hq.h3 vehicle (by omega) (by omega)
 generalize hn : (rdVehicle p.Vehicles vehicle).Breaks.length = n at *
 have HOF := Aside0.mk (fun (l' : List TVisit) (A' : Option Addr) (c' : Nat) W (hb : Below w.heap.size w W) (hC : Kd.C kVisit W A' l'.length l') (hl' : l'.length ≤ 200) => refOf_any' q p vehicle l' A' c' W hlp law (hq.below hb) hC hl')
 obtain ⟨a1, c1, a2, c2, a3, c3, a4, c4, a5, c5⟩ := q
 have eav' : a3 = some av := eav
 subst eav'
 have V10 := Aside0.mk v10
 clear hr hq hlp law hvm eav lC gC lB gB hv0 hv1 v0 v1 v2 v3 v4 v5 v6 v7 v8 v9 v10
 unfold PV.val at HOF ⊢
 generalize fitS p vehicle l = R at *
 have HE := Aside0.mk efit
 clear efit
 go_enter Try.func54, Try.ntmps54
 go_wp2
 go_loopw [8] (fun vi wr => ∃ k : Nat, k ≤ l.length ∧ vi = .int .i64 k ∧ Aside0 (∀ x ∈ l.take k, x.Kind ≠ 4) ∧ Aside0 (Below (w.heap.size + 1 + 1) ((w.alloc (.cells #[.int .i64 p.Dims, .int .i64 p.Time.N, .slice a1 p.Time.Cells.length c1, .int .i64 p.Dist.N, .slice a2 p.Dist.Cells.length c2, .slice (some av) p.Vehicles.length c3, .slice a4 p.Jobs.length c4, .slice a5 p.Shipments.length c5] 29)).alloc (.cells #[.int .i64 0, .slice none 0 0, .int .i64 0, .int .i64 0, .int .i64 0, .int .i64 0, .int .i64 0] 74)) wr)) (fun vi _ => l.length - (intOf vi).toNat)
 case atStart => exact ⟨0, Nat.zero_le _, rfl, ⟨by simp⟩, ⟨Below.refl _ _⟩⟩
 case round =>
  obtain ⟨k, hk, rfl, HK, HW⟩ := hrel
  have HW' : Aside0 (Below ((w.alloc (.cells #[.int .i64 p.Dims, .int .i64 p.Time.N, .slice a1 p.Time.Cells.length c1, .int .i64 p.Dist.N, .slice a2 p.Dist.Cells.length c2, .slice (some av) p.Vehicles.length c3, .slice a4 p.Jobs.length c4, .slice a5 p.Shipments.length c5] 29)).alloc (.cells #[.int .i64 0, .slice none 0 0, .int .i64 0, .int .i64 0, .int .i64 0, .int .i64 0, .int .i64 0] 74)).heap.size ((w.alloc (.cells #[.int .i64 p.Dims, .int .i64 p.Time.N, .slice a1 p.Time.Cells.length c1, .int .i64 p.Dist.N, .slice a2 p.Dist.Cells.length c2, .slice (some av) p.Vehicles.length c3, .slice a4 p.Jobs.length c4, .slice a5 p.Shipments.length c5] 29)).alloc (.cells #[.int .i64 0, .slice none 0 0, .int .i64 0, .int .i64 0, .int .i64 0, .int .i64 0, .int .i64 0] 74)) wr) := ⟨by simpa using HW.out⟩
  have HB0 : Aside0 (Below w.heap.size w wr) := ⟨below_to (below_alloc (below_alloc (Below.refl _ _) _) _) HW'.out⟩
  have HPB : Aside0 (wr.heap[w.heap.size]? = some (.cells #[.int .i64 p.Dims, .int .i64 p.Time.N, .slice a1 p.Time.Cells.length c1, .int .i64 p.Dist.N, .slice a2 p.Dist.Cells.length c2, .slice (some av) p.Vehicles.length c3, .slice a4 p.Jobs.length c4, .slice a5 p.Shipments.length c5] 29)) := ⟨blk_below (blk_alloc (blk_new _ _) _) HW'.out⟩
  have HZB : Aside0 (wr.heap[w.heap.size + 1]? = some (.cells #[.int .i64 0, .slice none 0 0, .int .i64 0, .int .i64 0, .int .i64 0, .int .i64 0, .int .i64 0] 74)) := ⟨blk_below (blk_is (by simp)) HW'.out⟩
  by_cases hlt : k < l.length
  ·
   obtain ⟨ad, ea, x0, x1⟩ := atNVisit (Kd.C_below HR.out HB0.out) k hlt
   subst ea
   have r0 : (0 : Int) ≤ (k : Int) := by omega
   have r1 : (k : Int) < (l.length : Int) := by omega
   by_cases k4 : l[k].Kind = 4
   ·have d4 : (l[k].Kind == 4) = true := by simp [k4]
    have hE := HE.out
    rw [if_pos (List.any_eq_true.2 ⟨_, List.getElem_mem hlt, by simp [k4]⟩)] at hE
    subst hE
    have hz := HZB.out
    obtain ⟨z0, z1, z2, z3, z4, z5, z6⟩ := cells7 hz; have zz := fun i => blk_frozen hz i; have hzw := blk_lt hz
    clear HE HK k4 hz
    go_wp2
    exact ret_store (by rfl) (zPlan, 162) w _ _ (w.heap.size + 1) none 0 (ok := fun k => w.heap.size + 1 < k) HZB.out rfl rfl rfl (by omega) (fun k hk => hk) (Nat.le_refl _) (Kd.F_nil _ _ _) HB0.out
   ·have d4 : (l[k].Kind == 4) = false := by simp [k4]
    have hN : ∀ x ∈ l.take (k + 1), x.Kind ≠ 4 := by
     intro x hx
     rw [List.take_succ_eq_append_getElem hlt] at hx
     rcases List.mem_append.1 hx with hx | hx
     ·exact HK.out x hx
     ·rw [List.mem_singleton.1 hx]; exact k4
    have HN := Aside0.mk hN
    clear hN k4 HK
    go_wp2
    go_roundw
    case rel => exact ⟨k + 1, by omega, by go_num, HN, HW⟩
    case measure => simp [intOf]; omega
  ·obtain rfl : k = l.length := by omega
   have hE := HE.out
   rw [if_neg (by
    intro h
    obtain ⟨x, hx, h4⟩ := List.any_eq_true.1 h
    have := HK.out
    rw [List.take_length] at this
    exact this x hx (by simpa using h4))] at hE
   have HE2 := Aside0.mk hE
   have hpb := HPB.out
   have hzb := HZB.out
   obtain ⟨p0, p1, p2, p3, p4, p5, p6, p7⟩ := cells8 hpb; have hpw := blk_lt hpb
   obtain ⟨z0, z1, z2, z3, z4, z5, z6⟩ := cells7 hzb; have zz := fun i => blk_frozen hzb i; have hzw := blk_lt hzb
   have v10 := pw_cell_below HB0.out V10.out
   clear HE HK hE hpb hzb
   by_cases hn0 : n = 0
   ·
    have dn : ((n : Int) == 0) = true := by simp [hn0]
    have hE := HE2.out
    rw [if_pos hn0] at hE
    subst hE
    clear HE2 hn0
    go_wp2_with (go_at_call 51; refine (HOF.out l A c _ HB0.out (Kd.C_below HR.out HB0.out) (by omega)).mono ?_; rintro e w3 ⟨A3, k3, rfl, hle, hF, hb⟩; have HF3 := Aside0.mk hF; have HB3 := Aside0.mk hb; have hz3 := blk_below HZB.out hb; clear z0 z1 z2 z3 z4 z5 z6 zz hzw hF hb; obtain ⟨z0, z1, z2, z3, z4, z5, z6⟩ := cells7 hz3; have zz := fun i => blk_frozen hz3 i; have hzw := blk_lt hz3)
    exact ret_store (by rfl) (ofS p vehicle l) w _ _ (w.heap.size + 1) A3 k3 hz3 rfl rfl rfl (by omega) (fun k hk => Nat.lt_of_lt_of_le (blk_lt HZB.out) hk) hle HF3.out (below_to HB0.out HB3.out)
   ·have dn : ((n : Int) == 0) = false := by simp [hn0]
    have hE := HE2.out
    rw [if_neg hn0] at hE
    have HT0 : Aside0 (tryS p vehicle l n (pairsFrom n l.length 0) = R) := ⟨hE.symm⟩
    clear HE2 hE
    have HWa : Aside0 (Below (w.heap.size + 1 + 1) ((w.alloc (.cells #[.int .i64 p.Dims, .int .i64 p.Time.N, .slice a1 p.Time.Cells.length c1, .int .i64 p.Dist.N, .slice a2 p.Dist.Cells.length c2, .slice (some av) p.Vehicles.length c3, .slice a4 p.Jobs.length c4, .slice a5 p.Shipments.length c5] 29)).alloc (.cells #[.int .i64 0, .slice none 0 0, .int .i64 0, .int .i64 0, .int .i64 0, .int .i64 0, .int .i64 0] 74)) wr) := HW
    go_upto_region 11 with fail
    clear p0 p1 p2 p3 p4 p5 p6 p7 hpw z0 z1 z2 z3 z4 z5 z6 zz hzw HW' HB0 HPB HZB HW hk v10
    go_wp2
    go_loopw [10] (fun vi wr => ∃ i : Nat, i ≤ l.length + 1 ∧ vi = .int .i64 i ∧ Aside0 (tryS p vehicle l n (pairsFrom n l.length i) = R) ∧ Aside0 (Below (w.heap.size + 1 + 1) ((w.alloc (.cells #[.int .i64 p.Dims, .int .i64 p.Time.N, .slice a1 p.Time.Cells.length c1, .int .i64 p.Dist.N, .slice a2 p.Dist.Cells.length c2, .slice (some av) p.Vehicles.length c3, .slice a4 p.Jobs.length c4, .slice a5 p.Shipments.length c5] 29)).alloc (.cells #[.int .i64 0, .slice none 0 0, .int .i64 0, .int .i64 0, .int .i64 0, .int .i64 0, .int .i64 0] 74)) wr)) (fun vi _ => l.length + 1 - (intOf vi).toNat)
    case atStart => exact ⟨0, by omega, rfl, HT0, HWa⟩
    case round =>
     clear HT0 HWa
     obtain ⟨i, hi, rfl, HT, HW⟩ := hrel
     by_cases hil : i ≤ l.length
     ·have hT := HT.out
      rw [pairsFrom_at n l.length i hil] at hT
      have HT1 : Aside0 (tryS p vehicle l n (leftS n l.length i i) = R) := ⟨hT⟩
      clear HT hT
      have HWa := HW
      clear HW
      obtain ⟨wb, rfl⟩ : ∃ wb : World, wb = wr := ⟨_, rfl⟩
      go_wp2
      go_loopw [11] (fun vk wr => ∃ k : Nat, i ≤ k ∧ k ≤ l.length + 1 ∧ (n = 1 → k = i) ∧ vk = .int .i64 k ∧ Aside0 (tryS p vehicle l n (leftS n l.length i k) = R) ∧ Aside0 (Below (w.heap.size + 1 + 1) ((w.alloc (.cells #[.int .i64 p.Dims, .int .i64 p.Time.N, .slice a1 p.Time.Cells.length c1, .int .i64 p.Dist.N, .slice a2 p.Dist.Cells.length c2, .slice (some av) p.Vehicles.length c3, .slice a4 p.Jobs.length c4, .slice a5 p.Shipments.length c5] 29)).alloc (.cells #[.int .i64 0, .slice none 0 0, .int .i64 0, .int .i64 0, .int .i64 0, .int .i64 0, .int .i64 0] 74)) wr)) (fun vk _ => l.length + 1 - (intOf vk).toNat)
      case atStart => exact ⟨i, Nat.le_refl _, by omega, fun _ => rfl, rfl, HT1, HWa⟩
      case round =>
       clear HT1 HWa
       obtain ⟨k, hik, hk, hn1, rfl, HT, HW⟩ := hrel
       have HW' : Aside0 (Below ((w.alloc (.cells #[.int .i64 p.Dims, .int .i64 p.Time.N, .slice a1 p.Time.Cells.length c1, .int .i64 p.Dist.N, .slice a2 p.Dist.Cells.length c2, .slice (some av) p.Vehicles.length c3, .slice a4 p.Jobs.length c4, .slice a5 p.Shipments.length c5] 29)).alloc (.cells #[.int .i64 0, .slice none 0 0, .int .i64 0, .int .i64 0, .int .i64 0, .int .i64 0, .int .i64 0] 74)).heap.size ((w.alloc (.cells #[.int .i64 p.Dims, .int .i64 p.Time.N, .slice a1 p.Time.Cells.length c1, .int .i64 p.Dist.N, .slice a2 p.Dist.Cells.length c2, .slice (some av) p.Vehicles.length c3, .slice a4 p.Jobs.length c4, .slice a5 p.Shipments.length c5] 29)).alloc (.cells #[.int .i64 0, .slice none 0 0, .int .i64 0, .int .i64 0, .int .i64 0, .int .i64 0, .int .i64 0] 74)) wr) := ⟨by simpa using HW.out⟩
       have HB0 : Aside0 (Below w.heap.size w wr) := ⟨below_to (below_alloc (below_alloc (Below.refl _ _) _) _) HW'.out⟩
       have HPB : Aside0 (wr.heap[w.heap.size]? = some (.cells #[.int .i64 p.Dims, .int .i64 p.Time.N, .slice a1 p.Time.Cells.length c1, .int .i64 p.Dist.N, .slice a2 p.Dist.Cells.length c2, .slice (some av) p.Vehicles.length c3, .slice a4 p.Jobs.length c4, .slice a5 p.Shipments.length c5] 29)) := ⟨blk_below (blk_alloc (blk_new _ _) _) HW'.out⟩
       have HZB : Aside0 (wr.heap[w.heap.size + 1]? = some (.cells #[.int .i64 0, .slice none 0 0, .int .i64 0, .int .i64 0, .int .i64 0, .int .i64 0, .int .i64 0] 74)) := ⟨blk_below (blk_is (by simp)) HW'.out⟩
       by_cases hkl : k ≤ l.length
       ·
        have eleft : leftS n l.length i k = (i, k) :: (if n = 1 then pairsFrom n l.length (i + 1) else leftS n l.length i (k + 1)) := by
         unfold leftS
         by_cases e1 : n = 1
         ·rw [if_pos e1, if_pos e1, hn1 e1]; rfl
         ·rw [if_neg e1, if_neg e1, rowPairs_at i l.length k hkl, if_neg e1]; rfl
        have hT := HT.out
        rw [eleft, tryS] at hT
        have HT2 := Aside0.mk hT
        clear HT hT eleft
        generalize hat : ([(i : Int), (k : Int)] : List Int).take n = at_ at *
        have hatl : at_.length = n := by rw [← hat]; simp; omega
        have hsl : (setS l at_).length ≤ 200 := by
         have := setTo_len l at_ (l.length + 1)
         have h3 : (l.length + 1) * (at_.length + 1) ≤ 61 * 3 := Nat.mul_le_mul (by omega) (by omega)
         unfold setS
         omega
        go_upto_region 18 with fail
        refine gen_wp (fun W => Below wr.heap.size wr W ∧ W.heap[wr.heap.size]? = some (.cells #[.int .i64 i, .int .i64 k] 3 (0, 0))) ⟨below_alloc (Below.refl _ _) _, blk_new _ _⟩ (fun wS HS => ?_)
        have HBS : Aside0 (Below w.heap.size w wS) := ⟨below_to HB0.out HS.out.1⟩
        have hpb := blk_below HPB.out HS.out.1
        obtain ⟨p0, p1, p2, p3, p4, p5, p6, p7⟩ := cells8 hpb; have hpw := blk_lt hpb
        have HSE := Aside0.mk (fun W (hb : Below wS.heap.size wS W) => by
         have h2 := C_take (C_two (blk_below HS.out.2 hb)) n (by omega)
         rw [hat] at h2
         have h3 := refSet_any l at_ A (some ⟨wr.heap.size, 0, none⟩) c 2 W (Kd.C_below HR.out (below_to HBS.out hb)) (by rw [hatl]; exact h2) (by omega) (by omega)
         rw [hatl] at h3
         exact h3)
        have HO1 := Aside0.mk (fun (A' : Option Addr) (c' : Nat) W (hb : Below w.heap.size w W) (hC : Kd.C kVisit W A' (setS l at_).length (setS l at_)) => HOF.out (setS l at_) A' c' W hb hC hsl)
        generalize ofS p vehicle (setS l at_) = r at *
        generalize setS l at_ = ls at *
        have n0 : (0 : Int) ≤ (n : Int) := by omega
        have n2 : (n : Int) ≤ 2 := by omega
        have hws := HS.out.1.size
        have HSB := Aside0.mk HS.out.1
        have hzw : w.heap.size + 1 < wr.heap.size := blk_lt HZB.out
        clear hpb HS
        go_cut [13, 14] (fun s13 s14 wx => ∃ b A5 k5, s13 = .pointer (some ⟨b, 0, none⟩) ∧ s14 = .int .i64 r.2 ∧ Aside0 (wx.heap[b]? = some (.cells #[.int .i64 r.1.Vehicle, .slice A5 r.1.Steps.length k5, .int .i64 r.1.Time, .int .i64 r.1.Dist, .int .i64 r.1.Wait, .int .i64 r.1.Service, .int .i64 r.1.Cost] 74 (0, 0)) ∧ r.1.Steps.length ≤ k5 ∧ Kd.F kStep wx (fun k => w.heap.size + 1 < k) A5 r.1.Steps.length r.1.Steps) ∧ Aside0 (Below wr.heap.size wr wx))
        case first =>
         as_aux_lemma =>
         clear hat hatl hsl hn1 hik hk hkl hi hil hbrl hn dn hn0 d0 d1
         refine wp_region_held_drew (S := fun W' => Below wS.heap.size wS W' ∧ ∀ a : Addr, a.block < wS.heap.size → W'.cell? a = wS.cell? a) (by kernel_rfl) (hl_start _) (fun hHeld => ?_)
         refine (show wpAnyH _ _ _ _ _ 14 (Array.replicate 14 false) _ _ from ?_)
         refine tk 0 (h := ?_)
         refine tk 1 (h := ?_)
         refine tk 2 (h := ?_)
         refine tk 3 (h := ?_)
         refine tk 4 (h := ?_)
         refine tk 5 (h := ?_)
         refine wpAnyH_ready (rs := [6, 11]) (by kernel_rfl) (by simp) ?_
         refine rcn (fun K hK => ?_) (rcn (fun K hK => ?_) AllReadyH.nil)
         ·go_simp
          refine (HSE.out _ (And.left (show Below wS.heap.size wS _ ∧ _ from by assumption))).mono ?_; rintro e w4 ⟨A4, k4, rfl, hle4, hC4, hb4⟩; obtain ⟨qcs, qfs⟩ := bcell hb4; have hs4 := hb4.size; (try simp at hs4); dsimp only
          clear hHeld
          refine hko hK _ _ _ (hl_of chn) (fun hHeld => ?_)
          clear hK K
          refine wpAnyH_ready (rs := [7, 11]) (by kernel_rfl) (by simp) ?_
          refine rcn (fun K hK => ?_) (rcn (fun K hK => ?_) AllReadyH.nil)
          ·go_simp
           refine (HO1.out A4 k4 _ (below_to HBS.out (And.left (show Below wS.heap.size wS _ ∧ _ from by assumption))) (Kd.C_below hC4 chn)).mono ?_; rintro e w5 ⟨A5, k5, rfl, hle5, hF5, hb5⟩; have hs5 := hb5.size; (try simp at hs5); dsimp only
           clear hHeld
           refine hko hK _ _ _ (hl_of chn) (fun hHeld => ?_)
           clear hK K
           refine tk 8 (h := ?_)
           refine tk 9 (h := ?_)
           refine tk 10 (h := ?_)
           refine wpAnyH_ready (rs := [11]) (by kernel_rfl) (by simp) ?_
           refine rcn (fun K hK => ?_) AllReadyH.nil
           go_simp
           skip
           clear hHeld
           refine hko hK _ _ _ (hl_of chn) (fun hHeld => ?_)
           clear hK K
           refine wpAnyH_ready (rs := [12]) (by kernel_rfl) (by simp) ?_
           refine rcn (fun K hK => ?_) AllReadyH.nil
           go_simp
           skip
           clear hHeld
           refine hko hK _ _ _ (hl_of chn) (fun hHeld => ?_)
           clear hK K
           refine tk 13 (h := ?_)
           refine wpAnyH_done (by kernel_rfl) ?_ _
           go_wp2_with fail
           go_meet
           exact ⟨_, A5, k5, rfl, rfl, ⟨blk_new _ _, hle5, Kd.F_mono (Kd.F_below hF5 (below_alloc (Below.refl _ _) _)) (fun k hk => by have hk' : w4.heap.size ≤ k := hk; omega)⟩, ⟨below_to HSB.out (And.left (show Below wS.heap.size wS _ ∧ _ from by assumption))⟩⟩
          ·go_simp
           skip
           clear hHeld
           refine hko hK _ _ _ (hl_of chn) (fun hHeld => ?_)
           clear hK K
           refine wpAnyH_ready (rs := [7]) (by kernel_rfl) (by simp) ?_
           refine rcn (fun K hK => ?_) AllReadyH.nil
           go_simp
           refine (HO1.out A4 k4 _ (below_to HBS.out (And.left (show Below wS.heap.size wS _ ∧ _ from by assumption))) (Kd.C_below hC4 chn)).mono ?_; rintro e w5 ⟨A5, k5, rfl, hle5, hF5, hb5⟩; have hs5 := hb5.size; (try simp at hs5); dsimp only
           clear hHeld
           refine hko hK _ _ _ (hl_of chn) (fun hHeld => ?_)
           clear hK K
           refine tk 8 (h := ?_)
           refine tk 9 (h := ?_)
           refine tk 10 (h := ?_)
           have hz5 := blk_below (blk_new _ (.cells #[.int .i64 0, .slice none 0 0, .int .i64 0, .int .i64 0, .int .i64 0, .int .i64 0, .int .i64 0] 74)) hb5
           clear hs5 qcs qfs
           refine wpAnyH_ready (rs := [12]) (by kernel_rfl) (by simp) ?_
           refine rcn (fun K hK => ?_) AllReadyH.nil
           refine wp_store7 rfl rfl rfl hz5 ?_
           clear hHeld
           refine hko hK _ _ _ (hl_of chn) (fun hHeld => ?_)
           clear hK K
           refine tk 13 (h := ?_)
           refine wpAnyH_done (by kernel_rfl) ?_ _
           go_wp2_with fail
           go_meet
           exact ⟨_, A5, k5, rfl, rfl, ⟨blk_set7 hz5 _ _ _ _ _ _ _, hle5, Kd.F_mono (F_set7 hF5 (fun k hk => by have hk' : (w4.alloc (.cells #[.int .i64 0, .slice none 0 0, .int .i64 0, .int .i64 0, .int .i64 0, .int .i64 0, .int .i64 0] 74)).heap.size ≤ k := hk; simp at hk'; omega) _ _ _ _ _ _ _) (fun k hk => by have hk' : (w4.alloc (.cells #[.int .i64 0, .slice none 0 0, .int .i64 0, .int .i64 0, .int .i64 0, .int .i64 0, .int .i64 0] 74)).heap.size ≤ k := hk; simp at hk'; omega)⟩, ⟨below_to HSB.out (And.left (show Below wS.heap.size wS _ ∧ _ from by assumption))⟩⟩
         ·go_simp
          skip
          clear hHeld
          refine hko hK _ _ _ (hl_of chn) (fun hHeld => ?_)
          clear hK K
          refine wpAnyH_ready (rs := [6]) (by kernel_rfl) (by simp) ?_
          refine rcn (fun K hK => ?_) AllReadyH.nil
          go_simp
          refine (HSE.out _ (And.left (show Below wS.heap.size wS _ ∧ _ from by assumption))).mono ?_; rintro e w4 ⟨A4, k4, rfl, hle4, hC4, hb4⟩; obtain ⟨qcs, qfs⟩ := bcell hb4; have hs4 := hb4.size; (try simp at hs4); dsimp only
          clear hHeld
          refine hko hK _ _ _ (hl_of chn) (fun hHeld => ?_)
          clear hK K
          have hz4 := blk_below (show (wS.alloc (.cells #[.int .i64 0, .slice none 0 0, .int .i64 0, .int .i64 0, .int .i64 0, .int .i64 0, .int .i64 0] 74)).drew.heap[wS.heap.size]? = some (.cells #[.int .i64 0, .slice none 0 0, .int .i64 0, .int .i64 0, .int .i64 0, .int .i64 0, .int .i64 0] 74) from blk_new _ _) hb4
          refine wpAnyH_ready (rs := [7]) (by kernel_rfl) (by simp) ?_
          refine rcn (fun K hK => ?_) AllReadyH.nil
          go_simp
          refine (HO1.out A4 k4 _ (below_to HBS.out (And.left (show Below wS.heap.size wS _ ∧ _ from by assumption))) (Kd.C_below hC4 chn)).mono ?_; rintro e w5 ⟨A5, k5, rfl, hle5, hF5, hb5⟩; have hs5 := hb5.size; (try simp at hs5); dsimp only
          clear hHeld
          refine hko hK _ _ _ (hl_of chn) (fun hHeld => ?_)
          clear hK K
          refine tk 8 (h := ?_)
          refine tk 9 (h := ?_)
          refine tk 10 (h := ?_)
          have hz5 := blk_below hz4 hb5
          clear hs5 qcs qfs
          refine wpAnyH_ready (rs := [12]) (by kernel_rfl) (by simp) ?_
          refine rcn (fun K hK => ?_) AllReadyH.nil
          refine wp_store7 rfl rfl rfl hz5 ?_
          clear hHeld
          refine hko hK _ _ _ (hl_of chn) (fun hHeld => ?_)
          clear hK K
          refine tk 13 (h := ?_)
          refine wpAnyH_done (by kernel_rfl) ?_ _
          go_wp2_with fail
          go_meet
          exact ⟨_, A5, k5, rfl, rfl, ⟨blk_set7 hz5 _ _ _ _ _ _ _, hle5, Kd.F_mono (F_set7 hF5 (fun k hk => by have hk' : w4.heap.size ≤ k := hk; omega) _ _ _ _ _ _ _) (fun k hk => by have hk' : w4.heap.size ≤ k := hk; omega)⟩, ⟨below_to HSB.out (And.left (show Below wS.heap.size wS _ ∧ _ from by assumption))⟩⟩
        case rest =>
         obtain ⟨b, A5, k5, rfl, rfl, HX, HBx⟩ := hcut
         have HBwc : Aside0 (Below w.heap.size w wc) := ⟨below_to HB0.out HBx.out⟩
         have hT := HT2.out
         clear p0 p1 p2 p3 p4 p5 p6 p7 hpw HT2 HBS HSE HO1 hat hatl
         by_cases e7 : r.2 = 167
         ·have d7 : (r.2 != 167) = false := by simp [e7]
          rw [if_pos e7] at hT
          by_cases e1 : n = 1
          ·have d8 : ((n : Int) == 1) = true := by simp [e1]
           rw [if_pos e1] at hT
           have HN := Aside0.mk hT
           clear hT e7 e1 hn1
           go_wp2
           go_roundw
           case rel => exact ⟨i + 1, by omega, by go_num, HN, ⟨by simpa using below_to HW'.out HBx.out⟩⟩
           case measure => simp [intOf]; omega
          ·have d8 : ((n : Int) == 1) = false := by simp; omega
           rw [if_neg e1] at hT
           have HN := Aside0.mk hT
           clear hT e7
           go_wp2
           go_roundw
           case rel => exact ⟨k + 1, by omega, by omega, fun e => absurd e e1, by go_num, HN, ⟨by simpa using below_to HW'.out HBx.out⟩⟩
           case measure => simp [intOf]; omega
         ·have d7 : (r.2 != 167) = true := by simp [e7]
          rw [if_neg e7] at hT
          subst hT
          have hbx := HX.out.1
          obtain ⟨b0, b1, b2, b3, b4, b5, b6⟩ := cells7 hbx; have hbw := blk_lt hbx
          have hz := blk_below HZB.out HBx.out
          clear e7 hbx
          obtain ⟨z0, z1, z2, z3, z4, z5, z6⟩ := cells7 hz; have zz := fun i => blk_frozen hz i; have hzw := blk_lt hz
          go_wp2
          exact ret_store (by rfl) r w _ _ (w.heap.size + 1) A5 k5 hz rfl rfl rfl (by omega) (fun k hk => hk) HX.out.2.1 HX.out.2.2 HBwc.out
       ·obtain rfl : k = l.length + 1 := by omega
        have hn2 : n ≠ 1 := fun e => by
         have := hn1 e
         omega
        have hT := HT.out
        unfold leftS at hT
        rw [if_neg hn2, rowPairs_end, List.nil_append] at hT
        have HN := Aside0.mk hT
        clear HT hT
        go_wp2
        go_roundw
        case rel => exact ⟨i + 1, by omega, by go_num, HN, HW⟩
        case measure => simp [intOf]; omega
     ·obtain rfl : i = l.length + 1 := by omega
      have HW' : Aside0 (Below ((w.alloc (.cells #[.int .i64 p.Dims, .int .i64 p.Time.N, .slice a1 p.Time.Cells.length c1, .int .i64 p.Dist.N, .slice a2 p.Dist.Cells.length c2, .slice (some av) p.Vehicles.length c3, .slice a4 p.Jobs.length c4, .slice a5 p.Shipments.length c5] 29)).alloc (.cells #[.int .i64 0, .slice none 0 0, .int .i64 0, .int .i64 0, .int .i64 0, .int .i64 0, .int .i64 0] 74)).heap.size ((w.alloc (.cells #[.int .i64 p.Dims, .int .i64 p.Time.N, .slice a1 p.Time.Cells.length c1, .int .i64 p.Dist.N, .slice a2 p.Dist.Cells.length c2, .slice (some av) p.Vehicles.length c3, .slice a4 p.Jobs.length c4, .slice a5 p.Shipments.length c5] 29)).alloc (.cells #[.int .i64 0, .slice none 0 0, .int .i64 0, .int .i64 0, .int .i64 0, .int .i64 0, .int .i64 0] 74)) wr) := ⟨by simpa using HW.out⟩
      have HB0 : Aside0 (Below w.heap.size w wr) := ⟨below_to (below_alloc (below_alloc (Below.refl _ _) _) _) HW'.out⟩
      have HZB : Aside0 (wr.heap[w.heap.size + 1]? = some (.cells #[.int .i64 0, .slice none 0 0, .int .i64 0, .int .i64 0, .int .i64 0, .int .i64 0, .int .i64 0] 74)) := ⟨blk_below (blk_is (by simp)) HW'.out⟩
      have hT := HT.out
      rw [pairsFrom_end, tryS] at hT
      subst hT
      have hz := HZB.out
      obtain ⟨z0, z1, z2, z3, z4, z5, z6⟩ := cells7 hz; have zz := fun i => blk_frozen hz i; have hzw := blk_lt hz
      clear HT hz
      go_wp2
      exact ret_store (by rfl) (zPlan, 167) w _ _ (w.heap.size + 1) none 0 (ok := fun k => w.heap.size + 1 < k) HZB.out rfl rfl rfl (by omega) (fun k hk => hk) (Nat.le_refl _) (Kd.F_nil _ _ _) HB0.out
end Go.Proofs.Ytemjpgmfignhnaa
