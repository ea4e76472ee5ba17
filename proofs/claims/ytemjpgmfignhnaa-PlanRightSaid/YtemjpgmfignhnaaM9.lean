/- Contract: can each place be reached from the one ahead? The program's travel.
Conditions: a lawful problem, at most 200 visits. -/
import Derived.Test.YtemjpgmfignhnaaM0
import Derived.Test.YtemjpgmfignhnaaM8
import Derived.Test.YtemjpgmfignhnaaM7
import Derived.Test.YtemjpgmfignhnaaM6
import Derived.Test.YtemjpgmfignhnaaM3
import Derived.Test.YtemjpgmfignhnaaM5
namespace Go.Proofs.Ytemjpgmfignhnaa
open Go.RowKit Go.Proofs.YtemjpgmfignhnaaW.PrintWords Go.Proofs.YtemjpgmfignhnaaW.PrintLast Go.Proofs.YtemjpgmfignhnaaW.PrintMore
set_option linter.unusedVariables false
set_option linter.unusedSimpArgs false
attribute [local go_sem] cell_growBy Option.some_or
theorem travelL_at (p : TProblem) (L : List Int) (k : Nat) (h : k + 1 < L.length) : travelL p (L.drop k) = if cellS p.Time (rd L k) (rd L ((k + 1 : Nat) : Int)) < 0 ∨ cellS p.Dist (rd L k) (rd L ((k + 1 : Nat) : Int)) < 0 then 166 else travelL p (L.drop (k + 1)) := by
 rw [List.drop_eq_getElem_cons (show k < L.length by omega), List.drop_eq_getElem_cons h, travelL, rd_nat L k (by omega), rd_nat L (k + 1) h]
theorem travelL_end (p : TProblem) (L : List Int) (k : Nat) (h : k + 1 = L.length) : travelL p (L.drop k) = 0 := by
 rw [List.drop_eq_getElem_cons (show k < L.length by omega), List.drop_of_length_le (by omega), travelL]
set_option maxHeartbeats 16000000 in
set_option maxRecDepth 100000 in
theorem planTravel_any (q : PV) (p : TProblem) (v : TVehicle) (AC AB : Option Addr) (cC cB : Nat) (l : List TVisit) (A : Option Addr) (c : Nat) (w : World) (hlp : Good p) (law : Law p) (hq : q.Ok p w) (hr : Kd.C kVisit w A l.length l) (hl : l.length ≤ 200) :
  Calls Try.prog 100 #[q.val p, vehVal v AC AB cC cB, .slice A l.length c] w fun e w' => e = .returned (.int .i64 (travelS p v.End v.Start l)) ∧ Below w.heap.size w w' := by
 have HP := Aside0.mk (fun W (hb : Below w.heap.size w W) => planPlaces_any q p v AC AB cC cB l A c W hlp law (hq.below hb) (Kd.C_below hr hb) hl)
 have hM1 := Aside0.mk (fun (i j : Int) W (hb : Below w.heap.size w W) => cell_any p.Time q.a1 q.c1 i j W (matOk_of law.mt law.n0 law.n1) (hq.below hb).h1)
 have hM2 := Aside0.mk (fun (i j : Int) W (hb : Below w.heap.size w W) => cell_any p.Dist q.a2 q.c2 i j W (matOk_of law.md law.n0 law.n1) (hq.below hb).h2)
 rw [← travel_same]
 have hn : (v.Start :: (placesS p v.Start l ++ [v.End])).length = l.length + 2 := by simp [placesS_length]
 generalize v.Start :: (placesS p v.Start l ++ [v.End]) = L at *
 have HT0 : Aside0 (travelL p (L.drop 0) = travelL p L) := ⟨rfl⟩
 generalize travelL p L = R at *
 obtain ⟨a1, c1, a2, c2, a3, c3, a4, c4, a5, c5⟩ := q
 have h202 : L.length ≤ 202 := by omega
 have h2L : 2 ≤ L.length := by omega
 clear hr hq law hlp hn
 unfold PV.val at HP ⊢
 unfold vehVal at HP ⊢
 go_enter Try.func100, Try.ntmps100
 go_wp2_with (go_at_call 121; refine (HP.out _ clb).mono ?_; rintro e w1 ⟨A1, k1, rfl, hle1, hC1, hbF, hb⟩; have hpb := blk_below (blk_alloc (blk_new w (.cells #[.int .i64 p.Dims, .int .i64 p.Time.N, .slice a1 p.Time.Cells.length c1, .int .i64 p.Dist.N, .slice a2 p.Dist.Cells.length c2, .slice a3 p.Vehicles.length c3, .slice a4 p.Jobs.length c4, .slice a5 p.Shipments.length c5] 29)) (.cells #[.int .i64 v.Start, .int .i64 v.End, .slice AC v.Cap.length cC, .int .u64 v.Skills, .int .i64 v.Shift.From, .int .i64 v.Shift.To, .int .i64 v.Fixed, .int .i64 v.PerTime, .int .i64 v.PerDist, .int .i64 v.MaxTasks, .slice AB v.Breaks.length cB] 89)) hb; have HPB := Aside0.mk hpb; have HC1 := Aside0.mk (Kd.F_now hC1); have HB1 := Aside0.mk (show Below w.heap.size w w1 from below_to clb hb); clear hpb hC1 hb hle1 hbF)
 go_loopw [8] (fun vi wr => ∃ k : Nat, k + 1 ≤ L.length ∧ vi = .int .i64 ((k : Int) + 1) ∧ Aside0 (travelL p (L.drop k) = R) ∧ Aside0 (Below w1.heap.size w1 wr)) (fun vi _ => L.length - (intOf vi).toNat)
 case atStart => exact ⟨0, by omega, rfl, HT0, ⟨Below.refl _ _⟩⟩
 case round =>
  clear HT0 HP
  obtain ⟨k, hk, rfl, HT, HW⟩ := hrel
  have HB0 : Aside0 (Below w.heap.size w wr) := ⟨below_to HB1.out HW.out⟩
  by_cases hlt : k + 1 < L.length
  ·have d0 : decide ((k : Int) + 1 < (L.length : Int)) = true := decide_eq_true (by omega)
   have hpb := blk_below HPB.out HW.out
   have p0 := blk_cell hpb 0; have p1 := blk_cell hpb 1; have p2 := blk_cell hpb 2; have p3 := blk_cell hpb 3; have p4 := blk_cell hpb 4; have hpw := blk_lt hpb
   simp only [List.getElem?_toArray, List.getElem?_cons_succ, List.getElem?_cons_zero] at p0 p1 p2 p3 p4
   obtain ⟨ad, ea, y0⟩ := Kd.at_int (Kd.C_below HC1.out HW.out) (k : Int) (by omega) (by omega)
   subst ea
   obtain ⟨ad', ea', y1⟩ := Kd.at_int (Kd.C_below HC1.out HW.out) ((k + 1 : Nat) : Int) (by omega) (by omega)
   obtain rfl := Option.some.inj ea'
   have hs := HT.out
   rw [travelL_at p L k hlt] at hs
   simp only [Int.toNat_natCast] at y0 y1
   generalize rd L (k : Int) = a at *
   generalize rd L ((k + 1 : Nat) : Int) = b at *
   have hba := World.block_lt_of_cell? _ _ y0
   have hbb := World.block_lt_of_cell? _ _ y1
   have r0 : (0 : Int) ≤ (k : Int) := by omega
   have r1 : (k : Int) < (L.length : Int) := by omega
   have r2 : (0 : Int) ≤ (k : Int) + 1 := by omega
   have r3 : (k : Int) + 1 < (L.length : Int) := by omega
   have e4 : IntKind.i64.wrap ((k : Int) + 1 - 1) = (k : Int) := by rw [show (k : Int) + 1 - 1 = (k : Int) by omega]; exact IntWalk.i64_in _ (by omega)
   have e5 : IntKind.i64.wrap (k : Int) = (k : Int) := IntWalk.i64_in _ (by omega)
   have y1' : wr.cell? ⟨ad.block, ad.off + (k + 1), none⟩ = some (.int .i64 b) := by
    have h := y1
    rw [Addr.add, if_neg (by omega)] at h
    exact h
   have hbb' : (⟨ad.block, ad.off + (k + 1), none⟩ : Addr).block < wr.heap.size := World.block_lt_of_cell? wr ⟨ad.block, ad.off + (k + 1), none⟩ y1'
   clear hpb HT ea' y1 hbb
   by_cases c1' : cellS p.Time a b < 0
   ·have dc1 : decide (cellS p.Time a b < 0) = true := decide_eq_true c1'
    rw [if_pos (.inl c1')] at hs
    subst hs
    clear c1'
    go_upto_region 5 with fail
    refine wp_region_held_drew (S := fun W' => Below wr.heap.size wr W' ∧ ∀ a : Addr, a.block < wr.heap.size → W'.cell? a = wr.cell? a) (by kernel_rfl) (hl_start _) (fun hHeld => ?_)
    refine (show wpAnyH _ _ _ _ _ 28 (Array.replicate 28 false) _ _ from ?_)
    refine tk 0 (h := ?_)
    refine tk 1 (h := ?_)
    refine tk 2 (h := ?_)
    refine tk 3 (h := ?_)
    refine tk 4 (h := ?_)
    refine tk 5 (h := ?_)
    refine tk 6 (h := ?_)
    refine tk 7 (h := ?_)
    refine tk 8 (h := ?_)
    refine tk 9 (h := ?_)
    refine tk 10 (h := ?_)
    refine wpAnyH_ready (rs := [11]) (by kernel_rfl) (by simp) ?_
    refine rcn (fun K hK => ?_) AllReadyH.nil
    go_simp
    with_reducible refine (hM1.out a b _ (below_to HB0.out (And.left (show Below wr.heap.size wr _ ∧ _ from by assumption)))).mono ?_; rintro e w4 ⟨rfl, hb⟩; obtain ⟨qcs, qfs⟩ := bcell hb; dsimp only
    clear hHeld
    refine hko hK _ _ _ (hl_of chn) (fun hHeld => ?_)
    clear hK K
    refine tk 12 (h := ?_)
    refine tk 13 (h := ?_)
    refine wpAnyH_take (i := 14) (oi := _) (v := undef) (by simp only [List.getElem?_toArray, List.getElem?_cons_succ, List.getElem?_cons_zero]; rfl) (by kernel_rfl) (by kernel_rfl) (by kernel_rfl) (by exact fun _ _ _ h => h) (Or.inr ⟨by rfl, rfl⟩) (by assumption) ?_
    (try simp only [Act.put, List.setIfInBounds_toArray, List.set_cons_zero, List.set_cons_succ])
    refine wpAnyH_take (i := 15) (oi := _) (v := undef) (by simp only [List.getElem?_toArray, List.getElem?_cons_succ, List.getElem?_cons_zero]; rfl) (by kernel_rfl) (by kernel_rfl) (by kernel_rfl) (by exact fun _ _ _ h => h) (Or.inr ⟨by rfl, rfl⟩) (by assumption) ?_
    (try simp only [Act.put, List.setIfInBounds_toArray, List.set_cons_zero, List.set_cons_succ])
    refine wpAnyH_take (i := 16) (oi := _) (v := undef) (by simp only [List.getElem?_toArray, List.getElem?_cons_succ, List.getElem?_cons_zero]; rfl) (by kernel_rfl) (by kernel_rfl) (by kernel_rfl) (by exact fun _ _ _ h => h) (Or.inr ⟨by rfl, rfl⟩) (by assumption) ?_
    (try simp only [Act.put, List.setIfInBounds_toArray, List.set_cons_zero, List.set_cons_succ])
    refine wpAnyH_take (i := 17) (oi := _) (v := undef) (by simp only [List.getElem?_toArray, List.getElem?_cons_succ, List.getElem?_cons_zero]; rfl) (by kernel_rfl) (by kernel_rfl) (by kernel_rfl) (by exact fun _ _ _ h => h) (Or.inr ⟨by rfl, rfl⟩) (by assumption) ?_
    (try simp only [Act.put, List.setIfInBounds_toArray, List.set_cons_zero, List.set_cons_succ])
    refine wpAnyH_take (i := 18) (oi := _) (v := undef) (by simp only [List.getElem?_toArray, List.getElem?_cons_succ, List.getElem?_cons_zero]; rfl) (by kernel_rfl) (by kernel_rfl) (by kernel_rfl) (by exact fun _ _ _ h => h) (Or.inr ⟨by rfl, rfl⟩) (by assumption) ?_
    (try simp only [Act.put, List.setIfInBounds_toArray, List.set_cons_zero, List.set_cons_succ])
    refine wpAnyH_take (i := 19) (oi := _) (v := undef) (by simp only [List.getElem?_toArray, List.getElem?_cons_succ, List.getElem?_cons_zero]; rfl) (by kernel_rfl) (by kernel_rfl) (by kernel_rfl) (by exact fun _ _ _ h => h) (Or.inr ⟨by rfl, rfl⟩) (by assumption) ?_
    (try simp only [Act.put, List.setIfInBounds_toArray, List.set_cons_zero, List.set_cons_succ])
    refine wpAnyH_take (i := 20) (oi := _) (v := undef) (by simp only [List.getElem?_toArray, List.getElem?_cons_succ, List.getElem?_cons_zero]; rfl) (by kernel_rfl) (by kernel_rfl) (by kernel_rfl) (by exact fun _ _ _ h => h) (Or.inr ⟨by rfl, rfl⟩) (by assumption) ?_
    (try simp only [Act.put, List.setIfInBounds_toArray, List.set_cons_zero, List.set_cons_succ])
    refine wpAnyH_take (i := 21) (oi := _) (v := undef) (by simp only [List.getElem?_toArray, List.getElem?_cons_succ, List.getElem?_cons_zero]; rfl) (by kernel_rfl) (by kernel_rfl) (by kernel_rfl) (by exact fun _ _ _ h => h) (Or.inr ⟨by rfl, rfl⟩) (by assumption) ?_
    (try simp only [Act.put, List.setIfInBounds_toArray, List.set_cons_zero, List.set_cons_succ])
    refine wpAnyH_take (i := 22) (oi := _) (v := undef) (by simp only [List.getElem?_toArray, List.getElem?_cons_succ, List.getElem?_cons_zero]; rfl) (by kernel_rfl) (by kernel_rfl) (by kernel_rfl) (by exact fun _ _ _ h => h) (Or.inr ⟨by rfl, rfl⟩) (by assumption) ?_
    (try simp only [Act.put, List.setIfInBounds_toArray, List.set_cons_zero, List.set_cons_succ])
    refine wpAnyH_take (i := 23) (oi := _) (v := undef) (by simp only [List.getElem?_toArray, List.getElem?_cons_succ, List.getElem?_cons_zero]; rfl) (by kernel_rfl) (by kernel_rfl) (by kernel_rfl) (by exact fun _ _ _ h => h) (Or.inr ⟨by rfl, rfl⟩) (by assumption) ?_
    (try simp only [Act.put, List.setIfInBounds_toArray, List.set_cons_zero, List.set_cons_succ])
    refine wpAnyH_take (i := 24) (oi := _) (v := undef) (by simp only [List.getElem?_toArray, List.getElem?_cons_succ, List.getElem?_cons_zero]; rfl) (by kernel_rfl) (by kernel_rfl) (by kernel_rfl) (by exact fun _ _ _ h => h) (Or.inr ⟨by rfl, rfl⟩) (by assumption) ?_
    (try simp only [Act.put, List.setIfInBounds_toArray, List.set_cons_zero, List.set_cons_succ])
    refine wpAnyH_take (i := 25) (oi := _) (v := undef) (by simp only [List.getElem?_toArray, List.getElem?_cons_succ, List.getElem?_cons_zero]; rfl) (by kernel_rfl) (by kernel_rfl) (by kernel_rfl) (by exact fun _ _ _ h => h) (Or.inr ⟨by rfl, rfl⟩) (by assumption) ?_
    (try simp only [Act.put, List.setIfInBounds_toArray, List.set_cons_zero, List.set_cons_succ])
    refine wpAnyH_take (i := 26) (oi := _) (v := undef) (by simp only [List.getElem?_toArray, List.getElem?_cons_succ, List.getElem?_cons_zero]; rfl) (by kernel_rfl) (by kernel_rfl) (by kernel_rfl) (by exact fun _ _ _ h => h) (Or.inr ⟨by rfl, rfl⟩) (by assumption) ?_
    (try simp only [Act.put, List.setIfInBounds_toArray, List.set_cons_zero, List.set_cons_succ])
    refine tk 27 (h := ?_)
    refine wpAnyH_done (by kernel_rfl) ?_ _
    all_goals
     go_wp2_with fail
     go_ret
     exact ⟨rfl, below_to HB0.out (And.left (show Below wr.heap.size wr _ ∧ _ from by assumption))⟩
   have dc1 : decide (cellS p.Time a b < 0) = false := decide_eq_false c1'
   by_cases c2' : cellS p.Dist a b < 0
   ·have dc2 : decide (cellS p.Dist a b < 0) = true := decide_eq_true c2'
    rw [if_pos (.inr c2')] at hs
    subst hs
    clear c1' c2'
    go_upto_region 5 with fail
    refine wp_region_held_drew (S := fun W' => Below wr.heap.size wr W' ∧ ∀ a : Addr, a.block < wr.heap.size → W'.cell? a = wr.cell? a) (by kernel_rfl) (hl_start _) (fun hHeld => ?_)
    refine (show wpAnyH _ _ _ _ _ 28 (Array.replicate 28 false) _ _ from ?_)
    refine tk 0 (h := ?_)
    refine tk 1 (h := ?_)
    refine tk 2 (h := ?_)
    refine tk 3 (h := ?_)
    refine tk 4 (h := ?_)
    refine tk 5 (h := ?_)
    refine tk 6 (h := ?_)
    refine tk 7 (h := ?_)
    refine tk 8 (h := ?_)
    refine tk 9 (h := ?_)
    refine tk 10 (h := ?_)
    refine wpAnyH_ready (rs := [11]) (by kernel_rfl) (by simp) ?_
    refine rcn (fun K hK => ?_) AllReadyH.nil
    go_simp
    with_reducible refine (hM1.out a b _ (below_to HB0.out (And.left (show Below wr.heap.size wr _ ∧ _ from by assumption)))).mono ?_; rintro e w4 ⟨rfl, hb⟩; obtain ⟨qcs, qfs⟩ := bcell hb; dsimp only
    clear hHeld
    refine hko hK _ _ _ (hl_of chn) (fun hHeld => ?_)
    clear hK K
    refine tk 12 (h := ?_)
    refine tk 13 (h := ?_)
    refine tk 14 (h := ?_)
    refine tk 15 (h := ?_)
    refine tk 16 (h := ?_)
    refine tk 17 (h := ?_)
    refine tk 18 (h := ?_)
    refine tk 19 (h := ?_)
    refine tk 20 (h := ?_)
    refine tk 21 (h := ?_)
    refine tk 22 (h := ?_)
    refine tk 23 (h := ?_)
    refine tk 24 (h := ?_)
    refine wpAnyH_ready (rs := [25]) (by kernel_rfl) (by simp) ?_
    refine rcn (fun K hK => ?_) AllReadyH.nil
    go_simp
    with_reducible refine (hM2.out a b _ (below_to HB0.out (And.left (show Below wr.heap.size wr _ ∧ _ from by assumption)))).mono ?_; rintro e w5 ⟨rfl, hb⟩; obtain ⟨qct, qft⟩ := bcell hb; dsimp only
    clear hHeld
    refine hko hK _ _ _ (hl_of chn) (fun hHeld => ?_)
    clear hK K
    refine tk 26 (h := ?_)
    refine tk 27 (h := ?_)
    refine wpAnyH_done (by kernel_rfl) ?_ _
    all_goals
     go_wp2_with fail
     go_ret
     exact ⟨rfl, below_to HB0.out (And.left (show Below wr.heap.size wr _ ∧ _ from by assumption))⟩
   ·have dc2 : decide (cellS p.Dist a b < 0) = false := decide_eq_false c2'
    rw [if_neg (fun h => h.elim c1' c2')] at hs
    have HN := Aside0.mk hs
    clear c1' c2' hs
    go_upto_region 5 with fail
    refine wp_region_held_drew (S := fun W' => Below wr.heap.size wr W' ∧ ∀ a : Addr, a.block < wr.heap.size → W'.cell? a = wr.cell? a) (by kernel_rfl) (hl_start _) (fun hHeld => ?_)
    refine (show wpAnyH _ _ _ _ _ 28 (Array.replicate 28 false) _ _ from ?_)
    refine tk 0 (h := ?_)
    refine tk 1 (h := ?_)
    refine tk 2 (h := ?_)
    refine tk 3 (h := ?_)
    refine tk 4 (h := ?_)
    refine tk 5 (h := ?_)
    refine tk 6 (h := ?_)
    refine tk 7 (h := ?_)
    refine tk 8 (h := ?_)
    refine tk 9 (h := ?_)
    refine tk 10 (h := ?_)
    refine wpAnyH_ready (rs := [11]) (by kernel_rfl) (by simp) ?_
    refine rcn (fun K hK => ?_) AllReadyH.nil
    go_simp
    with_reducible refine (hM1.out a b _ (below_to HB0.out (And.left (show Below wr.heap.size wr _ ∧ _ from by assumption)))).mono ?_; rintro e w4 ⟨rfl, hb⟩; obtain ⟨qcs, qfs⟩ := bcell hb; dsimp only
    clear hHeld
    refine hko hK _ _ _ (hl_of chn) (fun hHeld => ?_)
    clear hK K
    refine tk 12 (h := ?_)
    refine tk 13 (h := ?_)
    refine tk 14 (h := ?_)
    refine tk 15 (h := ?_)
    refine tk 16 (h := ?_)
    refine tk 17 (h := ?_)
    refine tk 18 (h := ?_)
    refine tk 19 (h := ?_)
    refine tk 20 (h := ?_)
    refine tk 21 (h := ?_)
    refine tk 22 (h := ?_)
    refine tk 23 (h := ?_)
    refine tk 24 (h := ?_)
    refine wpAnyH_ready (rs := [25]) (by kernel_rfl) (by simp) ?_
    refine rcn (fun K hK => ?_) AllReadyH.nil
    go_simp
    with_reducible refine (hM2.out a b _ (below_to HB0.out (And.left (show Below wr.heap.size wr _ ∧ _ from by assumption)))).mono ?_; rintro e w5 ⟨rfl, hb⟩; obtain ⟨qct, qft⟩ := bcell hb; dsimp only
    clear hHeld
    refine hko hK _ _ _ (hl_of chn) (fun hHeld => ?_)
    clear hK K
    refine tk 26 (h := ?_)
    refine tk 27 (h := ?_)
    refine wpAnyH_done (by kernel_rfl) ?_ _
    all_goals
     go_wp2_with fail
     go_roundw
     case rel => exact ⟨k + 1, by omega, by go_num, HN, ⟨below_to HW.out (And.left (show Below wr.heap.size wr _ ∧ _ from by assumption))⟩⟩
     case measure => simp [intOf] <;> omega
  ·have d0 : decide ((k : Int) + 1 < (L.length : Int)) = false := decide_eq_false (by omega)
   have hs := HT.out
   rw [travelL_end p L k (by omega)] at hs
   subst hs
   go_wp2
   go_ret
   exact ⟨rfl, HB0.out⟩
end Go.Proofs.Ytemjpgmfignhnaa
/- Contract: the way from a place to a place is added to a plan. The program's drive.
Conditions: a lawful problem; the plan's sums not great. -/
namespace Go.Proofs.Ytemjpgmfignhnaa
open Go.RowKit Go.Proofs.YtemjpgmfignhnaaW.PrintWords Go.Proofs.YtemjpgmfignhnaaW.PrintLast Go.Proofs.YtemjpgmfignhnaaW.PrintMore
set_option linter.unusedVariables false
set_option linter.unusedSimpArgs false
attribute [local go_sem] cell_growBy Option.some_or
theorem sx_below {g : Nat} {wr W W1 : World} (h : wr.heap.size ≤ W.heap.size ∧ ∀ a : Addr, a.block < wr.heap.size → a.block ≠ g → W.cell? a = wr.cell? a) (hb : Below W.heap.size W W1) :
  wr.heap.size ≤ W1.heap.size ∧ ∀ a : Addr, a.block < wr.heap.size → a.block ≠ g → W1.cell? a = wr.cell? a :=
 ⟨Nat.le_trans h.1 hb.size, fun a ha hg => (hb.cell (Nat.lt_of_lt_of_le ha h.1)).trans (h.2 a ha hg)⟩
theorem sx_set {g : Nat} {wr W : World} (h : wr.heap.size ≤ W.heap.size ∧ ∀ a : Addr, a.block < wr.heap.size → a.block ≠ g → W.cell? a = wr.cell? a) (i : Nat) (v : Value) :
  wr.heap.size ≤ (W.setCell ⟨g, i, none⟩ v).heap.size ∧ ∀ a : Addr, a.block < wr.heap.size → a.block ≠ g → (W.setCell ⟨g, i, none⟩ v).cell? a = wr.cell? a :=
 ⟨by simpa using h.1, fun a ha hg => by
  rw [← h.2 a ha hg]
  have hh := Below.heap_setCell W ⟨g, i, none⟩ v a.block (fun e => hg e)
  unfold World.cell?
  rw [hh]⟩
set_option maxHeartbeats 16000000 in
set_option maxRecDepth 100000 in
theorem planDrive_any (q : PV) (p : TProblem) (g : Nat) (a b tm di : Int) (d0 d1 d4 d5 d6 : Value) (w : World) (law : Law p) (hq : q.Ok p w) (hz : w.heap[g]? = some (.cells #[d0, d1, .int .i64 tm, .int .i64 di, d4, d5, d6] 74 (0, 0)))
  (ht : -1000000000000 ≤ tm ∧ tm ≤ 1000000000000) (hd : -1000000000000 ≤ di ∧ di ≤ 1000000000000) :
  Calls Try.prog 122 #[q.val p, .pointer (some ⟨g, 0, none⟩), .int .i64 a, .int .i64 b] w fun e w' => e = .returned (.int .i64 (cellS p.Time a b)) ∧
   ∃ wa, Below w.heap.size w wa ∧ w' = (wa.setCell ⟨g, 2, none⟩ (.int .i64 (tm + cellS p.Time a b))).setCell ⟨g, 3, none⟩ (.int .i64 (di + cellS p.Dist a b)) := by
 have hM1 := Aside0.mk (fun (i j : Int) W (hb : Below w.heap.size w W) => cell_any p.Time q.a1 q.c1 i j W (matOk_of law.mt law.n0 law.n1) (hq.below hb).h1)
 have hM2 := Aside0.mk (fun (i j : Int) W (hb : Below w.heap.size w W) => cell_any p.Dist q.a2 q.c2 i j W (matOk_of law.md law.n0 law.n1) (hq.below hb).h2)
 have HZ := Aside0.mk hz
 have ht1 := law.time a b
 have hd1 := law.dist a b
 have e1 : IntKind.i64.wrap (tm + cellS p.Time a b) = tm + cellS p.Time a b := IntWalk.i64_in _ (by omega)
 have e2 : IntKind.i64.wrap (di + cellS p.Dist a b) = di + cellS p.Dist a b := IntWalk.i64_in _ (by omega)
 have hgw := blk_lt hz
 have hne : w.heap.size ≠ g := by omega
 obtain ⟨a1, c1, a2, c2, a3, c3, a4, c4, a5, c5⟩ := q
 clear hq law hz ht1 hd1 ht hd
 unfold PV.val
 go_enter Try.func122, Try.ntmps122
 go_upto_region 2 with (go_at_call 30; refine (hM1.out a b _ clb).mono ?_; rintro e w1 ⟨rfl, hb⟩; have HB0 := Aside0.mk (show Below w.heap.size w w1 from below_to (below_alloc (Below.refl _ _) _) hb); have HPB := Aside0.mk (blk_below (blk_new w (.cells #[.int .i64 p.Dims, .int .i64 p.Time.N, .slice a1 p.Time.Cells.length c1, .int .i64 p.Dist.N, .slice a2 p.Dist.Cells.length c2, .slice a3 p.Vehicles.length c3, .slice a4 p.Jobs.length c4, .slice a5 p.Shipments.length c5] 29)) hb); clear hb)
 refine gen_wp (fun W => Below w.heap.size w W ∧ W.heap[w.heap.size]? = some (.cells #[.int .i64 p.Dims, .int .i64 p.Time.N, .slice a1 p.Time.Cells.length c1, .int .i64 p.Dist.N, .slice a2 p.Dist.Cells.length c2, .slice a3 p.Vehicles.length c3, .slice a4 p.Jobs.length c4, .slice a5 p.Shipments.length c5] 29)) ⟨HB0.out, HPB.out⟩ (fun wr HW => ?_)
 have HB1 := Aside0.mk HW.out.1
 have hpb := HW.out.2
 have hzr := blk_below HZ.out HB1.out
 obtain ⟨p0, p1, p2, p3, p4, p5, p6, p7⟩ := cells8 hpb; have hpw := blk_lt hpb
 have o2 := blk_cell hzr 2
 have o3 := blk_cell hzr 3
 simp only [List.getElem?_toArray, List.getElem?_cons_succ, List.getElem?_cons_zero] at o2 o3
 have oz := fun i => blk_frozen hzr i
 have hgr := blk_lt hzr
 have HZ1 := Aside0.mk hzr
 clear HB0 HPB hpb hzr HW HZ
 refine wp_region_held_drew (S := fun W' => wr.heap.size ≤ W'.heap.size ∧ ∀ a : Addr, a.block < wr.heap.size → a.block ≠ g → W'.cell? a = wr.cell? a) (by kernel_rfl) ⟨Nat.le_refl _, fun _ _ _ => rfl⟩ (fun hHeld => ?_)
 refine (show wpAnyH _ _ _ _ _ 24 (Array.replicate 24 false) _ _ from ?_)
 refine tk 0 (h := ?_)
 refine tk 1 (h := ?_)
 refine tk 2 (h := ?_)
 refine tk 3 (h := ?_)
 refine tk 4 (h := ?_)
 refine tk 6 (h := ?_)
 refine tk 8 (h := ?_)
 refine tk 9 (h := ?_)
 refine tk 10 (h := ?_)
 refine tk 12 (h := ?_)
 refine tk 13 (h := ?_)
 refine tk 14 (h := ?_)
 refine tk 15 (h := ?_)
 refine wpAnyH_ready (rs := [5, 11, 16]) (by kernel_rfl) (by simp) ?_
 refine rcn (fun K hK => ?_) (rcn (fun K hK => ?_) (rcn (fun K hK => ?_) AllReadyH.nil))
 ·go_simp
  skip
  refine hko hK _ _ _ hHeld (fun hHeld => ?_)
  clear hK K
  refine tk 7 (h := ?_)
  refine wpAnyH_ready (rs := [11, 16]) (by kernel_rfl) (by simp) ?_
  refine rcn (fun K hK => ?_) (rcn (fun K hK => ?_) AllReadyH.nil)
  ·go_simp
   skip
   refine hko hK _ _ _ hHeld (fun hHeld => ?_)
   clear hK K
   refine wpAnyH_ready (rs := [16]) (by kernel_rfl) (by simp) ?_
   refine rcn (fun K hK => ?_) AllReadyH.nil
   go_simp
   with_reducible refine (hM2.out a b _ (below_to HB1.out chn)).mono ?_; rintro e w4 ⟨rfl, hb⟩; obtain ⟨qcs, qfs⟩ := bcell hb; have hz4 := blk_below HZ1.out (below_to (below_drew (Below.refl _ _)) hb); have f4 := fun i => blk_frozen hz4 i; have o2' := blk_cell hz4 2; have o3' := blk_cell hz4 3; simp only [List.getElem?_toArray, List.getElem?_cons_succ, List.getElem?_cons_zero] at o2' o3'; have f5 := fun i => blk_frozen (blk_set hz4 2 (.int .i64 (tm + cellS p.Time a b))) i; clear hz4 qfs oz; dsimp only
   refine hko hK _ _ _ (sx_below hHeld hb) (fun hHeld => ?_)
   clear hK K
   refine tk 17 (h := ?_)
   refine tk 18 (h := ?_)
   refine tk 19 (h := ?_)
   refine wpAnyH_ready (rs := [20]) (by kernel_rfl) (by simp) ?_
   refine rcn (fun K hK => ?_) AllReadyH.nil
   go_simp
   skip
   refine hko hK _ _ _ (sx_set hHeld _ _) (fun hHeld => ?_)
   clear hK K
   refine tk 21 (h := ?_)
   refine tk 22 (h := ?_)
   refine wpAnyH_ready (rs := [23]) (by kernel_rfl) (by simp) ?_
   refine rcn (fun K hK => ?_) AllReadyH.nil
   go_simp
   skip
   refine hko hK _ _ _ (sx_set hHeld _ _) (fun hHeld => ?_)
   clear hK K
   refine wpAnyH_done (by kernel_rfl) ?_ _
   go_wp2_with fail
   go_ret
   exact ⟨rfl, _, below_to HB1.out (below_to (below_drew (Below.refl _ _)) hb), rfl⟩
  ·go_simp
   with_reducible refine (hM2.out a b _ (below_to HB1.out chn)).mono ?_; rintro e w4 ⟨rfl, hb⟩; obtain ⟨qcs, qfs⟩ := bcell hb; have hz4 := blk_below HZ1.out (below_to (below_drew (Below.refl _ _)) hb); have f4 := fun i => blk_frozen hz4 i; have o2' := blk_cell hz4 2; have o3' := blk_cell hz4 3; simp only [List.getElem?_toArray, List.getElem?_cons_succ, List.getElem?_cons_zero] at o2' o3'; have f5 := fun i => blk_frozen (blk_set hz4 2 (.int .i64 (tm + cellS p.Time a b))) i; clear hz4 qfs oz; dsimp only
   refine hko hK _ _ _ (sx_below hHeld hb) (fun hHeld => ?_)
   clear hK K
   refine wpAnyH_ready (rs := [11]) (by kernel_rfl) (by simp) ?_
   refine rcn (fun K hK => ?_) AllReadyH.nil
   go_simp
   skip
   refine hko hK _ _ _ hHeld (fun hHeld => ?_)
   clear hK K
   refine tk 17 (h := ?_)
   refine tk 18 (h := ?_)
   refine tk 19 (h := ?_)
   refine wpAnyH_ready (rs := [20]) (by kernel_rfl) (by simp) ?_
   refine rcn (fun K hK => ?_) AllReadyH.nil
   go_simp
   skip
   refine hko hK _ _ _ (sx_set hHeld _ _) (fun hHeld => ?_)
   clear hK K
   refine tk 21 (h := ?_)
   refine tk 22 (h := ?_)
   refine wpAnyH_ready (rs := [23]) (by kernel_rfl) (by simp) ?_
   refine rcn (fun K hK => ?_) AllReadyH.nil
   go_simp
   skip
   refine hko hK _ _ _ (sx_set hHeld _ _) (fun hHeld => ?_)
   clear hK K
   refine wpAnyH_done (by kernel_rfl) ?_ _
   go_wp2_with fail
   go_ret
   exact ⟨rfl, _, below_to HB1.out (below_to (below_drew (Below.refl _ _)) hb), rfl⟩
 ·go_simp
  skip
  refine hko hK _ _ _ hHeld (fun hHeld => ?_)
  clear hK K
  refine wpAnyH_ready (rs := [5, 16]) (by kernel_rfl) (by simp) ?_
  refine rcn (fun K hK => ?_) (rcn (fun K hK => ?_) AllReadyH.nil)
  ·go_simp
   skip
   refine hko hK _ _ _ hHeld (fun hHeld => ?_)
   clear hK K
   refine tk 7 (h := ?_)
   refine wpAnyH_ready (rs := [16]) (by kernel_rfl) (by simp) ?_
   refine rcn (fun K hK => ?_) AllReadyH.nil
   go_simp
   with_reducible refine (hM2.out a b _ (below_to HB1.out chn)).mono ?_; rintro e w4 ⟨rfl, hb⟩; obtain ⟨qcs, qfs⟩ := bcell hb; have hz4 := blk_below HZ1.out (below_to (below_drew (Below.refl _ _)) hb); have f4 := fun i => blk_frozen hz4 i; have o2' := blk_cell hz4 2; have o3' := blk_cell hz4 3; simp only [List.getElem?_toArray, List.getElem?_cons_succ, List.getElem?_cons_zero] at o2' o3'; have f5 := fun i => blk_frozen (blk_set hz4 2 (.int .i64 (tm + cellS p.Time a b))) i; clear hz4 qfs oz; dsimp only
   refine hko hK _ _ _ (sx_below hHeld hb) (fun hHeld => ?_)
   clear hK K
   refine tk 17 (h := ?_)
   refine tk 18 (h := ?_)
   refine tk 19 (h := ?_)
   refine wpAnyH_ready (rs := [20]) (by kernel_rfl) (by simp) ?_
   refine rcn (fun K hK => ?_) AllReadyH.nil
   go_simp
   skip
   refine hko hK _ _ _ (sx_set hHeld _ _) (fun hHeld => ?_)
   clear hK K
   refine tk 21 (h := ?_)
   refine tk 22 (h := ?_)
   refine wpAnyH_ready (rs := [23]) (by kernel_rfl) (by simp) ?_
   refine rcn (fun K hK => ?_) AllReadyH.nil
   go_simp
   skip
   refine hko hK _ _ _ (sx_set hHeld _ _) (fun hHeld => ?_)
   clear hK K
   refine wpAnyH_done (by kernel_rfl) ?_ _
   go_wp2_with fail
   go_ret
   exact ⟨rfl, _, below_to HB1.out (below_to (below_drew (Below.refl _ _)) hb), rfl⟩
  ·go_simp
   with_reducible refine (hM2.out a b _ (below_to HB1.out chn)).mono ?_; rintro e w4 ⟨rfl, hb⟩; obtain ⟨qcs, qfs⟩ := bcell hb; have hz4 := blk_below HZ1.out (below_to (below_drew (Below.refl _ _)) hb); have f4 := fun i => blk_frozen hz4 i; have o2' := blk_cell hz4 2; have o3' := blk_cell hz4 3; simp only [List.getElem?_toArray, List.getElem?_cons_succ, List.getElem?_cons_zero] at o2' o3'; have f5 := fun i => blk_frozen (blk_set hz4 2 (.int .i64 (tm + cellS p.Time a b))) i; clear hz4 qfs oz; dsimp only
   refine hko hK _ _ _ (sx_below hHeld hb) (fun hHeld => ?_)
   clear hK K
   refine tk 17 (h := ?_)
   refine wpAnyH_ready (rs := [5]) (by kernel_rfl) (by simp) ?_
   refine rcn (fun K hK => ?_) AllReadyH.nil
   go_simp
   skip
   refine hko hK _ _ _ hHeld (fun hHeld => ?_)
   clear hK K
   refine tk 7 (h := ?_)
   refine tk 18 (h := ?_)
   refine tk 19 (h := ?_)
   refine wpAnyH_ready (rs := [20]) (by kernel_rfl) (by simp) ?_
   refine rcn (fun K hK => ?_) AllReadyH.nil
   go_simp
   skip
   refine hko hK _ _ _ (sx_set hHeld _ _) (fun hHeld => ?_)
   clear hK K
   refine tk 21 (h := ?_)
   refine tk 22 (h := ?_)
   refine wpAnyH_ready (rs := [23]) (by kernel_rfl) (by simp) ?_
   refine rcn (fun K hK => ?_) AllReadyH.nil
   go_simp
   skip
   refine hko hK _ _ _ (sx_set hHeld _ _) (fun hHeld => ?_)
   clear hK K
   refine wpAnyH_done (by kernel_rfl) ?_ _
   go_wp2_with fail
   go_ret
   exact ⟨rfl, _, below_to HB1.out (below_to (below_drew (Below.refl _ _)) hb), rfl⟩
 ·go_simp
  with_reducible refine (hM2.out a b _ (below_to HB1.out chn)).mono ?_; rintro e w4 ⟨rfl, hb⟩; obtain ⟨qcs, qfs⟩ := bcell hb; have hz4 := blk_below HZ1.out (below_to (below_drew (Below.refl _ _)) hb); have f4 := fun i => blk_frozen hz4 i; have o2' := blk_cell hz4 2; have o3' := blk_cell hz4 3; simp only [List.getElem?_toArray, List.getElem?_cons_succ, List.getElem?_cons_zero] at o2' o3'; have f5 := fun i => blk_frozen (blk_set hz4 2 (.int .i64 (tm + cellS p.Time a b))) i; clear hz4 qfs oz; dsimp only
  refine hko hK _ _ _ (sx_below hHeld hb) (fun hHeld => ?_)
  clear hK K
  refine wpAnyH_ready (rs := [5, 11]) (by kernel_rfl) (by simp) ?_
  refine rcn (fun K hK => ?_) (rcn (fun K hK => ?_) AllReadyH.nil)
  ·go_simp
   skip
   refine hko hK _ _ _ hHeld (fun hHeld => ?_)
   clear hK K
   refine tk 7 (h := ?_)
   refine wpAnyH_ready (rs := [11]) (by kernel_rfl) (by simp) ?_
   refine rcn (fun K hK => ?_) AllReadyH.nil
   go_simp
   skip
   refine hko hK _ _ _ hHeld (fun hHeld => ?_)
   clear hK K
   refine tk 17 (h := ?_)
   refine tk 18 (h := ?_)
   refine tk 19 (h := ?_)
   refine wpAnyH_ready (rs := [20]) (by kernel_rfl) (by simp) ?_
   refine rcn (fun K hK => ?_) AllReadyH.nil
   go_simp
   skip
   refine hko hK _ _ _ (sx_set hHeld _ _) (fun hHeld => ?_)
   clear hK K
   refine tk 21 (h := ?_)
   refine tk 22 (h := ?_)
   refine wpAnyH_ready (rs := [23]) (by kernel_rfl) (by simp) ?_
   refine rcn (fun K hK => ?_) AllReadyH.nil
   go_simp
   skip
   refine hko hK _ _ _ (sx_set hHeld _ _) (fun hHeld => ?_)
   clear hK K
   refine wpAnyH_done (by kernel_rfl) ?_ _
   go_wp2_with fail
   go_ret
   exact ⟨rfl, _, below_to HB1.out (below_to (below_drew (Below.refl _ _)) hb), rfl⟩
  ·go_simp
   skip
   refine hko hK _ _ _ hHeld (fun hHeld => ?_)
   clear hK K
   refine tk 17 (h := ?_)
   refine wpAnyH_ready (rs := [5]) (by kernel_rfl) (by simp) ?_
   refine rcn (fun K hK => ?_) AllReadyH.nil
   go_simp
   skip
   refine hko hK _ _ _ hHeld (fun hHeld => ?_)
   clear hK K
   refine tk 7 (h := ?_)
   refine tk 18 (h := ?_)
   refine tk 19 (h := ?_)
   refine wpAnyH_ready (rs := [20]) (by kernel_rfl) (by simp) ?_
   refine rcn (fun K hK => ?_) AllReadyH.nil
   go_simp
   skip
   refine hko hK _ _ _ (sx_set hHeld _ _) (fun hHeld => ?_)
   clear hK K
   refine tk 21 (h := ?_)
   refine tk 22 (h := ?_)
   refine wpAnyH_ready (rs := [23]) (by kernel_rfl) (by simp) ?_
   refine rcn (fun K hK => ?_) AllReadyH.nil
   go_simp
   skip
   refine hko hK _ _ _ (sx_set hHeld _ _) (fun hHeld => ?_)
   clear hK K
   refine wpAnyH_done (by kernel_rfl) ?_ _
   go_wp2_with fail
   go_ret
   exact ⟨rfl, _, below_to HB1.out (below_to (below_drew (Below.refl _ _)) hb), rfl⟩
end Go.Proofs.Ytemjpgmfignhnaa

/- Contracts: sums and differences of amounts. The program's num and load.
Conditions: numbers up to 10^15. -/
namespace Go.Proofs.Ytemjpgmfignhnaa
open Go.RowKit Go.Proofs.YtemjpgmfignhnaaW.PrintWords Go.Proofs.YtemjpgmfignhnaaW.PrintLast Go.Proofs.YtemjpgmfignhnaaW.PrintMore
set_option linter.unusedVariables false
set_option linter.unusedSimpArgs false
attribute [local go_sem] cell_growBy Option.some_or
set_option maxHeartbeats 16000000 in
set_option maxRecDepth 100000 in
theorem fits_any (x : Int) (w : World) (h0 : -2000000000000000 ≤ x) (h1 : x ≤ 2000000000000000) :
  Calls Try.prog 127 #[.int .i64 x] w fun e w' => e = .returned (.bool true) ∧ Below w.heap.size w w' := by
 have d0 : decide (-4611686018427387903 ≤ x) = true := decide_eq_true (by omega)
 have d1 : decide (x ≤ 4611686018427387903) = true := decide_eq_true (by omega)
 go_enter Try.func127, Try.ntmps127
 go_wp2
 go_ret
 exact ⟨rfl, Below.refl _ _⟩
set_option maxHeartbeats 16000000 in
set_option maxRecDepth 100000 in
theorem numAdd_any (x y : Int) (w : World) (h0 : -1000000000000000 ≤ x) (h1 : x ≤ 1000000000000000) (h2 : -1000000000000000 ≤ y) (h3 : y ≤ 1000000000000000) :
  Calls Try.prog 125 #[.int .i64 x, .int .i64 y] w fun e w' => e = .returned (.tuple #[.int .i64 (x + y), .int .i64 0]) ∧ Below w.heap.size w w' := by
 have e1 : IntKind.i64.wrap (x + y) = x + y := IntWalk.i64_in _ (by omega)
 have HF := Aside0.mk (fun z W (a : -2000000000000000 ≤ z) (b : z ≤ 2000000000000000) => fits_any z W a b)
 go_enter Try.func125, Try.ntmps125
 go_wp2_with (first
  | (go_at_call 127; with_reducible refine (HF.out x _ (by omega) (by omega)).mono ?_; rintro e w1 ⟨rfl, hb⟩; have HB1 := Aside0.mk hb; clear hb)
  | (go_at_call 127; with_reducible refine (HF.out y _ (by omega) (by omega)).mono ?_; rintro e w2 ⟨rfl, hb⟩; have HB2 := Aside0.mk (below_to HB1.out hb); clear hb)
  | (go_at_call 127; with_reducible refine (HF.out (x + y) _ (by omega) (by omega)).mono ?_; rintro e w3 ⟨rfl, hb⟩; have HB3 := Aside0.mk (below_to HB2.out hb); clear hb))
 go_ret2
 exact ⟨rfl, HB3.out⟩
set_option maxHeartbeats 16000000 in
set_option maxRecDepth 100000 in
theorem numSub_any (x y : Int) (w : World) (h0 : -1000000000000000 ≤ x) (h1 : x ≤ 1000000000000000) (h2 : -1000000000000000 ≤ y) (h3 : y ≤ 1000000000000000) :
  Calls Try.prog 126 #[.int .i64 x, .int .i64 y] w fun e w' => e = .returned (.tuple #[.int .i64 (x - y), .int .i64 0]) ∧ Below w.heap.size w w' := by
 have e1 : IntKind.i64.wrap (-y) = -y := IntWalk.i64_in _ (by omega)
 have e2 : x + -y = x - y := by omega
 have HF := Aside0.mk (fun W => fits_any y W (by omega) (by omega))
 have HA := Aside0.mk (fun W => numAdd_any x (-y) W h0 h1 (by omega) (by omega))
 rw [e2] at HA
 clear e2
 go_enter Try.func126, Try.ntmps126
 go_wp2_with (first
  | (go_at_call 127; refine (HF.out _).mono ?_; rintro e w1 ⟨rfl, hb⟩; have HB1 := Aside0.mk hb; clear hb)
  | (go_at_call 125; refine (HA.out _).mono ?_; rintro e w2 ⟨rfl, hb⟩; have HB2 := Aside0.mk (below_to HB1.out hb); clear hb))
 go_ret2
 exact ⟨rfl, HB2.out⟩
/-- A list of the call's own is handed back, and no error. -/
def EachPost (xs : List Int) (w : World) (e : Ending) (w' : World) : Prop :=
 ∃ v, e = .returned (.tuple #[v, .int .i64 0]) ∧ (Kd.int .i64).R 3 w' w.heap.size (fun _ => True) v xs ∧ Below w.heap.size w w'
set_option maxHeartbeats 16000000 in
set_option maxRecDepth 100000 in
theorem eachAdd_any (a b : List Int) (A B : Option Addr) (cA cB : Nat) (w : World) (hab : a.length = b.length) (hl : a.length ≤ 100) (ha : ∀ x ∈ a, -1000000000000000 ≤ x ∧ x ≤ 1000000000000000) (hb : ∀ x ∈ b, -1000000000000000 ≤ x ∧ x ≤ 1000000000000000)
  (hra : Kd.C (Kd.int .i64) w A a.length a) (hrb : Kd.C (Kd.int .i64) w B b.length b) :
  Calls Try.prog 124 #[.slice A a.length cA, .slice B b.length cB, .func (Fn.func 125) #[] #[]] w (EachPost (addS a b) w) := by
 have HA := Aside0.mk hra
 have HB := Aside0.mk hrb
 have HBD := Aside0.mk (show _ ∧ _ from ⟨ha, hb⟩)
 have hlen : (addS a b).length = a.length := by unfold addS; rw [List.length_zipWith]; omega
 have HLEN := Aside0.mk hlen
 have HAT : Aside0 (∀ k (h : k < a.length) (h' : k < b.length), (addS a b).take (k + 1) = (addS a b).take k ++ [a[k] + b[k]]) := ⟨fun k h h' => by
  rw [List.take_succ_eq_append_getElem (by rw [hlen]; exact h)]
  congr 1
  simp [addS]⟩
 generalize addS a b = S at *
 have d0 : ((a.length : Int) != (b.length : Int)) = false := by simp [hab]
 have HAB := Aside0.mk hab
 clear hra hrb ha hb hlen hab
 go_enter Try.func124, Try.ntmps124
 go_wp2
 go_loopw [8, 19] (fun vo vi wr => ∃ k : Nat, k ≤ a.length ∧ vi = .int .i64 k ∧ Aside0 ((Kd.int .i64).R 3 wr w.heap.size (fun _ => True) vo (S.take k)) ∧ Aside0 (Below w.heap.size w wr)) (fun _ vi _ => a.length - (intOf vi).toNat)
 case atStart => exact ⟨0, Nat.zero_le _, rfl, ⟨Kd.R_nil _ _ _ _ _⟩, ⟨Below.refl _ _⟩⟩
 case round =>
  obtain ⟨k, hk, rfl, HO, HW⟩ := hrel
  by_cases hlt : k < a.length
  ·obtain ⟨ad, ea, y0⟩ := Kd.at_int (Kd.C_below HA.out HW.out) (k : Int) (by omega) (by omega)
   subst ea
   obtain ⟨bd, eb, y1⟩ := Kd.at_int (Kd.C_below HB.out HW.out) (k : Int) (by omega) (by have := HAB.out; omega)
   subst eb
   have hkb : k < b.length := by have := HAB.out; omega
   have HN := Aside0.mk (HAT.out k hlt hkb)
   have hxa := HBD.out.1 _ (List.getElem_mem hlt)
   have hxb := HBD.out.2 _ (List.getElem_mem hkb)
   rw [rd_nat a k hlt] at y0
   rw [rd_nat b k hkb] at y1
   simp only [Int.toNat_natCast] at y0 y1
   generalize a[k] = x at *
   generalize b[k] = y at *
   have hba := World.block_lt_of_cell? _ _ y0
   have hbb := World.block_lt_of_cell? _ _ y1
   have r0 : (0 : Int) ≤ (k : Int) := by omega
   have r1 : (k : Int) < (a.length : Int) := by omega
   have r2 : (k : Int) < (b.length : Int) := by omega
   have hlk : (S.take k).length = k := by rw [List.length_take, HLEN.out]; omega
   have HLK := Aside0.mk hlk
   have HC := Aside0.mk (fun W => numAdd_any x y W hxa.1 hxa.2 hxb.1 hxb.2)
   clear hlk hxa hxb
   go_upto_region 7 with fail
   go_cut [10, 11] (fun s10 s11 wx => s10 = .int .i64 (x + y) ∧ s11 = .int .i64 0 ∧ Aside0 (Below wr.heap.size wr wx))
   case first =>
    go_region_held3 (fun W' => Below wr.heap.size wr W' ∧ ∀ a : Addr, a.block < wr.heap.size → W'.cell? a = wr.cell? a) (first | exact hl_start _ | exact hl_of chn)
      (first
       | (go_at_call 125; refine (HC.out _).mono ?_; rintro e w4 ⟨rfl, hb⟩))
    all_goals
     go_wp2_with fail
     go_meet
     exact ⟨rfl, rfl, ⟨(And.left (show Below wr.heap.size wr _ ∧ _ from by assumption))⟩⟩
   case rest =>
    obtain ⟨rfl, rfl, HBc⟩ := hcut
    clear y0 y1 hba hbb
    have HBwc : Aside0 (Below w.heap.size w wc) := ⟨below_to HW.out HBc.out⟩
    go_wp2_with (at_builtin; refine Kd.R_append (Kd.int .i64) (w0 := w) (W := wc) w.heap.size rfl (.tmp 38) (.tmp 40) 22 3 (.int .i64 0) 8 rfl Try.underlying22 (by kernel_rfl) rfl (by decide) (by decide) u8 (S.take k) (x + y) _ (fun _ => True) (fun _ => False) rfl rfl rfl (fun _ h => h.elim) (fun _ _ => trivial) (Kd.R_below HO.out HBc.out) HBwc.out HBwc.out.size (by rw [HLK.out]; omega) ?_; intro v1 w5 ho hb hg hat; have HO2 := Aside0.mk ho; have HB5 := Aside0.mk hb; clear ho hb hg hat)
    go_roundw
    case rel => exact ⟨k + 1, by omega, by go_num, ⟨by rw [HN.out]; exact HO2.out⟩, HB5⟩
    case measure => simp [intOf]; omega
  ·obtain rfl : k = a.length := by omega
   have ho := HO.out
   rw [List.take_of_length_le (by rw [HLEN.out]; omega)] at ho
   have HOF := Aside0.mk ho
   clear ho
   go_wp2
   go_ret2
   exact ⟨_, rfl, HOF.out, HW.out⟩
set_option maxHeartbeats 16000000 in
set_option maxRecDepth 100000 in
theorem eachSub_any (a b : List Int) (A B : Option Addr) (cA cB : Nat) (w : World) (hab : a.length = b.length) (hl : a.length ≤ 100) (ha : ∀ x ∈ a, -1000000000000000 ≤ x ∧ x ≤ 1000000000000000) (hb : ∀ x ∈ b, -1000000000000000 ≤ x ∧ x ≤ 1000000000000000)
  (hra : Kd.C (Kd.int .i64) w A a.length a) (hrb : Kd.C (Kd.int .i64) w B b.length b) :
  Calls Try.prog 124 #[.slice A a.length cA, .slice B b.length cB, .func (Fn.func 126) #[] #[]] w (EachPost (subS a b) w) := by
 have HA := Aside0.mk hra
 have HB := Aside0.mk hrb
 have HBD := Aside0.mk (show _ ∧ _ from ⟨ha, hb⟩)
 have hlen : (subS a b).length = a.length := by unfold subS; rw [List.length_zipWith]; omega
 have HLEN := Aside0.mk hlen
 have HAT : Aside0 (∀ k (h : k < a.length) (h' : k < b.length), (subS a b).take (k + 1) = (subS a b).take k ++ [a[k] - b[k]]) := ⟨fun k h h' => by
  rw [List.take_succ_eq_append_getElem (by rw [hlen]; exact h)]
  congr 1
  simp [subS]⟩
 generalize subS a b = S at *
 have d0 : ((a.length : Int) != (b.length : Int)) = false := by simp [hab]
 have HAB := Aside0.mk hab
 clear hra hrb ha hb hlen hab
 go_enter Try.func124, Try.ntmps124
 go_wp2
 go_loopw [8, 19] (fun vo vi wr => ∃ k : Nat, k ≤ a.length ∧ vi = .int .i64 k ∧ Aside0 ((Kd.int .i64).R 3 wr w.heap.size (fun _ => True) vo (S.take k)) ∧ Aside0 (Below w.heap.size w wr)) (fun _ vi _ => a.length - (intOf vi).toNat)
 case atStart => exact ⟨0, Nat.zero_le _, rfl, ⟨Kd.R_nil _ _ _ _ _⟩, ⟨Below.refl _ _⟩⟩
 case round =>
  obtain ⟨k, hk, rfl, HO, HW⟩ := hrel
  by_cases hlt : k < a.length
  ·obtain ⟨ad, ea, y0⟩ := Kd.at_int (Kd.C_below HA.out HW.out) (k : Int) (by omega) (by omega)
   subst ea
   obtain ⟨bd, eb, y1⟩ := Kd.at_int (Kd.C_below HB.out HW.out) (k : Int) (by omega) (by have := HAB.out; omega)
   subst eb
   have hkb : k < b.length := by have := HAB.out; omega
   have HN := Aside0.mk (HAT.out k hlt hkb)
   have hxa := HBD.out.1 _ (List.getElem_mem hlt)
   have hxb := HBD.out.2 _ (List.getElem_mem hkb)
   rw [rd_nat a k hlt] at y0
   rw [rd_nat b k hkb] at y1
   simp only [Int.toNat_natCast] at y0 y1
   generalize a[k] = x at *
   generalize b[k] = y at *
   have hba := World.block_lt_of_cell? _ _ y0
   have hbb := World.block_lt_of_cell? _ _ y1
   have r0 : (0 : Int) ≤ (k : Int) := by omega
   have r1 : (k : Int) < (a.length : Int) := by omega
   have r2 : (k : Int) < (b.length : Int) := by omega
   have hlk : (S.take k).length = k := by rw [List.length_take, HLEN.out]; omega
   have HLK := Aside0.mk hlk
   have HC := Aside0.mk (fun W => numSub_any x y W hxa.1 hxa.2 hxb.1 hxb.2)
   clear hlk hxa hxb
   go_upto_region 7 with fail
   go_cut [10, 11] (fun s10 s11 wx => s10 = .int .i64 (x - y) ∧ s11 = .int .i64 0 ∧ Aside0 (Below wr.heap.size wr wx))
   case first =>
    go_region_held3 (fun W' => Below wr.heap.size wr W' ∧ ∀ a : Addr, a.block < wr.heap.size → W'.cell? a = wr.cell? a) (first | exact hl_start _ | exact hl_of chn)
      (first
       | (go_at_call 126; refine (HC.out _).mono ?_; rintro e w4 ⟨rfl, hb⟩))
    all_goals
     go_wp2_with fail
     go_meet
     exact ⟨rfl, rfl, ⟨(And.left (show Below wr.heap.size wr _ ∧ _ from by assumption))⟩⟩
   case rest =>
    obtain ⟨rfl, rfl, HBc⟩ := hcut
    clear y0 y1 hba hbb
    have HBwc : Aside0 (Below w.heap.size w wc) := ⟨below_to HW.out HBc.out⟩
    go_wp2_with (at_builtin; refine Kd.R_append (Kd.int .i64) (w0 := w) (W := wc) w.heap.size rfl (.tmp 38) (.tmp 40) 22 3 (.int .i64 0) 8 rfl Try.underlying22 (by kernel_rfl) rfl (by decide) (by decide) u8 (S.take k) (x - y) _ (fun _ => True) (fun _ => False) rfl rfl rfl (fun _ h => h.elim) (fun _ _ => trivial) (Kd.R_below HO.out HBc.out) HBwc.out HBwc.out.size (by rw [HLK.out]; omega) ?_; intro v1 w5 ho hb hg hat; have HO2 := Aside0.mk ho; have HB5 := Aside0.mk hb; clear ho hb hg hat)
    go_roundw
    case rel => exact ⟨k + 1, by omega, by go_num, ⟨by rw [HN.out]; exact HO2.out⟩, HB5⟩
    case measure => simp [intOf]; omega
  ·obtain rfl : k = a.length := by omega
   have ho := HO.out
   rw [List.take_of_length_le (by rw [HLEN.out]; omega)] at ho
   have HOF := Aside0.mk ho
   clear ho
   go_wp2
   go_ret2
   exact ⟨_, rfl, HOF.out, HW.out⟩
set_option maxHeartbeats 16000000 in
set_option maxRecDepth 100000 in
theorem loadAdd_any (a b : List Int) (A B : Option Addr) (cA cB : Nat) (w : World) (hab : a.length = b.length) (hl : a.length ≤ 100) (ha : ∀ x ∈ a, -1000000000000000 ≤ x ∧ x ≤ 1000000000000000) (hb : ∀ x ∈ b, -1000000000000000 ≤ x ∧ x ≤ 1000000000000000)
  (hra : Kd.C (Kd.int .i64) w A a.length a) (hrb : Kd.C (Kd.int .i64) w B b.length b) :
  Calls Try.prog 105 #[.slice A a.length cA, .slice B b.length cB] w (EachPost (addS a b) w) := by
 have HE := Aside0.mk (fun W (hb' : Below w.heap.size w W) => eachAdd_any a b A B cA cB W hab hl ha hb (Kd.C_below hra hb') (Kd.C_below hrb hb'))
 clear hab hl ha hb hra hrb
 go_enter Try.func105, Try.ntmps105
 go_wp2_with (go_at_call 124; refine (HE.out _ chn).mono ?_; rintro e w1 ⟨v, rfl, hR, hb⟩; have HR := Aside0.mk hR; have HB := Aside0.mk hb; clear hR hb)
 go_ret2
 exact ⟨_, rfl, HR.out, HB.out⟩
set_option maxHeartbeats 16000000 in
set_option maxRecDepth 100000 in
theorem loadSub_any (a b : List Int) (A B : Option Addr) (cA cB : Nat) (w : World) (hab : a.length = b.length) (hl : a.length ≤ 100) (ha : ∀ x ∈ a, -1000000000000000 ≤ x ∧ x ≤ 1000000000000000) (hb : ∀ x ∈ b, -1000000000000000 ≤ x ∧ x ≤ 1000000000000000)
  (hra : Kd.C (Kd.int .i64) w A a.length a) (hrb : Kd.C (Kd.int .i64) w B b.length b) :
  Calls Try.prog 106 #[.slice A a.length cA, .slice B b.length cB] w (EachPost (subS a b) w) := by
 have HE := Aside0.mk (fun W (hb' : Below w.heap.size w W) => eachSub_any a b A B cA cB W hab hl ha hb (Kd.C_below hra hb') (Kd.C_below hrb hb'))
 clear hab hl ha hb hra hrb
 go_enter Try.func106, Try.ntmps106
 go_wp2_with (go_at_call 124; refine (HE.out _ chn).mono ?_; rintro e w1 ⟨v, rfl, hR, hb⟩; have HR := Aside0.mk hR; have HB := Aside0.mk hb; clear hR hb)
 go_ret2
 exact ⟨_, rfl, HR.out, HB.out⟩
set_option maxHeartbeats 16000000 in
set_option maxRecDepth 100000 in
theorem loadZero_any (n : Int) (w : World) (h0 : 0 ≤ n) (h1 : n ≤ 3) :
  Calls Try.prog 104 #[.int .i64 n] w fun e w' => ∃ v, e = .returned v ∧ (Kd.int .i64).R 3 w' w.heap.size (fun _ => True) v (List.replicate n.toNat 0) ∧ Below w.heap.size w w' := by
 have d0 : decide (n < 0) = false := decide_eq_false (by omega)
 have d1 : decide (3 < n) = false := decide_eq_false (by omega)
 go_enter Try.func104, Try.ntmps104
 go_wp2_with ((with_reducible refine gate_dst (N := 10) rfl ?_); refine Kd.R_make (Kd.int .i64) (w0 := w) w.heap.size 3 rfl (N := 10) rfl 22 (.tmp 9) (.tmp 9) rfl n rfl rfl Try.underlying22 (.int .i64 0) 8 (by kernel_rfl) rfl (by decide) (by decide) 0 (ok := fun _ => True) (okp := fun _ => False) rfl (fun _ h => h.elim) trivial (by omega) (by omega) (Below.refl _ _) (Nat.le_refl _) ?_; intro v1 w1 ho hb hg hat; have HO := Aside0.mk ho; have HB := Aside0.mk hb; clear ho hb hg hat)
 go_ret
 exact ⟨_, rfl, HO.out, HB.out⟩
end Go.Proofs.Ytemjpgmfignhnaa

/- Contract: slices.Clone of whole numbers.
Conditions: lists no longer than memory allows. -/
namespace Go.Proofs.Ytemjpgmfignhnaa
open Go.RowKit Go.Proofs.YtemjpgmfignhnaaW.PrintWords Go.Proofs.YtemjpgmfignhnaaW.PrintLast Go.Proofs.YtemjpgmfignhnaaW.PrintMore
set_option linter.unusedVariables false
set_option linter.unusedSimpArgs false
attribute [local go_sem] cell_growBy Option.some_or
set_option maxHeartbeats 8000000 in
set_option maxRecDepth 100000 in
theorem cloneI_any (l : List Int) (A : Option Addr) (c : Nat) (W0 w : World) (hr : Kd.C (Kd.int .i64) W0 A l.length l) (hb0 : Below W0.heap.size W0 w) (hb : l.length * 8 ≤ 140737488355328) (hm : l.length ≤ maxLen) :
  Calls Try.prog 107 #[.slice A l.length c] w (ClonePost (Kd.int .i64) 3 l W0 w) := by
 have HR := Aside0.mk hr
 have HB0 := Aside0.mk hb0
 clear hb0
 have HL := Aside0.mk (show _ ∧ _ from ⟨hb, hm⟩)
 clear hb hm
 cases A with
 | none =>
  have h0 : l = [] := by
   cases l with
   | nil => rfl
   | cons x l =>
    obtain ⟨ad, e, _⟩ := hr.2.2 (by simp)
    cases e
  subst h0
  have hq : ∀ W, (binOp .eql 22 (.slice none 0 c) (.slice none 0 0)).run Try.prog W = .ok (.bool true) W := fun W => by rfl
  go_enter Try.func107, Try.ntmps107
  go_wp2
  go_ret
  exact ⟨_, rfl, Below.refl _ _, .inl ⟨rfl, rfl⟩⟩
 | some ad =>
  have hq : ∀ W, (binOp .eql 22 (.slice (some ad) l.length c) (.slice none 0 0)).run Try.prog W = .ok (.bool false) W := fun W => by rfl
  clear hr
  go_enter Try.func107, Try.ntmps107
  go_wp2_with (at_builtin; refine wpl_copy (d := (Kd.int .i64)) (W0 := W0) (xs := l) rfl (.tmp 5) (.tmp 6) 22 3 (.int .i64 0) 8 rfl Try.underlying22 (by kernel_rfl) rfl (by decide) (Kd.heap_int _) w.heap.size (by simp) ⟨w.heap.size, rfl, Nat.le_refl _, blk_new _ _⟩ _ c rfl HR.out (below_alloc HB0.out _) HL.out.1 HL.out.2 ?_; intro v w1 hc hb; have HC := Aside0.mk hc; have hb' := Aside0.mk (below_to (below_alloc (Below.refl _ _) _) hb); clear hc hb)
  go_ret
  exact ⟨_, rfl, hb'.out, .inr HC.out⟩
end Go.Proofs.Ytemjpgmfignhnaa

/- The amounts of a lawful problem: their lengths, and how great what is aboard may be.
Conditions: none. -/
namespace Go.Proofs.Ytemjpgmfignhnaa
open Go.RowKit Go.Proofs.YtemjpgmfignhnaaW.PrintWords Go.Proofs.YtemjpgmfignhnaaW.PrintLast Go.Proofs.YtemjpgmfignhnaaW.PrintMore
set_option linter.unusedVariables false
set_option linter.unusedSimpArgs false
theorem amounts_ok {a : List Int} {n : Int} (h : amountsS a n = 0) : (a.length : Int) = n ∧ ∀ x ∈ a, 0 ≤ x ∧ x ≤ 1000000 := by
 unfold amountsS at h
 split at h
 ·rename_i hl
  refine ⟨hl, fun x hx => ?_⟩
  split at h
  ·rename_i ha
   have := List.all_eq_true.1 ha x hx
   simpa using this
  ·cases h
 ·cases h
/-- The amounts of what is there. -/
structure Amts (p : TProblem) : Prop extends AmtLens p where
 drop : ∀ i, 0 ≤ i → i < (p.Jobs.length : Int) → ∀ x ∈ (rdJob p.Jobs i).Drop, 0 ≤ x ∧ x ≤ 1000000
 pick : ∀ i, 0 ≤ i → i < (p.Jobs.length : Int) → ∀ x ∈ (rdJob p.Jobs i).Pick, 0 ≤ x ∧ x ≤ 1000000
 amt : ∀ i, 0 ≤ i → i < (p.Shipments.length : Int) → ∀ x ∈ (rdShipment p.Shipments i).Amount, 0 ≤ x ∧ x ≤ 1000000
theorem Law.amts {p : TProblem} (law : Law p) : Amts p := by
 have hj : ∀ i, 0 ≤ i → i < (p.Jobs.length : Int) → amountsS (rdJob p.Jobs i).Drop p.Dims = 0 ∧ amountsS (rdJob p.Jobs i).Pick p.Dims = 0 := fun i h0 h1 => by
  have h := law.gj _ (rdJob_mem p.Jobs i h0 h1)
  simp only [jobB, Bool.and_eq_true, decide_eq_true_eq] at h
  exact ⟨h.2.1, h.2.2.1⟩
 have hs : ∀ i, 0 ≤ i → i < (p.Shipments.length : Int) → amountsS (rdShipment p.Shipments i).Amount p.Dims = 0 := fun i h0 h1 => by
  have h := law.gs _ (rdShip_mem p.Shipments i h0 h1)
  simp only [shipB, Bool.and_eq_true, decide_eq_true_eq] at h
  exact h.2.2.1
 have hd := law.d0
 refine ⟨⟨fun i h0 h1 => ?_, fun i h0 h1 => ?_⟩, fun i h0 h1 => (amounts_ok (hj i h0 h1).1).2, fun i h0 h1 => (amounts_ok (hj i h0 h1).2).2, fun i h0 h1 => (amounts_ok (hs i h0 h1)).2⟩
 ·have h2 := (amounts_ok (hj i h0 h1).1).1
  have h3 := (amounts_ok (hj i h0 h1).2).1
  omega
 ·have h2 := (amounts_ok (hs i h0 h1)).1
  omega
/-- A list of n numbers, none beyond b. -/
def BndL (n : Nat) (b : Int) (a : List Int) : Prop := a.length = n ∧ ∀ x ∈ a, -b ≤ x ∧ x ≤ b
theorem zip_mem {f : Int → Int → Int} {a b : List Int} {z : Int} (h : z ∈ List.zipWith f a b) : ∃ x ∈ a, ∃ y ∈ b, z = f x y := by
 obtain ⟨i, hi, rfl⟩ := List.mem_iff_getElem.1 h
 rw [List.length_zipWith] at hi
 exact ⟨a[i]'(by omega), List.getElem_mem _, b[i]'(by omega), List.getElem_mem _, by simp⟩
theorem BndL.add {n : Nat} {b c : Int} {x y : List Int} (hx : BndL n b x) (hy : BndL n c y) : BndL n (b + c) (addS x y) := by
 refine ⟨by unfold addS; rw [List.length_zipWith, hx.1, hy.1]; omega, fun z hz => ?_⟩
 obtain ⟨u, hu, v, hv, rfl⟩ := zip_mem hz
 have h1 := hx.2 u hu
 have h2 := hy.2 v hv
 show -(b + c) ≤ u + v ∧ u + v ≤ b + c
 omega
theorem BndL.sub {n : Nat} {b c : Int} {x y : List Int} (hx : BndL n b x) (hy : BndL n c y) : BndL n (b + c) (subS x y) := by
 refine ⟨by unfold subS; rw [List.length_zipWith, hx.1, hy.1]; omega, fun z hz => ?_⟩
 obtain ⟨u, hu, v, hv, rfl⟩ := zip_mem hz
 have h1 := hx.2 u hu
 have h2 := hy.2 v hv
 show -(b + c) ≤ u - v ∧ u - v ≤ b + c
 omega
theorem BndL.mono {n : Nat} {b c : Int} {x : List Int} (hx : BndL n b x) (h : b ≤ c) : BndL n c x := ⟨hx.1, fun z hz => by have := hx.2 z hz; omega⟩
theorem BndL.of {n : Nat} {x : List Int} (hl : x.length = n) (h : ∀ z ∈ x, 0 ≤ z ∧ z ≤ 1000000) : BndL n 1000000 x := ⟨hl, fun z hz => by have := h z hz; omega⟩
theorem stopS_job {p : TProblem} {x : TVisit} (h : (stopS p x).2 = true) (k : x.Kind = 1) : 0 ≤ x.Item ∧ x.Item < (p.Jobs.length : Int) := by
 unfold stopS at h
 split at h
 ·rename_i hb
  simp only [Bool.and_eq_true] at hb
  have := hb.2
  rw [show taskOf x = (⟨false, x.Item⟩, true) by simp [taskOf, k]] at this
  have h2 := upB_true (show upB x.Item ((p.Jobs.length : Int) - 1) = true from this)
  omega
 ·cases h
theorem stopS_ship {p : TProblem} {x : TVisit} (h : (stopS p x).2 = true) (k : x.Kind ≠ 1) : (x.Kind = 2 ∨ x.Kind = 3) ∧ 0 ≤ x.Item ∧ x.Item < (p.Shipments.length : Int) := by
 unfold stopS at h
 split at h
 ·rename_i hb
  simp only [Bool.and_eq_true] at hb
  by_cases k2 : x.Kind = 2 ∨ x.Kind = 3
  ·have := hb.2
   rw [show taskOf x = (⟨true, x.Item⟩, true) by simp [taskOf, k, k2]] at this
   have h2 := upB_true (show upB x.Item ((p.Shipments.length : Int) - 1) = true from this)
   exact ⟨k2, by omega, by omega⟩
  ·have := hb.1
   rw [show taskOf x = (⟨false, 0⟩, false) by simp [taskOf, k, k2]] at this
   cases this
 ·cases h
theorem dropStep_bnd {p : TProblem} (ha : Amts p) {b : Int} {now : List Int} (h : BndL p.Dims.toNat b now) (x : TVisit) (hb : 0 ≤ b) : BndL p.Dims.toNat (b + 2000000) (dropStep p now x) := by
 unfold dropStep
 split
 ·rename_i hx
  obtain ⟨h0, h1⟩ := stopS_job hx.1 hx.2
  exact (h.add (BndL.of (ha.job _ h0 h1).1 (ha.drop _ h0 h1))).mono (by omega)
 ·exact h.mono (by omega)
theorem loadStep_bnd {p : TProblem} (ha : Amts p) {b : Int} {now : List Int} (h : BndL p.Dims.toNat b now) (x : TVisit) (hb : 0 ≤ b) : BndL p.Dims.toNat (b + 2000000) (loadStep p now x) := by
 unfold loadStep
 split
 ·rename_i hx
  split
  ·rename_i k1
   obtain ⟨h0, h1⟩ := stopS_job hx k1
   exact ((h.sub (BndL.of (ha.job _ h0 h1).1 (ha.drop _ h0 h1))).add (BndL.of (ha.job _ h0 h1).2 (ha.pick _ h0 h1))).mono (by omega)
  ·rename_i k1
   obtain ⟨k2, h0, h1⟩ := stopS_ship hx k1
   split
   ·exact (h.add (BndL.of (ha.ship _ h0 h1) (ha.amt _ h0 h1))).mono (by omega)
   ·exact (h.sub (BndL.of (ha.ship _ h0 h1) (ha.amt _ h0 h1))).mono (by omega)
 ·exact h.mono (by omega)
theorem BndL.zero (n : Nat) : BndL n 0 (List.replicate n 0) := ⟨List.length_replicate, fun x hx => by rw [List.eq_of_mem_replicate hx]; omega⟩
end Go.Proofs.Ytemjpgmfignhnaa

/- A plan on its way: its block, and the row of its steps.
Conditions: none. -/
namespace Go.Proofs.Ytemjpgmfignhnaa
open Go.RowKit Go.Proofs.YtemjpgmfignhnaaW.PrintWords Go.Proofs.YtemjpgmfignhnaaW.PrintLast Go.Proofs.YtemjpgmfignhnaaW.PrintMore
set_option linter.unusedVariables false
set_option linter.unusedSimpArgs false
structure PlanAt (wX : World) (lo : Nat) (vehicle : Int) (sv : Value) (tm di wt se : Int) (steps : List TStep) (W : World) : Prop where
 below : Below wX.heap.size wX W
 out : W.heap[wX.heap.size]? = some (.cells #[.int .i64 vehicle, sv, .int .i64 tm, .int .i64 di, .int .i64 wt, .int .i64 se, .int .i64 0] 74 (0, 0))
 row : OwnF kStep 91 W lo wX.heap.size sv steps
section
variable {wX W W' : World} {lo : Nat} {vehicle : Int} {sv : Value} {tm di wt se : Int} {steps : List TStep}
theorem PlanAt.mono (h : PlanAt wX lo vehicle sv tm di wt se steps W) (hb : Below W.heap.size W W') : PlanAt wX lo vehicle sv tm di wt se steps W' :=
 ⟨below_to h.below hb, blk_below h.out hb, h.row.below hb⟩
theorem PlanAt.ne (h : PlanAt wX lo vehicle sv tm di wt se steps W) : some wX.heap.size ≠ sv.ownBlock := h.row.ne_typed h.out (by decide)
theorem PlanAt.lt (h : PlanAt wX lo vehicle sv tm di wt se steps W) : wX.heap.size < W.heap.size := blk_lt h.out
theorem PlanAt.set_tm (h : PlanAt wX lo vehicle sv tm di wt se steps W) (x : Int) : PlanAt wX lo vehicle sv x di wt se steps (W.setCell ⟨wX.heap.size, 2, none⟩ (.int .i64 x)) :=
 ⟨Below.setCell h.below (Nat.le_refl _) _, by simpa using blk_set h.out 2 (.int .i64 x), h.row.set (Nat.le_refl _) h.ne _⟩
theorem PlanAt.set_di (h : PlanAt wX lo vehicle sv tm di wt se steps W) (x : Int) : PlanAt wX lo vehicle sv tm x wt se steps (W.setCell ⟨wX.heap.size, 3, none⟩ (.int .i64 x)) :=
 ⟨Below.setCell h.below (Nat.le_refl _) _, by simpa using blk_set h.out 3 (.int .i64 x), h.row.set (Nat.le_refl _) h.ne _⟩
theorem PlanAt.set_wt (h : PlanAt wX lo vehicle sv tm di wt se steps W) (x : Int) : PlanAt wX lo vehicle sv tm di x se steps (W.setCell ⟨wX.heap.size, 4, none⟩ (.int .i64 x)) :=
 ⟨Below.setCell h.below (Nat.le_refl _) _, by simpa using blk_set h.out 4 (.int .i64 x), h.row.set (Nat.le_refl _) h.ne _⟩
theorem PlanAt.set_se (h : PlanAt wX lo vehicle sv tm di wt se steps W) (x : Int) : PlanAt wX lo vehicle sv tm di wt x steps (W.setCell ⟨wX.heap.size, 5, none⟩ (.int .i64 x)) :=
 ⟨Below.setCell h.below (Nat.le_refl _) _, by simpa using blk_set h.out 5 (.int .i64 x), h.row.set (Nat.le_refl _) h.ne _⟩
theorem below_mid {n : Nat} {a b c : World} (h : Below n a b) (k : Below n b c) : Below n a c := ⟨k.os.trans h.os, k.tape.trans h.tape, k.output.trans h.output, Nat.le_trans h.size k.size, fun i hi => (k.block i hi).trans (h.block i hi)⟩
theorem PlanAt.appended {w1 : World} {v1 : Value} {x : TStep} (h : PlanAt wX lo vehicle sv tm di wt se steps W) (ho : OwnF kStep 91 w1 lo wX.heap.size v1 (steps ++ [x])) (hb : Below wX.heap.size W w1) (hg : W.grownBy w1 sv.ownBlock) :
  PlanAt wX lo vehicle v1 tm di wt se (steps ++ [x]) (w1.setCell ⟨wX.heap.size, 1, none⟩ v1) := by
 have hout : w1.heap[wX.heap.size]? = _ := (hg.block wX.heap.size h.lt h.ne).trans h.out
 exact ⟨Below.setCell (below_mid h.below hb) (Nat.le_refl _) _, by simpa using blk_set hout 1 v1, ho.set (Nat.le_refl _) (ho.ne_typed hout (by decide)) _⟩
theorem step_FK {w2 W : World} {lo base : Nat} (x : TStep) {A : Option Addr} {c : Nat} (hl : x.Load.length ≤ c) (hF : Kd.F (Kd.int .i64) w2 (fun k => lo ≤ k ∧ k < w2.heap.size) A x.Load.length x.Load) (hb : Below w2.heap.size w2 W) (hbase : w2.heap.size ≤ base) :
  Kd.FK kStep W (fun k => lo ≤ k ∧ k < base) x [.int .i64 x.Visit.Kind, .int .i64 x.Visit.Item, .int .i64 x.Place, .int .i64 x.Arrival, .int .i64 x.Wait, .int .i64 x.Service, .slice A x.Load.length c, .int .i64 x.Time, .int .i64 x.Dist] := by
 intro W' hW'
 refine kStep_mk W' x A c hl (Kd.F_now (Kd.F_step (W1 := W') hF (fun k hk _ => ?_)))
 exact (hW' k ⟨hk.1, by show k < base; omega⟩ (Nat.lt_of_lt_of_le hk.2 hb.size)).trans (hb.block k hk.2)
/-- An element of a row of rows of the call's own: its cell, and what it hangs on. -/
theorem atNOwn {w : World} {A : Option Addr} {n c base : Nat} {xs : List (List Int)} (h : kInts.R 22 w base (fun _ => True) (.slice A n c) xs) (k : Nat) (hk : k < xs.length) :
  ∃ ad A' c', A = some ad ∧ w.cell? (ad.add k) = some (.slice A' xs[k].length c') ∧ xs[k].length ≤ c' ∧ Kd.F (Kd.int .i64) w (fun k => base ≤ k ∧ k < w.heap.size) A' xs[k].length xs[k] := by
 obtain ⟨A2, c2, e2, _, hC⟩ := Kd.R_reads h
 injection e2 with eA en ec
 subst eA en ec
 have hA : ∃ ad, A = some ad := by
  obtain ⟨ad, _, _, e, _⟩ := atNInts hC k hk
  exact ⟨ad, e⟩
 obtain ⟨ad, rfl⟩ := hA
 obtain ⟨cs, hl, hM, hcs⟩ := Kd.R_getA (Kd.R_bound h) [] (k : Int) (by omega) (by omega)
 simp only [Int.toNat_natCast] at hM hcs
 have e3 : xs.getD k [] = xs[k] := by simp [List.getElem?_eq_getElem hk]
 rw [e3] at hM
 obtain ⟨A', c', e4, hle, hC'⟩ : ∃ A' c', cs = [.slice A' xs[k].length c'] ∧ xs[k].length ≤ c' ∧ Kd.F (Kd.int .i64) w (fun k => base ≤ k ∧ k < w.heap.size) A' xs[k].length xs[k] := by
  obtain ⟨u, rfl, hR⟩ := hM
  obtain ⟨A', c', rfl, hle, _⟩ := Kd.R_reads hR
  exact ⟨A', c', rfl, hle, Kd.F_mono (Kd.R_F hR) (fun k hk => ⟨hk.1.2.1, hk.1.2.2.1⟩)⟩
 subst e4
 refine ⟨ad, A', c', rfl, ?_, hle, hC'⟩
 have := hcs 0 _ rfl
 rwa [show k * kInts.sz + 0 = k from by rw [show kInts.sz = 1 from rfl]; omega] at this
end
end Go.Proofs.Ytemjpgmfignhnaa

/- A row of rows of whole numbers, each readable in memory of the call's own: the row of loads as it grows.
Conditions: none. -/
namespace Go.Proofs.Ytemjpgmfignhnaa
open Go.RowKit Go.Proofs.YtemjpgmfignhnaaW.PrintWords Go.Proofs.YtemjpgmfignhnaaW.PrintLast Go.Proofs.YtemjpgmfignhnaaW.PrintMore
set_option linter.unusedVariables false
set_option linter.unusedSimpArgs false
section
variable {W W1 : World} {base : Nat} {x : List Int} {cs : List Value} {v v1 : Value} {xs : List (List Int)}
/-- A block of whole numbers, from base on. -/
def IntBlk (W : World) (base k : Nat) : Prop := base ≤ k ∧ ∃ cur, W.heap[k]? = some (.cells cur 3 (0, 0))
/-- The cell of a list that lies in such blocks. -/
def IntsIn (W : World) (base : Nat) (x : List Int) (cs : List Value) : Prop :=
 ∃ A c, cs = [.slice A x.length c] ∧ x.length ≤ c ∧ Kd.F (Kd.int .i64) W (IntBlk W base) A x.length x
theorem IntsIn.step (h : IntsIn W base x cs) (hm : ∀ k, IntBlk W base k → W1.heap[k]? = W.heap[k]?) : IntsIn W1 base x cs := by
 obtain ⟨A, c, e, hl, hF⟩ := h
 refine ⟨A, c, e, hl, Kd.F_mono (Kd.F_step hF (fun k hk _ => hm k hk)) (fun k hk => ⟨hk.1, ?_⟩)⟩
 obtain ⟨cur, hc⟩ := hk.2
 exact ⟨cur, (hm k hk).trans hc⟩
theorem IntBlk.lt {k : Nat} (h : IntBlk W base k) : k < W.heap.size := by
 obtain ⟨_, cur, hc⟩ := h
 exact blk_lt hc
theorem IntsIn.below (h : IntsIn W base x cs) (hb : Below W.heap.size W W1) : IntsIn W1 base x cs := h.step (fun k hk => hb.block k hk.lt)
theorem IntsIn.lower {base' : Nat} (h : IntsIn W base x cs) (hb : base' ≤ base) : IntsIn W base' x cs := by
 obtain ⟨A, c, e, hl, hF⟩ := h
 exact ⟨A, c, e, hl, Kd.F_mono hF (fun k hk => ⟨Nat.le_trans hb hk.1, hk.2⟩)⟩
theorem IntsIn.len (h : IntsIn W base x cs) : cs.length = 1 := by
 obtain ⟨A, c, rfl, _⟩ := h
 rfl
theorem IntsIn.one (h : IntsIn W base x cs) : ∀ u ∈ cs, u.oneCell' = true := by
 obtain ⟨A, c, rfl, _⟩ := h
 intro u hu
 rw [List.mem_singleton.1 hu]
 rfl
theorem intsIn_R {ok : Nat → Prop} (h : (Kd.int .i64).R 3 W base ok v x) : ∃ A c, v = .slice A x.length c ∧ IntsIn W base x [.slice A x.length c] := by
 obtain ⟨A, c, e, hl, _⟩ := Kd.R_reads h
 subst e
 refine ⟨A, c, rfl, A, c, rfl, hl, Kd.F_mono (Kd.R_F (Kd.R_bound h)) (fun k hk => ⟨hk.2.1, ?_⟩)⟩
 obtain ⟨q, hq, cells, hc⟩ := hk.2.2.2
 have e1 : q = 3 := by simpa [Kd.int, Kd.scalar] using hq
 exact ⟨cells, e1 ▸ hc⟩
theorem intsIn_copy {ok : Nat → Prop} (hn : x.length ≤ 4611686018427387904) (h : (x = [] ∧ v = .slice none 0 0) ∨ Copied (Kd.int .i64) 3 base ok x v W) : ∃ A c, v = .slice A x.length c ∧ IntsIn W base x [.slice A x.length c] := by
 rcases h with ⟨rfl, rfl⟩ | ⟨g, c, rfl, hl, hg, hr⟩
 ·exact ⟨none, 0, rfl, none, 0, rfl, Nat.le_refl _, Kd.F_nil _ _ _⟩
 ·refine ⟨_, c, rfl, _, c, rfl, hl, ?_⟩
  obtain ⟨cur, inner, hc, ht, hrep⟩ := hr
  have hr2 : RowAt (Kd.int .i64) 3 W (fun _ => False) g x := ⟨cur, inner, hc, ht, hrep.imp_ (fun a b hk => by
   have := Kd.FK_now hk
   exact fun W' _ => this)⟩
  exact Kd.F_mono (hr2.F hn) (fun k hk => by
   rcases hk with hk | rfl
   ·exact hk.elim
   ·exact ⟨hg, cur, hc⟩)
/-- The row of loads. -/
def LoadRow (W : World) (base : Nat) (v : Value) (xs : List (List Int)) : Prop := OwnRow (IntsIn W base) 22 1 W base v xs
theorem LoadRow.below (h : LoadRow W base v xs) (hb : Below W.heap.size W W1) : LoadRow W1 base v xs := OwnRow.imp_ (OwnRow.below h hb) (fun _ _ hk => hk.below hb)
theorem LoadRow.ne (h : LoadRow W base v xs) {k : Nat} (hk : IntBlk W base k) : some k ≠ v.ownBlock := by
 obtain ⟨_, cur, hc⟩ := hk
 exact OwnRow.ne_block h hc (by decide)
theorem LoadRow.moved {y : List Int} {row : Option Nat} (hg : W.grownBy W1 row) (hne : ∀ k, IntBlk W base k → some k ≠ row) (h : IntsIn W base y cs) : IntsIn W1 base y cs := h.step (fun k hk => hg.block k hk.lt (hne k hk))
theorem LoadRow.lit (x : List Int) (hb : base ≤ W.heap.size) {A : Option Addr} {c : Nat} (hx : IntsIn W base x [.slice A x.length c]) : LoadRow (W.alloc (.cells #[.slice A x.length c] 22)) base (.slice (some ⟨W.heap.size, 0, none⟩) 1 1) [x] := by
 have h := OwnRow.lit (R := IntsIn W base) (e := 22) (size := 1) (ps := [x]) W base (inner := [.slice A x.length c]) (Reps.snoc (Reps.none _ _) hx rfl) hb (by simp)
 exact OwnRow.imp_ h (fun _ _ hk => hk.below (below_alloc (Below.refl _ _) _))
/-- It reads, and hangs on new memory alone. -/
theorem LoadRow.F (h : LoadRow W base v xs) : ∃ A c, v = .slice A xs.length c ∧ xs.length ≤ c ∧ Kd.F kInts W (fun k => base ≤ k) A xs.length xs := by
 obtain ⟨A, c, e, hl, _⟩ := OwnRow.reads h
 refine ⟨A, c, e, hl, fun W' hW => ?_⟩
 have h2 : LoadRow W' base v xs := by
  obtain ⟨inner, ho, hr⟩ := h
  exact ⟨inner, own_move ho (fun k hk => hW k (own_base ho k hk) (own_lt ho k hk)), hr.imp_ (fun _ _ hk => hk.step (fun k h => hW k h.1 h.lt))⟩
 obtain ⟨A2, c2, e2, _, hC⟩ := OwnRow.reads h2
 rw [e] at e2
 simp only [Value.slice.injEq] at e2
 obtain ⟨eA, _, _⟩ := e2
 rw [eA]
 exact hC.imp_ (Below.refl _ _) (fun y b hy => by
  obtain ⟨A3, c3, rfl, hl3, hF3⟩ := hy
  exact ⟨A3, c3, rfl, hl3, Kd.F_now hF3⟩)
end
end Go.Proofs.Ytemjpgmfignhnaa
