/- Contracts: is a vehicle a lawful one?
Conditions: lists no longer than memory allows. -/
import Derived.Test.YtemjpgmfignhnaaM0
import Derived.Test.YtemjpgmfignhnaaM1
namespace Go.Proofs.Ytemjpgmfignhnaa
open Go.RowKit Go.Proofs.YtemjpgmfignhnaaW.PrintWords Go.Proofs.YtemjpgmfignhnaaW.PrintLast Go.Proofs.YtemjpgmfignhnaaW.PrintMore
set_option linter.unusedVariables false
set_option linter.unusedSimpArgs false
attribute [local go_sem] cell_growBy Option.some_or
def breakB (b : TBreak) : Bool := windowsB b.Windows && upB b.Service 1000000
def breaksB (l : List TBreak) : Bool := l.all breakB
def vehicleB (v : TVehicle) (d n : Int) : Bool := decide (v.Breaks.length ≤ 2) && breaksB v.Breaks && upB v.Start (n - 1) && upB v.End (n - 1) && decide (amountsS v.Cap d = 0) && decide (v.Skills < 4611686018427387904) && windowsB [v.Shift] && upB v.Fixed 1000000 && upB v.PerTime 1000000 && upB v.PerDist 1000000 && upB v.MaxTasks 12
abbrev vehVal (v : TVehicle) (A A' : Option Addr) (c c' : Nat) : Value := .agg #[.int .i64 v.Start, .int .i64 v.End, .slice A v.Cap.length c, .int .u64 v.Skills, .int .i64 v.Shift.From, .int .i64 v.Shift.To, .int .i64 v.Fixed, .int .i64 v.PerTime, .int .i64 v.PerDist, .int .i64 v.MaxTasks, .slice A' v.Breaks.length c']
/-- The breaks' lists are no longer than memory allows. -/
def BrLens (l : List TBreak) : Prop := ∀ b ∈ l, b.Windows.length ≤ 4611686018427387904
set_option maxHeartbeats 4000000 in
set_option maxRecDepth 100000 in
theorem refVehicle_any (v : TVehicle) (A A' : Option Addr) (c c' : Nat) (d n : Int) (w : World) (hC : Kd.C (Kd.int .i64) w A v.Cap.length v.Cap) (hB : Kd.C kBreak w A' v.Breaks.length v.Breaks) (h0 : 1 ≤ n) (h1 : n ≤ 32)
  (hn : v.Cap.length ≤ 4611686018427387904) (hn2 : v.Breaks.length ≤ 4611686018427387904) (hl : BrLens v.Breaks) :
  Calls Try.prog 89 #[vehVal v A A' c c', .int .i64 d, .int .i64 n] w fun e w' => e = .returned (.bool (vehicleB v d n)) ∧ Below w.heap.size w w' := by
 by_cases hb2 : v.Breaks.length ≤ 2
 ·have HB := Aside0.mk hB
  have HC := Aside0.mk hC
  have HL := Aside0.mk hl
  have b2 : decide ((2 : Int) < (v.Breaks.length : Int)) = false := decide_eq_false (by omega)
  generalize hq : vehicleB v d n = r
  have HQ : Aside0 (r = (breaksB (v.Breaks.drop 0) && (upB v.Start (n - 1) && upB v.End (n - 1) && decide (amountsS v.Cap d = 0) && decide (v.Skills < 4611686018427387904) && windowsB [v.Shift] && upB v.Fixed 1000000 && upB v.PerTime 1000000 && upB v.PerDist 1000000 && upB v.MaxTasks 12))) := ⟨by rw [← hq]; simp [vehicleB, hb2, Bool.and_assoc]⟩
  clear hB hC hl hq
  go_enter Try.func89, Try.ntmps89
  go_wp2
  go_loopw [7] (fun i wr => ∃ k : Nat, k ≤ v.Breaks.length ∧ i = .int .i64 k ∧ Aside0 (r = (breaksB (v.Breaks.drop k) && (upB v.Start (n - 1) && upB v.End (n - 1) && decide (amountsS v.Cap d = 0) && decide (v.Skills < 4611686018427387904) && windowsB [v.Shift] && upB v.Fixed 1000000 && upB v.PerTime 1000000 && upB v.PerDist 1000000 && upB v.MaxTasks 12))) ∧ Aside0 (Below (w.heap.size + 1) (w.alloc (.cells #[.int .i64 v.Start, .int .i64 v.End, .slice A v.Cap.length c, .int .u64 v.Skills, .int .i64 v.Shift.From, .int .i64 v.Shift.To, .int .i64 v.Fixed, .int .i64 v.PerTime, .int .i64 v.PerDist, .int .i64 v.MaxTasks, .slice A' v.Breaks.length c'] 89)) wr)) (fun i _ => v.Breaks.length - (intOf i).toNat)
  case atStart => exact ⟨0, Nat.zero_le _, rfl, HQ, ⟨Below.refl _ _⟩⟩
  case round =>
   clear HQ
   obtain ⟨k, hk, rfl, HS, HW⟩ := hrel
   have HW' : Aside0 (Below (w.alloc (.cells #[.int .i64 v.Start, .int .i64 v.End, .slice A v.Cap.length c, .int .u64 v.Skills, .int .i64 v.Shift.From, .int .i64 v.Shift.To, .int .i64 v.Fixed, .int .i64 v.PerTime, .int .i64 v.PerDist, .int .i64 v.MaxTasks, .slice A' v.Breaks.length c'] 89)).heap.size (w.alloc (.cells #[.int .i64 v.Start, .int .i64 v.End, .slice A v.Cap.length c, .int .u64 v.Skills, .int .i64 v.Shift.From, .int .i64 v.Shift.To, .int .i64 v.Fixed, .int .i64 v.PerTime, .int .i64 v.PerDist, .int .i64 v.MaxTasks, .slice A' v.Breaks.length c'] 89)) wr) := ⟨by simpa using HW.out⟩
   have HB1 : Aside0 (Below w.heap.size w wr) := ⟨below_to (below_alloc (Below.refl _ _) _) HW'.out⟩
   obtain ⟨qc, qf⟩ := bcell HW'.out
   have zr : w.heap.size < wr.heap.size := by
    have := HW'.out.size
    simp at this
    omega
   by_cases hlt : k < v.Breaks.length
   ·obtain ⟨ad, A0, c0, ea, x0, x1, l0, g0⟩ := atNBreak (Kd.C_below HB.out HB1.out) k hlt
    subst ea
    have hs := HS.out
    rw [List.drop_eq_getElem_cons hlt, breaksB, List.all_cons] at hs
    have hw := HL.out v.Breaks[k] (List.getElem_mem hlt)
    have r0 : (0 : Int) ≤ (k : Int) := by omega
    have r1 : (k : Int) < (v.Breaks.length : Int) := by omega
    cases t1 : windowsB v.Breaks[k].Windows
    ·have er : r = false := by rw [hs]; simp [breakB, t1]
     subst er
     have T1 := Aside0.mk t1
     clear t1 hs HS
     go_wp2_with (go_at_call 117; refine (windows_any v.Breaks[k].Windows _ _ _ g0 hw).mono ?_; rw [T1.out]; rintro e w2 ⟨rfl, hb⟩; have HB2 := Aside0.mk hb; obtain ⟨qc2, qf2⟩ := bcell hb; have hs2 := hb.size; (try simp at hs2); (try have z02 : w.heap.size < w2.heap.size := (by omega)); (try have z12 : w.heap.size + 1 < w2.heap.size := (by omega)); (try have z22 : w.heap.size + 1 + 1 < w2.heap.size := (by omega)); (try have z32 : w.heap.size + 1 + 1 + 1 < w2.heap.size := (by omega)); (try have z42 : w.heap.size + 1 + 1 + 1 + 1 < w2.heap.size := (by omega)); clear hs2 hb; skip)
     go_ret
     exact ⟨rfl, clb⟩
    cases t2 : upB v.Breaks[k].Service 1000000
    ·have er : r = false := by rw [hs]; simp [breakB, t1, t2]
     subst er
     have T1 := Aside0.mk t1
     have T2 := Aside0.mk t2
     have X1 := stays x1
     clear t1 t2 hs HS
     go_wp2_with (first
      | (go_at_call 117; refine (windows_any v.Breaks[k].Windows _ _ _ g0 hw).mono ?_; rw [T1.out]; rintro e w2 ⟨rfl, hb⟩; have HB2 := Aside0.mk hb; obtain ⟨qc2, qf2⟩ := bcell hb; have hs2 := hb.size; (try simp at hs2); (try have z02 : w.heap.size < w2.heap.size := (by omega)); (try have z12 : w.heap.size + 1 < w2.heap.size := (by omega)); (try have z22 : w.heap.size + 1 + 1 < w2.heap.size := (by omega)); (try have z32 : w.heap.size + 1 + 1 + 1 < w2.heap.size := (by omega)); (try have z42 : w.heap.size + 1 + 1 + 1 + 1 < w2.heap.size := (by omega)); clear hs2 hb; have y1 := X1.out w2 HB2.out)
      | (go_at_call 87; refine (up_any _ _ _).mono ?_; rw [T2.out]; rintro e w' ⟨rfl, rfl⟩))
     go_ret
     exact ⟨rfl, clb⟩
    ·have T1 := Aside0.mk t1
     have T2 := Aside0.mk t2
     have HN : Aside0 (r = (breaksB (v.Breaks.drop (k + 1)) && (upB v.Start (n - 1) && upB v.End (n - 1) && decide (amountsS v.Cap d = 0) && decide (v.Skills < 4611686018427387904) && windowsB [v.Shift] && upB v.Fixed 1000000 && upB v.PerTime 1000000 && upB v.PerDist 1000000 && upB v.MaxTasks 12))) := ⟨by rw [hs]; simp [breakB, t1, t2, breaksB]⟩
     have X1 := stays x1
     clear t1 t2 hs HS
     go_wp2_with (first
      | (go_at_call 117; refine (windows_any v.Breaks[k].Windows _ _ _ g0 hw).mono ?_; rw [T1.out]; rintro e w2 ⟨rfl, hb⟩; have HB2 := Aside0.mk hb; obtain ⟨qc2, qf2⟩ := bcell hb; have hs2 := hb.size; (try simp at hs2); (try have z02 : w.heap.size < w2.heap.size := (by omega)); (try have z12 : w.heap.size + 1 < w2.heap.size := (by omega)); (try have z22 : w.heap.size + 1 + 1 < w2.heap.size := (by omega)); (try have z32 : w.heap.size + 1 + 1 + 1 < w2.heap.size := (by omega)); (try have z42 : w.heap.size + 1 + 1 + 1 + 1 < w2.heap.size := (by omega)); clear hs2 hb; have y1 := X1.out w2 HB2.out)
      | (go_at_call 87; refine (up_any _ _ _).mono ?_; rw [T2.out]; rintro e w' ⟨rfl, rfl⟩))
     go_roundw
     case rel => exact ⟨k + 1, by omega, by go_num, HN, ⟨by simpa using below_then HW'.out HW'.out.size HB2.out⟩⟩
     case measure => simp [intOf]; omega
   ·have hs := HS.out
    rw [List.drop_of_length_le (by omega), breaksB, List.all_nil, Bool.true_and] at hs
    clear HS
    cases t1 : upB v.Start (n - 1)
    ·have er : r = false := by rw [hs]; simp [*]
     subst er
     have T1 := Aside0.mk t1
     skip
     clear t1 hs
     go_wp2_with (first
      | (go_at_call 87; refine (up_any _ _ _).mono ?_; (first | rw [T1.out] | rw [T2.out] | rw [T6.out] | rw [T7.out] | rw [T8.out] | rw [T9.out]); rintro e w' ⟨rfl, rfl⟩)
      | (go_at_call 91; refine (ref09Check_any v.Cap A c d _ (Kd.C_below HC.out clb) hn).mono ?_; skip; rintro e w2 ⟨rfl, hb⟩; have HB2 := Aside0.mk hb; obtain ⟨qc2, qf2⟩ := bcell hb; have hs2 := hb.size; (try simp at hs2); (try have z02 : w.heap.size < w2.heap.size := (by omega)); (try have z12 : w.heap.size + 1 < w2.heap.size := (by omega)); (try have z22 : w.heap.size + 1 + 1 < w2.heap.size := (by omega)); (try have z32 : w.heap.size + 1 + 1 + 1 < w2.heap.size := (by omega)); (try have z42 : w.heap.size + 1 + 1 + 1 + 1 < w2.heap.size := (by omega)); clear hs2 hb; have zr2 : w.heap.size < w2.heap.size := (Nat.lt_of_lt_of_le zr HB2.out.size))
      | (go_at_call 117; refine (windows_any [v.Shift] _ _ _ (C_one v.Shift (blk_new _ _) (kWindow_mk _ _)) (by simp)).mono ?_; rw [T5.out]; rintro e w3 ⟨rfl, hb⟩; have HB3 := Aside0.mk hb; obtain ⟨qc3, qf3⟩ := bcell hb; have hs3 := hb.size; (try simp at hs3); (try have z03 : w.heap.size < w3.heap.size := (by omega)); (try have z13 : w.heap.size + 1 < w3.heap.size := (by omega)); (try have z23 : w.heap.size + 1 + 1 < w3.heap.size := (by omega)); (try have z33 : w.heap.size + 1 + 1 + 1 < w3.heap.size := (by omega)); (try have z43 : w.heap.size + 1 + 1 + 1 + 1 < w3.heap.size := (by omega)); clear hs3 hb; have zr3 : w.heap.size < w3.heap.size := (by have := HB3.out.size; simp at this; omega)))
     go_ret
     exact ⟨rfl, clb⟩
    have T1 := Aside0.mk t1
    skip
    rw [t1] at hs
    clear t1
    cases t2 : upB v.End (n - 1)
    ·have er : r = false := by rw [hs]; simp [*]
     subst er
     have T2 := Aside0.mk t2
     skip
     clear t2 hs
     go_wp2_with (first
      | (go_at_call 87; refine (up_any _ _ _).mono ?_; (first | rw [T1.out] | rw [T2.out] | rw [T6.out] | rw [T7.out] | rw [T8.out] | rw [T9.out]); rintro e w' ⟨rfl, rfl⟩)
      | (go_at_call 91; refine (ref09Check_any v.Cap A c d _ (Kd.C_below HC.out clb) hn).mono ?_; skip; rintro e w2 ⟨rfl, hb⟩; have HB2 := Aside0.mk hb; obtain ⟨qc2, qf2⟩ := bcell hb; have hs2 := hb.size; (try simp at hs2); (try have z02 : w.heap.size < w2.heap.size := (by omega)); (try have z12 : w.heap.size + 1 < w2.heap.size := (by omega)); (try have z22 : w.heap.size + 1 + 1 < w2.heap.size := (by omega)); (try have z32 : w.heap.size + 1 + 1 + 1 < w2.heap.size := (by omega)); (try have z42 : w.heap.size + 1 + 1 + 1 + 1 < w2.heap.size := (by omega)); clear hs2 hb; have zr2 : w.heap.size < w2.heap.size := (Nat.lt_of_lt_of_le zr HB2.out.size))
      | (go_at_call 117; refine (windows_any [v.Shift] _ _ _ (C_one v.Shift (blk_new _ _) (kWindow_mk _ _)) (by simp)).mono ?_; rw [T5.out]; rintro e w3 ⟨rfl, hb⟩; have HB3 := Aside0.mk hb; obtain ⟨qc3, qf3⟩ := bcell hb; have hs3 := hb.size; (try simp at hs3); (try have z03 : w.heap.size < w3.heap.size := (by omega)); (try have z13 : w.heap.size + 1 < w3.heap.size := (by omega)); (try have z23 : w.heap.size + 1 + 1 < w3.heap.size := (by omega)); (try have z33 : w.heap.size + 1 + 1 + 1 < w3.heap.size := (by omega)); (try have z43 : w.heap.size + 1 + 1 + 1 + 1 < w3.heap.size := (by omega)); clear hs3 hb; have zr3 : w.heap.size < w3.heap.size := (by have := HB3.out.size; simp at this; omega)))
     go_ret
     exact ⟨rfl, clb⟩
    have T2 := Aside0.mk t2
    skip
    rw [t2] at hs
    clear t2
    cases t3 : decide (amountsS v.Cap d = 0)
    ·have er : r = false := by rw [hs]; simp [*]
     subst er
     have T3 := Aside0.mk t3
     have d3 : (amountsS v.Cap d == 0) = decide (amountsS v.Cap d = 0) := rfl; rw [t3] at d3
     clear t3 hs
     go_wp2_with (first
      | (go_at_call 87; refine (up_any _ _ _).mono ?_; (first | rw [T1.out] | rw [T2.out] | rw [T6.out] | rw [T7.out] | rw [T8.out] | rw [T9.out]); rintro e w' ⟨rfl, rfl⟩)
      | (go_at_call 91; refine (ref09Check_any v.Cap A c d _ (Kd.C_below HC.out clb) hn).mono ?_; skip; rintro e w2 ⟨rfl, hb⟩; have HB2 := Aside0.mk hb; obtain ⟨qc2, qf2⟩ := bcell hb; have hs2 := hb.size; (try simp at hs2); (try have z02 : w.heap.size < w2.heap.size := (by omega)); (try have z12 : w.heap.size + 1 < w2.heap.size := (by omega)); (try have z22 : w.heap.size + 1 + 1 < w2.heap.size := (by omega)); (try have z32 : w.heap.size + 1 + 1 + 1 < w2.heap.size := (by omega)); (try have z42 : w.heap.size + 1 + 1 + 1 + 1 < w2.heap.size := (by omega)); clear hs2 hb; have zr2 : w.heap.size < w2.heap.size := (Nat.lt_of_lt_of_le zr HB2.out.size))
      | (go_at_call 117; refine (windows_any [v.Shift] _ _ _ (C_one v.Shift (blk_new _ _) (kWindow_mk _ _)) (by simp)).mono ?_; rw [T5.out]; rintro e w3 ⟨rfl, hb⟩; have HB3 := Aside0.mk hb; obtain ⟨qc3, qf3⟩ := bcell hb; have hs3 := hb.size; (try simp at hs3); (try have z03 : w.heap.size < w3.heap.size := (by omega)); (try have z13 : w.heap.size + 1 < w3.heap.size := (by omega)); (try have z23 : w.heap.size + 1 + 1 < w3.heap.size := (by omega)); (try have z33 : w.heap.size + 1 + 1 + 1 < w3.heap.size := (by omega)); (try have z43 : w.heap.size + 1 + 1 + 1 + 1 < w3.heap.size := (by omega)); clear hs3 hb; have zr3 : w.heap.size < w3.heap.size := (by have := HB3.out.size; simp at this; omega)))
     go_ret
     exact ⟨rfl, clb⟩
    have T3 := Aside0.mk t3
    have d3 : (amountsS v.Cap d == 0) = decide (amountsS v.Cap d = 0) := rfl; rw [t3] at d3
    rw [t3] at hs
    clear t3
    cases t4 : decide (v.Skills < 4611686018427387904)
    ·have er : r = false := by rw [hs]; simp [*]
     subst er
     have T4 := Aside0.mk t4
     have d4 := t4
     clear t4 hs
     go_wp2_with (first
      | (go_at_call 87; refine (up_any _ _ _).mono ?_; (first | rw [T1.out] | rw [T2.out] | rw [T6.out] | rw [T7.out] | rw [T8.out] | rw [T9.out]); rintro e w' ⟨rfl, rfl⟩)
      | (go_at_call 91; refine (ref09Check_any v.Cap A c d _ (Kd.C_below HC.out clb) hn).mono ?_; skip; rintro e w2 ⟨rfl, hb⟩; have HB2 := Aside0.mk hb; obtain ⟨qc2, qf2⟩ := bcell hb; have hs2 := hb.size; (try simp at hs2); (try have z02 : w.heap.size < w2.heap.size := (by omega)); (try have z12 : w.heap.size + 1 < w2.heap.size := (by omega)); (try have z22 : w.heap.size + 1 + 1 < w2.heap.size := (by omega)); (try have z32 : w.heap.size + 1 + 1 + 1 < w2.heap.size := (by omega)); (try have z42 : w.heap.size + 1 + 1 + 1 + 1 < w2.heap.size := (by omega)); clear hs2 hb; have zr2 : w.heap.size < w2.heap.size := (Nat.lt_of_lt_of_le zr HB2.out.size))
      | (go_at_call 117; refine (windows_any [v.Shift] _ _ _ (C_one v.Shift (blk_new _ _) (kWindow_mk _ _)) (by simp)).mono ?_; rw [T5.out]; rintro e w3 ⟨rfl, hb⟩; have HB3 := Aside0.mk hb; obtain ⟨qc3, qf3⟩ := bcell hb; have hs3 := hb.size; (try simp at hs3); (try have z03 : w.heap.size < w3.heap.size := (by omega)); (try have z13 : w.heap.size + 1 < w3.heap.size := (by omega)); (try have z23 : w.heap.size + 1 + 1 < w3.heap.size := (by omega)); (try have z33 : w.heap.size + 1 + 1 + 1 < w3.heap.size := (by omega)); (try have z43 : w.heap.size + 1 + 1 + 1 + 1 < w3.heap.size := (by omega)); clear hs3 hb; have zr3 : w.heap.size < w3.heap.size := (by have := HB3.out.size; simp at this; omega)))
     go_ret
     exact ⟨rfl, clb⟩
    have T4 := Aside0.mk t4
    have d4 := t4
    rw [t4] at hs
    clear t4
    cases t5 : windowsB [v.Shift]
    ·have er : r = false := by rw [hs]; simp [*]
     subst er
     have T5 := Aside0.mk t5
     skip
     clear t5 hs
     go_wp2_with (first
      | (go_at_call 87; refine (up_any _ _ _).mono ?_; (first | rw [T1.out] | rw [T2.out] | rw [T6.out] | rw [T7.out] | rw [T8.out] | rw [T9.out]); rintro e w' ⟨rfl, rfl⟩)
      | (go_at_call 91; refine (ref09Check_any v.Cap A c d _ (Kd.C_below HC.out clb) hn).mono ?_; skip; rintro e w2 ⟨rfl, hb⟩; have HB2 := Aside0.mk hb; obtain ⟨qc2, qf2⟩ := bcell hb; have hs2 := hb.size; (try simp at hs2); (try have z02 : w.heap.size < w2.heap.size := (by omega)); (try have z12 : w.heap.size + 1 < w2.heap.size := (by omega)); (try have z22 : w.heap.size + 1 + 1 < w2.heap.size := (by omega)); (try have z32 : w.heap.size + 1 + 1 + 1 < w2.heap.size := (by omega)); (try have z42 : w.heap.size + 1 + 1 + 1 + 1 < w2.heap.size := (by omega)); clear hs2 hb; have zr2 : w.heap.size < w2.heap.size := (Nat.lt_of_lt_of_le zr HB2.out.size))
      | (go_at_call 117; refine (windows_any [v.Shift] _ _ _ (C_one v.Shift (blk_new _ _) (kWindow_mk _ _)) (by simp)).mono ?_; rw [T5.out]; rintro e w3 ⟨rfl, hb⟩; have HB3 := Aside0.mk hb; obtain ⟨qc3, qf3⟩ := bcell hb; have hs3 := hb.size; (try simp at hs3); (try have z03 : w.heap.size < w3.heap.size := (by omega)); (try have z13 : w.heap.size + 1 < w3.heap.size := (by omega)); (try have z23 : w.heap.size + 1 + 1 < w3.heap.size := (by omega)); (try have z33 : w.heap.size + 1 + 1 + 1 < w3.heap.size := (by omega)); (try have z43 : w.heap.size + 1 + 1 + 1 + 1 < w3.heap.size := (by omega)); clear hs3 hb; have zr3 : w.heap.size < w3.heap.size := (by have := HB3.out.size; simp at this; omega)))
     go_ret
     exact ⟨rfl, clb⟩
    have T5 := Aside0.mk t5
    skip
    rw [t5] at hs
    clear t5
    cases t6 : upB v.Fixed 1000000
    ·have er : r = false := by rw [hs]; simp [*]
     subst er
     have T6 := Aside0.mk t6
     skip
     clear t6 hs
     go_wp2_with (first
      | (go_at_call 87; refine (up_any _ _ _).mono ?_; (first | rw [T1.out] | rw [T2.out] | rw [T6.out] | rw [T7.out] | rw [T8.out] | rw [T9.out]); rintro e w' ⟨rfl, rfl⟩)
      | (go_at_call 91; refine (ref09Check_any v.Cap A c d _ (Kd.C_below HC.out clb) hn).mono ?_; skip; rintro e w2 ⟨rfl, hb⟩; have HB2 := Aside0.mk hb; obtain ⟨qc2, qf2⟩ := bcell hb; have hs2 := hb.size; (try simp at hs2); (try have z02 : w.heap.size < w2.heap.size := (by omega)); (try have z12 : w.heap.size + 1 < w2.heap.size := (by omega)); (try have z22 : w.heap.size + 1 + 1 < w2.heap.size := (by omega)); (try have z32 : w.heap.size + 1 + 1 + 1 < w2.heap.size := (by omega)); (try have z42 : w.heap.size + 1 + 1 + 1 + 1 < w2.heap.size := (by omega)); clear hs2 hb; have zr2 : w.heap.size < w2.heap.size := (Nat.lt_of_lt_of_le zr HB2.out.size))
      | (go_at_call 117; refine (windows_any [v.Shift] _ _ _ (C_one v.Shift (blk_new _ _) (kWindow_mk _ _)) (by simp)).mono ?_; rw [T5.out]; rintro e w3 ⟨rfl, hb⟩; have HB3 := Aside0.mk hb; obtain ⟨qc3, qf3⟩ := bcell hb; have hs3 := hb.size; (try simp at hs3); (try have z03 : w.heap.size < w3.heap.size := (by omega)); (try have z13 : w.heap.size + 1 < w3.heap.size := (by omega)); (try have z23 : w.heap.size + 1 + 1 < w3.heap.size := (by omega)); (try have z33 : w.heap.size + 1 + 1 + 1 < w3.heap.size := (by omega)); (try have z43 : w.heap.size + 1 + 1 + 1 + 1 < w3.heap.size := (by omega)); clear hs3 hb; have zr3 : w.heap.size < w3.heap.size := (by have := HB3.out.size; simp at this; omega)))
     go_ret
     exact ⟨rfl, clb⟩
    have T6 := Aside0.mk t6
    skip
    rw [t6] at hs
    clear t6
    cases t7 : upB v.PerTime 1000000
    ·have er : r = false := by rw [hs]; simp [*]
     subst er
     have T7 := Aside0.mk t7
     skip
     clear t7 hs
     go_wp2_with (first
      | (go_at_call 87; refine (up_any _ _ _).mono ?_; (first | rw [T1.out] | rw [T2.out] | rw [T6.out] | rw [T7.out] | rw [T8.out] | rw [T9.out]); rintro e w' ⟨rfl, rfl⟩)
      | (go_at_call 91; refine (ref09Check_any v.Cap A c d _ (Kd.C_below HC.out clb) hn).mono ?_; skip; rintro e w2 ⟨rfl, hb⟩; have HB2 := Aside0.mk hb; obtain ⟨qc2, qf2⟩ := bcell hb; have hs2 := hb.size; (try simp at hs2); (try have z02 : w.heap.size < w2.heap.size := (by omega)); (try have z12 : w.heap.size + 1 < w2.heap.size := (by omega)); (try have z22 : w.heap.size + 1 + 1 < w2.heap.size := (by omega)); (try have z32 : w.heap.size + 1 + 1 + 1 < w2.heap.size := (by omega)); (try have z42 : w.heap.size + 1 + 1 + 1 + 1 < w2.heap.size := (by omega)); clear hs2 hb; have zr2 : w.heap.size < w2.heap.size := (Nat.lt_of_lt_of_le zr HB2.out.size))
      | (go_at_call 117; refine (windows_any [v.Shift] _ _ _ (C_one v.Shift (blk_new _ _) (kWindow_mk _ _)) (by simp)).mono ?_; rw [T5.out]; rintro e w3 ⟨rfl, hb⟩; have HB3 := Aside0.mk hb; obtain ⟨qc3, qf3⟩ := bcell hb; have hs3 := hb.size; (try simp at hs3); (try have z03 : w.heap.size < w3.heap.size := (by omega)); (try have z13 : w.heap.size + 1 < w3.heap.size := (by omega)); (try have z23 : w.heap.size + 1 + 1 < w3.heap.size := (by omega)); (try have z33 : w.heap.size + 1 + 1 + 1 < w3.heap.size := (by omega)); (try have z43 : w.heap.size + 1 + 1 + 1 + 1 < w3.heap.size := (by omega)); clear hs3 hb; have zr3 : w.heap.size < w3.heap.size := (by have := HB3.out.size; simp at this; omega)))
     go_ret
     exact ⟨rfl, clb⟩
    have T7 := Aside0.mk t7
    skip
    rw [t7] at hs
    clear t7
    cases t8 : upB v.PerDist 1000000
    ·have er : r = false := by rw [hs]; simp [*]
     subst er
     have T8 := Aside0.mk t8
     skip
     clear t8 hs
     go_wp2_with (first
      | (go_at_call 87; refine (up_any _ _ _).mono ?_; (first | rw [T1.out] | rw [T2.out] | rw [T6.out] | rw [T7.out] | rw [T8.out] | rw [T9.out]); rintro e w' ⟨rfl, rfl⟩)
      | (go_at_call 91; refine (ref09Check_any v.Cap A c d _ (Kd.C_below HC.out clb) hn).mono ?_; skip; rintro e w2 ⟨rfl, hb⟩; have HB2 := Aside0.mk hb; obtain ⟨qc2, qf2⟩ := bcell hb; have hs2 := hb.size; (try simp at hs2); (try have z02 : w.heap.size < w2.heap.size := (by omega)); (try have z12 : w.heap.size + 1 < w2.heap.size := (by omega)); (try have z22 : w.heap.size + 1 + 1 < w2.heap.size := (by omega)); (try have z32 : w.heap.size + 1 + 1 + 1 < w2.heap.size := (by omega)); (try have z42 : w.heap.size + 1 + 1 + 1 + 1 < w2.heap.size := (by omega)); clear hs2 hb; have zr2 : w.heap.size < w2.heap.size := (Nat.lt_of_lt_of_le zr HB2.out.size))
      | (go_at_call 117; refine (windows_any [v.Shift] _ _ _ (C_one v.Shift (blk_new _ _) (kWindow_mk _ _)) (by simp)).mono ?_; rw [T5.out]; rintro e w3 ⟨rfl, hb⟩; have HB3 := Aside0.mk hb; obtain ⟨qc3, qf3⟩ := bcell hb; have hs3 := hb.size; (try simp at hs3); (try have z03 : w.heap.size < w3.heap.size := (by omega)); (try have z13 : w.heap.size + 1 < w3.heap.size := (by omega)); (try have z23 : w.heap.size + 1 + 1 < w3.heap.size := (by omega)); (try have z33 : w.heap.size + 1 + 1 + 1 < w3.heap.size := (by omega)); (try have z43 : w.heap.size + 1 + 1 + 1 + 1 < w3.heap.size := (by omega)); clear hs3 hb; have zr3 : w.heap.size < w3.heap.size := (by have := HB3.out.size; simp at this; omega)))
     go_ret
     exact ⟨rfl, clb⟩
    have T8 := Aside0.mk t8
    skip
    rw [t8] at hs
    clear t8
    cases t9 : upB v.MaxTasks 12
    ·have er : r = false := by rw [hs]; simp [*]
     subst er
     have T9 := Aside0.mk t9
     skip
     clear t9 hs
     go_wp2_with (first
      | (go_at_call 87; refine (up_any _ _ _).mono ?_; (first | rw [T1.out] | rw [T2.out] | rw [T6.out] | rw [T7.out] | rw [T8.out] | rw [T9.out]); rintro e w' ⟨rfl, rfl⟩)
      | (go_at_call 91; refine (ref09Check_any v.Cap A c d _ (Kd.C_below HC.out clb) hn).mono ?_; skip; rintro e w2 ⟨rfl, hb⟩; have HB2 := Aside0.mk hb; obtain ⟨qc2, qf2⟩ := bcell hb; have hs2 := hb.size; (try simp at hs2); (try have z02 : w.heap.size < w2.heap.size := (by omega)); (try have z12 : w.heap.size + 1 < w2.heap.size := (by omega)); (try have z22 : w.heap.size + 1 + 1 < w2.heap.size := (by omega)); (try have z32 : w.heap.size + 1 + 1 + 1 < w2.heap.size := (by omega)); (try have z42 : w.heap.size + 1 + 1 + 1 + 1 < w2.heap.size := (by omega)); clear hs2 hb; have zr2 : w.heap.size < w2.heap.size := (Nat.lt_of_lt_of_le zr HB2.out.size))
      | (go_at_call 117; refine (windows_any [v.Shift] _ _ _ (C_one v.Shift (blk_new _ _) (kWindow_mk _ _)) (by simp)).mono ?_; rw [T5.out]; rintro e w3 ⟨rfl, hb⟩; have HB3 := Aside0.mk hb; obtain ⟨qc3, qf3⟩ := bcell hb; have hs3 := hb.size; (try simp at hs3); (try have z03 : w.heap.size < w3.heap.size := (by omega)); (try have z13 : w.heap.size + 1 < w3.heap.size := (by omega)); (try have z23 : w.heap.size + 1 + 1 < w3.heap.size := (by omega)); (try have z33 : w.heap.size + 1 + 1 + 1 < w3.heap.size := (by omega)); (try have z43 : w.heap.size + 1 + 1 + 1 + 1 < w3.heap.size := (by omega)); clear hs3 hb; have zr3 : w.heap.size < w3.heap.size := (by have := HB3.out.size; simp at this; omega)))
     go_ret
     exact ⟨rfl, clb⟩
    have T9 := Aside0.mk t9
    skip
    rw [t9] at hs
    clear t9
    have er : r = true := by rw [hs]; rfl
    subst er
    clear hs
    go_wp2_with (first
     | (go_at_call 87; refine (up_any _ _ _).mono ?_; (first | rw [T1.out] | rw [T2.out] | rw [T6.out] | rw [T7.out] | rw [T8.out] | rw [T9.out]); rintro e w' ⟨rfl, rfl⟩)
     | (go_at_call 91; refine (ref09Check_any v.Cap A c d _ (Kd.C_below HC.out clb) hn).mono ?_; skip; rintro e w2 ⟨rfl, hb⟩; have HB2 := Aside0.mk hb; obtain ⟨qc2, qf2⟩ := bcell hb; have hs2 := hb.size; (try simp at hs2); (try have z02 : w.heap.size < w2.heap.size := (by omega)); (try have z12 : w.heap.size + 1 < w2.heap.size := (by omega)); (try have z22 : w.heap.size + 1 + 1 < w2.heap.size := (by omega)); (try have z32 : w.heap.size + 1 + 1 + 1 < w2.heap.size := (by omega)); (try have z42 : w.heap.size + 1 + 1 + 1 + 1 < w2.heap.size := (by omega)); clear hs2 hb; have zr2 : w.heap.size < w2.heap.size := (Nat.lt_of_lt_of_le zr HB2.out.size))
     | (go_at_call 117; refine (windows_any [v.Shift] _ _ _ (C_one v.Shift (blk_new _ _) (kWindow_mk _ _)) (by simp)).mono ?_; rw [T5.out]; rintro e w3 ⟨rfl, hb⟩; have HB3 := Aside0.mk hb; obtain ⟨qc3, qf3⟩ := bcell hb; have hs3 := hb.size; (try simp at hs3); (try have z03 : w.heap.size < w3.heap.size := (by omega)); (try have z13 : w.heap.size + 1 < w3.heap.size := (by omega)); (try have z23 : w.heap.size + 1 + 1 < w3.heap.size := (by omega)); (try have z33 : w.heap.size + 1 + 1 + 1 < w3.heap.size := (by omega)); (try have z43 : w.heap.size + 1 + 1 + 1 + 1 < w3.heap.size := (by omega)); clear hs3 hb; have zr3 : w.heap.size < w3.heap.size := (by have := HB3.out.size; simp at this; omega)))
    go_ret
    exact ⟨rfl, clb⟩
 ·have es : vehicleB v d n = false := by simp [vehicleB, hb2]
  rw [es]
  have d2 : decide ((2 : Int) < (v.Breaks.length : Int)) = true := decide_eq_true (by omega)
  clear hC hB hl es hb2
  go_enter Try.func89, Try.ntmps89
  go_wp2
  go_ret
  exact ⟨rfl, clb⟩
end Go.Proofs.Ytemjpgmfignhnaa
/- Contracts: is a vehicle a lawful one? The program's own look.
Conditions: lists no longer than memory allows. -/
namespace Go.Proofs.Ytemjpgmfignhnaa
open Go.RowKit Go.Proofs.YtemjpgmfignhnaaW.PrintWords Go.Proofs.YtemjpgmfignhnaaW.PrintLast Go.Proofs.YtemjpgmfignhnaaW.PrintMore
set_option linter.unusedVariables false
set_option linter.unusedSimpArgs false
attribute [local go_sem] cell_growBy Option.some_or
end Go.Proofs.Ytemjpgmfignhnaa

/- What a lawful problem is.
Conditions: none. -/
namespace Go.Proofs.Ytemjpgmfignhnaa
open Go.RowKit Go.Proofs.YtemjpgmfignhnaaW.PrintWords Go.Proofs.YtemjpgmfignhnaaW.PrintLast Go.Proofs.YtemjpgmfignhnaaW.PrintMore
set_option linter.unusedVariables false
set_option linter.unusedSimpArgs false
def jobB (j : TJob) (d n : Int) : Bool := stopB j.Stop n && (decide (amountsS j.Drop d = 0) && (decide (amountsS j.Pick d = 0) && (decide (j.Skills < 4611686018427387904) && upB j.Priority 100)))
def shipB (s : TShipment) (d n : Int) : Bool := stopB s.Pickup n && (stopB s.Delivery n && (decide (amountsS s.Amount d = 0) && (decide (s.Skills < 4611686018427387904) && upB s.Priority 100)))
def vehsS (l : List TVehicle) (d n : Int) (r : Int) : Int := if l.all (fun v => vehicleB v d n) then r else 2
def jobsS (l : List TJob) (d n : Int) (r : Int) : Int := if l.all (fun v => jobB v d n) then r else 2
def shipsS (l : List TShipment) (d n : Int) (r : Int) : Int := if l.all (fun v => shipB v d n) then r else 2
def checkS (p : TProblem) : Int :=
 if (upB p.Dims 3 && (decide (1 ≤ p.Time.N) && (decide (p.Time.N ≤ 32) && (matrixB p.Time p.Time.N && matrixB p.Dist p.Time.N)))) = false then 2
 else if p.Vehicles.length > 4 ∨ p.Jobs.length + p.Shipments.length > 12 then 27
 else vehsS p.Vehicles p.Dims p.Time.N (jobsS p.Jobs p.Dims p.Time.N (shipsS p.Shipments p.Dims p.Time.N 0))
/-- Inner lists are no longer than memory allows, numbers are of their kinds. -/
structure Good (p : TProblem) : Prop extends Lens p where
 nsum : p.Jobs.length + p.Shipments.length ≤ 4611686018427387904
 gv : ∀ v ∈ p.Vehicles, v.Cap.length ≤ 4611686018427387904 ∧ v.Breaks.length ≤ 4611686018427387904 ∧ BrLens v.Breaks ∧ 0 ≤ v.Skills ∧ v.Skills < 18446744073709551616
 gj : ∀ j ∈ p.Jobs, j.Stop.Windows.length ≤ 4611686018427387904 ∧ j.Drop.length ≤ 4611686018427387904 ∧ j.Pick.length ≤ 4611686018427387904 ∧ 0 ≤ j.Skills ∧ j.Skills < 18446744073709551616
 gs : ∀ s ∈ p.Shipments, s.Pickup.Windows.length ≤ 4611686018427387904 ∧ s.Delivery.Windows.length ≤ 4611686018427387904 ∧ s.Amount.length ≤ 4611686018427387904 ∧ 0 ≤ s.Skills ∧ s.Skills < 18446744073709551616
theorem vehsS_at {l : List TVehicle} {d n r : Int} {k : Nat} (h : k < l.length) : vehsS (l.drop k) d n r = if vehicleB l[k] d n then vehsS (l.drop (k + 1)) d n r else 2 := by
 unfold vehsS
 rw [List.drop_eq_getElem_cons h, List.all_cons]
 cases hb : vehicleB l[k] d n
 ·rfl
 ·rw [Bool.true_and]; rfl
theorem jobsS_at {l : List TJob} {d n r : Int} {k : Nat} (h : k < l.length) : jobsS (l.drop k) d n r = if jobB l[k] d n then jobsS (l.drop (k + 1)) d n r else 2 := by
 unfold jobsS
 rw [List.drop_eq_getElem_cons h, List.all_cons]
 cases hb : jobB l[k] d n
 ·rfl
 ·rw [Bool.true_and]; rfl
theorem shipsS_at {l : List TShipment} {d n r : Int} {k : Nat} (h : k < l.length) : shipsS (l.drop k) d n r = if shipB l[k] d n then shipsS (l.drop (k + 1)) d n r else 2 := by
 unfold shipsS
 rw [List.drop_eq_getElem_cons h, List.all_cons]
 cases hb : shipB l[k] d n
 ·rfl
 ·rw [Bool.true_and]; rfl
theorem vehsS_end {l : List TVehicle} {d n r : Int} {k : Nat} (h : l.length ≤ k) : vehsS (l.drop k) d n r = r := by rw [List.drop_of_length_le h]; rfl
theorem jobsS_end {l : List TJob} {d n r : Int} {k : Nat} (h : l.length ≤ k) : jobsS (l.drop k) d n r = r := by rw [List.drop_of_length_le h]; rfl
theorem shipsS_end {l : List TShipment} {d n r : Int} {k : Nat} (h : l.length ≤ k) : shipsS (l.drop k) d n r = r := by rw [List.drop_of_length_le h]; rfl
end Go.Proofs.Ytemjpgmfignhnaa
