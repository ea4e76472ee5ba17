/- Contracts of the document's layer 13: how often a visit stands in a list.
Conditions: lists no longer than memory allows. -/
import Derived.Test.YtemjpgmfignhnaaM0
import Derived.Test.YtemjpgmfignhnaaM4
import Derived.RegionTactic
import Derived.BigRegion
import Derived.ChangeAlike
import Derived.Deep.CutRange
namespace Go.Proofs.Ytemjpgmfignhnaa
open Go.RowKit Go.Proofs.YtemjpgmfignhnaaW.PrintWords Go.Proofs.YtemjpgmfignhnaaW.PrintLast Go.Proofs.YtemjpgmfignhnaaW.PrintMore
set_option linter.unusedVariables false
set_option linter.unusedSimpArgs false
attribute [local go_sem] cell_growBy Option.some_or
theorem run_eqVisit (x y : TVisit) (w : World) : (binOp .eql 57 (.agg #[.int .i64 x.Kind, .int .i64 x.Item]) (.agg #[.int .i64 y.Kind, .int .i64 y.Item])).run Try.prog w = .ok (.bool (eqVisit x y)) w := by
 simp only [binOp, Sem.run_bind, Sem.run_pure]
 rw [keyVisit.eqv x y w]
 rfl
/-- How often v stands among the first k. -/
def cntS (l : List TVisit) (v : TVisit) : Nat → Nat
 | 0 => 0
 | k + 1 => cntS l v k + (if eqVisit (rdVisit l k) v then 1 else 0)
theorem cntS_le (l : List TVisit) (v : TVisit) : ∀ k, cntS l v k ≤ k
 | 0 => Nat.le_refl _
 | k + 1 => by
  have := cntS_le l v k
  unfold cntS
  split <;> omega
set_option maxHeartbeats 8000000 in
set_option maxRecDepth 100000 in
theorem count_any (l : List TVisit) (A : Option Addr) (c n : Nat) (v : TVisit) (w : World) (hr : Kd.C kVisit w A l.length l) (hn : n ≤ l.length) (hl : l.length ≤ 4611686018427387904) :
  Calls Try.prog 133 #[.slice A l.length c, .int .i64 n, .agg #[.int .i64 v.Kind, .int .i64 v.Item]] w fun e w' => e = .returned (.int .i64 (cntS l v n)) ∧ Below w.heap.size w w' := by
 have HR := Aside0.mk hr
 clear hr
 have hq := fun (x : TVisit) (w : World) => run_eqVisit x v w
 go_enter Try.func133, Try.ntmps133
 go_wp2
 go_loopw [7, 8] (fun c i wr => ∃ k : Nat, k ≤ n ∧ i = .int .i64 k ∧ c = .int .i64 (cntS l v k) ∧ Aside0 (Below (w.heap.size + 1) (w.alloc (.cells #[.int .i64 v.Kind, .int .i64 v.Item] 57)) wr)) (fun _ i _ => n - (intOf i).toNat)
 case atStart => exact ⟨0, Nat.zero_le _, rfl, rfl, ⟨Below.refl _ _⟩⟩
 case round =>
  obtain ⟨k, hk, rfl, rfl, HW⟩ := hrel
  have HW' : Aside0 (Below (w.alloc (.cells #[.int .i64 v.Kind, .int .i64 v.Item] 57)).heap.size (w.alloc (.cells #[.int .i64 v.Kind, .int .i64 v.Item] 57)) wr) := ⟨by simpa using HW.out⟩
  have HB1 : Aside0 (Below w.heap.size w wr) := ⟨below_to (below_alloc (Below.refl _ _) _) HW'.out⟩
  obtain ⟨qc, qf⟩ := bcell HW'.out
  have zr : w.heap.size < wr.heap.size := by
   have := HW'.out.size
   simp at this
   omega
  by_cases hlt : k < n
  ·obtain ⟨ad, ea, x0, x1⟩ := atNVisit (Kd.C_below HR.out HB1.out) k (by omega)
   subst ea
   have r0 : (0 : Int) ≤ (k : Int) := by omega
   have r1 : (k : Int) < (l.length : Int) := by omega
   have hq1 := hq l[k]
   have hc := cntS_le l v k
   cases he : eqVisit l[k] v
   ·have en : cntS l v (k + 1) = cntS l v k := by simp [cntS, rdVisit_nat l k (by omega), he]
    rw [he] at hq1
    clear hq
    go_wp2
    go_quiet (fail)
    go_wp2
    go_roundw
    case rel => exact ⟨k + 1, by omega, by go_num, by rw [en], ⟨pw_below_drewN HW.out _⟩⟩
    case measure => simp [intOf]; omega
   ·have en : cntS l v (k + 1) = cntS l v k + 1 := by simp [cntS, rdVisit_nat l k (by omega), he]
    rw [he] at hq1
    clear hq
    go_wp2
    go_quiet (fail)
    go_wp2
    go_roundw
    case rel => exact ⟨k + 1, by omega, by go_num, by rw [en]; go_num, ⟨pw_below_drewN HW.out _⟩⟩
    case measure => simp [intOf]; omega
  ·obtain rfl : k = n := by omega
   go_wp2
   go_ret
   exact ⟨rfl, clb⟩
end Go.Proofs.Ytemjpgmfignhnaa
/- Contract: does each task visit stand once, in its order? The document's look.
Conditions: lists no longer than memory allows. -/
namespace Go.Proofs.Ytemjpgmfignhnaa
open Go.RowKit Go.Proofs.YtemjpgmfignhnaaW.PrintWords Go.Proofs.YtemjpgmfignhnaaW.PrintLast Go.Proofs.YtemjpgmfignhnaaW.PrintMore
set_option linter.unusedVariables false
set_option linter.unusedSimpArgs false
attribute [local go_sem] cell_growBy Option.some_or
theorem all_succ {P : Nat → Prop} {k : Nat} (h : ∀ j, j < k → P j) (hk : P k) : ∀ j, j < k + 1 → P j := fun j hj => by
 rcases Nat.lt_or_ge j k with h1 | h1
 ·exact h j h1
 ·obtain rfl : j = k := by omega
  exact hk
def pairAt (p : TProblem) (l : List TVisit) (k : Nat) : Bool :=
 decide ((rdVisit l k).Kind = 4) || ((stopS p (rdVisit l k)).2 && decide (cntS l (rdVisit l k) l.length = 1) && (!decide ((rdVisit l k).Kind = 3) || decide (cntS l ⟨2, (rdVisit l k).Item⟩ k = 1)) && (!decide ((rdVisit l k).Kind = 2) || decide (cntS l ⟨3, (rdVisit l k).Item⟩ l.length = 1)))
def pairsB (p : TProblem) (l : List TVisit) : Bool := (List.range l.length).all (pairAt p l)
set_option maxHeartbeats 8000000 in
set_option maxRecDepth 100000 in
theorem refPairs_any (q : PV) (p : TProblem) (l : List TVisit) (A : Option Addr) (c : Nat) (w : World) (hlp : Lens p) (hq : q.Ok p w) (hr : Kd.C kVisit w A l.length l) (hl : l.length ≤ 4611686018427387904) :
  Calls Try.prog 123 #[q.val p, .slice A l.length c] w fun e w' => e = .returned (.bool (pairsB p l)) ∧ Below w.heap.size w w' := by
 have HR := Aside0.mk hr
 have HST := Aside0.mk (fun (v : TVisit) W (hb : Below w.heap.size w W) => refStop_any q p v W hlp (hq.below hb))
 clear hr hq
 have HBAD : Aside0 (∀ k, k < l.length → pairAt p l k = false → pairsB p l = false) := ⟨fun k hk h => by
  unfold pairsB
  rw [List.all_eq_false]
  exact ⟨k, List.mem_range.2 hk, by simp [h]⟩⟩
 have HALL : Aside0 ((∀ k, k < l.length → pairAt p l k = true) → pairsB p l = true) := ⟨fun h => by
  unfold pairsB
  rw [List.all_eq_true]
  exact fun k hk => h k (List.mem_range.1 hk)⟩
 generalize pairsB p l = r at *
 obtain ⟨a1, c1, a2, c2, a3, c3, a4, c4, a5, c5⟩ := q
 unfold PV.val at HST ⊢
 go_enter Try.func123, Try.ntmps123
 go_wp2
 go_loopw [5] (fun i wr => ∃ k : Nat, k ≤ l.length ∧ i = .int .i64 k ∧ Aside0 (∀ j, j < k → pairAt p l j = true) ∧ Aside0 (Below (w.heap.size + 1) (w.alloc (.cells #[.int .i64 p.Dims, .int .i64 p.Time.N, .slice a1 p.Time.Cells.length c1, .int .i64 p.Dist.N, .slice a2 p.Dist.Cells.length c2, .slice a3 p.Vehicles.length c3, .slice a4 p.Jobs.length c4, .slice a5 p.Shipments.length c5] 29)) wr)) (fun i _ => l.length - (intOf i).toNat)
 case atStart => exact ⟨0, Nat.zero_le _, rfl, ⟨fun j h => absurd h (Nat.not_lt_zero _)⟩, ⟨Below.refl _ _⟩⟩
 case round =>
  obtain ⟨k, hk, rfl, HJ, HW⟩ := hrel
  have HW' : Aside0 (Below (w.alloc (.cells #[.int .i64 p.Dims, .int .i64 p.Time.N, .slice a1 p.Time.Cells.length c1, .int .i64 p.Dist.N, .slice a2 p.Dist.Cells.length c2, .slice a3 p.Vehicles.length c3, .slice a4 p.Jobs.length c4, .slice a5 p.Shipments.length c5] 29)).heap.size (w.alloc (.cells #[.int .i64 p.Dims, .int .i64 p.Time.N, .slice a1 p.Time.Cells.length c1, .int .i64 p.Dist.N, .slice a2 p.Dist.Cells.length c2, .slice a3 p.Vehicles.length c3, .slice a4 p.Jobs.length c4, .slice a5 p.Shipments.length c5] 29)) wr) := ⟨by simpa using HW.out⟩
  have HB0 : Aside0 (Below w.heap.size w wr) := ⟨below_to (below_alloc (Below.refl _ _) _) HW'.out⟩
  have HB6 := HB0
  obtain ⟨qc, qf⟩ := bcell HW'.out
  have zr : w.heap.size < wr.heap.size := by
   have := HW'.out.size
   simp at this
   omega
  by_cases hlt : k < l.length
  ·obtain ⟨ad, ea, x0, x1⟩ := atNVisit (Kd.C_below HR.out HB0.out) k hlt
   subst ea
   have r0 : (0 : Int) ≤ (k : Int) := by omega
   have r1 : (k : Int) < (l.length : Int) := by omega
   have hc1 := cntS_le l l[k] l.length
   by_cases k4 : l[k].Kind = 4
   ·have d4 : (l[k].Kind == 4) = true := by simp [k4]
    have HN := Aside0.mk (show pairAt p l k = true by simp [pairAt, rdVisit_nat l k hlt, *])
    clear HBAD k4
    go_wp2_with (first
     | (go_at_call 37; refine (HST.out l[k] _ clb).mono ?_; rw [HS2.out]; rintro e w1 ⟨A1, k1, rfl, hle1, hC1, hb⟩; clear hle1 hC1; have HB1 := Aside0.mk hb; obtain ⟨qc1, qf1⟩ := bcell hb; have hs1 := hb.size; (try simp at hs1); (try have z01 : w.heap.size < w1.heap.size := (by omega)); (try have z11 : w.heap.size + 1 < w1.heap.size := (by omega)); (try have z21 : w.heap.size + 1 + 1 < w1.heap.size := (by omega)); (try have z31 : w.heap.size + 1 + 1 + 1 < w1.heap.size := (by omega)); (try have z41 : w.heap.size + 1 + 1 + 1 + 1 < w1.heap.size := (by omega)); clear hs1 hb; have y1_ : wr.heap.size < w1.heap.size := (by have := HB1.out.size; (try simp at this); omega))
     | (go_at_call 133; with_reducible refine (count_any l _ c l.length l[k] _ (Kd.C_below HR.out clb) (Nat.le_refl _) hl).mono ?_; rintro e w2 ⟨rfl, hb⟩; have HB2 := Aside0.mk hb; obtain ⟨qc2, qf2⟩ := bcell hb; have hs2 := hb.size; (try simp at hs2); (try have z02 : w.heap.size < w2.heap.size := (by omega)); (try have z12 : w.heap.size + 1 < w2.heap.size := (by omega)); (try have z22 : w.heap.size + 1 + 1 < w2.heap.size := (by omega)); (try have z32 : w.heap.size + 1 + 1 + 1 < w2.heap.size := (by omega)); (try have z42 : w.heap.size + 1 + 1 + 1 + 1 < w2.heap.size := (by omega)); clear hs2 hb; have y2_ : wr.heap.size < w2.heap.size := (by have := HB2.out.size; (try simp at this); omega))
     | (go_at_call 133; with_reducible refine (count_any l _ c k ⟨2, l[k].Item⟩ _ (Kd.C_below HR.out clb) (by omega) hl).mono ?_; rintro e w3 ⟨rfl, hb⟩; have HB3 := Aside0.mk hb; obtain ⟨qc3, qf3⟩ := bcell hb; have hs3 := hb.size; (try simp at hs3); (try have z03 : w.heap.size < w3.heap.size := (by omega)); (try have z13 : w.heap.size + 1 < w3.heap.size := (by omega)); (try have z23 : w.heap.size + 1 + 1 < w3.heap.size := (by omega)); (try have z33 : w.heap.size + 1 + 1 + 1 < w3.heap.size := (by omega)); (try have z43 : w.heap.size + 1 + 1 + 1 + 1 < w3.heap.size := (by omega)); clear hs3 hb; have y3_ : wr.heap.size < w3.heap.size := (by have := HB3.out.size; (try simp at this); omega))
     | (go_at_call 133; with_reducible refine (count_any l _ c l.length ⟨3, l[k].Item⟩ _ (Kd.C_below HR.out clb) (Nat.le_refl _) hl).mono ?_; rintro e w3 ⟨rfl, hb⟩; have HB3 := Aside0.mk hb; obtain ⟨qc3, qf3⟩ := bcell hb; have hs3 := hb.size; (try simp at hs3); (try have z03 : w.heap.size < w3.heap.size := (by omega)); (try have z13 : w.heap.size + 1 < w3.heap.size := (by omega)); (try have z23 : w.heap.size + 1 + 1 < w3.heap.size := (by omega)); (try have z33 : w.heap.size + 1 + 1 + 1 < w3.heap.size := (by omega)); (try have z43 : w.heap.size + 1 + 1 + 1 + 1 < w3.heap.size := (by omega)); clear hs3 hb; have y3_ : wr.heap.size < w3.heap.size := (by have := HB3.out.size; (try simp at this); omega)))
    go_roundw
    case rel => exact ⟨k + 1, by omega, by go_num, ⟨all_succ HJ.out HN.out⟩, ⟨by simpa using below_to HW'.out (show Below wr.heap.size wr _ from (by repeat (first | exact Below.refl _ _ | apply below_alloc | apply pw_below_drewN | apply below_drew1 | apply below_drew | (refine below_to ?_ HB3.out) | (refine below_to ?_ HB2.out) | (refine below_to ?_ HB1.out))))⟩⟩
    case measure => simp [intOf]; omega
   have d4 : (l[k].Kind == 4) = false := by simp [k4]
   cases hs2 : (stopS p l[k]).2
   ·have HS2 := Aside0.mk (show stopS p l[k] = ((stopS p l[k]).1, false) by rw [← hs2])
    have er : r = false := HBAD.out k hlt (by simp [pairAt, rdVisit_nat l k hlt, *])
    subst er
    clear HBAD k4 hs2
    go_wp2_with (first
     | (go_at_call 37; refine (HST.out l[k] _ clb).mono ?_; rw [HS2.out]; rintro e w1 ⟨A1, k1, rfl, hle1, hC1, hb⟩; clear hle1 hC1; have HB1 := Aside0.mk hb; obtain ⟨qc1, qf1⟩ := bcell hb; have hs1 := hb.size; (try simp at hs1); (try have z01 : w.heap.size < w1.heap.size := (by omega)); (try have z11 : w.heap.size + 1 < w1.heap.size := (by omega)); (try have z21 : w.heap.size + 1 + 1 < w1.heap.size := (by omega)); (try have z31 : w.heap.size + 1 + 1 + 1 < w1.heap.size := (by omega)); (try have z41 : w.heap.size + 1 + 1 + 1 + 1 < w1.heap.size := (by omega)); clear hs1 hb; have y1_ : wr.heap.size < w1.heap.size := (by have := HB1.out.size; (try simp at this); omega))
     | (go_at_call 133; with_reducible refine (count_any l _ c l.length l[k] _ (Kd.C_below HR.out clb) (Nat.le_refl _) hl).mono ?_; rintro e w2 ⟨rfl, hb⟩; have HB2 := Aside0.mk hb; obtain ⟨qc2, qf2⟩ := bcell hb; have hs2 := hb.size; (try simp at hs2); (try have z02 : w.heap.size < w2.heap.size := (by omega)); (try have z12 : w.heap.size + 1 < w2.heap.size := (by omega)); (try have z22 : w.heap.size + 1 + 1 < w2.heap.size := (by omega)); (try have z32 : w.heap.size + 1 + 1 + 1 < w2.heap.size := (by omega)); (try have z42 : w.heap.size + 1 + 1 + 1 + 1 < w2.heap.size := (by omega)); clear hs2 hb; have y2_ : wr.heap.size < w2.heap.size := (by have := HB2.out.size; (try simp at this); omega))
     | (go_at_call 133; with_reducible refine (count_any l _ c k ⟨2, l[k].Item⟩ _ (Kd.C_below HR.out clb) (by omega) hl).mono ?_; rintro e w3 ⟨rfl, hb⟩; have HB3 := Aside0.mk hb; obtain ⟨qc3, qf3⟩ := bcell hb; have hs3 := hb.size; (try simp at hs3); (try have z03 : w.heap.size < w3.heap.size := (by omega)); (try have z13 : w.heap.size + 1 < w3.heap.size := (by omega)); (try have z23 : w.heap.size + 1 + 1 < w3.heap.size := (by omega)); (try have z33 : w.heap.size + 1 + 1 + 1 < w3.heap.size := (by omega)); (try have z43 : w.heap.size + 1 + 1 + 1 + 1 < w3.heap.size := (by omega)); clear hs3 hb; have y3_ : wr.heap.size < w3.heap.size := (by have := HB3.out.size; (try simp at this); omega))
     | (go_at_call 133; with_reducible refine (count_any l _ c l.length ⟨3, l[k].Item⟩ _ (Kd.C_below HR.out clb) (Nat.le_refl _) hl).mono ?_; rintro e w3 ⟨rfl, hb⟩; have HB3 := Aside0.mk hb; obtain ⟨qc3, qf3⟩ := bcell hb; have hs3 := hb.size; (try simp at hs3); (try have z03 : w.heap.size < w3.heap.size := (by omega)); (try have z13 : w.heap.size + 1 < w3.heap.size := (by omega)); (try have z23 : w.heap.size + 1 + 1 < w3.heap.size := (by omega)); (try have z33 : w.heap.size + 1 + 1 + 1 < w3.heap.size := (by omega)); (try have z43 : w.heap.size + 1 + 1 + 1 + 1 < w3.heap.size := (by omega)); clear hs3 hb; have y3_ : wr.heap.size < w3.heap.size := (by have := HB3.out.size; (try simp at this); omega)))
    go_ret
    exact ⟨rfl, clb⟩
   have HS2 := Aside0.mk (show stopS p l[k] = ((stopS p l[k]).1, true) by rw [← hs2])
   by_cases t1 : cntS l l[k] l.length = 1
   rotate_left
   ·have d1 : ((cntS l l[k] l.length : Int) != 1) = true := by simp; omega
    have er : r = false := HBAD.out k hlt (by simp [pairAt, rdVisit_nat l k hlt, *])
    subst er
    clear HBAD k4 hs2 t1
    go_wp2_with (first
     | (go_at_call 37; refine (HST.out l[k] _ clb).mono ?_; rw [HS2.out]; rintro e w1 ⟨A1, k1, rfl, hle1, hC1, hb⟩; clear hle1 hC1; have HB1 := Aside0.mk hb; obtain ⟨qc1, qf1⟩ := bcell hb; have hs1 := hb.size; (try simp at hs1); (try have z01 : w.heap.size < w1.heap.size := (by omega)); (try have z11 : w.heap.size + 1 < w1.heap.size := (by omega)); (try have z21 : w.heap.size + 1 + 1 < w1.heap.size := (by omega)); (try have z31 : w.heap.size + 1 + 1 + 1 < w1.heap.size := (by omega)); (try have z41 : w.heap.size + 1 + 1 + 1 + 1 < w1.heap.size := (by omega)); clear hs1 hb; have y1_ : wr.heap.size < w1.heap.size := (by have := HB1.out.size; (try simp at this); omega))
     | (go_at_call 133; with_reducible refine (count_any l _ c l.length l[k] _ (Kd.C_below HR.out clb) (Nat.le_refl _) hl).mono ?_; rintro e w2 ⟨rfl, hb⟩; have HB2 := Aside0.mk hb; obtain ⟨qc2, qf2⟩ := bcell hb; have hs2 := hb.size; (try simp at hs2); (try have z02 : w.heap.size < w2.heap.size := (by omega)); (try have z12 : w.heap.size + 1 < w2.heap.size := (by omega)); (try have z22 : w.heap.size + 1 + 1 < w2.heap.size := (by omega)); (try have z32 : w.heap.size + 1 + 1 + 1 < w2.heap.size := (by omega)); (try have z42 : w.heap.size + 1 + 1 + 1 + 1 < w2.heap.size := (by omega)); clear hs2 hb; have y2_ : wr.heap.size < w2.heap.size := (by have := HB2.out.size; (try simp at this); omega))
     | (go_at_call 133; with_reducible refine (count_any l _ c k ⟨2, l[k].Item⟩ _ (Kd.C_below HR.out clb) (by omega) hl).mono ?_; rintro e w3 ⟨rfl, hb⟩; have HB3 := Aside0.mk hb; obtain ⟨qc3, qf3⟩ := bcell hb; have hs3 := hb.size; (try simp at hs3); (try have z03 : w.heap.size < w3.heap.size := (by omega)); (try have z13 : w.heap.size + 1 < w3.heap.size := (by omega)); (try have z23 : w.heap.size + 1 + 1 < w3.heap.size := (by omega)); (try have z33 : w.heap.size + 1 + 1 + 1 < w3.heap.size := (by omega)); (try have z43 : w.heap.size + 1 + 1 + 1 + 1 < w3.heap.size := (by omega)); clear hs3 hb; have y3_ : wr.heap.size < w3.heap.size := (by have := HB3.out.size; (try simp at this); omega))
     | (go_at_call 133; with_reducible refine (count_any l _ c l.length ⟨3, l[k].Item⟩ _ (Kd.C_below HR.out clb) (Nat.le_refl _) hl).mono ?_; rintro e w3 ⟨rfl, hb⟩; have HB3 := Aside0.mk hb; obtain ⟨qc3, qf3⟩ := bcell hb; have hs3 := hb.size; (try simp at hs3); (try have z03 : w.heap.size < w3.heap.size := (by omega)); (try have z13 : w.heap.size + 1 < w3.heap.size := (by omega)); (try have z23 : w.heap.size + 1 + 1 < w3.heap.size := (by omega)); (try have z33 : w.heap.size + 1 + 1 + 1 < w3.heap.size := (by omega)); (try have z43 : w.heap.size + 1 + 1 + 1 + 1 < w3.heap.size := (by omega)); clear hs3 hb; have y3_ : wr.heap.size < w3.heap.size := (by have := HB3.out.size; (try simp at this); omega)))
    go_ret
    exact ⟨rfl, clb⟩
   have d1 : ((cntS l l[k] l.length : Int) != 1) = false := by simp; omega
   by_cases k3 : l[k].Kind = 3
   ·have d3 : (l[k].Kind == 3) = true := by simp [k3]
    have d2 : (l[k].Kind == 2) = false := by simp [k3]
    have k2 : ¬ l[k].Kind = 2 := by omega
    by_cases t2 : cntS l ⟨2, l[k].Item⟩ k = 1
    ·have e1 : ((cntS l ⟨2, l[k].Item⟩ k : Int) != 1) = false := by simp; omega
     have HN := Aside0.mk (show pairAt p l k = true by simp [pairAt, rdVisit_nat l k hlt, *])
     clear HBAD k4 hs2 t1 t2 k3 k2
     go_wp2_with (first
      | (go_at_call 37; refine (HST.out l[k] _ clb).mono ?_; rw [HS2.out]; rintro e w1 ⟨A1, k1, rfl, hle1, hC1, hb⟩; clear hle1 hC1; have HB1 := Aside0.mk hb; obtain ⟨qc1, qf1⟩ := bcell hb; have hs1 := hb.size; (try simp at hs1); (try have z01 : w.heap.size < w1.heap.size := (by omega)); (try have z11 : w.heap.size + 1 < w1.heap.size := (by omega)); (try have z21 : w.heap.size + 1 + 1 < w1.heap.size := (by omega)); (try have z31 : w.heap.size + 1 + 1 + 1 < w1.heap.size := (by omega)); (try have z41 : w.heap.size + 1 + 1 + 1 + 1 < w1.heap.size := (by omega)); clear hs1 hb; have y1_ : wr.heap.size < w1.heap.size := (by have := HB1.out.size; (try simp at this); omega))
      | (go_at_call 133; with_reducible refine (count_any l _ c l.length l[k] _ (Kd.C_below HR.out clb) (Nat.le_refl _) hl).mono ?_; rintro e w2 ⟨rfl, hb⟩; have HB2 := Aside0.mk hb; obtain ⟨qc2, qf2⟩ := bcell hb; have hs2 := hb.size; (try simp at hs2); (try have z02 : w.heap.size < w2.heap.size := (by omega)); (try have z12 : w.heap.size + 1 < w2.heap.size := (by omega)); (try have z22 : w.heap.size + 1 + 1 < w2.heap.size := (by omega)); (try have z32 : w.heap.size + 1 + 1 + 1 < w2.heap.size := (by omega)); (try have z42 : w.heap.size + 1 + 1 + 1 + 1 < w2.heap.size := (by omega)); clear hs2 hb; have y2_ : wr.heap.size < w2.heap.size := (by have := HB2.out.size; (try simp at this); omega))
      | (go_at_call 133; with_reducible refine (count_any l _ c k ⟨2, l[k].Item⟩ _ (Kd.C_below HR.out clb) (by omega) hl).mono ?_; rintro e w3 ⟨rfl, hb⟩; have HB3 := Aside0.mk hb; obtain ⟨qc3, qf3⟩ := bcell hb; have hs3 := hb.size; (try simp at hs3); (try have z03 : w.heap.size < w3.heap.size := (by omega)); (try have z13 : w.heap.size + 1 < w3.heap.size := (by omega)); (try have z23 : w.heap.size + 1 + 1 < w3.heap.size := (by omega)); (try have z33 : w.heap.size + 1 + 1 + 1 < w3.heap.size := (by omega)); (try have z43 : w.heap.size + 1 + 1 + 1 + 1 < w3.heap.size := (by omega)); clear hs3 hb; have y3_ : wr.heap.size < w3.heap.size := (by have := HB3.out.size; (try simp at this); omega))
      | (go_at_call 133; with_reducible refine (count_any l _ c l.length ⟨3, l[k].Item⟩ _ (Kd.C_below HR.out clb) (Nat.le_refl _) hl).mono ?_; rintro e w3 ⟨rfl, hb⟩; have HB3 := Aside0.mk hb; obtain ⟨qc3, qf3⟩ := bcell hb; have hs3 := hb.size; (try simp at hs3); (try have z03 : w.heap.size < w3.heap.size := (by omega)); (try have z13 : w.heap.size + 1 < w3.heap.size := (by omega)); (try have z23 : w.heap.size + 1 + 1 < w3.heap.size := (by omega)); (try have z33 : w.heap.size + 1 + 1 + 1 < w3.heap.size := (by omega)); (try have z43 : w.heap.size + 1 + 1 + 1 + 1 < w3.heap.size := (by omega)); clear hs3 hb; have y3_ : wr.heap.size < w3.heap.size := (by have := HB3.out.size; (try simp at this); omega)))
     go_roundw
     case rel => exact ⟨k + 1, by omega, by go_num, ⟨all_succ HJ.out HN.out⟩, ⟨by simpa using below_to HW'.out (show Below wr.heap.size wr _ from (by repeat (first | exact Below.refl _ _ | apply below_alloc | apply pw_below_drewN | apply below_drew1 | apply below_drew | (refine below_to ?_ HB3.out) | (refine below_to ?_ HB2.out) | (refine below_to ?_ HB1.out))))⟩⟩
     case measure => simp [intOf]; omega
    ·have e1 : ((cntS l ⟨2, l[k].Item⟩ k : Int) != 1) = true := by simp; omega
     have er : r = false := HBAD.out k hlt (by simp [pairAt, rdVisit_nat l k hlt, *])
     subst er
     clear HBAD k4 hs2 t1 t2 k3 k2
     go_wp2_with (first
      | (go_at_call 37; refine (HST.out l[k] _ clb).mono ?_; rw [HS2.out]; rintro e w1 ⟨A1, k1, rfl, hle1, hC1, hb⟩; clear hle1 hC1; have HB1 := Aside0.mk hb; obtain ⟨qc1, qf1⟩ := bcell hb; have hs1 := hb.size; (try simp at hs1); (try have z01 : w.heap.size < w1.heap.size := (by omega)); (try have z11 : w.heap.size + 1 < w1.heap.size := (by omega)); (try have z21 : w.heap.size + 1 + 1 < w1.heap.size := (by omega)); (try have z31 : w.heap.size + 1 + 1 + 1 < w1.heap.size := (by omega)); (try have z41 : w.heap.size + 1 + 1 + 1 + 1 < w1.heap.size := (by omega)); clear hs1 hb; have y1_ : wr.heap.size < w1.heap.size := (by have := HB1.out.size; (try simp at this); omega))
      | (go_at_call 133; with_reducible refine (count_any l _ c l.length l[k] _ (Kd.C_below HR.out clb) (Nat.le_refl _) hl).mono ?_; rintro e w2 ⟨rfl, hb⟩; have HB2 := Aside0.mk hb; obtain ⟨qc2, qf2⟩ := bcell hb; have hs2 := hb.size; (try simp at hs2); (try have z02 : w.heap.size < w2.heap.size := (by omega)); (try have z12 : w.heap.size + 1 < w2.heap.size := (by omega)); (try have z22 : w.heap.size + 1 + 1 < w2.heap.size := (by omega)); (try have z32 : w.heap.size + 1 + 1 + 1 < w2.heap.size := (by omega)); (try have z42 : w.heap.size + 1 + 1 + 1 + 1 < w2.heap.size := (by omega)); clear hs2 hb; have y2_ : wr.heap.size < w2.heap.size := (by have := HB2.out.size; (try simp at this); omega))
      | (go_at_call 133; with_reducible refine (count_any l _ c k ⟨2, l[k].Item⟩ _ (Kd.C_below HR.out clb) (by omega) hl).mono ?_; rintro e w3 ⟨rfl, hb⟩; have HB3 := Aside0.mk hb; obtain ⟨qc3, qf3⟩ := bcell hb; have hs3 := hb.size; (try simp at hs3); (try have z03 : w.heap.size < w3.heap.size := (by omega)); (try have z13 : w.heap.size + 1 < w3.heap.size := (by omega)); (try have z23 : w.heap.size + 1 + 1 < w3.heap.size := (by omega)); (try have z33 : w.heap.size + 1 + 1 + 1 < w3.heap.size := (by omega)); (try have z43 : w.heap.size + 1 + 1 + 1 + 1 < w3.heap.size := (by omega)); clear hs3 hb; have y3_ : wr.heap.size < w3.heap.size := (by have := HB3.out.size; (try simp at this); omega))
      | (go_at_call 133; with_reducible refine (count_any l _ c l.length ⟨3, l[k].Item⟩ _ (Kd.C_below HR.out clb) (Nat.le_refl _) hl).mono ?_; rintro e w3 ⟨rfl, hb⟩; have HB3 := Aside0.mk hb; obtain ⟨qc3, qf3⟩ := bcell hb; have hs3 := hb.size; (try simp at hs3); (try have z03 : w.heap.size < w3.heap.size := (by omega)); (try have z13 : w.heap.size + 1 < w3.heap.size := (by omega)); (try have z23 : w.heap.size + 1 + 1 < w3.heap.size := (by omega)); (try have z33 : w.heap.size + 1 + 1 + 1 < w3.heap.size := (by omega)); (try have z43 : w.heap.size + 1 + 1 + 1 + 1 < w3.heap.size := (by omega)); clear hs3 hb; have y3_ : wr.heap.size < w3.heap.size := (by have := HB3.out.size; (try simp at this); omega)))
     go_ret
     exact ⟨rfl, clb⟩
   have d3 : (l[k].Kind == 3) = false := by simp [k3]
   by_cases k2 : l[k].Kind = 2
   ·have d2 : (l[k].Kind == 2) = true := by simp [k2]
    by_cases t2 : cntS l ⟨3, l[k].Item⟩ l.length = 1
    ·have e1 : ((cntS l ⟨3, l[k].Item⟩ l.length : Int) != 1) = false := by simp; omega
     have HN := Aside0.mk (show pairAt p l k = true by simp [pairAt, rdVisit_nat l k hlt, *])
     clear HBAD k4 hs2 t1 t2 k3 k2
     go_wp2_with (first
      | (go_at_call 37; refine (HST.out l[k] _ clb).mono ?_; rw [HS2.out]; rintro e w1 ⟨A1, k1, rfl, hle1, hC1, hb⟩; clear hle1 hC1; have HB1 := Aside0.mk hb; obtain ⟨qc1, qf1⟩ := bcell hb; have hs1 := hb.size; (try simp at hs1); (try have z01 : w.heap.size < w1.heap.size := (by omega)); (try have z11 : w.heap.size + 1 < w1.heap.size := (by omega)); (try have z21 : w.heap.size + 1 + 1 < w1.heap.size := (by omega)); (try have z31 : w.heap.size + 1 + 1 + 1 < w1.heap.size := (by omega)); (try have z41 : w.heap.size + 1 + 1 + 1 + 1 < w1.heap.size := (by omega)); clear hs1 hb; have y1_ : wr.heap.size < w1.heap.size := (by have := HB1.out.size; (try simp at this); omega))
      | (go_at_call 133; with_reducible refine (count_any l _ c l.length l[k] _ (Kd.C_below HR.out clb) (Nat.le_refl _) hl).mono ?_; rintro e w2 ⟨rfl, hb⟩; have HB2 := Aside0.mk hb; obtain ⟨qc2, qf2⟩ := bcell hb; have hs2 := hb.size; (try simp at hs2); (try have z02 : w.heap.size < w2.heap.size := (by omega)); (try have z12 : w.heap.size + 1 < w2.heap.size := (by omega)); (try have z22 : w.heap.size + 1 + 1 < w2.heap.size := (by omega)); (try have z32 : w.heap.size + 1 + 1 + 1 < w2.heap.size := (by omega)); (try have z42 : w.heap.size + 1 + 1 + 1 + 1 < w2.heap.size := (by omega)); clear hs2 hb; have y2_ : wr.heap.size < w2.heap.size := (by have := HB2.out.size; (try simp at this); omega))
      | (go_at_call 133; with_reducible refine (count_any l _ c k ⟨2, l[k].Item⟩ _ (Kd.C_below HR.out clb) (by omega) hl).mono ?_; rintro e w3 ⟨rfl, hb⟩; have HB3 := Aside0.mk hb; obtain ⟨qc3, qf3⟩ := bcell hb; have hs3 := hb.size; (try simp at hs3); (try have z03 : w.heap.size < w3.heap.size := (by omega)); (try have z13 : w.heap.size + 1 < w3.heap.size := (by omega)); (try have z23 : w.heap.size + 1 + 1 < w3.heap.size := (by omega)); (try have z33 : w.heap.size + 1 + 1 + 1 < w3.heap.size := (by omega)); (try have z43 : w.heap.size + 1 + 1 + 1 + 1 < w3.heap.size := (by omega)); clear hs3 hb; have y3_ : wr.heap.size < w3.heap.size := (by have := HB3.out.size; (try simp at this); omega))
      | (go_at_call 133; with_reducible refine (count_any l _ c l.length ⟨3, l[k].Item⟩ _ (Kd.C_below HR.out clb) (Nat.le_refl _) hl).mono ?_; rintro e w3 ⟨rfl, hb⟩; have HB3 := Aside0.mk hb; obtain ⟨qc3, qf3⟩ := bcell hb; have hs3 := hb.size; (try simp at hs3); (try have z03 : w.heap.size < w3.heap.size := (by omega)); (try have z13 : w.heap.size + 1 < w3.heap.size := (by omega)); (try have z23 : w.heap.size + 1 + 1 < w3.heap.size := (by omega)); (try have z33 : w.heap.size + 1 + 1 + 1 < w3.heap.size := (by omega)); (try have z43 : w.heap.size + 1 + 1 + 1 + 1 < w3.heap.size := (by omega)); clear hs3 hb; have y3_ : wr.heap.size < w3.heap.size := (by have := HB3.out.size; (try simp at this); omega)))
     go_roundw
     case rel => exact ⟨k + 1, by omega, by go_num, ⟨all_succ HJ.out HN.out⟩, ⟨by simpa using below_to HW'.out (show Below wr.heap.size wr _ from (by repeat (first | exact Below.refl _ _ | apply below_alloc | apply pw_below_drewN | apply below_drew1 | apply below_drew | (refine below_to ?_ HB3.out) | (refine below_to ?_ HB2.out) | (refine below_to ?_ HB1.out))))⟩⟩
     case measure => simp [intOf]; omega
    ·have e1 : ((cntS l ⟨3, l[k].Item⟩ l.length : Int) != 1) = true := by simp; omega
     have er : r = false := HBAD.out k hlt (by simp [pairAt, rdVisit_nat l k hlt, *])
     subst er
     clear HBAD k4 hs2 t1 t2 k3 k2
     go_wp2_with (first
      | (go_at_call 37; refine (HST.out l[k] _ clb).mono ?_; rw [HS2.out]; rintro e w1 ⟨A1, k1, rfl, hle1, hC1, hb⟩; clear hle1 hC1; have HB1 := Aside0.mk hb; obtain ⟨qc1, qf1⟩ := bcell hb; have hs1 := hb.size; (try simp at hs1); (try have z01 : w.heap.size < w1.heap.size := (by omega)); (try have z11 : w.heap.size + 1 < w1.heap.size := (by omega)); (try have z21 : w.heap.size + 1 + 1 < w1.heap.size := (by omega)); (try have z31 : w.heap.size + 1 + 1 + 1 < w1.heap.size := (by omega)); (try have z41 : w.heap.size + 1 + 1 + 1 + 1 < w1.heap.size := (by omega)); clear hs1 hb; have y1_ : wr.heap.size < w1.heap.size := (by have := HB1.out.size; (try simp at this); omega))
      | (go_at_call 133; with_reducible refine (count_any l _ c l.length l[k] _ (Kd.C_below HR.out clb) (Nat.le_refl _) hl).mono ?_; rintro e w2 ⟨rfl, hb⟩; have HB2 := Aside0.mk hb; obtain ⟨qc2, qf2⟩ := bcell hb; have hs2 := hb.size; (try simp at hs2); (try have z02 : w.heap.size < w2.heap.size := (by omega)); (try have z12 : w.heap.size + 1 < w2.heap.size := (by omega)); (try have z22 : w.heap.size + 1 + 1 < w2.heap.size := (by omega)); (try have z32 : w.heap.size + 1 + 1 + 1 < w2.heap.size := (by omega)); (try have z42 : w.heap.size + 1 + 1 + 1 + 1 < w2.heap.size := (by omega)); clear hs2 hb; have y2_ : wr.heap.size < w2.heap.size := (by have := HB2.out.size; (try simp at this); omega))
      | (go_at_call 133; with_reducible refine (count_any l _ c k ⟨2, l[k].Item⟩ _ (Kd.C_below HR.out clb) (by omega) hl).mono ?_; rintro e w3 ⟨rfl, hb⟩; have HB3 := Aside0.mk hb; obtain ⟨qc3, qf3⟩ := bcell hb; have hs3 := hb.size; (try simp at hs3); (try have z03 : w.heap.size < w3.heap.size := (by omega)); (try have z13 : w.heap.size + 1 < w3.heap.size := (by omega)); (try have z23 : w.heap.size + 1 + 1 < w3.heap.size := (by omega)); (try have z33 : w.heap.size + 1 + 1 + 1 < w3.heap.size := (by omega)); (try have z43 : w.heap.size + 1 + 1 + 1 + 1 < w3.heap.size := (by omega)); clear hs3 hb; have y3_ : wr.heap.size < w3.heap.size := (by have := HB3.out.size; (try simp at this); omega))
      | (go_at_call 133; with_reducible refine (count_any l _ c l.length ⟨3, l[k].Item⟩ _ (Kd.C_below HR.out clb) (Nat.le_refl _) hl).mono ?_; rintro e w3 ⟨rfl, hb⟩; have HB3 := Aside0.mk hb; obtain ⟨qc3, qf3⟩ := bcell hb; have hs3 := hb.size; (try simp at hs3); (try have z03 : w.heap.size < w3.heap.size := (by omega)); (try have z13 : w.heap.size + 1 < w3.heap.size := (by omega)); (try have z23 : w.heap.size + 1 + 1 < w3.heap.size := (by omega)); (try have z33 : w.heap.size + 1 + 1 + 1 < w3.heap.size := (by omega)); (try have z43 : w.heap.size + 1 + 1 + 1 + 1 < w3.heap.size := (by omega)); clear hs3 hb; have y3_ : wr.heap.size < w3.heap.size := (by have := HB3.out.size; (try simp at this); omega)))
     go_ret
     exact ⟨rfl, clb⟩
   have d2 : (l[k].Kind == 2) = false := by simp [k2]
   have HN := Aside0.mk (show pairAt p l k = true by simp [pairAt, rdVisit_nat l k hlt, *])
   clear HBAD k4 hs2 t1 k3 k2
   go_wp2_with (first
    | (go_at_call 37; refine (HST.out l[k] _ clb).mono ?_; rw [HS2.out]; rintro e w1 ⟨A1, k1, rfl, hle1, hC1, hb⟩; clear hle1 hC1; have HB1 := Aside0.mk hb; obtain ⟨qc1, qf1⟩ := bcell hb; have hs1 := hb.size; (try simp at hs1); (try have z01 : w.heap.size < w1.heap.size := (by omega)); (try have z11 : w.heap.size + 1 < w1.heap.size := (by omega)); (try have z21 : w.heap.size + 1 + 1 < w1.heap.size := (by omega)); (try have z31 : w.heap.size + 1 + 1 + 1 < w1.heap.size := (by omega)); (try have z41 : w.heap.size + 1 + 1 + 1 + 1 < w1.heap.size := (by omega)); clear hs1 hb; have y1_ : wr.heap.size < w1.heap.size := (by have := HB1.out.size; (try simp at this); omega))
    | (go_at_call 133; with_reducible refine (count_any l _ c l.length l[k] _ (Kd.C_below HR.out clb) (Nat.le_refl _) hl).mono ?_; rintro e w2 ⟨rfl, hb⟩; have HB2 := Aside0.mk hb; obtain ⟨qc2, qf2⟩ := bcell hb; have hs2 := hb.size; (try simp at hs2); (try have z02 : w.heap.size < w2.heap.size := (by omega)); (try have z12 : w.heap.size + 1 < w2.heap.size := (by omega)); (try have z22 : w.heap.size + 1 + 1 < w2.heap.size := (by omega)); (try have z32 : w.heap.size + 1 + 1 + 1 < w2.heap.size := (by omega)); (try have z42 : w.heap.size + 1 + 1 + 1 + 1 < w2.heap.size := (by omega)); clear hs2 hb; have y2_ : wr.heap.size < w2.heap.size := (by have := HB2.out.size; (try simp at this); omega))
    | (go_at_call 133; with_reducible refine (count_any l _ c k ⟨2, l[k].Item⟩ _ (Kd.C_below HR.out clb) (by omega) hl).mono ?_; rintro e w3 ⟨rfl, hb⟩; have HB3 := Aside0.mk hb; obtain ⟨qc3, qf3⟩ := bcell hb; have hs3 := hb.size; (try simp at hs3); (try have z03 : w.heap.size < w3.heap.size := (by omega)); (try have z13 : w.heap.size + 1 < w3.heap.size := (by omega)); (try have z23 : w.heap.size + 1 + 1 < w3.heap.size := (by omega)); (try have z33 : w.heap.size + 1 + 1 + 1 < w3.heap.size := (by omega)); (try have z43 : w.heap.size + 1 + 1 + 1 + 1 < w3.heap.size := (by omega)); clear hs3 hb; have y3_ : wr.heap.size < w3.heap.size := (by have := HB3.out.size; (try simp at this); omega))
    | (go_at_call 133; with_reducible refine (count_any l _ c l.length ⟨3, l[k].Item⟩ _ (Kd.C_below HR.out clb) (Nat.le_refl _) hl).mono ?_; rintro e w3 ⟨rfl, hb⟩; have HB3 := Aside0.mk hb; obtain ⟨qc3, qf3⟩ := bcell hb; have hs3 := hb.size; (try simp at hs3); (try have z03 : w.heap.size < w3.heap.size := (by omega)); (try have z13 : w.heap.size + 1 < w3.heap.size := (by omega)); (try have z23 : w.heap.size + 1 + 1 < w3.heap.size := (by omega)); (try have z33 : w.heap.size + 1 + 1 + 1 < w3.heap.size := (by omega)); (try have z43 : w.heap.size + 1 + 1 + 1 + 1 < w3.heap.size := (by omega)); clear hs3 hb; have y3_ : wr.heap.size < w3.heap.size := (by have := HB3.out.size; (try simp at this); omega)))
   go_roundw
   case rel => exact ⟨k + 1, by omega, by go_num, ⟨all_succ HJ.out HN.out⟩, ⟨by simpa using below_to HW'.out (show Below wr.heap.size wr _ from (by repeat (first | exact Below.refl _ _ | apply below_alloc | apply pw_below_drewN | apply below_drew1 | apply below_drew | (refine below_to ?_ HB3.out) | (refine below_to ?_ HB2.out) | (refine below_to ?_ HB1.out))))⟩⟩
   case measure => simp [intOf]; omega
  ·obtain rfl : k = l.length := by omega
   have er := HALL.out HJ.out
   subst er
   go_wp2
   go_ret
   exact ⟨rfl, HB0.out⟩
end Go.Proofs.Ytemjpgmfignhnaa

/- What is aboard, in plain words: each visit's part, and the sums.
Conditions: none. -/
namespace Go.Proofs.Ytemjpgmfignhnaa
open Go.RowKit Go.Proofs.YtemjpgmfignhnaaW.PrintWords Go.Proofs.YtemjpgmfignhnaaW.PrintLast Go.Proofs.YtemjpgmfignhnaaW.PrintMore
set_option linter.unusedVariables false
set_option linter.unusedSimpArgs false
def sumS (f : Nat → Int) : Nat → Int
 | 0 => 0
 | n + 1 => sumS f n + f n
/-- What the i-th visit brings behind k visits, in place d. -/
def contribS (p : TProblem) (l : List TVisit) (k i d : Nat) : Int :=
 if (stopS p (rdVisit l i)).2 = true then
  (if (rdVisit l i).Kind = 1 then (if k ≤ i then rd (rdJob p.Jobs (rdVisit l i).Item).Drop d else rd (rdJob p.Jobs (rdVisit l i).Item).Pick d)
  else if i < k then (if (rdVisit l i).Kind = 2 then rd (rdShipment p.Shipments (rdVisit l i).Item).Amount d else - rd (rdShipment p.Shipments (rdVisit l i).Item).Amount d)
  else 0)
 else 0
/-- Behind i visits, and of the next one in the first dd places. -/
def nowAt (p : TProblem) (l : List TVisit) (k i dd : Nat) : List Int := (List.range p.Dims.toNat).map fun d => sumS (fun j => contribS p l k j d) (if d < dd then i + 1 else i)
def nowS (p : TProblem) (l : List TVisit) (k : Nat) : List Int := nowAt p l k l.length 0
def loadsS (p : TProblem) (l : List TVisit) : List (List Int) := (List.range (l.length + 1)).map (nowS p l)
theorem nowAt_length (p : TProblem) (l : List TVisit) (k i dd : Nat) : (nowAt p l k i dd).length = p.Dims.toNat := by simp [nowAt]
theorem nowAt_zero (p : TProblem) (l : List TVisit) (k : Nat) : nowAt p l k 0 0 = List.replicate p.Dims.toNat 0 := by
 refine List.ext_getElem (by simp [nowAt]) fun d h1 h2 => ?_
 simp [nowAt, sumS]
theorem nowAt_get (p : TProblem) (l : List TVisit) (k i dd d : Nat) (hd : d < p.Dims.toNat) : (nowAt p l k i dd)[d]'(by simpa [nowAt] using hd) = sumS (fun j => contribS p l k j d) (if d < dd then i + 1 else i) := by simp [nowAt]
theorem nowAt_next (p : TProblem) (l : List TVisit) (k i : Nat) : nowAt p l k i p.Dims.toNat = nowAt p l k (i + 1) 0 := by
 refine List.ext_getElem (by simp [nowAt]) fun d h1 h2 => ?_
 have hd : d < p.Dims.toNat := by simpa [nowAt] using h1
 rw [nowAt_get p l k i _ _ hd, nowAt_get p l k (i + 1) _ _ hd, if_pos hd, if_neg (by omega)]
theorem nowAt_set (p : TProblem) (l : List TVisit) (k i dd : Nat) (hd : dd < p.Dims.toNat) : (nowAt p l k i dd).set dd (sumS (fun j => contribS p l k j dd) i + contribS p l k i dd) = nowAt p l k i (dd + 1) := by
 refine List.ext_getElem (by simp [nowAt]) fun d h1 h2 => ?_
 have hd2 : d < p.Dims.toNat := by simpa [nowAt] using h2
 rw [List.getElem_set]
 by_cases e : dd = d
 ·subst e
  rw [if_pos rfl, nowAt_get p l k i _ _ hd2, if_pos (by omega)]
  rfl
 ·rw [if_neg e, nowAt_get p l k i _ _ hd2, nowAt_get p l k i _ _ hd2]
  by_cases h : d < dd
  ·rw [if_pos h, if_pos (by omega)]
  ·rw [if_neg h, if_neg (by omega)]
theorem nowAt_same (p : TProblem) (l : List TVisit) (k i dd : Nat) (hd : dd < p.Dims.toNat) (h0 : contribS p l k i dd = 0) : nowAt p l k i dd = nowAt p l k i (dd + 1) := by
 rw [← nowAt_set p l k i dd hd, h0, Int.add_zero]
 refine List.ext_getElem (by simp [nowAt]) fun d h1 h2 => ?_
 rw [List.getElem_set]
 by_cases e : dd = d
 ·subst e
  rw [if_pos rfl, nowAt_get p l k i _ _ hd, if_neg (by omega)]
 ·rw [if_neg e]
theorem nowAt_skip (p : TProblem) (l : List TVisit) (k i : Nat) (h0 : ∀ d, d < p.Dims.toNat → contribS p l k i d = 0) : nowAt p l k i 0 = nowAt p l k (i + 1) 0 := by
 refine List.ext_getElem (by simp [nowAt]) fun d h1 h2 => ?_
 have hd : d < p.Dims.toNat := by simpa [nowAt] using h1
 rw [nowAt_get p l k i _ _ hd, nowAt_get p l k (i + 1) _ _ hd, if_neg (by omega), if_neg (by omega)]
 show _ = sumS _ i + contribS p l k i d
 rw [h0 d hd, Int.add_zero]
theorem am_ok {l : List Int} {d : Int} (h : amountsS l d = 0) : (l.length : Int) = d ∧ ∀ x ∈ l, 0 ≤ x ∧ x ≤ 1000000 := by
 unfold amountsS at h
 split at h
 ·rename_i hl
  split at h
  ·rename_i ha
   refine ⟨hl, fun x hx => ?_⟩
   have := List.all_eq_true.1 ha x hx
   simpa using this
  ·cases h
 ·cases h
theorem am_rd {l : List Int} {d : Int} (h : amountsS l d = 0) (i : Nat) (hi : (i : Int) < d) : i < l.length ∧ 0 ≤ rd l i ∧ rd l i ≤ 1000000 := by
 obtain ⟨h1, h2⟩ := am_ok h
 have hl : i < l.length := by omega
 have e : rd l (i : Int) = l[i] := by simp [rd, List.getElem?_eq_getElem hl]
 rw [e]
 exact ⟨hl, h2 _ (List.getElem_mem _)⟩
theorem kind_of {p : TProblem} {v : TVisit} (h : (stopS p v).2 = true) : (v.Kind = 1 ∧ 0 ≤ v.Item ∧ v.Item < p.Jobs.length) ∨ ((v.Kind = 2 ∨ v.Kind = 3) ∧ 0 ≤ v.Item ∧ v.Item < p.Shipments.length) := by
 unfold stopS at h
 split at h
 ·rename_i hb
  simp only [Bool.and_eq_true] at hb
  obtain ⟨ht, hth⟩ := hb
  by_cases h1 : v.Kind = 1
  ·have e : taskOf v = (⟨false, v.Item⟩, true) := by simp [taskOf, h1]
   rw [e] at hth
   have := upB_true (show upB v.Item ((p.Jobs.length : Int) - 1) = true by simpa [thereB] using hth)
   exact .inl ⟨h1, this.1, by omega⟩
  ·have hk : v.Kind = 2 ∨ v.Kind = 3 := by
    apply Classical.byContradiction
    intro hn
    rw [taskOf_none h1 (fun e => hn (.inl e)) (fun e => hn (.inr e))] at ht
    cases ht
   have e : taskOf v = (⟨true, v.Item⟩, true) := by
    unfold taskOf
    rw [if_neg h1, if_pos hk]
   rw [e] at hth
   have := upB_true (show upB v.Item ((p.Shipments.length : Int) - 1) = true by simpa [thereB] using hth)
   exact .inr ⟨hk, this.1, by omega⟩
 ·cases h
theorem Law.job {p : TProblem} (h : Law p) (i : Int) (h0 : 0 ≤ i) (h1 : i < p.Jobs.length) : amountsS (rdJob p.Jobs i).Drop p.Dims = 0 ∧ amountsS (rdJob p.Jobs i).Pick p.Dims = 0 := by
 have hb := h.gj _ (rdJob_mem p.Jobs i h0 h1)
 simp only [jobB, Bool.and_eq_true, decide_eq_true_eq] at hb
 exact ⟨hb.2.1, hb.2.2.1⟩
theorem Law.ship {p : TProblem} (h : Law p) (i : Int) (h0 : 0 ≤ i) (h1 : i < p.Shipments.length) : amountsS (rdShipment p.Shipments i).Amount p.Dims = 0 := by
 have hb := h.gs _ (rdShip_mem p.Shipments i h0 h1)
 simp only [shipB, Bool.and_eq_true, decide_eq_true_eq] at hb
 exact hb.2.2.1
theorem contribS_le {p : TProblem} (h : Law p) (l : List TVisit) (k i d : Nat) (hd : (d : Int) < p.Dims) : -1000000 ≤ contribS p l k i d ∧ contribS p l k i d ≤ 1000000 := by
 unfold contribS
 split
 ·rename_i hs
  rcases kind_of hs with ⟨k1, i0, i1⟩ | ⟨k2, i0, i1⟩
  ·have hj := h.job _ i0 i1
   have a := am_rd hj.1 d hd
   have b := am_rd hj.2 d hd
   rw [if_pos k1]
   split <;> omega
  ·have hj := am_rd (h.ship _ i0 i1) d hd
   rw [if_neg (by omega)]
   split
   ·split <;> omega
   ·omega
 ·omega
theorem sumS_le {f : Nat → Int} (h : ∀ i, -1000000 ≤ f i ∧ f i ≤ 1000000) : ∀ n : Nat, -(1000000 * (n : Int)) ≤ sumS f n ∧ sumS f n ≤ 1000000 * (n : Int)
 | 0 => by simp [sumS]
 | n + 1 => by
  have := sumS_le h n
  have := h n
  unfold sumS
  omega
end Go.Proofs.Ytemjpgmfignhnaa

/- Contract: what is aboard at the start and behind each visit. The document's sum.
Conditions: a lawful problem, at most 200 visits. -/
namespace Go.Proofs.Ytemjpgmfignhnaa
open Go.RowKit Go.Proofs.YtemjpgmfignhnaaW.PrintWords Go.Proofs.YtemjpgmfignhnaaW.PrintLast Go.Proofs.YtemjpgmfignhnaaW.PrintMore
set_option linter.unusedVariables false
set_option linter.unusedSimpArgs false
attribute [local go_sem] cell_growBy Option.some_or
abbrev kInts : Kd (List Int) := Kd.slice 3 (Kd.int .i64)
def OwnPost (ls : List (List Int)) (w : World) (e : Ending) (w' : World) : Prop :=
 ∃ A c, e = .returned (.slice A ls.length c) ∧ ls.length ≤ c ∧ kInts.R 22 w' w.heap.size (fun _ => True) (.slice A ls.length c) ls ∧ Below w.heap.size w w'
set_option maxHeartbeats 8000000 in
set_option maxRecDepth 100000 in
theorem refLoads_own (q : PV) (p : TProblem) (l : List TVisit) (A : Option Addr) (c : Nat) (w : World) (hlp : Lens p) (law : Law p) (hq : q.Ok p w) (hr : Kd.C kVisit w A l.length l) (hl : l.length ≤ 200) :
  Calls Try.prog 56 #[q.val p, .slice A l.length c] w (OwnPost (loadsS p l) w) := by
 have HR := Aside0.mk hr
 have HQ := Aside0.mk hq
 have HST := Aside0.mk (fun (v : TVisit) W (hb : Below w.heap.size w W) => refStop_any q p v W hlp (hq.below hb))
 have LAW := Aside0.mk law
 have hd0 := law.d0
 have hd1 := law.d1
 have hj := law.nt
 clear hr hq law
 obtain ⟨a1, c1, a2, c2, a3, c3, a4, c4, a5, c5⟩ := q
 unfold PV.val at HST ⊢
 go_enter Try.func56, Try.ntmps56
 go_wp2
 go_loopw [5, 6] (fun v i wr => ∃ k : Nat, k ≤ l.length + 1 ∧ i = .int .i64 k ∧ Aside0 (kInts.R 22 wr (w.heap.size + 1) (fun _ => True) v ((List.range k).map (nowS p l))) ∧ Aside0 (Below (w.heap.size + 1) (w.alloc (.cells #[.int .i64 p.Dims, .int .i64 p.Time.N, .slice a1 p.Time.Cells.length c1, .int .i64 p.Dist.N, .slice a2 p.Dist.Cells.length c2, .slice a3 p.Vehicles.length c3, .slice a4 p.Jobs.length c4, .slice a5 p.Shipments.length c5] 29)) wr)) (fun _ i _ => l.length + 1 - (intOf i).toNat)
 case atStart => exact ⟨0, Nat.zero_le _, rfl, ⟨Kd.R_nil _ _ _ _ _⟩, ⟨Below.refl _ _⟩⟩
 case round =>
  obtain ⟨k, hk, rfl, HO, HW⟩ := hrel
  have HW' : Aside0 (Below (w.alloc (.cells #[.int .i64 p.Dims, .int .i64 p.Time.N, .slice a1 p.Time.Cells.length c1, .int .i64 p.Dist.N, .slice a2 p.Dist.Cells.length c2, .slice a3 p.Vehicles.length c3, .slice a4 p.Jobs.length c4, .slice a5 p.Shipments.length c5] 29)).heap.size (w.alloc (.cells #[.int .i64 p.Dims, .int .i64 p.Time.N, .slice a1 p.Time.Cells.length c1, .int .i64 p.Dist.N, .slice a2 p.Dist.Cells.length c2, .slice a3 p.Vehicles.length c3, .slice a4 p.Jobs.length c4, .slice a5 p.Shipments.length c5] 29)) wr) := ⟨by simpa using HW.out⟩
  have HB0 : Aside0 (Below w.heap.size w wr) := ⟨below_to (below_alloc (Below.refl _ _) _) HW'.out⟩
  obtain ⟨qc, qf⟩ := bcell HW'.out
  have zr : w.heap.size < wr.heap.size := by
   have := HW'.out.size
   simp at this
   omega
  by_cases hlt : k < l.length + 1
  ·obtain ⟨wk, rfl⟩ : ∃ wk : World, wk = wr := ⟨_, rfl⟩
   go_wp2_with ((with_reducible refine gate_dst (N := 21) rfl ?_); refine Kd.R_make (Kd.int .i64) (w0 := wk) wk.heap.size 3 rfl (N := 21) rfl 22 (.tmp 20) (.tmp 20) rfl p.Dims rfl rfl Try.underlying22 (.int .i64 0) 8 (by kernel_rfl) rfl (by decide) (by decide) 0 (ok := fun _ => True) (okp := fun _ => False) rfl (fun _ h => h.elim) trivial hd0 (by omega) (Below.refl _ _) (Nat.le_refl _) ?_; intro v1 w1 ho hb hg hat; have HU0 := Aside0.mk ho; have HBU := Aside0.mk hb; have HAT := Aside0.mk hat; clear ho hb hg hat)
   obtain ⟨gN, cN, rfl⟩ : ∃ gN cN, v1 = .slice (some ⟨gN, 0, none⟩) p.Dims.toNat cN := by
    obtain ⟨_, inner, hown, _⟩ := HU0.out
    obtain ⟨b, hb, _⟩ := HAT.out
    rcases hown.2 with ⟨h0, _⟩ | ⟨g, cap, cur, hv, _⟩
    ·rw [h0] at hb
     cases hb
    ·exact ⟨g, cap, by simpa using hv⟩
   have HN0 : Aside0 ((Kd.int .i64).R 3 w1 wk.heap.size (fun k => k = gN) (.slice (some ⟨gN, 0, none⟩) p.Dims.toNat cN) (nowAt p l k 0 0)) := ⟨by
    have h := HU0.out
    rw [nowAt_zero]
    exact Kd.R_of_own (Kd.own_of_R h) (fun k hk => by simpa [Value.ownBlock] using hk.symm)⟩
   clear HAT HU0
   go_loopw [8] (fun i wr => ∃ i' : Nat, i' ≤ l.length ∧ i = .int .i64 i' ∧ Aside0 ((Kd.int .i64).R 3 wr wk.heap.size (fun k => k = gN) (.slice (some ⟨gN, 0, none⟩) p.Dims.toNat cN) (nowAt p l k i' 0)) ∧ Aside0 (Below wk.heap.size wk wr)) (fun i _ => l.length - (intOf i).toNat)
   case atStart => exact ⟨0, Nat.zero_le _, rfl, HN0, HBU⟩
   case round =>
    clear HN0 HBU
    obtain ⟨i, hi, rfl, HN, HWk⟩ := hrel
    have HBw : Aside0 (Below w.heap.size w wr) := ⟨below_to HB0.out HWk.out⟩
    obtain ⟨qc2, qf2⟩ := bcell HWk.out
    have zr2 : w.heap.size < wr.heap.size := Nat.lt_of_lt_of_le zr HWk.out.size
    by_cases hil : i < l.length
    ·obtain ⟨ad, ea, x0, x1⟩ := atNVisit (Kd.C_below HR.out HBw.out) i hil
     subst ea
     have r0 : (0 : Int) ≤ (i : Int) := by omega
     have r1 : (i : Int) < (l.length : Int) := by omega
     have eqv := rdVisit_nat l i hil
     generalize hv : l[i] = v at *
     go_upto_region 9 with fail
     have hba := World.block_lt_of_cell? _ _ x0
     have hbb : (⟨(ad.add (i * 2)).block, (ad.add (i * 2)).off + 1, none⟩ : Addr).block < wr.heap.size := hba
     go_cut [10] (fun s10 wx => s10 = .bool (stopS p v).2 ∧ Aside0 (Below wr.heap.size wr wx))
     case first =>
      go_region_held3 (fun W' => Below wr.heap.size wr W' ∧ ∀ a : Addr, a.block < wr.heap.size → W'.cell? a = wr.cell? a) (first | exact hl_start _ | exact hl_of (by repeat (first | exact Below.refl _ _ | apply below_alloc | apply below_drew | (refine Below.setCell ?_ (by first | (simp; done) | (simp; omega) | (dsimp only; omega)) _) | (refine below_to ?_ (by assumption)))))
        (first
         | (go_at_call 37; refine (HST.out v _ (below_to HBw.out (And.left (show Below wr.heap.size wr _ ∧ _ from by assumption)))).mono ?_; rintro e w2 ⟨A1, k1, rfl, hle1, hC1, hb⟩; obtain ⟨qcs, qfs⟩ := bcell hb; clear hle1 hC1))
      all_goals
       go_wp2_with fail
       go_meet
       exact ⟨rfl, ⟨chm⟩⟩
     case rest =>
      obtain ⟨rfl, HBc⟩ := hcut
      have HNc : Aside0 ((Kd.int .i64).R 3 wc wk.heap.size (fun k => k = gN) (.slice (some ⟨gN, 0, none⟩) p.Dims.toNat cN) (nowAt p l k i 0)) := ⟨Kd.R_below HN.out HBc.out⟩
      have HWc : Aside0 (Below wk.heap.size wk wc) := ⟨below_to HWk.out HBc.out⟩
      clear HN HWk HBc qc2 qf2 zr2 HBw hba hbb x0 x1
      cases hs2 : (stopS p v).2
      ·have HNX := Aside0.mk (nowAt_skip p l k i (fun d _ => by simp [contribS, eqv, hs2]))
       go_wp2
       go_roundw
       case rel => exact ⟨i + 1, by omega, by go_num, HNX.out ▸ HNc, HWc⟩
       case measure => simp [intOf]; omega
      ·have HBw : Aside0 (Below w.heap.size w wc) := ⟨below_to HB0.out HWc.out⟩
       obtain ⟨ad', ea', x0, x1⟩ := atNVisit (Kd.C_below HR.out HBw.out) i hil
       obtain rfl := Option.some.inj ea'
       rw [hv] at x0 x1
       go_wp2
       go_loopw [12] (fun d wr => ∃ dd : Nat, (dd : Int) ≤ p.Dims ∧ d = .int .i64 dd ∧ Aside0 ((Kd.int .i64).R 3 wr wk.heap.size (fun k => k = gN) (.slice (some ⟨gN, 0, none⟩) p.Dims.toNat cN) (nowAt p l k i dd)) ∧ Aside0 (Below wk.heap.size wk wr)) (fun d _ => p.Dims.toNat - (intOf d).toNat)
       case atStart => exact ⟨0, by omega, rfl, HNc, HWc⟩
       case round =>
        clear HNc HWc HBw x0 x1
        obtain ⟨dd, hdd, rfl, HN, HWk⟩ := hrel
        have HBw : Aside0 (Below w.heap.size w wr) := ⟨below_to HB0.out HWk.out⟩
        obtain ⟨qc2, qf2⟩ := bcell HWk.out
        have zr2 : w.heap.size < wr.heap.size := Nat.lt_of_lt_of_le zr HWk.out.size
        by_cases hdl : (dd : Int) < p.Dims
        ·have hdn : dd < p.Dims.toNat := by omega
         obtain ⟨ad', ea', x0, x1⟩ := atNVisit (Kd.C_below HR.out HBw.out) i hil
         obtain rfl := Option.some.inj ea'
         rw [hv] at x0 x1
         obtain ⟨adn, en, xn⟩ := Kd.at_int (Kd.R_reads' HN.out).2.2 (dd : Int) (by omega) (by rw [nowAt_length]; omega)
         obtain rfl := Option.some.inj en
         have ern : rd (nowAt p l k i dd) (dd : Int) = sumS (fun j => contribS p l k j dd) i := by
          have h := nowAt_get p l k i dd dd hdn
          rw [if_neg (Nat.lt_irrefl _)] at h
          rw [← h]
          simp [rd, List.getElem?_eq_getElem (show dd < (nowAt p l k i dd).length by rw [nowAt_length]; exact hdn)]
         rw [ern, add_plain, Int.toNat_natCast] at xn
         obtain ⟨cellsN, hcN⟩ := own_typed (Kd.own_of_R HN.out) gN (by simp [Value.ownBlock])
         have hfN := fun i => blk_frozen hcN i
         have hgN := Kd.R_base HN.out gN (by simp [Value.ownBlock])
         have hsum := sumS_le (f := fun j => contribS p l k j dd) (fun j => contribS_le LAW.out l k j dd hdl) i
         have t0 : (0 : Int) ≤ (dd : Int) := by omega
         have t1 : (dd : Int) < (p.Dims.toNat : Int) := by omega
         clear ern hcN
         rcases kind_of hs2 with ⟨k1, i0, i1⟩ | ⟨k2, i0, i1⟩
         ·have hj2 := LAW.out.job _ i0 i1
          obtain ⟨m1, m2, m3⟩ := am_rd hj2.1 dd hdl
          obtain ⟨p1, p2, p3⟩ := am_rd hj2.2 dd hdl
          have m4 : (dd : Int) < ((rdJob p.Jobs v.Item).Drop.length : Int) := by omega
          have p4 : (dd : Int) < ((rdJob p.Jobs v.Item).Pick.length : Int) := by omega
          obtain ⟨aj, A2, c2_, A3, c3_, A4, c4_, eaj, -, -, -, y3, y4, -, -, -, -, -, g3, -, g4⟩ := atJob (HQ.out.below HBw.out).h4 v.Item i0 i1
          have eaj' : a4 = some aj := eaj
          subst eaj'
          obtain ⟨adD, eD, yD⟩ := Kd.at_int g3 (dd : Int) t0 m4
          obtain ⟨adP, eP, yP⟩ := Kd.at_int g4 (dd : Int) t0 p4
          subst eD
          subst eP
          simp only [Int.toNat_natCast] at yD yP
          have dk1 : (v.Kind == 1) = true := by simp [k1]
          by_cases hki : k ≤ i
          ·have d1 : decide ((k : Int) ≤ (i : Int)) = true := decide_eq_true (by omega)
           have HCO := Aside0.mk (show contribS p l k i dd = rd (rdJob p.Jobs v.Item).Drop dd by simp [contribS, eqv, hs2, k1, hki])
           clear hj2 g3 g4 eaj k1
           have ew : IntKind.i64.wrap (sumS (fun j => contribS p l k j dd) i + rd (rdJob p.Jobs v.Item).Drop dd) = sumS (fun j => contribS p l k j dd) i + rd (rdJob p.Jobs v.Item).Drop dd := IntWalk.i64_in _ (by omega)
           have HNX : Aside0 ((nowAt p l k i dd).set dd (sumS (fun j => contribS p l k j dd) i + rd (rdJob p.Jobs v.Item).Drop dd) = nowAt p l k i (dd + 1)) := ⟨by rw [← nowAt_set p l k i dd hdn, HCO.out]; try rw [Int.sub_eq_add_neg]⟩
           go_wp2
           have HNn : Aside0 ((Kd.int .i64).R 3 (wr.setCell ⟨gN, dd, none⟩ (.int .i64 (sumS (fun j => contribS p l k j dd) i + rd (rdJob p.Jobs v.Item).Drop dd))).drew wk.heap.size (fun k => k = gN) (.slice (some ⟨gN, 0, none⟩) p.Dims.toNat cN) (nowAt p l k i (dd + 1))) := ⟨by
            rw [← HNX.out]
            have h := Kd.R_putn HN.out (dd : Int) (sumS (fun j => contribS p l k j dd) i + rd (rdJob p.Jobs v.Item).Drop dd)
            rw [Int.toNat_natCast] at h
            exact Kd.R_drew h⟩
           have HBn : Aside0 (Below wk.heap.size wk (wr.setCell ⟨gN, dd, none⟩ (.int .i64 (sumS (fun j => contribS p l k j dd) i + rd (rdJob p.Jobs v.Item).Drop dd))).drew) := ⟨below_drew (Below.setCell HWk.out hgN _)⟩
           go_region
           go_wp2
           go_roundw
           case rel => exact ⟨dd + 1, by omega, by go_num, HNn, HBn⟩
           case measure => simp [intOf]; omega
          ·have d1 : decide ((k : Int) ≤ (i : Int)) = false := decide_eq_false (by omega)
           have HCO := Aside0.mk (show contribS p l k i dd = rd (rdJob p.Jobs v.Item).Pick dd by simp [contribS, eqv, hs2, k1, hki])
           clear hj2 g3 g4 eaj k1
           have ew : IntKind.i64.wrap (sumS (fun j => contribS p l k j dd) i + rd (rdJob p.Jobs v.Item).Pick dd) = sumS (fun j => contribS p l k j dd) i + rd (rdJob p.Jobs v.Item).Pick dd := IntWalk.i64_in _ (by omega)
           have HNX : Aside0 ((nowAt p l k i dd).set dd (sumS (fun j => contribS p l k j dd) i + rd (rdJob p.Jobs v.Item).Pick dd) = nowAt p l k i (dd + 1)) := ⟨by rw [← nowAt_set p l k i dd hdn, HCO.out]; try rw [Int.sub_eq_add_neg]⟩
           go_wp2
           have HNn : Aside0 ((Kd.int .i64).R 3 (wr.setCell ⟨gN, dd, none⟩ (.int .i64 (sumS (fun j => contribS p l k j dd) i + rd (rdJob p.Jobs v.Item).Pick dd))).drew wk.heap.size (fun k => k = gN) (.slice (some ⟨gN, 0, none⟩) p.Dims.toNat cN) (nowAt p l k i (dd + 1))) := ⟨by
            rw [← HNX.out]
            have h := Kd.R_putn HN.out (dd : Int) (sumS (fun j => contribS p l k j dd) i + rd (rdJob p.Jobs v.Item).Pick dd)
            rw [Int.toNat_natCast] at h
            exact Kd.R_drew h⟩
           have HBn : Aside0 (Below wk.heap.size wk (wr.setCell ⟨gN, dd, none⟩ (.int .i64 (sumS (fun j => contribS p l k j dd) i + rd (rdJob p.Jobs v.Item).Pick dd))).drew) := ⟨below_drew (Below.setCell HWk.out hgN _)⟩
           go_region
           go_wp2
           go_roundw
           case rel => exact ⟨dd + 1, by omega, by go_num, HNn, HBn⟩
           case measure => simp [intOf]; omega
         ·have hj2 := LAW.out.ship _ i0 i1
          obtain ⟨m1, m2, m3⟩ := am_rd hj2 dd hdl
          have m4 : (dd : Int) < ((rdShipment p.Shipments v.Item).Amount.length : Int) := by omega
          obtain ⟨aj, A2, c2_, A3, c3_, A4, c4_, eaj, -, -, -, -, -, -, y6, -, -, -, -, -, -, -, g3⟩ := atShipment (HQ.out.below HBw.out).h5 v.Item i0 i1
          have eaj' : a5 = some aj := eaj
          subst eaj'
          obtain ⟨adD, eD, yD⟩ := Kd.at_int g3 (dd : Int) t0 m4
          subst eD
          simp only [Int.toNat_natCast] at yD
          have dk1 : (v.Kind == 1) = false := by simp; omega
          by_cases hki : i < k
          ·have d1 : decide ((i : Int) < (k : Int)) = true := decide_eq_true (by omega)
           by_cases k3 : v.Kind = 2
           ·have dk2 : (v.Kind == 2) = true := by simp [k3]
            have HCO := Aside0.mk (show contribS p l k i dd = rd (rdShipment p.Shipments v.Item).Amount dd by simp [contribS, eqv, hs2, k3, hki])
            clear hj2 g3 eaj k2 k3
            have ew : IntKind.i64.wrap (sumS (fun j => contribS p l k j dd) i + rd (rdShipment p.Shipments v.Item).Amount dd) = sumS (fun j => contribS p l k j dd) i + rd (rdShipment p.Shipments v.Item).Amount dd := IntWalk.i64_in _ (by omega)
            have HNX : Aside0 ((nowAt p l k i dd).set dd (sumS (fun j => contribS p l k j dd) i + rd (rdShipment p.Shipments v.Item).Amount dd) = nowAt p l k i (dd + 1)) := ⟨by rw [← nowAt_set p l k i dd hdn, HCO.out]; try rw [Int.sub_eq_add_neg]⟩
            go_wp2
            have HNn : Aside0 ((Kd.int .i64).R 3 (wr.setCell ⟨gN, dd, none⟩ (.int .i64 (sumS (fun j => contribS p l k j dd) i + rd (rdShipment p.Shipments v.Item).Amount dd))).drew wk.heap.size (fun k => k = gN) (.slice (some ⟨gN, 0, none⟩) p.Dims.toNat cN) (nowAt p l k i (dd + 1))) := ⟨by
             rw [← HNX.out]
             have h := Kd.R_putn HN.out (dd : Int) (sumS (fun j => contribS p l k j dd) i + rd (rdShipment p.Shipments v.Item).Amount dd)
             rw [Int.toNat_natCast] at h
             exact Kd.R_drew h⟩
            have HBn : Aside0 (Below wk.heap.size wk (wr.setCell ⟨gN, dd, none⟩ (.int .i64 (sumS (fun j => contribS p l k j dd) i + rd (rdShipment p.Shipments v.Item).Amount dd))).drew) := ⟨below_drew (Below.setCell HWk.out hgN _)⟩
            go_region
            go_wp2
            go_roundw
            case rel => exact ⟨dd + 1, by omega, by go_num, HNn, HBn⟩
            case measure => simp [intOf]; omega
           ·have dk2 : (v.Kind == 2) = false := by simp [k3]
            have k4 : v.Kind = 3 := by omega
            have dk3 : (v.Kind == 3) = true := by simp [k4]
            have HCO := Aside0.mk (show contribS p l k i dd = - rd (rdShipment p.Shipments v.Item).Amount dd by simp [contribS, eqv, hs2, k4, hki])
            clear hj2 g3 eaj k2 k3 k4
            have ew : IntKind.i64.wrap (sumS (fun j => contribS p l k j dd) i - rd (rdShipment p.Shipments v.Item).Amount dd) = sumS (fun j => contribS p l k j dd) i - rd (rdShipment p.Shipments v.Item).Amount dd := IntWalk.i64_in _ (by omega)
            have HNX : Aside0 ((nowAt p l k i dd).set dd (sumS (fun j => contribS p l k j dd) i - rd (rdShipment p.Shipments v.Item).Amount dd) = nowAt p l k i (dd + 1)) := ⟨by rw [← nowAt_set p l k i dd hdn, HCO.out]; try rw [Int.sub_eq_add_neg]⟩
            go_wp2
            have HNn : Aside0 ((Kd.int .i64).R 3 (wr.setCell ⟨gN, dd, none⟩ (.int .i64 (sumS (fun j => contribS p l k j dd) i - rd (rdShipment p.Shipments v.Item).Amount dd))).drew wk.heap.size (fun k => k = gN) (.slice (some ⟨gN, 0, none⟩) p.Dims.toNat cN) (nowAt p l k i (dd + 1))) := ⟨by
             rw [← HNX.out]
             have h := Kd.R_putn HN.out (dd : Int) (sumS (fun j => contribS p l k j dd) i - rd (rdShipment p.Shipments v.Item).Amount dd)
             rw [Int.toNat_natCast] at h
             exact Kd.R_drew h⟩
            have HBn : Aside0 (Below wk.heap.size wk (wr.setCell ⟨gN, dd, none⟩ (.int .i64 (sumS (fun j => contribS p l k j dd) i - rd (rdShipment p.Shipments v.Item).Amount dd))).drew) := ⟨below_drew (Below.setCell HWk.out hgN _)⟩
            go_region
            go_wp2
            go_roundw
            case rel => exact ⟨dd + 1, by omega, by go_num, HNn, HBn⟩
            case measure => simp [intOf]; omega
          ·have d1 : decide ((i : Int) < (k : Int)) = false := decide_eq_false (by omega)
           have HNs := Aside0.mk (nowAt_same p l k i dd hdn (by
            rcases k2 with h | h <;> simp [contribS, eqv, hs2, h, hki]))
           have dk2 : ((v.Kind == 2) = true ∧ (v.Kind == 3) = false) ∨ ((v.Kind == 2) = false ∧ (v.Kind == 3) = true) := by
            rcases k2 with h | h <;> simp [h]
           clear hj2 g3 eaj k2
           rcases dk2 with ⟨dk2, dk3⟩ | ⟨dk2, dk3⟩
           all_goals
            go_wp2
            go_roundw
            case rel => exact ⟨dd + 1, by omega, by go_num, HNs.out ▸ HN, HWk⟩
            case measure => simp [intOf]; omega
        ·have edd : dd = p.Dims.toNat := by omega
         have HNe : Aside0 ((Kd.int .i64).R 3 wr wk.heap.size (fun k => k = gN) (.slice (some ⟨gN, 0, none⟩) p.Dims.toNat cN) (nowAt p l k (i + 1) 0)) := ⟨by have h := HN.out; rw [edd, nowAt_next] at h; exact h⟩
         have d1 : decide ((dd : Int) < p.Dims) = false := decide_eq_false hdl
         go_wp2
         go_roundw
         case rel => exact ⟨i + 1, by omega, by go_num, HNe, HWk⟩
         case measure => simp [intOf]; omega
    ·obtain rfl : i = l.length := by omega
     have HOr : Aside0 (kInts.R 22 wr (w.heap.size + 1) (fun _ => True) u5 ((List.range k).map (nowS p l))) := ⟨Kd.R_below HO.out HWk.out⟩
     have hwk : w.heap.size + 1 ≤ wk.heap.size := by omega
     obtain ⟨cellsN, hcN⟩ := own_typed (Kd.own_of_R HN.out) gN (by simp [Value.ownBlock])
     have HM : Aside0 (kInts.M wr (w.heap.size + 1) (fun k => k = gN) (nowS p l k) [.slice (some ⟨gN, 0, none⟩) p.Dims.toNat cN]) := ⟨⟨_, rfl, Kd.R_lower HN.out hwk⟩⟩
     have HNE : Aside0 (some gN ≠ u5.ownBlock) := ⟨Kd.R_ne HOr.out hcN (by decide)⟩
     have HW2 : Aside0 (Below (w.heap.size + 1) (w.alloc (.cells #[.int .i64 p.Dims, .int .i64 p.Time.N, .slice a1 p.Time.Cells.length c1, .int .i64 p.Dist.N, .slice a2 p.Dist.Cells.length c2, .slice a3 p.Vehicles.length c3, .slice a4 p.Jobs.length c4, .slice a5 p.Shipments.length c5] 29)) wr) := ⟨by simpa using below_to HW'.out HWk.out⟩
     have hszw := HWk.out.size
     have hll : ((List.range k).map (nowS p l)).length = k := by simp
     clear hcN
     go_wp2_with (at_builtin; refine Kd.R_append kInts (w0 := w.alloc (.cells #[.int .i64 p.Dims, .int .i64 p.Time.N, .slice a1 p.Time.Cells.length c1, .int .i64 p.Dist.N, .slice a2 p.Dist.Cells.length c2, .slice a3 p.Vehicles.length c3, .slice a4 p.Jobs.length c4, .slice a5 p.Shipments.length c5] 29)) (W := wr) (w.heap.size + 1) rfl (.tmp 161) (.tmp 163) 82 22 (.slice none 0 0) 24 rfl Try.underlying82 (by kernel_rfl) rfl (by decide) (by omega) u5 ((List.range k).map (nowS p l)) (nowS p l k) _ (fun _ => True) (fun k => k = gN) rfl rfl HM.out (fun m hm => ⟨trivial, by rw [hm]; exact HNE.out⟩) (fun _ _ => trivial) HOr.out HW2.out (by omega) (by rw [hll]; omega) ?_; intro v2 w2 ho hb hg hat; have HO2 := Aside0.mk ho; have HB2 := Aside0.mk hb; clear ho hb hg hat)
     go_roundw
     case rel => exact ⟨k + 1, by omega, by go_num, ⟨by rw [List.range_succ, List.map_append]; exact HO2.out⟩, HB2⟩
     case measure => simp [intOf]; omega
  ·obtain rfl : k = l.length + 1 := by omega
   obtain ⟨A', c', rfl, hle, hC⟩ := Kd.R_reads HO.out
   have HL : Aside0 (((List.range (l.length + 1)).map (nowS p l)).length = (loadsS p l).length) := ⟨rfl⟩
   have HCf := Aside0.mk hC
   clear hC
   go_wp2
   go_ret
   exact ⟨A', c', rfl, hle, Kd.R_lower HO.out (by omega), HB0.out⟩
theorem refLoads_any (q : PV) (p : TProblem) (l : List TVisit) (A : Option Addr) (c : Nat) (w : World) (hlp : Lens p) (law : Law p) (hq : q.Ok p w) (hr : Kd.C kVisit w A l.length l) (hl : l.length ≤ 200) :
  Calls Try.prog 56 #[q.val p, .slice A l.length c] w (ListPost kInts (loadsS p l) w) := by
 refine (refLoads_own q p l A c w hlp law hq hr hl).mono ?_
 rintro e w' ⟨A', c', rfl, hle, hR, hb⟩
 obtain ⟨A2, c2, e2, _, hC⟩ := Kd.R_reads hR
 injection e2 with eA en ec
 subst eA
 exact ⟨A', c', rfl, hle, hC, hb⟩
end Go.Proofs.Ytemjpgmfignhnaa
