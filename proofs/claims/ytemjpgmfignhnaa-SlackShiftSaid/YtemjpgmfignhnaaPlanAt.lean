/- A plan on its way: its block, and the row of its steps.
Conditions: none. -/
import Derived.Test.YtemjpgmfignhnaaPlanEnd
import Derived.Test.YtemjpgmfignhnaaR13c
import Derived.Test.YtemjpgmfignhnaaR13e
namespace Go.Proofs.Ytemjpgmfignhnaa
open Go.RowKit Go.Proofs.YtemjpgmfignhnaaW.PrintWords Go.Proofs.YtemjpgmfignhnaaW.PrintLast Go.Proofs.YtemjpgmfignhnaaW.PrintMore
set_option linter.unusedVariables false
set_option linter.unusedSimpArgs false
structure PlanAt (wX : World) (lo : Nat) (vehicle : Int) (sv : Value) (tm di wt se : Int) (steps : List TStep) (W : World) : Prop where
  below : Below wX.heap.size wX W
  out : W.heap[wX.heap.size]? = some (.cells #[.int .i64 vehicle, sv, .int .i64 tm, .int .i64 di, .int .i64 wt, .int .i64 se, .int .i64 0] 74 (0, 0))
  row : OwnF kStep 91 W lo wX.heap.size sv steps
section
variable {wX W W' : World} {lo : Nat} {vehicle : Int} {sv : Value} {tm di wt se : Int} {steps : List TStep}
theorem PlanAt.mono (h : PlanAt wX lo vehicle sv tm di wt se steps W) (hb : Below W.heap.size W W') : PlanAt wX lo vehicle sv tm di wt se steps W' :=
  ⟨below_to h.below hb, blk_below h.out hb, h.row.below hb⟩
theorem PlanAt.ne (h : PlanAt wX lo vehicle sv tm di wt se steps W) : some wX.heap.size ≠ sv.ownBlock := h.row.ne_typed h.out (by decide)
theorem PlanAt.lt (h : PlanAt wX lo vehicle sv tm di wt se steps W) : wX.heap.size < W.heap.size := blk_lt h.out
theorem PlanAt.set_tm (h : PlanAt wX lo vehicle sv tm di wt se steps W) (x : Int) : PlanAt wX lo vehicle sv x di wt se steps (W.setCell ⟨wX.heap.size, 2, none⟩ (.int .i64 x)) :=
  ⟨Below.setCell h.below (Nat.le_refl _) _, by simpa using blk_set h.out 2 (.int .i64 x), h.row.set (Nat.le_refl _) h.ne _⟩
theorem PlanAt.set_di (h : PlanAt wX lo vehicle sv tm di wt se steps W) (x : Int) : PlanAt wX lo vehicle sv tm x wt se steps (W.setCell ⟨wX.heap.size, 3, none⟩ (.int .i64 x)) :=
  ⟨Below.setCell h.below (Nat.le_refl _) _, by simpa using blk_set h.out 3 (.int .i64 x), h.row.set (Nat.le_refl _) h.ne _⟩
theorem PlanAt.set_wt (h : PlanAt wX lo vehicle sv tm di wt se steps W) (x : Int) : PlanAt wX lo vehicle sv tm di x se steps (W.setCell ⟨wX.heap.size, 4, none⟩ (.int .i64 x)) :=
  ⟨Below.setCell h.below (Nat.le_refl _) _, by simpa using blk_set h.out 4 (.int .i64 x), h.row.set (Nat.le_refl _) h.ne _⟩
theorem PlanAt.set_se (h : PlanAt wX lo vehicle sv tm di wt se steps W) (x : Int) : PlanAt wX lo vehicle sv tm di wt x steps (W.setCell ⟨wX.heap.size, 5, none⟩ (.int .i64 x)) :=
  ⟨Below.setCell h.below (Nat.le_refl _) _, by simpa using blk_set h.out 5 (.int .i64 x), h.row.set (Nat.le_refl _) h.ne _⟩
theorem below_mid {n : Nat} {a b c : World} (h : Below n a b) (k : Below n b c) : Below n a c := ⟨k.os.trans h.os, k.tape.trans h.tape, k.output.trans h.output, Nat.le_trans h.size k.size, fun i hi => (k.block i hi).trans (h.block i hi)⟩
theorem PlanAt.appended {w1 : World} {v1 : Value} {x : TStep} (h : PlanAt wX lo vehicle sv tm di wt se steps W) (ho : OwnF kStep 91 w1 lo wX.heap.size v1 (steps ++ [x])) (hb : Below wX.heap.size W w1) (hg : W.grownBy w1 sv.ownBlock) :
    PlanAt wX lo vehicle v1 tm di wt se (steps ++ [x]) (w1.setCell ⟨wX.heap.size, 1, none⟩ v1) := by
  have hout : w1.heap[wX.heap.size]? = _ := (hg.block wX.heap.size h.lt h.ne).trans h.out
  exact ⟨Below.setCell (below_mid h.below hb) (Nat.le_refl _) _, by simpa using blk_set hout 1 v1, ho.set (Nat.le_refl _) (ho.ne_typed hout (by decide)) _⟩
theorem step_FK {w2 W : World} {lo base : Nat} (x : TStep) {A : Option Addr} {c : Nat} (hl : x.Load.length ≤ c) (hF : Kd.F (Kd.int .i64) w2 (fun k => lo ≤ k ∧ k < w2.heap.size) A x.Load.length x.Load) (hb : Below w2.heap.size w2 W) (hbase : w2.heap.size ≤ base) :
    Kd.FK kStep W (fun k => lo ≤ k ∧ k < base) x [.int .i64 x.Visit.Kind, .int .i64 x.Visit.Item, .int .i64 x.Place, .int .i64 x.Arrival, .int .i64 x.Wait, .int .i64 x.Service, .slice A x.Load.length c, .int .i64 x.Time, .int .i64 x.Dist] := by
  intro W' hW'
  refine kStep_mk W' x A c hl (Kd.F_now (Kd.F_step (W1 := W') hF (fun k hk _ => ?_)))
  exact (hW' k ⟨hk.1, by show k < base; omega⟩ (Nat.lt_of_lt_of_le hk.2 hb.size)).trans (hb.block k hk.2)
/-- An element of a row of rows of the call's own: its cell, and what it hangs on. -/
theorem atNOwn {w : World} {A : Option Addr} {n c base : Nat} {xs : List (List Int)} (h : kInts.R 22 w base (fun _ => True) (.slice A n c) xs) (k : Nat) (hk : k < xs.length) :
    ∃ ad A' c', A = some ad ∧ w.cell? (ad.add k) = some (.slice A' xs[k].length c') ∧ xs[k].length ≤ c' ∧ Kd.F (Kd.int .i64) w (fun k => base ≤ k ∧ k < w.heap.size) A' xs[k].length xs[k] := by
  obtain ⟨A2, c2, e2, _, hC⟩ := Kd.R_reads h
  injection e2 with eA en ec
  subst eA en ec
  have hA : ∃ ad, A = some ad := by
    obtain ⟨ad, _, _, e, _⟩ := atNInts hC k hk
    exact ⟨ad, e⟩
  obtain ⟨ad, rfl⟩ := hA
  obtain ⟨cs, hl, hM, hcs⟩ := Kd.R_getA (Kd.R_bound h) [] (k : Int) (by omega) (by omega)
  simp only [Int.toNat_natCast] at hM hcs
  have e3 : xs.getD k [] = xs[k] := by simp [List.getElem?_eq_getElem hk]
  rw [e3] at hM
  obtain ⟨A', c', e4, hle, hC'⟩ : ∃ A' c', cs = [.slice A' xs[k].length c'] ∧ xs[k].length ≤ c' ∧ Kd.F (Kd.int .i64) w (fun k => base ≤ k ∧ k < w.heap.size) A' xs[k].length xs[k] := by
    obtain ⟨u, rfl, hR⟩ := hM
    obtain ⟨A', c', rfl, hle, _⟩ := Kd.R_reads hR
    exact ⟨A', c', rfl, hle, Kd.F_mono (Kd.R_F hR) (fun k hk => ⟨hk.1.2.1, hk.1.2.2.1⟩)⟩
  subst e4
  refine ⟨ad, A', c', rfl, ?_, hle, hC'⟩
  have := hcs 0 _ rfl
  rwa [show k * kInts.sz + 0 = k from by rw [show kInts.sz = 1 from rfl]; omega] at this
end
end Go.Proofs.Ytemjpgmfignhnaa
