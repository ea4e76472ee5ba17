/- Contracts of the document's layer 13: how often a visit stands in a list.
Conditions: lists no longer than memory allows. -/
import Derived.Test.YtemjpgmfignhnaaM4
namespace Go.Proofs.Ytemjpgmfignhnaa
open Go.RowKit Go.Proofs.YtemjpgmfignhnaaW.PrintWords Go.Proofs.YtemjpgmfignhnaaW.PrintLast Go.Proofs.YtemjpgmfignhnaaW.PrintMore
set_option linter.unusedVariables false
set_option linter.unusedSimpArgs false
attribute [local go_sem] cell_growBy Option.some_or
theorem run_eqVisit (x y : TVisit) (w : World) : (binOp .eql 57 (.agg #[.int .i64 x.Kind, .int .i64 x.Item]) (.agg #[.int .i64 y.Kind, .int .i64 y.Item])).run Try.prog w = .ok (.bool (eqVisit x y)) w := by
  simp only [binOp, Sem.run_bind, Sem.run_pure]
  rw [keyVisit.eqv x y w]
  rfl
/-- How often v stands among the first k. -/
def cntS (l : List TVisit) (v : TVisit) : Nat → Nat
  | 0 => 0
  | k + 1 => cntS l v k + (if eqVisit (rdVisit l k) v then 1 else 0)
theorem cntS_le (l : List TVisit) (v : TVisit) : ∀ k, cntS l v k ≤ k
  | 0 => Nat.le_refl _
  | k + 1 => by
    have := cntS_le l v k
    unfold cntS
    split <;> omega
set_option maxHeartbeats 8000000 in
set_option maxRecDepth 100000 in
theorem count_any (l : List TVisit) (A : Option Addr) (c n : Nat) (v : TVisit) (w : World) (hr : Kd.C kVisit w A l.length l) (hn : n ≤ l.length) (hl : l.length ≤ 4611686018427387904) :
    Calls Try.prog 133 #[.slice A l.length c, .int .i64 n, .agg #[.int .i64 v.Kind, .int .i64 v.Item]] w fun e w' => e = .returned (.int .i64 (cntS l v n)) ∧ Below w.heap.size w w' := by
  have HR := Aside0.mk hr
  clear hr
  have hq := fun (x : TVisit) (w : World) => run_eqVisit x v w
  go_enter Try.func133, Try.ntmps133
  go_wp2
  go_loopw [7, 8] (fun c i wr => ∃ k : Nat, k ≤ n ∧ i = .int .i64 k ∧ c = .int .i64 (cntS l v k) ∧ Aside0 (Below (w.heap.size + 1) (w.alloc (.cells #[.int .i64 v.Kind, .int .i64 v.Item] 57)) wr)) (fun _ i _ => n - (intOf i).toNat)
  case atStart => exact ⟨0, Nat.zero_le _, rfl, rfl, ⟨Below.refl _ _⟩⟩
  case round =>
    obtain ⟨k, hk, rfl, rfl, HW⟩ := hrel
    have HW' : Aside0 (Below (w.alloc (.cells #[.int .i64 v.Kind, .int .i64 v.Item] 57)).heap.size (w.alloc (.cells #[.int .i64 v.Kind, .int .i64 v.Item] 57)) wr) := ⟨by simpa using HW.out⟩
    have HB1 : Aside0 (Below w.heap.size w wr) := ⟨below_to (below_alloc (Below.refl _ _) _) HW'.out⟩
    obtain ⟨qc, qf⟩ := bcell HW'.out
    have zr : w.heap.size < wr.heap.size := by
      have := HW'.out.size
      simp at this
      omega
    by_cases hlt : k < n
    · obtain ⟨ad, ea, x0, x1⟩ := atNVisit (Kd.C_below HR.out HB1.out) k (by omega)
      subst ea
      have r0 : (0 : Int) ≤ (k : Int) := by omega
      have r1 : (k : Int) < (l.length : Int) := by omega
      have hq1 := hq l[k]
      have hc := cntS_le l v k
      cases he : eqVisit l[k] v
      · have en : cntS l v (k + 1) = cntS l v k := by simp [cntS, rdVisit_nat l k (by omega), he]
        rw [he] at hq1
        clear hq
        go_wp2
        go_quiet (fail)
        go_wp2
        go_roundw
        case rel => exact ⟨k + 1, by omega, by go_num, by rw [en], ⟨pw_below_drewN HW.out _⟩⟩
        case measure => simp [intOf]; omega
      · have en : cntS l v (k + 1) = cntS l v k + 1 := by simp [cntS, rdVisit_nat l k (by omega), he]
        rw [he] at hq1
        clear hq
        go_wp2
        go_quiet (fail)
        go_wp2
        go_roundw
        case rel => exact ⟨k + 1, by omega, by go_num, by rw [en]; go_num, ⟨pw_below_drewN HW.out _⟩⟩
        case measure => simp [intOf]; omega
    · obtain rfl : k = n := by omega
      go_wp2
      go_ret
      exact ⟨rfl, (by repeat (first | exact Below.refl _ _ | apply below_alloc | apply pw_below_drewN | apply below_drew1 | apply below_drew | (refine Below.setCell ?_ (by (try simp); (try omega)) _) | (refine below_to ?_ HB6.out) | (refine below_to ?_ HB5.out) | (refine below_to ?_ HB4.out) | (refine below_to ?_ HB3.out) | (refine below_to ?_ HB2.out) | (refine below_to ?_ HB1.out)))⟩
end Go.Proofs.Ytemjpgmfignhnaa
