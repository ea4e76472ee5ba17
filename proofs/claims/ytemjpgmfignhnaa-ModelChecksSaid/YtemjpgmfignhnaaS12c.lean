/- Contract: the stable sort of at most twelve tasks.
Conditions: they lie in a row of the caller's own. -/
import Derived.Test.YtemjpgmfignhnaaS12b
namespace Go.Proofs.Ytemjpgmfignhnaa
open Go.RowKit Go.Proofs.YtemjpgmfignhnaaW.PrintWords Go.Proofs.YtemjpgmfignhnaaW.PrintLast Go.Proofs.YtemjpgmfignhnaaW.PrintMore
set_option linter.unusedVariables false
set_option linter.unusedSimpArgs false
attribute [local go_sem] cell_growBy Option.some_or
def SortPost (B : Nat) (w0 : World) (g : Nat) (fin : List TTask) (e : Ending) (w' : World) : Prop := e = .returned (.tuple #[]) ∧ Below B w0 w' ∧ B ≤ w'.heap.size ∧ TB w' g fin
set_option maxHeartbeats 8000000 in
set_option maxRecDepth 100000 in
theorem stable_any (B : Nat) (w0 : World) (pr : TTask → Int) (pa : Addr)
    (hcmp : ∀ W, Below B w0 W → ∀ x y : TTask, Calls Try.prog 93 #[taskVal x, taskVal y, .pointer (some pa)] W fun e w' => e = .returned (.int .i64 (pr y - pr x)) ∧ Below W.heap.size W w')
    (g cap : Nat) (hg : B ≤ g) (ts : List TTask) (w : World) (hw : Below B w0 w) (hB : B ≤ w.heap.size) (ht : TB w g ts) (hn : ts.length ≤ 12) :
    Calls Try.prog 118 #[.slice (some ⟨g, 0, none⟩) ts.length cap, .int .i64 ts.length, .func (.func 93) #[] #[.pointer (some pa)]] w (SortPost B w0 g (sortS pr ts)) := by
  have HC := Aside0.mk (isort_any B w0 pr pa hcmp g cap hg ts w hw hB ht (by omega))
  clear hcmp hw hB ht
  have d1 : decide ((20 : Int) ≤ (ts.length : Int)) = false := decide_eq_false (by omega)
  have d2 : decide ((20 : Int) < (ts.length : Int)) = false := decide_eq_false (by omega)
  go_enter Try.func118, Try.ntmps118
  go_wp2
  refine wp_loop_rounds 1 ?_
  rw [rounds_succ]
  go_wp2_with (go_at_call 131; refine HC.out.mono ?_; rintro e w1 ⟨rfl, h1, h2, ts', h3, h4⟩; subst h3)
  refine wp_loop_rounds 1 ?_
  rw [rounds_succ]
  go_wp2
  go_end0
  exact ⟨rfl, h1, h2, h4⟩
set_option maxHeartbeats 8000000 in
set_option maxRecDepth 100000 in
theorem sortStable_any (B : Nat) (w0 : World) (pr : TTask → Int) (pa : Addr)
    (hcmp : ∀ W, Below B w0 W → ∀ x y : TTask, Calls Try.prog 93 #[taskVal x, taskVal y, .pointer (some pa)] W fun e w' => e = .returned (.int .i64 (pr y - pr x)) ∧ Below W.heap.size W w')
    (g cap : Nat) (hg : B ≤ g) (ts : List TTask) (w : World) (hw : Below B w0 w) (hB : B ≤ w.heap.size) (ht : TB w g ts) (hn : ts.length ≤ 12) :
    Calls Try.prog 92 #[.slice (some ⟨g, 0, none⟩) ts.length cap, .func (.func 93) #[] #[.pointer (some pa)]] w (SortPost B w0 g (sortS pr ts)) := by
  have HC := Aside0.mk (stable_any B w0 pr pa hcmp g cap hg ts w hw hB ht hn)
  clear hcmp hw hB ht
  go_enter Try.func92, Try.ntmps92
  go_wp2_with (go_at_call 118; refine HC.out.mono ?_; rintro e w' ⟨rfl, h1, h2, h3⟩)
  go_end0
  exact ⟨rfl, h1, h2, h3⟩
end Go.Proofs.Ytemjpgmfignhnaa
