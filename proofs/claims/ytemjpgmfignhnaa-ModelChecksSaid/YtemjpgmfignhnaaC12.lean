/- Short contracts, walked directly, of the functions about tasks and stops of a problem: the document's and the program's.
Conditions: lists no longer than memory allows. -/
import Derived.Test.YtemjpgmfignhnaaKit
namespace Go.Proofs.Ytemjpgmfignhnaa
open Go.RowKit Go.Proofs.YtemjpgmfignhnaaW.PrintWords Go.Proofs.YtemjpgmfignhnaaW.PrintLast Go.Proofs.YtemjpgmfignhnaaW.PrintMore
set_option linter.unusedVariables false
set_option linter.unusedSimpArgs false
attribute [local go_sem] cell_growBy Option.some_or
def upB (x most : Int) : Bool := decide (0 ≤ x) && decide (x ≤ most)
theorem upB_true {x most : Int} (h : upB x most = true) : 0 ≤ x ∧ x ≤ most := by simpa [upB] using h
theorem upB_mk {x most : Int} (h : 0 ≤ x) (h' : x ≤ most) : upB x most = true := by simp [upB, h, h']
set_option maxRecDepth 100000 in
theorem up_any (x most : Int) (w : World) : Calls Try.prog 87 #[.int .i64 x, .int .i64 most] w fun e w' => e = .returned (.bool (upB x most)) ∧ w = w' := by
  unfold upB
  by_cases h : 0 ≤ x
  all_goals
    go_enter Try.func87, Try.ntmps87
    go_wp2
    all_goals
      go_ret
      exact ⟨by simp [*]; try omega, rfl⟩
set_option maxRecDepth 100000 in
theorem in_any (x most : Int) (w : World) : Calls Try.prog 81 #[.int .i64 x, .int .i64 most] w fun e w' => e = .returned (.bool (upB x most)) ∧ w = w' := by
  unfold upB
  by_cases h : 0 ≤ x
  all_goals
    go_enter Try.func81, Try.ntmps81
    go_wp2
    all_goals
      go_ret
      exact ⟨by simp [*]; try omega, rfl⟩
/-- There is such a task. -/
def thereB (p : TProblem) (t : TTask) : Bool := if t.Ship = true then upB t.Item ((p.Shipments.length : Int) - 1) else upB t.Item ((p.Jobs.length : Int) - 1)
set_option maxRecDepth 100000 in
theorem refThere_any (q : PV) (p : TProblem) (t : TTask) (w : World) (hl : Lens p) :
    Calls Try.prog 44 #[q.val p, .agg #[.bool t.Ship, .int .i64 t.Item]] w fun e w' => e = .returned (.bool (thereB p t)) ∧ Below w.heap.size w w' := by
  have ej : IntKind.i64.wrap ((p.Jobs.length : Int) - 1) = (p.Jobs.length : Int) - 1 := IntWalk.i64_in _ (by have := hl.n4; omega)
  have es : IntKind.i64.wrap ((p.Shipments.length : Int) - 1) = (p.Shipments.length : Int) - 1 := IntWalk.i64_in _ (by have := hl.n5; omega)
  obtain ⟨ship, item⟩ := t
  unfold PV.val
  cases ship
  all_goals
    go_enter Try.func44, Try.ntmps44
    go_wp2_with (go_at_call 87; refine (up_any _ _ _).mono ?_; rintro e w' ⟨rfl, rfl⟩)
    go_ret
    exact ⟨by simp [thereB], (by repeat (first | exact Below.refl _ _ | apply below_alloc | apply pw_below_drewN | apply below_drew1 | apply below_drew | (refine Below.setCell ?_ (by (try simp); (try omega)) _) | (refine below_to ?_ HB6.out) | (refine below_to ?_ HB5.out) | (refine below_to ?_ HB4.out) | (refine below_to ?_ HB3.out) | (refine below_to ?_ HB2.out) | (refine below_to ?_ HB1.out)))⟩
set_option maxRecDepth 100000 in
theorem there_any (q : PV) (p : TProblem) (t : TTask) (w : World) (hl : Lens p) :
    Calls Try.prog 33 #[q.val p, .agg #[.bool t.Ship, .int .i64 t.Item]] w fun e w' => e = .returned (.bool (thereB p t)) ∧ Below w.heap.size w w' := by
  obtain ⟨ship, item⟩ := t
  unfold PV.val
  by_cases h : 0 ≤ item
  all_goals
    cases ship
    all_goals
      go_enter Try.func33, Try.ntmps33
      go_wp2
      all_goals
        try go_quiet (fail)
        go_wp2
        go_ret
        exact ⟨by simp [thereB, upB, *]; try omega, (by repeat (first | exact Below.refl _ _ | apply below_alloc | apply pw_below_drewN | apply below_drew1 | apply below_drew | (refine Below.setCell ?_ (by (try simp); (try omega)) _) | (refine below_to ?_ HB6.out) | (refine below_to ?_ HB5.out) | (refine below_to ?_ HB4.out) | (refine below_to ?_ HB3.out) | (refine below_to ?_ HB2.out) | (refine below_to ?_ HB1.out)))⟩
/-- The task of a visit. -/
def taskOf (v : TVisit) : TTask × Bool := if v.Kind = 1 then (⟨false, v.Item⟩, true) else if v.Kind = 2 ∨ v.Kind = 3 then (⟨true, v.Item⟩, true) else (⟨false, 0⟩, false)
set_option maxRecDepth 100000 in
theorem refOf_any (v : TVisit) (w : World) : Calls Try.prog 43 #[.agg #[.int .i64 v.Kind, .int .i64 v.Item]] w fun e w' => e = .returned (.tuple #[.agg #[.bool (taskOf v).1.Ship, .int .i64 (taskOf v).1.Item], .bool (taskOf v).2]) ∧ Below w.heap.size w w' := by
  obtain ⟨k, item⟩ := v
  by_cases h1 : k = 1
  · subst h1
    go_enter Try.func43, Try.ntmps43
    go_wp2
    exact bodyPost_ret (v := .tuple #[.agg #[.bool false, .int .i64 item], .bool true]) (by simp [results, Try.results43, go_sem]) rfl ⟨rfl, (by repeat (first | exact Below.refl _ _ | apply below_alloc | apply pw_below_drewN | apply below_drew1 | apply below_drew | (refine Below.setCell ?_ (by (try simp); (try omega)) _) | (refine below_to ?_ HB6.out) | (refine below_to ?_ HB5.out) | (refine below_to ?_ HB4.out) | (refine below_to ?_ HB3.out) | (refine below_to ?_ HB2.out) | (refine below_to ?_ HB1.out)))⟩
  by_cases h2 : k = 2
  · subst h2
    go_enter Try.func43, Try.ntmps43
    go_wp2
    exact bodyPost_ret (v := .tuple #[.agg #[.bool true, .int .i64 item], .bool true]) (by simp [results, Try.results43, go_sem]) rfl ⟨rfl, (by repeat (first | exact Below.refl _ _ | apply below_alloc | apply pw_below_drewN | apply below_drew1 | apply below_drew | (refine Below.setCell ?_ (by (try simp); (try omega)) _) | (refine below_to ?_ HB6.out) | (refine below_to ?_ HB5.out) | (refine below_to ?_ HB4.out) | (refine below_to ?_ HB3.out) | (refine below_to ?_ HB2.out) | (refine below_to ?_ HB1.out)))⟩
  by_cases h3 : k = 3
  · subst h3
    go_enter Try.func43, Try.ntmps43
    go_wp2
    exact bodyPost_ret (v := .tuple #[.agg #[.bool true, .int .i64 item], .bool true]) (by simp [results, Try.results43, go_sem]) rfl ⟨rfl, (by repeat (first | exact Below.refl _ _ | apply below_alloc | apply pw_below_drewN | apply below_drew1 | apply below_drew | (refine Below.setCell ?_ (by (try simp); (try omega)) _) | (refine below_to ?_ HB6.out) | (refine below_to ?_ HB5.out) | (refine below_to ?_ HB4.out) | (refine below_to ?_ HB3.out) | (refine below_to ?_ HB2.out) | (refine below_to ?_ HB1.out)))⟩
  have e : taskOf ⟨k, item⟩ = (⟨false, 0⟩, false) := by simp [taskOf, h1, h2, h3]
  have d1 : (k == 1) = false := beq_eq_false_iff_ne.mpr h1
  have d2 : (k == 2) = false := beq_eq_false_iff_ne.mpr h2
  have d3 : (k == 3) = false := beq_eq_false_iff_ne.mpr h3
  rw [e]
  clear h1 h2 h3 e
  go_enter Try.func43, Try.ntmps43
  go_wp2
  exact bodyPost_ret (v := .tuple #[.agg #[.bool false, .int .i64 0], .bool false]) (by simp [results, Try.results43, go_sem]) rfl ⟨rfl, (by repeat (first | exact Below.refl _ _ | apply below_alloc | apply pw_below_drewN | apply below_drew1 | apply below_drew | (refine Below.setCell ?_ (by (try simp); (try omega)) _) | (refine below_to ?_ HB6.out) | (refine below_to ?_ HB5.out) | (refine below_to ?_ HB4.out) | (refine below_to ?_ HB3.out) | (refine below_to ?_ HB2.out) | (refine below_to ?_ HB1.out)))⟩
set_option maxRecDepth 100000 in
theorem of_any (v : TVisit) (w : World) : Calls Try.prog 41 #[.agg #[.int .i64 v.Kind, .int .i64 v.Item]] w fun e w' => e = .returned (.tuple #[.agg #[.bool (taskOf v).1.Ship, .int .i64 (taskOf v).1.Item], .bool (taskOf v).2]) ∧ Below w.heap.size w w' := by
  obtain ⟨k, item⟩ := v
  by_cases h1 : k = 1
  · subst h1
    go_enter Try.func41, Try.ntmps41
    go_wp2
    exact bodyPost_ret (v := .tuple #[.agg #[.bool false, .int .i64 item], .bool true]) (by simp [results, Try.results41, go_sem]) rfl ⟨rfl, (by repeat (first | exact Below.refl _ _ | apply below_alloc | apply pw_below_drewN | apply below_drew1 | apply below_drew | (refine Below.setCell ?_ (by (try simp); (try omega)) _) | (refine below_to ?_ HB6.out) | (refine below_to ?_ HB5.out) | (refine below_to ?_ HB4.out) | (refine below_to ?_ HB3.out) | (refine below_to ?_ HB2.out) | (refine below_to ?_ HB1.out)))⟩
  by_cases h2 : k = 2
  · subst h2
    go_enter Try.func41, Try.ntmps41
    go_wp2
    exact bodyPost_ret (v := .tuple #[.agg #[.bool true, .int .i64 item], .bool true]) (by simp [results, Try.results41, go_sem]) rfl ⟨rfl, (by repeat (first | exact Below.refl _ _ | apply below_alloc | apply pw_below_drewN | apply below_drew1 | apply below_drew | (refine Below.setCell ?_ (by (try simp); (try omega)) _) | (refine below_to ?_ HB6.out) | (refine below_to ?_ HB5.out) | (refine below_to ?_ HB4.out) | (refine below_to ?_ HB3.out) | (refine below_to ?_ HB2.out) | (refine below_to ?_ HB1.out)))⟩
  by_cases h3 : k = 3
  · subst h3
    go_enter Try.func41, Try.ntmps41
    go_wp2
    exact bodyPost_ret (v := .tuple #[.agg #[.bool true, .int .i64 item], .bool true]) (by simp [results, Try.results41, go_sem]) rfl ⟨rfl, (by repeat (first | exact Below.refl _ _ | apply below_alloc | apply pw_below_drewN | apply below_drew1 | apply below_drew | (refine Below.setCell ?_ (by (try simp); (try omega)) _) | (refine below_to ?_ HB6.out) | (refine below_to ?_ HB5.out) | (refine below_to ?_ HB4.out) | (refine below_to ?_ HB3.out) | (refine below_to ?_ HB2.out) | (refine below_to ?_ HB1.out)))⟩
  have e : taskOf ⟨k, item⟩ = (⟨false, 0⟩, false) := by simp [taskOf, h1, h2, h3]
  have d1 : (k == 1) = false := beq_eq_false_iff_ne.mpr h1
  have d2 : (k == 2) = false := beq_eq_false_iff_ne.mpr h2
  have d3 : (k == 3) = false := beq_eq_false_iff_ne.mpr h3
  rw [e]
  clear h1 h2 h3 e
  go_enter Try.func41, Try.ntmps41
  go_wp2
  exact bodyPost_ret (v := .tuple #[.agg #[.bool false, .int .i64 0], .bool false]) (by simp [results, Try.results41, go_sem]) rfl ⟨rfl, (by repeat (first | exact Below.refl _ _ | apply below_alloc | apply pw_below_drewN | apply below_drew1 | apply below_drew | (refine Below.setCell ?_ (by (try simp); (try omega)) _) | (refine below_to ?_ HB6.out) | (refine below_to ?_ HB5.out) | (refine below_to ?_ HB4.out) | (refine below_to ?_ HB3.out) | (refine below_to ?_ HB2.out) | (refine below_to ?_ HB1.out)))⟩
end Go.Proofs.Ytemjpgmfignhnaa
