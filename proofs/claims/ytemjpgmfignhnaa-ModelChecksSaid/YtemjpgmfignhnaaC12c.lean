/- Contracts of the functions that tell a task's priority and skills.
Conditions: lists no longer than memory allows. -/
import Derived.Test.YtemjpgmfignhnaaC12
namespace Go.Proofs.Ytemjpgmfignhnaa
open Go.RowKit Go.Proofs.YtemjpgmfignhnaaW.PrintWords Go.Proofs.YtemjpgmfignhnaaW.PrintLast Go.Proofs.YtemjpgmfignhnaaW.PrintMore
set_option linter.unusedVariables false
set_option linter.unusedSimpArgs false
/-- A task's priority and skills. -/
def factsS (p : TProblem) (t : TTask) : Int × Int := if thereB p t = true then (if t.Ship = true then ((rdShipment p.Shipments t.Item).Priority, (rdShipment p.Shipments t.Item).Skills) else ((rdJob p.Jobs t.Item).Priority, (rdJob p.Jobs t.Item).Skills)) else (0, 0)
set_option maxHeartbeats 4000000 in
set_option maxRecDepth 100000 in
theorem refFacts_any (q : PV) (p : TProblem) (t : TTask) (w : World) (hl : Lens p) (hq : q.Ok p w) :
    Calls Try.prog 42 #[q.val p, .agg #[.bool t.Ship, .int .i64 t.Item]] w fun e w' => e = .returned (.tuple #[.int .i64 (factsS p t).1, .int .u64 (factsS p t).2]) ∧ Below w.heap.size w w' := by
  have HL := Aside0.mk hl
  have HQ := Aside0.mk hq
  clear hl hq
  obtain ⟨ship, item⟩ := t
  obtain ⟨a1, c1, a2, c2, a3, c3, a4, c4, a5, c5⟩ := q
  cases hth : thereB p ⟨ship, item⟩ with
  | false =>
    have T := Aside0.mk hth
    simp only [factsS, hth]
    clear hth
    unfold PV.val
    cases ship
    all_goals
      go_enter Try.func42, Try.ntmps42
      go_wp2_with (go_at_call 44; refine (refThere_any ⟨a1, c1, a2, c2, a3, c3, a4, c4, a5, c5⟩ p ⟨_, item⟩ _ HL.out).mono ?_; rw [T.out]; rintro e w1 ⟨rfl, hb⟩; have HB1 := Aside0.mk hb; obtain ⟨qc1, qf1⟩ := bcell hb; have hs1 := hb.size; (try simp at hs1); (try have z01 : w.heap.size < w1.heap.size := (by omega)); (try have z11 : w.heap.size + 1 < w1.heap.size := (by omega)); (try have z21 : w.heap.size + 1 + 1 < w1.heap.size := (by omega)); (try have z31 : w.heap.size + 1 + 1 + 1 < w1.heap.size := (by omega)); (try have z41 : w.heap.size + 1 + 1 + 1 + 1 < w1.heap.size := (by omega)); clear hs1 hb; skip)
      (first | go_ret2 | go_ret)
      exact ⟨rfl, (by repeat (first | exact Below.refl _ _ | apply below_alloc | apply pw_below_drewN | apply below_drew1 | apply below_drew | (refine Below.setCell ?_ (by (try simp); (try omega)) _) | (refine below_to ?_ HB6.out) | (refine below_to ?_ HB5.out) | (refine below_to ?_ HB4.out) | (refine below_to ?_ HB3.out) | (refine below_to ?_ HB2.out) | (refine below_to ?_ HB1.out)))⟩
  | true =>
    by_cases hs : ship = false
    · subst hs
      have hr : 0 ≤ item ∧ item < p.Jobs.length := by
        have := upB_true (show upB item ((p.Jobs.length : Int) - 1) = true from hth)
        omega
      obtain ⟨ad, A2, c2_, A3, c3_, A4, c4_, ea, -, -, -, -, -, y0, y1, -, -, -, -, -, -⟩ := atJob HQ.out.h4 item hr.1 hr.2
      have ea' : a4 = some ad := ea
      subst ea'
      have X0 := stays y0
      have X1 := stays y1
      have T := Aside0.mk hth
      have r1 := hr.1
      have r2 := hr.2
      have e : thereB p ⟨false, item⟩ = true := hth
      simp only [factsS, e, if_true]
      clear y0 y1 hr hth ea e
      unfold PV.val
      go_enter Try.func42, Try.ntmps42
      go_wp2_with (go_at_call 44; refine (refThere_any ⟨a1, c1, a2, c2, a3, c3, some ad, c4, a5, c5⟩ p ⟨false, item⟩ _ HL.out).mono ?_; rw [T.out]; rintro e w1 ⟨rfl, hb⟩; have HB1 := Aside0.mk hb; obtain ⟨qc1, qf1⟩ := bcell hb; have hs1 := hb.size; (try simp at hs1); (try have z01 : w.heap.size < w1.heap.size := (by omega)); (try have z11 : w.heap.size + 1 < w1.heap.size := (by omega)); (try have z21 : w.heap.size + 1 + 1 < w1.heap.size := (by omega)); (try have z31 : w.heap.size + 1 + 1 + 1 < w1.heap.size := (by omega)); (try have z41 : w.heap.size + 1 + 1 + 1 + 1 < w1.heap.size := (by omega)); clear hs1 hb; have g0 := X0.out w1 (by repeat (first | exact Below.refl _ _ | apply below_alloc | apply pw_below_drewN | apply below_drew1 | apply below_drew | (refine Below.setCell ?_ (by (try simp); (try omega)) _) | (refine below_to ?_ HB6.out) | (refine below_to ?_ HB5.out) | (refine below_to ?_ HB4.out) | (refine below_to ?_ HB3.out) | (refine below_to ?_ HB2.out) | (refine below_to ?_ HB1.out))); have g1 := X1.out w1 (by repeat (first | exact Below.refl _ _ | apply below_alloc | apply pw_below_drewN | apply below_drew1 | apply below_drew | (refine Below.setCell ?_ (by (try simp); (try omega)) _) | (refine below_to ?_ HB6.out) | (refine below_to ?_ HB5.out) | (refine below_to ?_ HB4.out) | (refine below_to ?_ HB3.out) | (refine below_to ?_ HB2.out) | (refine below_to ?_ HB1.out))))
      try (go_quiet (fail); go_wp2)
      (first | go_ret2 | go_ret)
      exact ⟨rfl, (by repeat (first | exact Below.refl _ _ | apply below_alloc | apply pw_below_drewN | apply below_drew1 | apply below_drew | (refine Below.setCell ?_ (by (try simp); (try omega)) _) | (refine below_to ?_ HB6.out) | (refine below_to ?_ HB5.out) | (refine below_to ?_ HB4.out) | (refine below_to ?_ HB3.out) | (refine below_to ?_ HB2.out) | (refine below_to ?_ HB1.out)))⟩
    by_cases hs : ship = true
    · subst hs
      have hr : 0 ≤ item ∧ item < p.Shipments.length := by
        have := upB_true (show upB item ((p.Shipments.length : Int) - 1) = true from hth)
        omega
      obtain ⟨ad, A2, c2_, A3, c3_, A4, c4_, ea, -, -, -, -, -, -, -, y0, y1, -, -, -, -, -, -⟩ := atShipment HQ.out.h5 item hr.1 hr.2
      have ea' : a5 = some ad := ea
      subst ea'
      have X0 := stays y0
      have X1 := stays y1
      have T := Aside0.mk hth
      have r1 := hr.1
      have r2 := hr.2
      have e : thereB p ⟨true, item⟩ = true := hth
      simp only [factsS, e, if_true]
      clear y0 y1 hr hth ea e
      unfold PV.val
      go_enter Try.func42, Try.ntmps42
      go_wp2_with (go_at_call 44; refine (refThere_any ⟨a1, c1, a2, c2, a3, c3, a4, c4, some ad, c5⟩ p ⟨true, item⟩ _ HL.out).mono ?_; rw [T.out]; rintro e w1 ⟨rfl, hb⟩; have HB1 := Aside0.mk hb; obtain ⟨qc1, qf1⟩ := bcell hb; have hs1 := hb.size; (try simp at hs1); (try have z01 : w.heap.size < w1.heap.size := (by omega)); (try have z11 : w.heap.size + 1 < w1.heap.size := (by omega)); (try have z21 : w.heap.size + 1 + 1 < w1.heap.size := (by omega)); (try have z31 : w.heap.size + 1 + 1 + 1 < w1.heap.size := (by omega)); (try have z41 : w.heap.size + 1 + 1 + 1 + 1 < w1.heap.size := (by omega)); clear hs1 hb; have g0 := X0.out w1 (by repeat (first | exact Below.refl _ _ | apply below_alloc | apply pw_below_drewN | apply below_drew1 | apply below_drew | (refine Below.setCell ?_ (by (try simp); (try omega)) _) | (refine below_to ?_ HB6.out) | (refine below_to ?_ HB5.out) | (refine below_to ?_ HB4.out) | (refine below_to ?_ HB3.out) | (refine below_to ?_ HB2.out) | (refine below_to ?_ HB1.out))); have g1 := X1.out w1 (by repeat (first | exact Below.refl _ _ | apply below_alloc | apply pw_below_drewN | apply below_drew1 | apply below_drew | (refine Below.setCell ?_ (by (try simp); (try omega)) _) | (refine below_to ?_ HB6.out) | (refine below_to ?_ HB5.out) | (refine below_to ?_ HB4.out) | (refine below_to ?_ HB3.out) | (refine below_to ?_ HB2.out) | (refine below_to ?_ HB1.out))))
      try (go_quiet (fail); go_wp2)
      (first | go_ret2 | go_ret)
      exact ⟨rfl, (by repeat (first | exact Below.refl _ _ | apply below_alloc | apply pw_below_drewN | apply below_drew1 | apply below_drew | (refine Below.setCell ?_ (by (try simp); (try omega)) _) | (refine below_to ?_ HB6.out) | (refine below_to ?_ HB5.out) | (refine below_to ?_ HB4.out) | (refine below_to ?_ HB3.out) | (refine below_to ?_ HB2.out) | (refine below_to ?_ HB1.out)))⟩
    cases ship <;> simp_all
set_option maxHeartbeats 4000000 in
set_option maxRecDepth 100000 in
theorem priority_any (q : PV) (p : TProblem) (t : TTask) (w : World) (hl : Lens p) (hq : q.Ok p w) :
    Calls Try.prog 32 #[q.val p, .agg #[.bool t.Ship, .int .i64 t.Item]] w fun e w' => e = .returned (.int .i64 (factsS p t).1) ∧ Below w.heap.size w w' := by
  have HL := Aside0.mk hl
  have HQ := Aside0.mk hq
  clear hl hq
  obtain ⟨ship, item⟩ := t
  obtain ⟨a1, c1, a2, c2, a3, c3, a4, c4, a5, c5⟩ := q
  cases hth : thereB p ⟨ship, item⟩ with
  | false =>
    have T := Aside0.mk hth
    simp only [factsS, hth]
    clear hth
    unfold PV.val
    cases ship
    all_goals
      go_enter Try.func32, Try.ntmps32
      go_wp2_with (go_at_call 33; refine (there_any ⟨a1, c1, a2, c2, a3, c3, a4, c4, a5, c5⟩ p ⟨_, item⟩ _ HL.out).mono ?_; rw [T.out]; rintro e w1 ⟨rfl, hb⟩; have HB1 := Aside0.mk hb; obtain ⟨qc1, qf1⟩ := bcell hb; have hs1 := hb.size; (try simp at hs1); (try have z01 : w.heap.size < w1.heap.size := (by omega)); (try have z11 : w.heap.size + 1 < w1.heap.size := (by omega)); (try have z21 : w.heap.size + 1 + 1 < w1.heap.size := (by omega)); (try have z31 : w.heap.size + 1 + 1 + 1 < w1.heap.size := (by omega)); (try have z41 : w.heap.size + 1 + 1 + 1 + 1 < w1.heap.size := (by omega)); clear hs1 hb; skip)
      (first | go_ret2 | go_ret)
      exact ⟨rfl, (by repeat (first | exact Below.refl _ _ | apply below_alloc | apply pw_below_drewN | apply below_drew1 | apply below_drew | (refine Below.setCell ?_ (by (try simp); (try omega)) _) | (refine below_to ?_ HB6.out) | (refine below_to ?_ HB5.out) | (refine below_to ?_ HB4.out) | (refine below_to ?_ HB3.out) | (refine below_to ?_ HB2.out) | (refine below_to ?_ HB1.out)))⟩
  | true =>
    by_cases hs : ship = false
    · subst hs
      have hr : 0 ≤ item ∧ item < p.Jobs.length := by
        have := upB_true (show upB item ((p.Jobs.length : Int) - 1) = true from hth)
        omega
      obtain ⟨ad, A2, c2_, A3, c3_, A4, c4_, ea, -, -, -, -, -, y0, y1, -, -, -, -, -, -⟩ := atJob HQ.out.h4 item hr.1 hr.2
      have ea' : a4 = some ad := ea
      subst ea'
      have X0 := stays y0
      have X1 := stays y1
      have T := Aside0.mk hth
      have r1 := hr.1
      have r2 := hr.2
      have e : thereB p ⟨false, item⟩ = true := hth
      simp only [factsS, e, if_true]
      clear y0 y1 hr hth ea e
      unfold PV.val
      go_enter Try.func32, Try.ntmps32
      go_wp2_with (go_at_call 33; refine (there_any ⟨a1, c1, a2, c2, a3, c3, some ad, c4, a5, c5⟩ p ⟨false, item⟩ _ HL.out).mono ?_; rw [T.out]; rintro e w1 ⟨rfl, hb⟩; have HB1 := Aside0.mk hb; obtain ⟨qc1, qf1⟩ := bcell hb; have hs1 := hb.size; (try simp at hs1); (try have z01 : w.heap.size < w1.heap.size := (by omega)); (try have z11 : w.heap.size + 1 < w1.heap.size := (by omega)); (try have z21 : w.heap.size + 1 + 1 < w1.heap.size := (by omega)); (try have z31 : w.heap.size + 1 + 1 + 1 < w1.heap.size := (by omega)); (try have z41 : w.heap.size + 1 + 1 + 1 + 1 < w1.heap.size := (by omega)); clear hs1 hb; have g0 := X0.out w1 (by repeat (first | exact Below.refl _ _ | apply below_alloc | apply pw_below_drewN | apply below_drew1 | apply below_drew | (refine Below.setCell ?_ (by (try simp); (try omega)) _) | (refine below_to ?_ HB6.out) | (refine below_to ?_ HB5.out) | (refine below_to ?_ HB4.out) | (refine below_to ?_ HB3.out) | (refine below_to ?_ HB2.out) | (refine below_to ?_ HB1.out))); have g1 := X1.out w1 (by repeat (first | exact Below.refl _ _ | apply below_alloc | apply pw_below_drewN | apply below_drew1 | apply below_drew | (refine Below.setCell ?_ (by (try simp); (try omega)) _) | (refine below_to ?_ HB6.out) | (refine below_to ?_ HB5.out) | (refine below_to ?_ HB4.out) | (refine below_to ?_ HB3.out) | (refine below_to ?_ HB2.out) | (refine below_to ?_ HB1.out))))
      try (go_quiet (fail); go_wp2)
      (first | go_ret2 | go_ret)
      exact ⟨rfl, (by repeat (first | exact Below.refl _ _ | apply below_alloc | apply pw_below_drewN | apply below_drew1 | apply below_drew | (refine Below.setCell ?_ (by (try simp); (try omega)) _) | (refine below_to ?_ HB6.out) | (refine below_to ?_ HB5.out) | (refine below_to ?_ HB4.out) | (refine below_to ?_ HB3.out) | (refine below_to ?_ HB2.out) | (refine below_to ?_ HB1.out)))⟩
    by_cases hs : ship = true
    · subst hs
      have hr : 0 ≤ item ∧ item < p.Shipments.length := by
        have := upB_true (show upB item ((p.Shipments.length : Int) - 1) = true from hth)
        omega
      obtain ⟨ad, A2, c2_, A3, c3_, A4, c4_, ea, -, -, -, -, -, -, -, y0, y1, -, -, -, -, -, -⟩ := atShipment HQ.out.h5 item hr.1 hr.2
      have ea' : a5 = some ad := ea
      subst ea'
      have X0 := stays y0
      have X1 := stays y1
      have T := Aside0.mk hth
      have r1 := hr.1
      have r2 := hr.2
      have e : thereB p ⟨true, item⟩ = true := hth
      simp only [factsS, e, if_true]
      clear y0 y1 hr hth ea e
      unfold PV.val
      go_enter Try.func32, Try.ntmps32
      go_wp2_with (go_at_call 33; refine (there_any ⟨a1, c1, a2, c2, a3, c3, a4, c4, some ad, c5⟩ p ⟨true, item⟩ _ HL.out).mono ?_; rw [T.out]; rintro e w1 ⟨rfl, hb⟩; have HB1 := Aside0.mk hb; obtain ⟨qc1, qf1⟩ := bcell hb; have hs1 := hb.size; (try simp at hs1); (try have z01 : w.heap.size < w1.heap.size := (by omega)); (try have z11 : w.heap.size + 1 < w1.heap.size := (by omega)); (try have z21 : w.heap.size + 1 + 1 < w1.heap.size := (by omega)); (try have z31 : w.heap.size + 1 + 1 + 1 < w1.heap.size := (by omega)); (try have z41 : w.heap.size + 1 + 1 + 1 + 1 < w1.heap.size := (by omega)); clear hs1 hb; have g0 := X0.out w1 (by repeat (first | exact Below.refl _ _ | apply below_alloc | apply pw_below_drewN | apply below_drew1 | apply below_drew | (refine Below.setCell ?_ (by (try simp); (try omega)) _) | (refine below_to ?_ HB6.out) | (refine below_to ?_ HB5.out) | (refine below_to ?_ HB4.out) | (refine below_to ?_ HB3.out) | (refine below_to ?_ HB2.out) | (refine below_to ?_ HB1.out))); have g1 := X1.out w1 (by repeat (first | exact Below.refl _ _ | apply below_alloc | apply pw_below_drewN | apply below_drew1 | apply below_drew | (refine Below.setCell ?_ (by (try simp); (try omega)) _) | (refine below_to ?_ HB6.out) | (refine below_to ?_ HB5.out) | (refine below_to ?_ HB4.out) | (refine below_to ?_ HB3.out) | (refine below_to ?_ HB2.out) | (refine below_to ?_ HB1.out))))
      try (go_quiet (fail); go_wp2)
      (first | go_ret2 | go_ret)
      exact ⟨rfl, (by repeat (first | exact Below.refl _ _ | apply below_alloc | apply pw_below_drewN | apply below_drew1 | apply below_drew | (refine Below.setCell ?_ (by (try simp); (try omega)) _) | (refine below_to ?_ HB6.out) | (refine below_to ?_ HB5.out) | (refine below_to ?_ HB4.out) | (refine below_to ?_ HB3.out) | (refine below_to ?_ HB2.out) | (refine below_to ?_ HB1.out)))⟩
    cases ship <;> simp_all
set_option maxHeartbeats 4000000 in
set_option maxRecDepth 100000 in
theorem skills_any (q : PV) (p : TProblem) (t : TTask) (w : World) (hl : Lens p) (hq : q.Ok p w) :
    Calls Try.prog 45 #[q.val p, .agg #[.bool t.Ship, .int .i64 t.Item]] w fun e w' => e = .returned (.int .u64 (factsS p t).2) ∧ Below w.heap.size w w' := by
  have HL := Aside0.mk hl
  have HQ := Aside0.mk hq
  clear hl hq
  obtain ⟨ship, item⟩ := t
  obtain ⟨a1, c1, a2, c2, a3, c3, a4, c4, a5, c5⟩ := q
  cases hth : thereB p ⟨ship, item⟩ with
  | false =>
    have T := Aside0.mk hth
    simp only [factsS, hth]
    clear hth
    unfold PV.val
    cases ship
    all_goals
      go_enter Try.func45, Try.ntmps45
      go_wp2_with (go_at_call 33; refine (there_any ⟨a1, c1, a2, c2, a3, c3, a4, c4, a5, c5⟩ p ⟨_, item⟩ _ HL.out).mono ?_; rw [T.out]; rintro e w1 ⟨rfl, hb⟩; have HB1 := Aside0.mk hb; obtain ⟨qc1, qf1⟩ := bcell hb; have hs1 := hb.size; (try simp at hs1); (try have z01 : w.heap.size < w1.heap.size := (by omega)); (try have z11 : w.heap.size + 1 < w1.heap.size := (by omega)); (try have z21 : w.heap.size + 1 + 1 < w1.heap.size := (by omega)); (try have z31 : w.heap.size + 1 + 1 + 1 < w1.heap.size := (by omega)); (try have z41 : w.heap.size + 1 + 1 + 1 + 1 < w1.heap.size := (by omega)); clear hs1 hb; skip)
      (first | go_ret2 | go_ret)
      exact ⟨rfl, (by repeat (first | exact Below.refl _ _ | apply below_alloc | apply pw_below_drewN | apply below_drew1 | apply below_drew | (refine Below.setCell ?_ (by (try simp); (try omega)) _) | (refine below_to ?_ HB6.out) | (refine below_to ?_ HB5.out) | (refine below_to ?_ HB4.out) | (refine below_to ?_ HB3.out) | (refine below_to ?_ HB2.out) | (refine below_to ?_ HB1.out)))⟩
  | true =>
    by_cases hs : ship = false
    · subst hs
      have hr : 0 ≤ item ∧ item < p.Jobs.length := by
        have := upB_true (show upB item ((p.Jobs.length : Int) - 1) = true from hth)
        omega
      obtain ⟨ad, A2, c2_, A3, c3_, A4, c4_, ea, -, -, -, -, -, y0, y1, -, -, -, -, -, -⟩ := atJob HQ.out.h4 item hr.1 hr.2
      have ea' : a4 = some ad := ea
      subst ea'
      have X0 := stays y0
      have X1 := stays y1
      have T := Aside0.mk hth
      have r1 := hr.1
      have r2 := hr.2
      have e : thereB p ⟨false, item⟩ = true := hth
      simp only [factsS, e, if_true]
      clear y0 y1 hr hth ea e
      unfold PV.val
      go_enter Try.func45, Try.ntmps45
      go_wp2_with (go_at_call 33; refine (there_any ⟨a1, c1, a2, c2, a3, c3, some ad, c4, a5, c5⟩ p ⟨false, item⟩ _ HL.out).mono ?_; rw [T.out]; rintro e w1 ⟨rfl, hb⟩; have HB1 := Aside0.mk hb; obtain ⟨qc1, qf1⟩ := bcell hb; have hs1 := hb.size; (try simp at hs1); (try have z01 : w.heap.size < w1.heap.size := (by omega)); (try have z11 : w.heap.size + 1 < w1.heap.size := (by omega)); (try have z21 : w.heap.size + 1 + 1 < w1.heap.size := (by omega)); (try have z31 : w.heap.size + 1 + 1 + 1 < w1.heap.size := (by omega)); (try have z41 : w.heap.size + 1 + 1 + 1 + 1 < w1.heap.size := (by omega)); clear hs1 hb; have g0 := X0.out w1 (by repeat (first | exact Below.refl _ _ | apply below_alloc | apply pw_below_drewN | apply below_drew1 | apply below_drew | (refine Below.setCell ?_ (by (try simp); (try omega)) _) | (refine below_to ?_ HB6.out) | (refine below_to ?_ HB5.out) | (refine below_to ?_ HB4.out) | (refine below_to ?_ HB3.out) | (refine below_to ?_ HB2.out) | (refine below_to ?_ HB1.out))); have g1 := X1.out w1 (by repeat (first | exact Below.refl _ _ | apply below_alloc | apply pw_below_drewN | apply below_drew1 | apply below_drew | (refine Below.setCell ?_ (by (try simp); (try omega)) _) | (refine below_to ?_ HB6.out) | (refine below_to ?_ HB5.out) | (refine below_to ?_ HB4.out) | (refine below_to ?_ HB3.out) | (refine below_to ?_ HB2.out) | (refine below_to ?_ HB1.out))))
      try (go_quiet (fail); go_wp2)
      (first | go_ret2 | go_ret)
      exact ⟨rfl, (by repeat (first | exact Below.refl _ _ | apply below_alloc | apply pw_below_drewN | apply below_drew1 | apply below_drew | (refine Below.setCell ?_ (by (try simp); (try omega)) _) | (refine below_to ?_ HB6.out) | (refine below_to ?_ HB5.out) | (refine below_to ?_ HB4.out) | (refine below_to ?_ HB3.out) | (refine below_to ?_ HB2.out) | (refine below_to ?_ HB1.out)))⟩
    by_cases hs : ship = true
    · subst hs
      have hr : 0 ≤ item ∧ item < p.Shipments.length := by
        have := upB_true (show upB item ((p.Shipments.length : Int) - 1) = true from hth)
        omega
      obtain ⟨ad, A2, c2_, A3, c3_, A4, c4_, ea, -, -, -, -, -, -, -, y0, y1, -, -, -, -, -, -⟩ := atShipment HQ.out.h5 item hr.1 hr.2
      have ea' : a5 = some ad := ea
      subst ea'
      have X0 := stays y0
      have X1 := stays y1
      have T := Aside0.mk hth
      have r1 := hr.1
      have r2 := hr.2
      have e : thereB p ⟨true, item⟩ = true := hth
      simp only [factsS, e, if_true]
      clear y0 y1 hr hth ea e
      unfold PV.val
      go_enter Try.func45, Try.ntmps45
      go_wp2_with (go_at_call 33; refine (there_any ⟨a1, c1, a2, c2, a3, c3, a4, c4, some ad, c5⟩ p ⟨true, item⟩ _ HL.out).mono ?_; rw [T.out]; rintro e w1 ⟨rfl, hb⟩; have HB1 := Aside0.mk hb; obtain ⟨qc1, qf1⟩ := bcell hb; have hs1 := hb.size; (try simp at hs1); (try have z01 : w.heap.size < w1.heap.size := (by omega)); (try have z11 : w.heap.size + 1 < w1.heap.size := (by omega)); (try have z21 : w.heap.size + 1 + 1 < w1.heap.size := (by omega)); (try have z31 : w.heap.size + 1 + 1 + 1 < w1.heap.size := (by omega)); (try have z41 : w.heap.size + 1 + 1 + 1 + 1 < w1.heap.size := (by omega)); clear hs1 hb; have g0 := X0.out w1 (by repeat (first | exact Below.refl _ _ | apply below_alloc | apply pw_below_drewN | apply below_drew1 | apply below_drew | (refine Below.setCell ?_ (by (try simp); (try omega)) _) | (refine below_to ?_ HB6.out) | (refine below_to ?_ HB5.out) | (refine below_to ?_ HB4.out) | (refine below_to ?_ HB3.out) | (refine below_to ?_ HB2.out) | (refine below_to ?_ HB1.out))); have g1 := X1.out w1 (by repeat (first | exact Below.refl _ _ | apply below_alloc | apply pw_below_drewN | apply below_drew1 | apply below_drew | (refine Below.setCell ?_ (by (try simp); (try omega)) _) | (refine below_to ?_ HB6.out) | (refine below_to ?_ HB5.out) | (refine below_to ?_ HB4.out) | (refine below_to ?_ HB3.out) | (refine below_to ?_ HB2.out) | (refine below_to ?_ HB1.out))))
      try (go_quiet (fail); go_wp2)
      (first | go_ret2 | go_ret)
      exact ⟨rfl, (by repeat (first | exact Below.refl _ _ | apply below_alloc | apply pw_below_drewN | apply below_drew1 | apply below_drew | (refine Below.setCell ?_ (by (try simp); (try omega)) _) | (refine below_to ?_ HB6.out) | (refine below_to ?_ HB5.out) | (refine below_to ?_ HB4.out) | (refine below_to ?_ HB3.out) | (refine below_to ?_ HB2.out) | (refine below_to ?_ HB1.out)))⟩
    cases ship <;> simp_all
end Go.Proofs.Ytemjpgmfignhnaa
