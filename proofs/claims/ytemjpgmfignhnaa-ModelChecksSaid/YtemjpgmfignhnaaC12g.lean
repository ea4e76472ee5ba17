/- Contracts: is a stop a lawful one?
Conditions: lists no longer than memory allows. -/
import Derived.Test.YtemjpgmfignhnaaC12f
namespace Go.Proofs.Ytemjpgmfignhnaa
open Go.RowKit Go.Proofs.YtemjpgmfignhnaaW.PrintWords Go.Proofs.YtemjpgmfignhnaaW.PrintLast Go.Proofs.YtemjpgmfignhnaaW.PrintMore
set_option linter.unusedVariables false
set_option linter.unusedSimpArgs false
attribute [local go_sem] cell_growBy Option.some_or
def stopB (s : TStop) (n : Int) : Bool := upB s.Place (n - 1) && upB s.Service 1000000 && windowsB s.Windows
set_option maxHeartbeats 4000000 in
set_option maxRecDepth 100000 in
theorem refStopB_any (s : TStop) (A : Option Addr) (c : Nat) (n : Int) (w : World) (hr : Kd.C kWindow w A s.Windows.length s.Windows) (hn : s.Windows.length ≤ 4611686018427387904) (h0 : 1 ≤ n) (h1 : n ≤ 32) :
    Calls Try.prog 90 #[.agg #[.int .i64 s.Place, .int .i64 s.Service, .slice A s.Windows.length c], .int .i64 n] w fun e w' => e = .returned (.bool (stopB s n)) ∧ Below w.heap.size w w' := by
  obtain ⟨pl, sv, ws⟩ := s
  have HC := Aside0.mk (fun W (hb : Below w.heap.size w W) => windows_any ws A c W (Kd.C_below hr hb) hn)
  clear hr
  cases h1 : upB pl (n - 1)
  all_goals
    cases h2 : upB sv 1000000
    all_goals
      cases h3 : windowsB ws
      all_goals
        simp only [stopB, h1, h2, h3]
        have T1 := Aside0.mk h1
        have T2 := Aside0.mk h2
        have T3 := Aside0.mk h3
        have d : ((windowsS ws).2 == 0) = windowsB ws := by unfold windowsB; rfl
        rw [h3] at d
        clear h1 h2 h3
        go_enter Try.func90, Try.ntmps90
        go_wp2_with (first
          | (go_at_call 87; refine (up_any _ _ _).mono ?_; (first | rw [T1.out] | rw [T2.out]); rintro e w' ⟨rfl, rfl⟩)
          | (go_at_call 117; refine (HC.out _ (by repeat (first | exact Below.refl _ _ | apply below_alloc | apply pw_below_drewN | apply below_drew1 | apply below_drew | (refine Below.setCell ?_ (by (try simp); (try omega)) _) | (refine below_to ?_ HB6.out) | (refine below_to ?_ HB5.out) | (refine below_to ?_ HB4.out) | (refine below_to ?_ HB3.out) | (refine below_to ?_ HB2.out) | (refine below_to ?_ HB1.out)))).mono ?_; rw [T3.out]; rintro e w1 ⟨rfl, hb⟩; have HB1 := Aside0.mk hb; obtain ⟨qc1, qf1⟩ := bcell hb; have hs1 := hb.size; (try simp at hs1); (try have z01 : w.heap.size < w1.heap.size := (by omega)); (try have z11 : w.heap.size + 1 < w1.heap.size := (by omega)); (try have z21 : w.heap.size + 1 + 1 < w1.heap.size := (by omega)); (try have z31 : w.heap.size + 1 + 1 + 1 < w1.heap.size := (by omega)); (try have z41 : w.heap.size + 1 + 1 + 1 + 1 < w1.heap.size := (by omega)); clear hs1 hb; skip))
        go_ret
        exact ⟨rfl, (by repeat (first | exact Below.refl _ _ | apply below_alloc | apply pw_below_drewN | apply below_drew1 | apply below_drew | (refine Below.setCell ?_ (by (try simp); (try omega)) _) | (refine below_to ?_ HB6.out) | (refine below_to ?_ HB5.out) | (refine below_to ?_ HB4.out) | (refine below_to ?_ HB3.out) | (refine below_to ?_ HB2.out) | (refine below_to ?_ HB1.out)))⟩
set_option maxHeartbeats 4000000 in
set_option maxRecDepth 100000 in
theorem modStopB_any (s : TStop) (A : Option Addr) (c : Nat) (n : Int) (w : World) (hr : Kd.C kWindow w A s.Windows.length s.Windows) (hn : s.Windows.length ≤ 4611686018427387904) (h0 : 1 ≤ n) (h1 : n ≤ 32) :
    Calls Try.prog 84 #[.agg #[.int .i64 s.Place, .int .i64 s.Service, .slice A s.Windows.length c], .int .i64 n] w fun e w' => e = .returned (.bool (stopB s n)) ∧ Below w.heap.size w w' := by
  obtain ⟨pl, sv, ws⟩ := s
  have HC := Aside0.mk (fun W (hb : Below w.heap.size w W) => check_any ws A c W (Kd.C_below hr hb) hn)
  clear hr
  cases h1 : upB pl (n - 1)
  all_goals
    cases h2 : upB sv 1000000
    all_goals
      cases h3 : windowsB ws
      all_goals
        simp only [stopB, h1, h2, h3]
        have T1 := Aside0.mk h1
        have T2 := Aside0.mk h2
        have T3 := Aside0.mk h3
        have d : ((windowsS ws).2 == 0) = windowsB ws := by unfold windowsB; rfl
        rw [h3] at d
        clear h1 h2 h3
        go_enter Try.func84, Try.ntmps84
        go_wp2_with (first
          | (go_at_call 81; refine (in_any _ _ _).mono ?_; (first | rw [T1.out] | rw [T2.out]); rintro e w' ⟨rfl, rfl⟩)
          | (go_at_call 116; refine (HC.out _ (by repeat (first | exact Below.refl _ _ | apply below_alloc | apply pw_below_drewN | apply below_drew1 | apply below_drew | (refine Below.setCell ?_ (by (try simp); (try omega)) _) | (refine below_to ?_ HB6.out) | (refine below_to ?_ HB5.out) | (refine below_to ?_ HB4.out) | (refine below_to ?_ HB3.out) | (refine below_to ?_ HB2.out) | (refine below_to ?_ HB1.out)))).mono ?_; skip; rintro e w1 ⟨rfl, hb⟩; have HB1 := Aside0.mk hb; obtain ⟨qc1, qf1⟩ := bcell hb; have hs1 := hb.size; (try simp at hs1); (try have z01 : w.heap.size < w1.heap.size := (by omega)); (try have z11 : w.heap.size + 1 < w1.heap.size := (by omega)); (try have z21 : w.heap.size + 1 + 1 < w1.heap.size := (by omega)); (try have z31 : w.heap.size + 1 + 1 + 1 < w1.heap.size := (by omega)); (try have z41 : w.heap.size + 1 + 1 + 1 + 1 < w1.heap.size := (by omega)); clear hs1 hb; skip))
        go_ret
        exact ⟨rfl, (by repeat (first | exact Below.refl _ _ | apply below_alloc | apply pw_below_drewN | apply below_drew1 | apply below_drew | (refine Below.setCell ?_ (by (try simp); (try omega)) _) | (refine below_to ?_ HB6.out) | (refine below_to ?_ HB5.out) | (refine below_to ?_ HB4.out) | (refine below_to ?_ HB3.out) | (refine below_to ?_ HB2.out) | (refine below_to ?_ HB1.out)))⟩
end Go.Proofs.Ytemjpgmfignhnaa
