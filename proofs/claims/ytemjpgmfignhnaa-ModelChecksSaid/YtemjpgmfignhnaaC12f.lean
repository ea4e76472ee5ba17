/- Contracts: the program's own look at a matrix; amounts, skills and windows of a stop.
Conditions: lists no longer than memory allows. -/
import Derived.Test.YtemjpgmfignhnaaC12e
import Derived.Test.YtemjpgmfignhnaaC09
namespace Go.Proofs.Ytemjpgmfignhnaa
open Go.RowKit Go.Proofs.YtemjpgmfignhnaaW.PrintWords Go.Proofs.YtemjpgmfignhnaaW.PrintLast Go.Proofs.YtemjpgmfignhnaaW.PrintMore
set_option linter.unusedVariables false
set_option linter.unusedSimpArgs false
attribute [local go_sem] cell_growBy Option.some_or
set_option maxHeartbeats 4000000 in
set_option maxRecDepth 100000 in
theorem matrix_any (m : TMatrix) (A : Option Addr) (c : Nat) (n : Int) (w : World) (h0 : 1 ≤ n) (h1 : n ≤ 32) (hl : m.Cells.length ≤ 4611686018427387904) (hr : Kd.C (Kd.int .i64) w A m.Cells.length m.Cells) :
    Calls Try.prog 82 #[.agg #[.int .i64 m.N, .slice A m.Cells.length c], .int .i64 n] w fun e w' => e = .returned (.bool (matrixB m n)) ∧ Below w.heap.size w w' := by
  obtain ⟨N, cells⟩ := m
  have hn : 0 ≤ n * n := Int.mul_nonneg (by omega) (by omega)
  have hn2 : n * n ≤ 1024 := by
    have := Int.mul_le_mul h1 h1 (by omega) (by omega)
    omega
  by_cases e1 : N = n
  · subst e1
    by_cases e2 : (cells.length : Int) = N * N
    · have d1 : (N == N) = true := by simp
      have d2 : ((cells.length : Int) != N * N) = false := by rw [e2]; simp
      have E2 := Aside0.mk e2
      clear e2
      have es : matrixB ⟨N, cells⟩ N = cellsOk N 0 cells := by simp [matrixB, E2.out]
      rw [es]
      generalize hq : cellsOk N 0 cells = r
      have HQ : Aside0 (cellsOk N 0 (cells.drop 0) = r) := ⟨by simpa using hq⟩
      have HR := Aside0.mk hr
      clear es hq hr
      go_enter Try.func82, Try.ntmps82
      go_wp2
      go_loop [23] (fun v => ∃ t : Nat, t ≤ cells.length ∧ v = .int .i64 t ∧ Aside0 (cellsOk N t (cells.drop t) = r)) (fun v => cells.length - (intOf v).toNat)
      case atStart => exact ⟨0, Nat.zero_le _, rfl, HQ⟩
      case round =>
        clear HQ
        obtain ⟨t, ht, rfl, HS⟩ := hrel
        by_cases hlt : t < cells.length
        · obtain ⟨ad, ea, x0⟩ := Kd.at_int HR.out (t : Int) (by omega) (by omega)
          simp only [Int.toNat_natCast] at x0
          have g0 := fun o => alloc_cell x0 o
          subst ea
          have hat := cellsOk_at N cells t hlt
          have hcl : rd cells (t : Int) = cells[t] := by simp [rd, List.getElem?_eq_getElem hlt]
          rw [HS.out, ← hcl, okCell] at hat
          have m1 : (0 : Int) ≤ (t : Int) := by omega
          have m2 : (t : Int) < (cells.length : Int) := by omega
          generalize rd cells (t : Int) = c at *
          clear hcl x0
          by_cases t1 : c < -1
          · have er : r = false := by simpa [t1] using hat
            subst er
            have d1 : decide (c < -1) = true := decide_eq_true t1
            clear t1 hat HS
            go_wp2
            go_ret
            exact ⟨rfl, (by repeat (first | exact Below.refl _ _ | apply below_alloc | apply pw_below_drewN | apply below_drew1 | apply below_drew | (refine Below.setCell ?_ (by (try simp); (try omega)) _) | (refine below_to ?_ HB6.out) | (refine below_to ?_ HB5.out) | (refine below_to ?_ HB4.out) | (refine below_to ?_ HB3.out) | (refine below_to ?_ HB2.out) | (refine below_to ?_ HB1.out)))⟩
          by_cases t2 : 32000000 < c
          · have er : r = false := by simpa [t2] using hat
            subst er
            have d1 : decide (c < -1) = false := decide_eq_false t1
            have d2 : decide (32000000 < c) = true := decide_eq_true t2
            clear t1 t2 hat HS
            go_wp2
            go_ret
            exact ⟨rfl, (by repeat (first | exact Below.refl _ _ | apply below_alloc | apply pw_below_drewN | apply below_drew1 | apply below_drew | (refine Below.setCell ?_ (by (try simp); (try omega)) _) | (refine below_to ?_ HB6.out) | (refine below_to ?_ HB5.out) | (refine below_to ?_ HB4.out) | (refine below_to ?_ HB3.out) | (refine below_to ?_ HB2.out) | (refine below_to ?_ HB1.out)))⟩
          have d1 : decide (c < -1) = false := decide_eq_false t1
          have d2 : decide (32000000 < c) = false := decide_eq_false t2
          by_cases t3 : (t : Int) % (N + 1) = 0
          · have d3 : ((t : Int) % (N + 1) == 0) = true := by simp [t3]
            by_cases t4 : c = 0
            · have er := hat
              simp [t4] at er
              have HN := Aside0.mk er.symm
              subst t4
              clear t1 t2 hat HS er d1 d2 t3
              go_wp2
              go_round
              case rel => exact ⟨t + 1, by omega, by go_num, HN⟩
              case measure => simp [intOf]; omega
            · have er : r = false := by simpa [t3, t4] using hat
              subst er
              have d4 : (c != 0) = true := by simp [t4]
              have d5 : (c == 0) = false := by simp [t4]
              clear t1 t2 hat HS t4 t3
              go_wp2
              go_ret
              exact ⟨rfl, (by repeat (first | exact Below.refl _ _ | apply below_alloc | apply pw_below_drewN | apply below_drew1 | apply below_drew | (refine Below.setCell ?_ (by (try simp); (try omega)) _) | (refine below_to ?_ HB6.out) | (refine below_to ?_ HB5.out) | (refine below_to ?_ HB4.out) | (refine below_to ?_ HB3.out) | (refine below_to ?_ HB2.out) | (refine below_to ?_ HB1.out)))⟩
          · have d3 : ((t : Int) % (N + 1) == 0) = false := by simp [t3]
            have er := hat
            simp [t1, t2, t3] at er
            have HN := Aside0.mk er.symm
            clear t1 t2 hat HS er t3
            go_wp2
            go_round
            case rel => exact ⟨t + 1, by omega, by go_num, HN⟩
            case measure => simp [intOf]; omega
        · have er := HS.out
          rw [List.drop_of_length_le (by omega), cellsOk] at er
          subst er
          clear HS
          go_wp2
          go_ret
          exact ⟨rfl, (by repeat (first | exact Below.refl _ _ | apply below_alloc | apply pw_below_drewN | apply below_drew1 | apply below_drew | (refine Below.setCell ?_ (by (try simp); (try omega)) _) | (refine below_to ?_ HB6.out) | (refine below_to ?_ HB5.out) | (refine below_to ?_ HB4.out) | (refine below_to ?_ HB3.out) | (refine below_to ?_ HB2.out) | (refine below_to ?_ HB1.out)))⟩
    · have d2 : ((cells.length : Int) != N * N) = true := by simp [e2]
      have es : matrixB ⟨N, cells⟩ N = false := by simp [matrixB, e2]
      rw [es]
      clear es e2
      go_enter Try.func82, Try.ntmps82
      go_wp2
      go_ret
      exact ⟨rfl, (by repeat (first | exact Below.refl _ _ | apply below_alloc | apply pw_below_drewN | apply below_drew1 | apply below_drew | (refine Below.setCell ?_ (by (try simp); (try omega)) _) | (refine below_to ?_ HB6.out) | (refine below_to ?_ HB5.out) | (refine below_to ?_ HB4.out) | (refine below_to ?_ HB3.out) | (refine below_to ?_ HB2.out) | (refine below_to ?_ HB1.out)))⟩
  · have d1 : (N != n) = true := by simp [e1]
    have d2 : (N == n) = false := by simp [e1]
    have es : matrixB ⟨N, cells⟩ n = false := by simp [matrixB, e1]
    rw [es]
    clear es e1
    go_enter Try.func82, Try.ntmps82
    go_wp2
    go_ret
    exact ⟨rfl, (by repeat (first | exact Below.refl _ _ | apply below_alloc | apply pw_below_drewN | apply below_drew1 | apply below_drew | (refine Below.setCell ?_ (by (try simp); (try omega)) _) | (refine below_to ?_ HB6.out) | (refine below_to ?_ HB5.out) | (refine below_to ?_ HB4.out) | (refine below_to ?_ HB3.out) | (refine below_to ?_ HB2.out) | (refine below_to ?_ HB1.out)))⟩
/-- Are these windows lawful? -/
def windowsB (l : List TWindow) : Bool := decide ((windowsS l).2 = 0)
set_option maxHeartbeats 4000000 in
set_option maxRecDepth 100000 in
theorem windows_any (l : List TWindow) (A : Option Addr) (c : Nat) (w : World) (hr : Kd.C kWindow w A l.length l) (hn : l.length ≤ 4611686018427387904) :
    Calls Try.prog 117 #[.slice A l.length c] w fun e w' => e = .returned (.bool (windowsB l)) ∧ Below w.heap.size w w' := by
  have HC := Aside0.mk (fun W (hb : Below w.heap.size w W) => refWindows_any l A c W (Kd.C_below hr hb) hn)
  clear hr
  cases hb : windowsB l
  all_goals
    have e : ((windowsS l).2 == 0) = windowsB l := by unfold windowsB; rfl
    rw [hb] at e
    clear hb
    go_enter Try.func117, Try.ntmps117
    go_wp2_with (go_at_call 130; refine (HC.out _ (by repeat (first | exact Below.refl _ _ | apply below_alloc | apply pw_below_drewN | apply below_drew1 | apply below_drew | (refine Below.setCell ?_ (by (try simp); (try omega)) _) | (refine below_to ?_ HB6.out) | (refine below_to ?_ HB5.out) | (refine below_to ?_ HB4.out) | (refine below_to ?_ HB3.out) | (refine below_to ?_ HB2.out) | (refine below_to ?_ HB1.out)))).mono ?_; skip; rintro e w1 ⟨rfl, hb⟩; have HB1 := Aside0.mk hb; obtain ⟨qc1, qf1⟩ := bcell hb; have hs1 := hb.size; (try simp at hs1); (try have z01 : w.heap.size < w1.heap.size := (by omega)); (try have z11 : w.heap.size + 1 < w1.heap.size := (by omega)); (try have z21 : w.heap.size + 1 + 1 < w1.heap.size := (by omega)); (try have z31 : w.heap.size + 1 + 1 + 1 < w1.heap.size := (by omega)); (try have z41 : w.heap.size + 1 + 1 + 1 + 1 < w1.heap.size := (by omega)); clear hs1 hb; skip)
    go_ret
    exact ⟨rfl, (by repeat (first | exact Below.refl _ _ | apply below_alloc | apply pw_below_drewN | apply below_drew1 | apply below_drew | (refine Below.setCell ?_ (by (try simp); (try omega)) _) | (refine below_to ?_ HB6.out) | (refine below_to ?_ HB5.out) | (refine below_to ?_ HB4.out) | (refine below_to ?_ HB3.out) | (refine below_to ?_ HB2.out) | (refine below_to ?_ HB1.out)))⟩
/-- n amounts of 0 to 1000000 each. -/
def amountsS (l : List Int) (n : Int) : Int := if (l.length : Int) = n then (if l.all (fun x => decide (0 ≤ x) && decide (x ≤ 1000000)) then 0 else 2) else 43
def amsGo (l : List Int) : Int := if l.all (fun x => decide (0 ≤ x) && decide (x ≤ 1000000)) then 0 else 2
theorem amsGo_cons (x : Int) (l : List Int) : amsGo (x :: l) = if x < 0 ∨ 1000000 < x then 2 else amsGo l := by
  unfold amsGo
  rw [List.all_cons]
  by_cases h : x < 0 ∨ 1000000 < x
  · rw [if_pos h]
    have : (decide (0 ≤ x) && decide (x ≤ 1000000)) = false := by simp; omega
    rw [this]
    rfl
  · rw [if_neg h]
    have : (decide (0 ≤ x) && decide (x ≤ 1000000)) = true := by simp; omega
    rw [this, Bool.true_and]
set_option maxHeartbeats 4000000 in
set_option maxRecDepth 100000 in
theorem ref09Check_any (l : List Int) (A : Option Addr) (c : Nat) (n : Int) (w : World) (hr : Kd.C (Kd.int .i64) w A l.length l) (hn : l.length ≤ 4611686018427387904) :
    Calls Try.prog 91 #[.slice A l.length c, .int .i64 n] w fun e w' => e = .returned (.int .i64 (amountsS l n)) ∧ Below w.heap.size w w' := by
  have HR := Aside0.mk hr
  clear hr
  by_cases e1 : (l.length : Int) = n
  · have d1 : ((l.length : Int) == n) = true := by simp [e1]
    have d2 : ((l.length : Int) != n) = false := by simp [e1]
    have e : amountsS l n = amsGo (l.drop 0) := by simp [amountsS, e1, amsGo]
    rw [e]
    generalize hq : amsGo (l.drop 0) = r
    have HQ := Aside0.mk hq
    clear hq e e1
    go_enter Try.func91, Try.ntmps91
    go_wp2
    go_loop [5] (fun v => ∃ t : Nat, t ≤ l.length ∧ v = .int .i64 t ∧ Aside0 (amsGo (l.drop t) = r)) (fun v => l.length - (intOf v).toNat)
    case atStart => exact ⟨0, Nat.zero_le _, rfl, HQ⟩
    case round =>
      clear HQ
      obtain ⟨t, ht, rfl, HS⟩ := hrel
      by_cases hlt : t < l.length
      · obtain ⟨ad, ea, x0⟩ := Kd.at_int HR.out (t : Int) (by omega) (by omega)
        simp only [Int.toNat_natCast] at x0
        have g0 := fun o => alloc_cell x0 o
        subst ea
        have hat := HS.out
        rw [List.drop_eq_getElem_cons hlt, amsGo_cons] at hat
        have hcl : rd l (t : Int) = l[t] := by simp [rd, List.getElem?_eq_getElem hlt]
        rw [← hcl] at hat
        have m1 : (0 : Int) ≤ (t : Int) := by omega
        have m2 : (t : Int) < (l.length : Int) := by omega
        generalize rd l (t : Int) = c at *
        clear hcl
        by_cases t1 : c < 0
        · rw [if_pos (.inl t1)] at hat
          subst hat
          have d1 : decide (c < 0) = true := decide_eq_true t1
          clear t1 HS
          go_wp2
          go_ret
          exact ⟨rfl, (by repeat (first | exact Below.refl _ _ | apply below_alloc | apply pw_below_drewN | apply below_drew1 | apply below_drew | (refine Below.setCell ?_ (by (try simp); (try omega)) _) | (refine below_to ?_ HB6.out) | (refine below_to ?_ HB5.out) | (refine below_to ?_ HB4.out) | (refine below_to ?_ HB3.out) | (refine below_to ?_ HB2.out) | (refine below_to ?_ HB1.out)))⟩
        by_cases t2 : 1000000 < c
        · rw [if_pos (.inr t2)] at hat
          subst hat
          have d1 : decide (c < 0) = false := decide_eq_false t1
          have d2 : decide (1000000 < c) = true := decide_eq_true t2
          clear t1 t2 HS
          go_wp2
          go_ret
          exact ⟨rfl, (by repeat (first | exact Below.refl _ _ | apply below_alloc | apply pw_below_drewN | apply below_drew1 | apply below_drew | (refine Below.setCell ?_ (by (try simp); (try omega)) _) | (refine below_to ?_ HB6.out) | (refine below_to ?_ HB5.out) | (refine below_to ?_ HB4.out) | (refine below_to ?_ HB3.out) | (refine below_to ?_ HB2.out) | (refine below_to ?_ HB1.out)))⟩
        rw [if_neg (fun h => h.elim t1 t2)] at hat
        have HN := Aside0.mk hat
        have d1 : decide (c < 0) = false := decide_eq_false t1
        have d2 : decide (1000000 < c) = false := decide_eq_false t2
        clear t1 t2 HS hat
        go_wp2
        go_round
        case rel => exact ⟨t + 1, by omega, by go_num, HN⟩
        case measure => simp [intOf]; omega
      · have er := HS.out
        rw [List.drop_of_length_le (by omega)] at er
        subst er
        clear HS
        go_wp2
        go_ret
        exact ⟨rfl, (by repeat (first | exact Below.refl _ _ | apply below_alloc | apply pw_below_drewN | apply below_drew1 | apply below_drew | (refine Below.setCell ?_ (by (try simp); (try omega)) _) | (refine below_to ?_ HB6.out) | (refine below_to ?_ HB5.out) | (refine below_to ?_ HB4.out) | (refine below_to ?_ HB3.out) | (refine below_to ?_ HB2.out) | (refine below_to ?_ HB1.out)))⟩
  · have d2 : ((l.length : Int) != n) = true := by simp [e1]
    have e : amountsS l n = 43 := by simp [amountsS, e1]
    rw [e]
    clear e e1
    go_enter Try.func91, Try.ntmps91
    go_wp2
    go_ret
    exact ⟨rfl, (by repeat (first | exact Below.refl _ _ | apply below_alloc | apply pw_below_drewN | apply below_drew1 | apply below_drew | (refine Below.setCell ?_ (by (try simp); (try omega)) _) | (refine below_to ?_ HB6.out) | (refine below_to ?_ HB5.out) | (refine below_to ?_ HB4.out) | (refine below_to ?_ HB3.out) | (refine below_to ?_ HB2.out) | (refine below_to ?_ HB1.out)))⟩
set_option maxHeartbeats 4000000 in
set_option maxRecDepth 100000 in
theorem loadCheck_any (l : List Int) (A : Option Addr) (c : Nat) (n : Int) (w : World) (hr : Kd.C (Kd.int .i64) w A l.length l) (hn : l.length ≤ 4611686018427387904) :
    Calls Try.prog 85 #[.slice A l.length c, .int .i64 n] w fun e w' => e = .returned (.int .i64 (amountsS l n)) ∧ Below w.heap.size w w' := by
  have HR := Aside0.mk hr
  clear hr
  by_cases e1 : (l.length : Int) = n
  · have d1 : ((l.length : Int) == n) = true := by simp [e1]
    have d2 : ((l.length : Int) != n) = false := by simp [e1]
    have e : amountsS l n = amsGo (l.drop 0) := by simp [amountsS, e1, amsGo]
    rw [e]
    generalize hq : amsGo (l.drop 0) = r
    have HQ := Aside0.mk hq
    clear hq e e1
    go_enter Try.func85, Try.ntmps85
    go_wp2
    go_loop [13] (fun v => ∃ t : Nat, t ≤ l.length ∧ v = .int .i64 t ∧ Aside0 (amsGo (l.drop t) = r)) (fun v => l.length - (intOf v).toNat)
    case atStart => exact ⟨0, Nat.zero_le _, rfl, HQ⟩
    case round =>
      clear HQ
      obtain ⟨t, ht, rfl, HS⟩ := hrel
      by_cases hlt : t < l.length
      · obtain ⟨ad, ea, x0⟩ := Kd.at_int HR.out (t : Int) (by omega) (by omega)
        simp only [Int.toNat_natCast] at x0
        have g0 := fun o => alloc_cell x0 o
        subst ea
        have hat := HS.out
        rw [List.drop_eq_getElem_cons hlt, amsGo_cons] at hat
        have hcl : rd l (t : Int) = l[t] := by simp [rd, List.getElem?_eq_getElem hlt]
        rw [← hcl] at hat
        have m1 : (0 : Int) ≤ (t : Int) := by omega
        have m2 : (t : Int) < (l.length : Int) := by omega
        generalize rd l (t : Int) = c at *
        clear hcl
        by_cases t1 : c < 0
        · rw [if_pos (.inl t1)] at hat
          subst hat
          have d1 : decide (c < 0) = true := decide_eq_true t1
          clear t1 HS
          go_wp2
          go_ret
          exact ⟨rfl, (by repeat (first | exact Below.refl _ _ | apply below_alloc | apply pw_below_drewN | apply below_drew1 | apply below_drew | (refine Below.setCell ?_ (by (try simp); (try omega)) _) | (refine below_to ?_ HB6.out) | (refine below_to ?_ HB5.out) | (refine below_to ?_ HB4.out) | (refine below_to ?_ HB3.out) | (refine below_to ?_ HB2.out) | (refine below_to ?_ HB1.out)))⟩
        by_cases t2 : 1000000 < c
        · rw [if_pos (.inr t2)] at hat
          subst hat
          have d1 : decide (c < 0) = false := decide_eq_false t1
          have d2 : decide (1000000 < c) = true := decide_eq_true t2
          clear t1 t2 HS
          go_wp2
          go_ret
          exact ⟨rfl, (by repeat (first | exact Below.refl _ _ | apply below_alloc | apply pw_below_drewN | apply below_drew1 | apply below_drew | (refine Below.setCell ?_ (by (try simp); (try omega)) _) | (refine below_to ?_ HB6.out) | (refine below_to ?_ HB5.out) | (refine below_to ?_ HB4.out) | (refine below_to ?_ HB3.out) | (refine below_to ?_ HB2.out) | (refine below_to ?_ HB1.out)))⟩
        rw [if_neg (fun h => h.elim t1 t2)] at hat
        have HN := Aside0.mk hat
        have d1 : decide (c < 0) = false := decide_eq_false t1
        have d2 : decide (1000000 < c) = false := decide_eq_false t2
        clear t1 t2 HS hat
        go_wp2
        go_round
        case rel => exact ⟨t + 1, by omega, by go_num, HN⟩
        case measure => simp [intOf]; omega
      · have er := HS.out
        rw [List.drop_of_length_le (by omega)] at er
        subst er
        clear HS
        go_wp2
        go_ret
        exact ⟨rfl, (by repeat (first | exact Below.refl _ _ | apply below_alloc | apply pw_below_drewN | apply below_drew1 | apply below_drew | (refine Below.setCell ?_ (by (try simp); (try omega)) _) | (refine below_to ?_ HB6.out) | (refine below_to ?_ HB5.out) | (refine below_to ?_ HB4.out) | (refine below_to ?_ HB3.out) | (refine below_to ?_ HB2.out) | (refine below_to ?_ HB1.out)))⟩
  · have d2 : ((l.length : Int) != n) = true := by simp [e1]
    have e : amountsS l n = 43 := by simp [amountsS, e1]
    rw [e]
    clear e e1
    go_enter Try.func85, Try.ntmps85
    go_wp2
    go_ret
    exact ⟨rfl, (by repeat (first | exact Below.refl _ _ | apply below_alloc | apply pw_below_drewN | apply below_drew1 | apply below_drew | (refine Below.setCell ?_ (by (try simp); (try omega)) _) | (refine below_to ?_ HB6.out) | (refine below_to ?_ HB5.out) | (refine below_to ?_ HB4.out) | (refine below_to ?_ HB3.out) | (refine below_to ?_ HB2.out) | (refine below_to ?_ HB1.out)))⟩
set_option maxHeartbeats 4000000 in
set_option maxRecDepth 100000 in
theorem valid_any (s : Int) (w : World) (h0 : 0 ≤ s) (h1 : s < 18446744073709551616) :
    Calls Try.prog 86 #[.int .u64 s] w fun e w' => e = .returned (.bool (decide (s < 4611686018427387904))) ∧ w = w' := by
  by_cases h : s < 4611686018427387904
  · have d : (s / 4611686018427387904 == 0) = true := by rw [beq_iff_eq]; omega
    have e : decide (s < 4611686018427387904) = true := decide_eq_true h
    rw [e]
    clear h e
    go_enter Try.func86, Try.ntmps86
    go_wp2
    go_ret
    exact ⟨by simp [d], rfl⟩
  · have d : (s / 4611686018427387904 == 0) = false := by rw [beq_eq_false_iff_ne]; omega
    have e : decide (s < 4611686018427387904) = false := decide_eq_false h
    rw [e]
    clear h e
    go_enter Try.func86, Try.ntmps86
    go_wp2
    go_ret
    exact ⟨by simp [d], rfl⟩
end Go.Proofs.Ytemjpgmfignhnaa
