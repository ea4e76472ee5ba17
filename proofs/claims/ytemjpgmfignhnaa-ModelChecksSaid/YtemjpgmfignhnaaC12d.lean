/- Contracts of the functions that read a matrix.
Conditions: the matrix is a lawful one. -/
import Derived.Test.YtemjpgmfignhnaaC12
namespace Go.Proofs.Ytemjpgmfignhnaa
open Go.RowKit Go.Proofs.YtemjpgmfignhnaaW.PrintWords Go.Proofs.YtemjpgmfignhnaaW.PrintLast Go.Proofs.YtemjpgmfignhnaaW.PrintMore
set_option linter.unusedVariables false
set_option linter.unusedSimpArgs false
/-- n times n numbers. -/
structure MatOk (m : TMatrix) : Prop where
  lo : 1 ≤ m.N
  hi : m.N ≤ 32
  len : (m.Cells.length : Int) = m.N * m.N
def cellS (m : TMatrix) (i j : Int) : Int := if upB i (m.N - 1) && upB j (m.N - 1) then rd m.Cells (i * m.N + j) else -1
theorem cell_in {n i j : Int} (hn : 1 ≤ n) (h0 : 0 ≤ i) (h1 : i ≤ n - 1) (h2 : 0 ≤ j) (h3 : j ≤ n - 1) (hn2 : n ≤ 32 := by omega) : 0 ≤ i * n ∧ i * n + j < n * n ∧ n * n ≤ 1024 := by
  have a := Int.mul_nonneg h0 (show 0 ≤ n by omega)
  have b := Int.mul_le_mul_of_nonneg_right h1 (show 0 ≤ n by omega)
  rw [Int.sub_mul, Int.one_mul] at b
  have c := Int.mul_le_mul hn2 hn2 (by omega) (by omega)
  omega
set_option maxHeartbeats 4000000 in
set_option maxRecDepth 100000 in
theorem refCell_any (m : TMatrix) (A : Option Addr) (c : Nat) (i j : Int) (w : World) (hm : MatOk m) (hr : Kd.C (Kd.int .i64) w A m.Cells.length m.Cells) :
    Calls Try.prog 31 #[.agg #[.int .i64 m.N, .slice A m.Cells.length c], .int .i64 i, .int .i64 j] w fun e w' => e = .returned (.int .i64 (cellS m i j)) ∧ Below w.heap.size w w' := by
  obtain ⟨n, cells⟩ := m
  have hn0 : 1 ≤ n := hm.lo
  have hn1 : n ≤ 32 := hm.hi
  have hlen : (cells.length : Int) = n * n := hm.len
  cases hi : upB i (n - 1) with
  | false =>
    have e : cellS ⟨n, cells⟩ i j = -1 := by simp [cellS, hi]
    rw [e]
    have T1 := Aside0.mk hi
    clear hi hm hr hlen e
    go_enter Try.func31, Try.ntmps31
    go_wp2_with (go_at_call 87; refine (up_any _ _ _).mono ?_; (first | rw [T1.out] | rw [T2.out]); rintro e w' ⟨rfl, rfl⟩)
    go_ret
    exact ⟨rfl, (by repeat (first | exact Below.refl _ _ | apply below_alloc | apply pw_below_drewN | apply below_drew1 | apply below_drew | (refine Below.setCell ?_ (by (try simp); (try omega)) _) | (refine below_to ?_ HB6.out) | (refine below_to ?_ HB5.out) | (refine below_to ?_ HB4.out) | (refine below_to ?_ HB3.out) | (refine below_to ?_ HB2.out) | (refine below_to ?_ HB1.out)))⟩
  | true =>
    cases hj : upB j (n - 1) with
    | false =>
      have e : cellS ⟨n, cells⟩ i j = -1 := by simp [cellS, hj]
      rw [e]
      have T1 := Aside0.mk hi
      have T2 := Aside0.mk hj
      clear hi hj hm hr hlen e
      go_enter Try.func31, Try.ntmps31
      go_wp2_with (go_at_call 87; refine (up_any _ _ _).mono ?_; (first | rw [T1.out] | rw [T2.out]); rintro e w' ⟨rfl, rfl⟩)
      go_ret
      exact ⟨rfl, (by repeat (first | exact Below.refl _ _ | apply below_alloc | apply pw_below_drewN | apply below_drew1 | apply below_drew | (refine Below.setCell ?_ (by (try simp); (try omega)) _) | (refine below_to ?_ HB6.out) | (refine below_to ?_ HB5.out) | (refine below_to ?_ HB4.out) | (refine below_to ?_ HB3.out) | (refine below_to ?_ HB2.out) | (refine below_to ?_ HB1.out)))⟩
    | true =>
      have e : cellS ⟨n, cells⟩ i j = rd cells (i * n + j) := by simp [cellS, hi, hj]
      rw [e]
      have T1 := Aside0.mk hi
      have T2 := Aside0.mk hj
      have b1 := upB_true hi
      have b2 := upB_true hj
      obtain ⟨m0, m1, m2⟩ := cell_in hn0 b1.1 b1.2 b2.1 b2.2
      have m3 : i * n + j < (cells.length : Int) := by omega
      have m4 : 0 ≤ i * n + j := by omega
      have m5 : i * n ≤ 1024 := by omega
      obtain ⟨ad, ea, x0⟩ := Kd.at_int hr (i * n + j) m4 m3
      subst ea
      have X0 := stays x0
      obtain ⟨b11, b12⟩ := b1
      obtain ⟨b21, b22⟩ := b2
      have g0 := fun o => alloc_cell x0 o
      clear hi hj hm hr hlen e x0 m1
      go_enter Try.func31, Try.ntmps31
      go_wp2_with (go_at_call 87; refine (up_any _ _ _).mono ?_; (first | rw [T1.out] | rw [T2.out]); rintro e w' ⟨rfl, rfl⟩)
      go_ret
      exact ⟨rfl, (by repeat (first | exact Below.refl _ _ | apply below_alloc | apply pw_below_drewN | apply below_drew1 | apply below_drew | (refine Below.setCell ?_ (by (try simp); (try omega)) _) | (refine below_to ?_ HB6.out) | (refine below_to ?_ HB5.out) | (refine below_to ?_ HB4.out) | (refine below_to ?_ HB3.out) | (refine below_to ?_ HB2.out) | (refine below_to ?_ HB1.out)))⟩
set_option maxHeartbeats 4000000 in
set_option maxRecDepth 100000 in
theorem cell_any (m : TMatrix) (A : Option Addr) (c : Nat) (i j : Int) (w : World) (hm : MatOk m) (hr : Kd.C (Kd.int .i64) w A m.Cells.length m.Cells) :
    Calls Try.prog 30 #[.agg #[.int .i64 m.N, .slice A m.Cells.length c], .int .i64 i, .int .i64 j] w fun e w' => e = .returned (.int .i64 (cellS m i j)) ∧ Below w.heap.size w w' := by
  obtain ⟨n, cells⟩ := m
  have hn0 : 1 ≤ n := hm.lo
  have hn1 : n ≤ 32 := hm.hi
  have hlen : (cells.length : Int) = n * n := hm.len
  rcases (show i < 0 ∨ (0 ≤ i ∧ j < 0) ∨ (0 ≤ i ∧ 0 ≤ j ∧ n ≤ i) ∨ (0 ≤ i ∧ 0 ≤ j ∧ i < n ∧ n ≤ j) ∨ (0 ≤ i ∧ 0 ≤ j ∧ i < n ∧ j < n) by omega) with h1 | ⟨h1, h2⟩ | ⟨h1, h2, h3⟩ | ⟨h1, h2, h3, h4⟩ | ⟨h1, h2, h3, h4⟩
  ·   have e : cellS ⟨n, cells⟩ i j = -1 := by
        have : (upB i (n - 1) && upB j (n - 1)) = false := by
          rw [Bool.eq_false_iff]
          intro h
          simp only [Bool.and_eq_true] at h
          have a := upB_true h.1
          have b := upB_true h.2
          omega
        simp [cellS, this]
      rw [e]
      clear e hm hr hlen
      go_enter Try.func30, Try.ntmps30
      go_wp2
      go_ret
      exact ⟨rfl, (by repeat (first | exact Below.refl _ _ | apply below_alloc | apply pw_below_drewN | apply below_drew1 | apply below_drew | (refine Below.setCell ?_ (by (try simp); (try omega)) _) | (refine below_to ?_ HB6.out) | (refine below_to ?_ HB5.out) | (refine below_to ?_ HB4.out) | (refine below_to ?_ HB3.out) | (refine below_to ?_ HB2.out) | (refine below_to ?_ HB1.out)))⟩
  ·   have e : cellS ⟨n, cells⟩ i j = -1 := by
        have : (upB i (n - 1) && upB j (n - 1)) = false := by
          rw [Bool.eq_false_iff]
          intro h
          simp only [Bool.and_eq_true] at h
          have a := upB_true h.1
          have b := upB_true h.2
          omega
        simp [cellS, this]
      rw [e]
      clear e hm hr hlen
      go_enter Try.func30, Try.ntmps30
      go_wp2
      go_ret
      exact ⟨rfl, (by repeat (first | exact Below.refl _ _ | apply below_alloc | apply pw_below_drewN | apply below_drew1 | apply below_drew | (refine Below.setCell ?_ (by (try simp); (try omega)) _) | (refine below_to ?_ HB6.out) | (refine below_to ?_ HB5.out) | (refine below_to ?_ HB4.out) | (refine below_to ?_ HB3.out) | (refine below_to ?_ HB2.out) | (refine below_to ?_ HB1.out)))⟩
  ·   have e : cellS ⟨n, cells⟩ i j = -1 := by
        have : (upB i (n - 1) && upB j (n - 1)) = false := by
          rw [Bool.eq_false_iff]
          intro h
          simp only [Bool.and_eq_true] at h
          have a := upB_true h.1
          have b := upB_true h.2
          omega
        simp [cellS, this]
      rw [e]
      clear e hm hr hlen
      go_enter Try.func30, Try.ntmps30
      go_wp2
      go_ret
      exact ⟨rfl, (by repeat (first | exact Below.refl _ _ | apply below_alloc | apply pw_below_drewN | apply below_drew1 | apply below_drew | (refine Below.setCell ?_ (by (try simp); (try omega)) _) | (refine below_to ?_ HB6.out) | (refine below_to ?_ HB5.out) | (refine below_to ?_ HB4.out) | (refine below_to ?_ HB3.out) | (refine below_to ?_ HB2.out) | (refine below_to ?_ HB1.out)))⟩
  ·   have e : cellS ⟨n, cells⟩ i j = -1 := by
        have : (upB i (n - 1) && upB j (n - 1)) = false := by
          rw [Bool.eq_false_iff]
          intro h
          simp only [Bool.and_eq_true] at h
          have a := upB_true h.1
          have b := upB_true h.2
          omega
        simp [cellS, this]
      rw [e]
      clear e hm hr hlen
      go_enter Try.func30, Try.ntmps30
      go_wp2
      go_ret
      exact ⟨rfl, (by repeat (first | exact Below.refl _ _ | apply below_alloc | apply pw_below_drewN | apply below_drew1 | apply below_drew | (refine Below.setCell ?_ (by (try simp); (try omega)) _) | (refine below_to ?_ HB6.out) | (refine below_to ?_ HB5.out) | (refine below_to ?_ HB4.out) | (refine below_to ?_ HB3.out) | (refine below_to ?_ HB2.out) | (refine below_to ?_ HB1.out)))⟩
  · have e : cellS ⟨n, cells⟩ i j = rd cells (i * n + j) := by simp [cellS, upB_mk h1 (show i ≤ n - 1 by omega), upB_mk h2 (show j ≤ n - 1 by omega)]
    rw [e]
    obtain ⟨m0, m1, m2⟩ := cell_in hn0 h1 (show i ≤ n - 1 by omega) h2 (by omega)
    have m3 : i * n + j < (cells.length : Int) := by omega
    have m4 : 0 ≤ i * n + j := by omega
    have m5 : i * n ≤ 1024 := by omega
    obtain ⟨ad, ea, x0⟩ := Kd.at_int hr (i * n + j) m4 m3
    subst ea
    have g0 := fun o => alloc_cell x0 o
    clear hm hr hlen e x0 m1
    go_enter Try.func30, Try.ntmps30
    go_wp2
    go_ret
    exact ⟨rfl, (by repeat (first | exact Below.refl _ _ | apply below_alloc | apply pw_below_drewN | apply below_drew1 | apply below_drew | (refine Below.setCell ?_ (by (try simp); (try omega)) _) | (refine below_to ?_ HB6.out) | (refine below_to ?_ HB5.out) | (refine below_to ?_ HB4.out) | (refine below_to ?_ HB3.out) | (refine below_to ?_ HB2.out) | (refine below_to ?_ HB1.out)))⟩
end Go.Proofs.Ytemjpgmfignhnaa
