/- Contracts of the functions that look whether a matrix is a lawful one.
Conditions: it has 1 to 32 places. -/
import Derived.Test.YtemjpgmfignhnaaC12d
namespace Go.Proofs.Ytemjpgmfignhnaa
open Go.RowKit Go.Proofs.YtemjpgmfignhnaaW.PrintWords Go.Proofs.YtemjpgmfignhnaaW.PrintLast Go.Proofs.YtemjpgmfignhnaaW.PrintMore
set_option linter.unusedVariables false
set_option linter.unusedSimpArgs false
def okCell (n : Int) (t : Nat) (c : Int) : Bool := !(decide (c < -1) || decide (c > 32000000) || decide ((t : Int) % (n + 1) = 0) && !decide (c = 0))
def cellsOk (n : Int) : Nat → List Int → Bool
  | _, [] => true
  | t, c :: l => okCell n t c && cellsOk n (t + 1) l
def matrixB (m : TMatrix) (n : Int) : Bool := decide (m.N = n) && decide ((m.Cells.length : Int) = n * n) && cellsOk n 0 m.Cells
theorem cellsOk_at (n : Int) (l : List Int) (t : Nat) (h : t < l.length) : cellsOk n t (l.drop t) = (okCell n t l[t] && cellsOk n (t + 1) (l.drop (t + 1))) := by
  rw [List.drop_eq_getElem_cons h, cellsOk]
theorem diag {n i k : Int} (h0 : 0 ≤ i) (h1 : i < n) (h2 : 0 ≤ k) (h3 : k < n) : ((i * n + k) % (n + 1) = 0) ↔ i = k := by
  have e : i * n + k = (k - i) + i * (n + 1) := by rw [Int.mul_add]; omega
  rw [e, Int.add_mul_emod_self_right]
  constructor
  · intro h
    rcases Int.lt_or_le k i with hlt | hle
    · have : (k - i) % (n + 1) = k - i + (n + 1) := by
        rw [← Int.add_emod_right]
        exact Int.emod_eq_of_lt (by omega) (by omega)
      omega
    · rw [Int.emod_eq_of_lt (by omega) (by omega)] at h
      omega
  · rintro rfl
    simp
set_option maxHeartbeats 4000000 in
set_option maxRecDepth 100000 in
theorem refMatrix_any (m : TMatrix) (A : Option Addr) (c : Nat) (n : Int) (w : World) (h0 : 1 ≤ n) (h1 : n ≤ 32) (hl : m.Cells.length ≤ 4611686018427387904) (hr : Kd.C (Kd.int .i64) w A m.Cells.length m.Cells) :
    Calls Try.prog 88 #[.agg #[.int .i64 m.N, .slice A m.Cells.length c], .int .i64 n] w fun e w' => e = .returned (.bool (matrixB m n)) ∧ Below w.heap.size w w' := by
  obtain ⟨N, cells⟩ := m
  have hn : 0 ≤ n * n := Int.mul_nonneg (by omega) (by omega)
  have hn2 : n * n ≤ 1024 := by
    have := Int.mul_le_mul h1 h1 (by omega) (by omega)
    omega
  by_cases e1 : N = n
  · subst e1
    by_cases e2 : (cells.length : Int) = N * N
    · have d1 : (N == N) = true := by simp
      have d2 : ((cells.length : Int) != N * N) = false := by rw [e2]; simp
      have E2 := Aside0.mk e2
      clear e2
      have es : matrixB ⟨N, cells⟩ N = cellsOk N 0 cells := by simp [matrixB, E2.out]
      rw [es]
      generalize hq : cellsOk N 0 cells = r
      have HQ : Aside0 (cellsOk N ((0 : Int) * N).toNat (cells.drop ((0 : Int) * N).toNat) = r) := ⟨by simpa using hq⟩
      have HR := Aside0.mk hr
      clear es hq hr
      go_enter Try.func88, Try.ntmps88
      go_wp2
      go_loop [5] (fun v => ∃ i : Int, 0 ≤ i ∧ i ≤ N ∧ v = .int .i64 i ∧ Aside0 (cellsOk N (i * N).toNat (cells.drop (i * N).toNat) = r)) (fun v => (N - intOf v).toNat)
      case atStart => exact ⟨0, by omega, by omega, rfl, HQ⟩
      case round =>
        clear HQ
        obtain ⟨i, i0, i1, rfl, HS⟩ := hrel
        by_cases hlt : i < N
        · go_wp2
          have HI : Aside0 (cellsOk N (i * N + 0).toNat (cells.drop (i * N + 0).toNat) = r) := ⟨by simpa using HS.out⟩
          clear HS
          go_loop [6] (fun v => ∃ k : Int, 0 ≤ k ∧ k ≤ N ∧ v = .int .i64 k ∧ Aside0 (cellsOk N (i * N + k).toNat (cells.drop (i * N + k).toNat) = r)) (fun v => (N - intOf v).toNat)
          case atStart => exact ⟨0, by omega, by omega, rfl, HI⟩
          case round =>
            clear HI
            obtain ⟨k, k0, k1, rfl, HS⟩ := hrel
            by_cases hk : k < N
            · obtain ⟨m0, m1, m2⟩ := cell_in h0 i0 (show i ≤ N - 1 by omega) k0 (show k ≤ N - 1 by omega)
              have m3 : i * N + k < (cells.length : Int) := by rw [E2.out]; exact m1
              have m4 : 0 ≤ i * N + k := by omega
              have m5 : i * N ≤ 1024 := by omega
              obtain ⟨ad, ea, x0⟩ := Kd.at_int HR.out (i * N + k) m4 m3
              have g0 := fun o => alloc_cell x0 o
              subst ea
              have hcl : rd cells (i * N + k) = cells[(i * N + k).toNat]'(by omega) := by
                simp [rd, List.getElem?_eq_getElem (show (i * N + k).toNat < cells.length by omega)]
              have hat := cellsOk_at N cells (i * N + k).toNat (by omega)
              rw [HS.out, ← hcl, okCell, show (((i * N + k).toNat : Nat) : Int) = i * N + k from by omega] at hat
              have hdg := diag i0 hlt k0 hk
              generalize rd cells (i * N + k) = c at *
              have hnx : (i * N + k).toNat + 1 = (i * N + (k + 1)).toNat := by omega
              rw [hnx] at hat
              clear hnx hcl m1 x0
              by_cases t1 : c < -1
              · have er : r = false := by simpa [t1] using hat
                subst er
                have d1 : decide (c < -1) = true := decide_eq_true t1
                clear t1 hat hdg HS
                go_wp2
                go_ret
                exact ⟨rfl, (by repeat (first | exact Below.refl _ _ | apply below_alloc | apply pw_below_drewN | apply below_drew1 | apply below_drew | (refine Below.setCell ?_ (by (try simp); (try omega)) _) | (refine below_to ?_ HB6.out) | (refine below_to ?_ HB5.out) | (refine below_to ?_ HB4.out) | (refine below_to ?_ HB3.out) | (refine below_to ?_ HB2.out) | (refine below_to ?_ HB1.out)))⟩
              by_cases t2 : 32000000 < c
              · have er : r = false := by simpa [t2] using hat
                subst er
                have d1 : decide (c < -1) = false := decide_eq_false t1
                have d2 : decide (32000000 < c) = true := decide_eq_true t2
                clear t1 t2 hat hdg HS
                go_wp2
                go_ret
                exact ⟨rfl, (by repeat (first | exact Below.refl _ _ | apply below_alloc | apply pw_below_drewN | apply below_drew1 | apply below_drew | (refine Below.setCell ?_ (by (try simp); (try omega)) _) | (refine below_to ?_ HB6.out) | (refine below_to ?_ HB5.out) | (refine below_to ?_ HB4.out) | (refine below_to ?_ HB3.out) | (refine below_to ?_ HB2.out) | (refine below_to ?_ HB1.out)))⟩
              have d1 : decide (c < -1) = false := decide_eq_false t1
              have d2 : decide (32000000 < c) = false := decide_eq_false t2
              by_cases t3 : i = k
              · by_cases t4 : c = 0
                · have er := hat
                  simp [t4] at er
                  have HN := Aside0.mk er.symm
                  subst t3
                  subst t4
                  clear t1 t2 hat hdg HS er d1 d2
                  go_wp2
                  go_round
                  case rel => exact ⟨_, by omega, by omega, rfl, HN⟩
                  case measure => simp [intOf]; omega
                · have er : r = false := by simpa [hdg.2 t3, t4] using hat
                  subst er
                  subst t3
                  have d4 : (c != 0) = true := by simp [t4]
                  have d5 : (c == 0) = false := by simp [t4]
                  clear t1 t2 hat hdg HS t4
                  go_wp2
                  go_ret
                  exact ⟨rfl, (by repeat (first | exact Below.refl _ _ | apply below_alloc | apply pw_below_drewN | apply below_drew1 | apply below_drew | (refine Below.setCell ?_ (by (try simp); (try omega)) _) | (refine below_to ?_ HB6.out) | (refine below_to ?_ HB5.out) | (refine below_to ?_ HB4.out) | (refine below_to ?_ HB3.out) | (refine below_to ?_ HB2.out) | (refine below_to ?_ HB1.out)))⟩
              · have d3 : (i == k) = false := by simp [t3]
                have t5 : ¬ ((i * N + k) % (N + 1) = 0) := fun h => t3 (hdg.1 h)
                have er := hat
                simp [t1, t2, t5] at er
                have HN := Aside0.mk er.symm
                clear t1 t2 hat hdg HS er t3 t5
                go_wp2
                go_round
                case rel => exact ⟨_, by omega, by omega, rfl, HN⟩
                case measure => simp [intOf]; omega
            · obtain rfl : k = N := by omega
              go_wp2
              go_round
              case rel => exact ⟨i + 1, by omega, by omega, by go_num, ⟨by rw [Int.add_mul, Int.one_mul]; exact HS.out⟩⟩
              case measure => simp [intOf]; omega
        · obtain rfl : i = N := by omega
          have er := HS.out
          rw [List.drop_of_length_le (by have := E2.out; omega), cellsOk] at er
          subst er
          clear HS
          go_wp2
          go_ret
          exact ⟨rfl, (by repeat (first | exact Below.refl _ _ | apply below_alloc | apply pw_below_drewN | apply below_drew1 | apply below_drew | (refine Below.setCell ?_ (by (try simp); (try omega)) _) | (refine below_to ?_ HB6.out) | (refine below_to ?_ HB5.out) | (refine below_to ?_ HB4.out) | (refine below_to ?_ HB3.out) | (refine below_to ?_ HB2.out) | (refine below_to ?_ HB1.out)))⟩
    · have d2 : ((cells.length : Int) != N * N) = true := by simp [e2]
      have es : matrixB ⟨N, cells⟩ N = false := by simp [matrixB, e2]
      rw [es]
      clear es e2
      go_enter Try.func88, Try.ntmps88
      go_wp2
      go_ret
      exact ⟨rfl, (by repeat (first | exact Below.refl _ _ | apply below_alloc | apply pw_below_drewN | apply below_drew1 | apply below_drew | (refine Below.setCell ?_ (by (try simp); (try omega)) _) | (refine below_to ?_ HB6.out) | (refine below_to ?_ HB5.out) | (refine below_to ?_ HB4.out) | (refine below_to ?_ HB3.out) | (refine below_to ?_ HB2.out) | (refine below_to ?_ HB1.out)))⟩
  · have d1 : (N != n) = true := by simp [e1]
    have d2 : (N == n) = false := by simp [e1]
    have es : matrixB ⟨N, cells⟩ n = false := by simp [matrixB, e1]
    rw [es]
    clear es e1
    go_enter Try.func88, Try.ntmps88
    go_wp2
    go_ret
    exact ⟨rfl, (by repeat (first | exact Below.refl _ _ | apply below_alloc | apply pw_below_drewN | apply below_drew1 | apply below_drew | (refine Below.setCell ?_ (by (try simp); (try omega)) _) | (refine below_to ?_ HB6.out) | (refine below_to ?_ HB5.out) | (refine below_to ?_ HB4.out) | (refine below_to ?_ HB3.out) | (refine below_to ?_ HB2.out) | (refine below_to ?_ HB1.out)))⟩
end Go.Proofs.Ytemjpgmfignhnaa
