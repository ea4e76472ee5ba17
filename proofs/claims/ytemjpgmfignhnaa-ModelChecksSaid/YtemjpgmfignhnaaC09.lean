/- Contracts of the functions about windows and amounts.
Conditions: lists no longer than memory allows. -/
import Derived.Test.YtemjpgmfignhnaaC12
namespace Go.Proofs.Ytemjpgmfignhnaa
open Go.RowKit Go.Proofs.YtemjpgmfignhnaaW.PrintWords Go.Proofs.YtemjpgmfignhnaaW.PrintLast Go.Proofs.YtemjpgmfignhnaaW.PrintMore
set_option linter.unusedVariables false
set_option linter.unusedSimpArgs false
attribute [local go_sem] cell_growBy Option.some_or
theorem not_or4 {a b c d : Prop} (ha : ¬ a) (hb : ¬ b) (hc : ¬ c) (hd : ¬ d) : ¬ (a ∨ b ∨ c ∨ d) := fun h => h.elim ha fun h => h.elim hb fun h => h.elim hc hd
/-- What is wrong with windows from place i on; lo: where the one ahead ends. -/
def winS : Int → Int → List TWindow → Int × Int
  | _, _, [] => (-1, 0)
  | i, lo, w :: l => if w.From < 0 ∨ w.To > 1000000 ∨ w.From > w.To ∨ w.From ≤ lo then (i, 2) else winS (i + 1) w.To l
def windowsS (l : List TWindow) : Int × Int := if l.length < 1 ∨ l.length > 4 then (-1, 43) else winS 0 (-1) l
def loAt (l : List TWindow) (k : Nat) : Int := if k = 0 then -1 else (l.getD (k - 1) zWindow).To
theorem loAt_succ (l : List TWindow) (k : Nat) (h : k < l.length) : loAt l (k + 1) = l[k].To := by simp [loAt, List.getElem?_eq_getElem h]
theorem winS_at (l : List TWindow) (k : Nat) (h : k < l.length) : winS k (loAt l k) (l.drop k) = if l[k].From < 0 ∨ l[k].To > 1000000 ∨ l[k].From > l[k].To ∨ l[k].From ≤ loAt l k then ((k : Int), 2) else winS ((k + 1 : Nat) : Int) (loAt l (k + 1)) (l.drop (k + 1)) := by
  rw [List.drop_eq_getElem_cons h, winS, loAt_succ l k h]
  rfl
set_option maxHeartbeats 4000000 in
set_option maxRecDepth 100000 in
theorem refWindows_any (l : List TWindow) (A : Option Addr) (c : Nat) (w : World) (hr : Kd.C kWindow w A l.length l) (hn : l.length ≤ 4611686018427387904) :
    Calls Try.prog 130 #[.slice A l.length c] w fun e w' => e = .returned (.tuple #[.int .i64 (windowsS l).1, .int .i64 (windowsS l).2]) ∧ Below w.heap.size w w' := by
  have HR := Aside0.mk hr
  clear hr
  by_cases h4 : l.length < 1
  · have e : windowsS l = (-1, 43) := by simp [windowsS, h4]
    rw [e]
    clear e
    go_enter Try.func130, Try.ntmps130
    go_wp2
    go_ret2
    exact ⟨rfl, (by repeat (first | exact Below.refl _ _ | apply below_alloc | apply pw_below_drewN | apply below_drew1 | apply below_drew | (refine Below.setCell ?_ (by (try simp); (try omega)) _) | (refine below_to ?_ HB6.out) | (refine below_to ?_ HB5.out) | (refine below_to ?_ HB4.out) | (refine below_to ?_ HB3.out) | (refine below_to ?_ HB2.out) | (refine below_to ?_ HB1.out)))⟩
  by_cases h5 : 4 < l.length
  · have e : windowsS l = (-1, 43) := by simp [windowsS, h5]
    rw [e]
    clear e
    go_enter Try.func130, Try.ntmps130
    go_wp2
    go_ret2
    exact ⟨rfl, (by repeat (first | exact Below.refl _ _ | apply below_alloc | apply pw_below_drewN | apply below_drew1 | apply below_drew | (refine Below.setCell ?_ (by (try simp); (try omega)) _) | (refine below_to ?_ HB6.out) | (refine below_to ?_ HB5.out) | (refine below_to ?_ HB4.out) | (refine below_to ?_ HB3.out) | (refine below_to ?_ HB2.out) | (refine below_to ?_ HB1.out)))⟩
  have h6 : 1 ≤ l.length := by omega
  have h7 : l.length ≤ 4 := by omega
  have e : windowsS l = winS 0 (-1) l := by rw [windowsS, if_neg (by omega)]
  rw [e]
  generalize hq : winS 0 (-1) l = q
  have HQ : Aside0 (winS ((0 : Nat) : Int) (loAt l 0) (l.drop 0) = q) := ⟨hq⟩
  clear hq e h4 h5
  go_enter Try.func130, Try.ntmps130
  go_wp2
  go_loopw [4] (fun i wr => ∃ k : Nat, k ≤ l.length ∧ i = .int .i64 k ∧ Aside0 (winS k (loAt l k) (l.drop k) = q) ∧ Aside0 (Below w.heap.size w wr)) (fun i _ => l.length - (intOf i).toNat)
  case atStart => exact ⟨0, Nat.zero_le _, rfl, HQ, ⟨Below.refl _ _⟩⟩
  case round =>
    clear HQ
    obtain ⟨k, hk, rfl, HS, HB1⟩ := hrel
    by_cases hlt : k < l.length
    · have HN := Aside0.mk (winS_at l k hlt)
      obtain ⟨ad, ea, x0, x1⟩ := atNWindow (Kd.C_below HR.out HB1.out) k hlt
      have g0 := fun o => alloc_cell x0 o
      have g1 := fun o => alloc_cell x1 o
      subst ea
      have r0 : (0 : Int) ≤ (k : Int) := by omega
      have r1 : (k : Int) < (l.length : Int) := by omega
      by_cases t1 : l[k].From < 0
      · have d1 : decide (l[k].From < 0) = true := decide_eq_true t1
        have e := HN.out
        rw [HS.out, if_pos (.inl t1)] at e
        subst e
        clear t1 HN HS
        go_wp2
        (try (go_quiet (fail); go_wp2)); (try (go_quiet (fail); go_wp2))
        go_ret2
        exact ⟨rfl, (by repeat (first | exact Below.refl _ _ | apply below_alloc | apply pw_below_drewN | apply below_drew1 | apply below_drew | (refine Below.setCell ?_ (by (try simp); (try omega)) _) | (refine below_to ?_ HB6.out) | (refine below_to ?_ HB5.out) | (refine below_to ?_ HB4.out) | (refine below_to ?_ HB3.out) | (refine below_to ?_ HB2.out) | (refine below_to ?_ HB1.out)))⟩
      have d1 : decide (l[k].From < 0) = false := decide_eq_false t1
      by_cases t2 : 1000000 < l[k].To
      · have d2 : decide (1000000 < l[k].To) = true := decide_eq_true t2
        have e := HN.out
        rw [HS.out, if_pos (.inr (.inl t2))] at e
        subst e
        clear t2 HN HS
        go_wp2
        (try (go_quiet (fail); go_wp2)); (try (go_quiet (fail); go_wp2))
        go_ret2
        exact ⟨rfl, (by repeat (first | exact Below.refl _ _ | apply below_alloc | apply pw_below_drewN | apply below_drew1 | apply below_drew | (refine Below.setCell ?_ (by (try simp); (try omega)) _) | (refine below_to ?_ HB6.out) | (refine below_to ?_ HB5.out) | (refine below_to ?_ HB4.out) | (refine below_to ?_ HB3.out) | (refine below_to ?_ HB2.out) | (refine below_to ?_ HB1.out)))⟩
      have d2 : decide (1000000 < l[k].To) = false := decide_eq_false t2
      by_cases t3 : l[k].To < l[k].From
      · have d3 : decide (l[k].To < l[k].From) = true := decide_eq_true t3
        have e := HN.out
        rw [HS.out, if_pos (.inr (.inr (.inl t3)))] at e
        subst e
        clear t3 HN HS
        go_wp2
        (try (go_quiet (fail); go_wp2)); (try (go_quiet (fail); go_wp2))
        go_ret2
        exact ⟨rfl, (by repeat (first | exact Below.refl _ _ | apply below_alloc | apply pw_below_drewN | apply below_drew1 | apply below_drew | (refine Below.setCell ?_ (by (try simp); (try omega)) _) | (refine below_to ?_ HB6.out) | (refine below_to ?_ HB5.out) | (refine below_to ?_ HB4.out) | (refine below_to ?_ HB3.out) | (refine below_to ?_ HB2.out) | (refine below_to ?_ HB1.out)))⟩
      have d3 : decide (l[k].To < l[k].From) = false := decide_eq_false t3
      rcases Nat.eq_zero_or_pos k with hk0 | hk0
      · have e := HN.out
        rw [HS.out] at e
        by_cases t4 : l[k].From ≤ loAt l k
        · exfalso
          simp only [hk0, loAt, if_true] at t4
          subst hk0
          omega
        rw [if_neg (not_or4 t1 t2 t3 t4)] at e
        have HN := Aside0.mk e.symm
        have d5 : decide ((0 : Int) < (k : Int)) = false := decide_eq_false (by omega)
        have d6 : decide (0 < k) = false := decide_eq_false (by omega)
        clear t1 t2 t3 t4 e HS hk0
        go_wp2
        (try (go_quiet (fail); go_wp2)); (try (go_quiet (fail); go_wp2))
        all_goals
          go_roundw
          case rel => exact ⟨k + 1, by omega, by go_num, HN, ⟨(by repeat (first | exact Below.refl _ _ | apply below_alloc | apply pw_below_drewN | apply below_drew1 | apply below_drew | (refine Below.setCell ?_ (by (try simp); (try omega)) _) | (refine below_to ?_ HB6.out) | (refine below_to ?_ HB5.out) | (refine below_to ?_ HB4.out) | (refine below_to ?_ HB3.out) | (refine below_to ?_ HB2.out) | (refine below_to ?_ HB1.out)))⟩⟩
          case measure => simp [intOf]; omega
      · obtain ⟨j, rfl⟩ : ∃ j, k = j + 1 := ⟨k - 1, by omega⟩
        obtain ⟨ad', ea', y0, y1⟩ := atNWindow (Kd.C_below HR.out HB1.out) j (by omega)
        injection ea' with ea'
        subst ea'
        have k1 := fun o => alloc_cell y1 o
        have el : loAt l (j + 1) = l[j].To := loAt_succ l j (by omega)
        rw [el] at HN HS
        clear el y0
        by_cases t4 : l[j + 1].From ≤ l[j].To
        · have d4 : decide (l[j + 1].From ≤ l[j].To) = true := decide_eq_true t4
          have e := HN.out
          rw [HS.out, if_pos (.inr (.inr (.inr t4)))] at e
          subst e
          clear t4 HN HS
          go_wp2
          (try (go_quiet (fail); go_wp2)); (try (go_quiet (fail); go_wp2))
          go_ret2
          exact ⟨rfl, (by repeat (first | exact Below.refl _ _ | apply below_alloc | apply pw_below_drewN | apply below_drew1 | apply below_drew | (refine Below.setCell ?_ (by (try simp); (try omega)) _) | (refine below_to ?_ HB6.out) | (refine below_to ?_ HB5.out) | (refine below_to ?_ HB4.out) | (refine below_to ?_ HB3.out) | (refine below_to ?_ HB2.out) | (refine below_to ?_ HB1.out)))⟩
        · have d4 : decide (l[j + 1].From ≤ l[j].To) = false := decide_eq_false t4
          have e := HN.out
          rw [HS.out, if_neg (not_or4 t1 t2 t3 t4)] at e
          have HN := Aside0.mk e.symm
          clear t1 t2 t3 t4 e HS
          go_wp2
          (try (go_quiet (fail); go_wp2)); (try (go_quiet (fail); go_wp2))
          all_goals
            go_roundw
            case rel => exact ⟨j + 1 + 1, by omega, by go_num, HN, ⟨(by repeat (first | exact Below.refl _ _ | apply below_alloc | apply pw_below_drewN | apply below_drew1 | apply below_drew | (refine Below.setCell ?_ (by (try simp); (try omega)) _) | (refine below_to ?_ HB6.out) | (refine below_to ?_ HB5.out) | (refine below_to ?_ HB4.out) | (refine below_to ?_ HB3.out) | (refine below_to ?_ HB2.out) | (refine below_to ?_ HB1.out)))⟩⟩
            case measure => simp [intOf]; omega
    · have e := HS.out
      rw [List.drop_of_length_le (by omega), winS] at e
      subst e
      clear HS
      go_wp2
      go_ret2
      exact ⟨rfl, (by repeat (first | exact Below.refl _ _ | apply below_alloc | apply pw_below_drewN | apply below_drew1 | apply below_drew | (refine Below.setCell ?_ (by (try simp); (try omega)) _) | (refine below_to ?_ HB6.out) | (refine below_to ?_ HB5.out) | (refine below_to ?_ HB4.out) | (refine below_to ?_ HB3.out) | (refine below_to ?_ HB2.out) | (refine below_to ?_ HB1.out)))⟩
set_option maxHeartbeats 4000000 in
set_option maxRecDepth 100000 in
theorem check_any (l : List TWindow) (A : Option Addr) (c : Nat) (w : World) (hr : Kd.C kWindow w A l.length l) (hn : l.length ≤ 4611686018427387904) :
    Calls Try.prog 116 #[.slice A l.length c] w fun e w' => e = .returned (.tuple #[.int .i64 (windowsS l).1, .int .i64 (windowsS l).2]) ∧ Below w.heap.size w w' := by
  have HR := Aside0.mk hr
  clear hr
  by_cases h4 : l.length < 1
  · have e : windowsS l = (-1, 43) := by simp [windowsS, h4]
    rw [e]
    clear e
    go_enter Try.func116, Try.ntmps116
    go_wp2
    go_ret2
    exact ⟨rfl, (by repeat (first | exact Below.refl _ _ | apply below_alloc | apply pw_below_drewN | apply below_drew1 | apply below_drew | (refine Below.setCell ?_ (by (try simp); (try omega)) _) | (refine below_to ?_ HB6.out) | (refine below_to ?_ HB5.out) | (refine below_to ?_ HB4.out) | (refine below_to ?_ HB3.out) | (refine below_to ?_ HB2.out) | (refine below_to ?_ HB1.out)))⟩
  by_cases h5 : 4 < l.length
  · have e : windowsS l = (-1, 43) := by simp [windowsS, h5]
    rw [e]
    clear e
    go_enter Try.func116, Try.ntmps116
    go_wp2
    go_ret2
    exact ⟨rfl, (by repeat (first | exact Below.refl _ _ | apply below_alloc | apply pw_below_drewN | apply below_drew1 | apply below_drew | (refine Below.setCell ?_ (by (try simp); (try omega)) _) | (refine below_to ?_ HB6.out) | (refine below_to ?_ HB5.out) | (refine below_to ?_ HB4.out) | (refine below_to ?_ HB3.out) | (refine below_to ?_ HB2.out) | (refine below_to ?_ HB1.out)))⟩
  have h6 : 1 ≤ l.length := by omega
  have h7 : l.length ≤ 4 := by omega
  have e : windowsS l = winS 0 (-1) l := by rw [windowsS, if_neg (by omega)]
  rw [e]
  generalize hq : winS 0 (-1) l = q
  have HQ : Aside0 (winS ((0 : Nat) : Int) (loAt l 0) (l.drop 0) = q) := ⟨hq⟩
  clear hq e h4 h5
  go_enter Try.func116, Try.ntmps116
  go_wp2
  go_loopw [16] (fun i wr => ∃ k : Nat, k ≤ l.length ∧ i = .int .i64 k ∧ Aside0 (winS k (loAt l k) (l.drop k) = q) ∧ Aside0 (Below w.heap.size w wr)) (fun i _ => l.length - (intOf i).toNat)
  case atStart => exact ⟨0, Nat.zero_le _, rfl, HQ, ⟨Below.refl _ _⟩⟩
  case round =>
    clear HQ
    obtain ⟨k, hk, rfl, HS, HB1⟩ := hrel
    by_cases hlt : k < l.length
    · have HN := Aside0.mk (winS_at l k hlt)
      obtain ⟨ad, ea, x0, x1⟩ := atNWindow (Kd.C_below HR.out HB1.out) k hlt
      have g0 := fun o => alloc_cell x0 o
      have g1 := fun o => alloc_cell x1 o
      subst ea
      have r0 : (0 : Int) ≤ (k : Int) := by omega
      have r1 : (k : Int) < (l.length : Int) := by omega
      by_cases t1 : l[k].From < 0
      · have d1 : decide (l[k].From < 0) = true := decide_eq_true t1
        have e := HN.out
        rw [HS.out, if_pos (.inl t1)] at e
        subst e
        clear t1 HN HS
        go_wp2
        (try (go_quiet (fail); go_wp2)); (try (go_quiet (fail); go_wp2))
        go_ret2
        exact ⟨rfl, (by repeat (first | exact Below.refl _ _ | apply below_alloc | apply pw_below_drewN | apply below_drew1 | apply below_drew | (refine Below.setCell ?_ (by (try simp); (try omega)) _) | (refine below_to ?_ HB6.out) | (refine below_to ?_ HB5.out) | (refine below_to ?_ HB4.out) | (refine below_to ?_ HB3.out) | (refine below_to ?_ HB2.out) | (refine below_to ?_ HB1.out)))⟩
      have d1 : decide (l[k].From < 0) = false := decide_eq_false t1
      by_cases t2 : 1000000 < l[k].To
      · have d2 : decide (1000000 < l[k].To) = true := decide_eq_true t2
        have e := HN.out
        rw [HS.out, if_pos (.inr (.inl t2))] at e
        subst e
        clear t2 HN HS
        go_wp2
        (try (go_quiet (fail); go_wp2)); (try (go_quiet (fail); go_wp2))
        go_ret2
        exact ⟨rfl, (by repeat (first | exact Below.refl _ _ | apply below_alloc | apply pw_below_drewN | apply below_drew1 | apply below_drew | (refine Below.setCell ?_ (by (try simp); (try omega)) _) | (refine below_to ?_ HB6.out) | (refine below_to ?_ HB5.out) | (refine below_to ?_ HB4.out) | (refine below_to ?_ HB3.out) | (refine below_to ?_ HB2.out) | (refine below_to ?_ HB1.out)))⟩
      have d2 : decide (1000000 < l[k].To) = false := decide_eq_false t2
      by_cases t3 : l[k].To < l[k].From
      · have d3 : decide (l[k].To < l[k].From) = true := decide_eq_true t3
        have e := HN.out
        rw [HS.out, if_pos (.inr (.inr (.inl t3)))] at e
        subst e
        clear t3 HN HS
        go_wp2
        (try (go_quiet (fail); go_wp2)); (try (go_quiet (fail); go_wp2))
        go_ret2
        exact ⟨rfl, (by repeat (first | exact Below.refl _ _ | apply below_alloc | apply pw_below_drewN | apply below_drew1 | apply below_drew | (refine Below.setCell ?_ (by (try simp); (try omega)) _) | (refine below_to ?_ HB6.out) | (refine below_to ?_ HB5.out) | (refine below_to ?_ HB4.out) | (refine below_to ?_ HB3.out) | (refine below_to ?_ HB2.out) | (refine below_to ?_ HB1.out)))⟩
      have d3 : decide (l[k].To < l[k].From) = false := decide_eq_false t3
      rcases Nat.eq_zero_or_pos k with hk0 | hk0
      · have e := HN.out
        rw [HS.out] at e
        by_cases t4 : l[k].From ≤ loAt l k
        · exfalso
          simp only [hk0, loAt, if_true] at t4
          subst hk0
          omega
        rw [if_neg (not_or4 t1 t2 t3 t4)] at e
        have HN := Aside0.mk e.symm
        have d5 : decide ((0 : Int) < (k : Int)) = false := decide_eq_false (by omega)
        have d6 : decide (0 < k) = false := decide_eq_false (by omega)
        clear t1 t2 t3 t4 e HS hk0
        go_wp2
        (try (go_quiet (fail); go_wp2)); (try (go_quiet (fail); go_wp2))
        all_goals
          go_roundw
          case rel => exact ⟨k + 1, by omega, by go_num, HN, ⟨(by repeat (first | exact Below.refl _ _ | apply below_alloc | apply pw_below_drewN | apply below_drew1 | apply below_drew | (refine Below.setCell ?_ (by (try simp); (try omega)) _) | (refine below_to ?_ HB6.out) | (refine below_to ?_ HB5.out) | (refine below_to ?_ HB4.out) | (refine below_to ?_ HB3.out) | (refine below_to ?_ HB2.out) | (refine below_to ?_ HB1.out)))⟩⟩
          case measure => simp [intOf]; omega
      · obtain ⟨j, rfl⟩ : ∃ j, k = j + 1 := ⟨k - 1, by omega⟩
        obtain ⟨ad', ea', y0, y1⟩ := atNWindow (Kd.C_below HR.out HB1.out) j (by omega)
        injection ea' with ea'
        subst ea'
        have k1 := fun o => alloc_cell y1 o
        have el : loAt l (j + 1) = l[j].To := loAt_succ l j (by omega)
        rw [el] at HN HS
        clear el y0
        by_cases t4 : l[j + 1].From ≤ l[j].To
        · have d4 : decide (l[j + 1].From ≤ l[j].To) = true := decide_eq_true t4
          have e := HN.out
          rw [HS.out, if_pos (.inr (.inr (.inr t4)))] at e
          subst e
          clear t4 HN HS
          go_wp2
          (try (go_quiet (fail); go_wp2)); (try (go_quiet (fail); go_wp2))
          go_ret2
          exact ⟨rfl, (by repeat (first | exact Below.refl _ _ | apply below_alloc | apply pw_below_drewN | apply below_drew1 | apply below_drew | (refine Below.setCell ?_ (by (try simp); (try omega)) _) | (refine below_to ?_ HB6.out) | (refine below_to ?_ HB5.out) | (refine below_to ?_ HB4.out) | (refine below_to ?_ HB3.out) | (refine below_to ?_ HB2.out) | (refine below_to ?_ HB1.out)))⟩
        · have d4 : decide (l[j + 1].From ≤ l[j].To) = false := decide_eq_false t4
          have e := HN.out
          rw [HS.out, if_neg (not_or4 t1 t2 t3 t4)] at e
          have HN := Aside0.mk e.symm
          clear t1 t2 t3 t4 e HS
          go_wp2
          (try (go_quiet (fail); go_wp2)); (try (go_quiet (fail); go_wp2))
          all_goals
            go_roundw
            case rel => exact ⟨j + 1 + 1, by omega, by go_num, HN, ⟨(by repeat (first | exact Below.refl _ _ | apply below_alloc | apply pw_below_drewN | apply below_drew1 | apply below_drew | (refine Below.setCell ?_ (by (try simp); (try omega)) _) | (refine below_to ?_ HB6.out) | (refine below_to ?_ HB5.out) | (refine below_to ?_ HB4.out) | (refine below_to ?_ HB3.out) | (refine below_to ?_ HB2.out) | (refine below_to ?_ HB1.out)))⟩⟩
            case measure => simp [intOf]; omega
    · have e := HS.out
      rw [List.drop_of_length_le (by omega), winS] at e
      subst e
      clear HS
      go_wp2
      go_ret2
      exact ⟨rfl, (by repeat (first | exact Below.refl _ _ | apply below_alloc | apply pw_below_drewN | apply below_drew1 | apply below_drew | (refine Below.setCell ?_ (by (try simp); (try omega)) _) | (refine below_to ?_ HB6.out) | (refine below_to ?_ HB5.out) | (refine below_to ?_ HB4.out) | (refine below_to ?_ HB3.out) | (refine below_to ?_ HB2.out) | (refine below_to ?_ HB1.out)))⟩
end Go.Proofs.Ytemjpgmfignhnaa
