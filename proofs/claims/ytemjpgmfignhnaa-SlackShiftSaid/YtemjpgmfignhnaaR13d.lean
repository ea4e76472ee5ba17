/- Contracts: one load under another; when one may begin, or come at the latest.
Conditions: lists no longer than memory allows; lawful windows. -/
import Derived.Test.YtemjpgmfignhnaaP13a
namespace Go.Proofs.Ytemjpgmfignhnaa
open Go.RowKit Go.Proofs.YtemjpgmfignhnaaW.PrintWords Go.Proofs.YtemjpgmfignhnaaW.PrintLast Go.Proofs.YtemjpgmfignhnaaW.PrintMore
set_option linter.unusedVariables false
set_option linter.unusedSimpArgs false
attribute [local go_sem] cell_growBy Option.some_or
def underB (a b : List Int) : Bool := decide (a.length = b.length) && (List.range a.length).all (fun i => decide (rd a i ≤ rd b i))
set_option maxHeartbeats 8000000 in
set_option maxRecDepth 100000 in
theorem refUnder_any (a b : List Int) (A B : Option Addr) (c c' : Nat) (w : World) (hr : Kd.C (Kd.int .i64) w A a.length a) (hr' : Kd.C (Kd.int .i64) w B b.length b) (hl : a.length ≤ 4611686018427387904) :
    Calls Try.prog 60 #[.slice A a.length c, .slice B b.length c'] w fun e w' => e = .returned (.bool (underB a b)) ∧ Below w.heap.size w w' := by
  have HR := Aside0.mk hr
  have HR' := Aside0.mk hr'
  clear hr hr'
  by_cases hlen : a.length = b.length
  rotate_left
  · have e : underB a b = false := by simp [underB, hlen]
    have d0 : ((a.length : Int) != (b.length : Int)) = true := by simp; omega
    rw [e]
    clear e
    go_enter Try.func60, Try.ntmps60
    go_wp2
    go_ret
    exact ⟨rfl, Below.refl _ _⟩
  have d0 : ((a.length : Int) != (b.length : Int)) = false := by simp; omega
  have HBAD : Aside0 (∀ k, k < a.length → rd b k < rd a k → underB a b = false) := ⟨fun k hk h => by
    unfold underB
    rw [show (List.range a.length).all (fun i => decide (rd a i ≤ rd b i)) = false from List.all_eq_false.2 ⟨k, List.mem_range.2 hk, by simp; omega⟩, Bool.and_false]⟩
  have HALL : Aside0 ((∀ k, k < a.length → rd a k ≤ rd b k) → underB a b = true) := ⟨fun h => by
    unfold underB
    rw [show (List.range a.length).all (fun i => decide (rd a i ≤ rd b i)) = true from List.all_eq_true.2 (fun k hk => decide_eq_true (h k (List.mem_range.1 hk))), Bool.and_true]
    exact decide_eq_true hlen⟩
  generalize underB a b = r at *
  have hl' : b.length ≤ 4611686018427387904 := by omega
  go_enter Try.func60, Try.ntmps60
  go_wp2
  go_loopw [5] (fun i wr => ∃ k : Nat, k ≤ a.length ∧ i = .int .i64 k ∧ Aside0 (∀ j, j < k → rd a j ≤ rd b j) ∧ Aside0 (Below w.heap.size w wr)) (fun i _ => a.length - (intOf i).toNat)
  case atStart => exact ⟨0, Nat.zero_le _, rfl, ⟨fun j h => absurd h (Nat.not_lt_zero _)⟩, ⟨Below.refl _ _⟩⟩
  case round =>
    obtain ⟨k, hk, rfl, HJ, HB1⟩ := hrel
    by_cases hlt : k < a.length
    · obtain ⟨ad, ea, x0⟩ := Kd.at_int (Kd.C_below HR.out HB1.out) (k : Int) (by omega) (by omega)
      obtain ⟨ad', ea', y0⟩ := Kd.at_int (Kd.C_below HR'.out HB1.out) (k : Int) (by omega) (by omega)
      subst ea
      subst ea'
      simp only [Int.toNat_natCast] at x0 y0
      have r0 : (0 : Int) ≤ (k : Int) := by omega
      have r1 : (k : Int) < (a.length : Int) := by omega
      have r2 : (k : Int) < (b.length : Int) := by omega
      by_cases hc : rd b k < rd a k
      · have d1 : decide (rd b (k : Int) < rd a (k : Int)) = true := decide_eq_true hc
        have er := HBAD.out k hlt hc
        subst er
        clear hc HBAD
        go_wp2
        go_quiet (fail)
        go_wp2
        go_ret
        exact ⟨rfl, (by repeat (first | exact Below.refl _ _ | apply below_alloc | apply pw_below_drewN | apply below_drew1 | apply below_drew | (refine Below.setCell ?_ (by (try simp); (try omega)) _) | (refine below_to ?_ HB6.out) | (refine below_to ?_ HB5.out) | (refine below_to ?_ HB4.out) | (refine below_to ?_ HB3.out) | (refine below_to ?_ HB2.out) | (refine below_to ?_ HB1.out)))⟩
      · have d1 : decide (rd b (k : Int) < rd a (k : Int)) = false := decide_eq_false hc
        have HN := Aside0.mk (show rd a k ≤ rd b k by omega)
        clear hc HBAD
        go_wp2
        go_quiet (fail)
        go_wp2
        go_roundw
        case rel => exact ⟨k + 1, by omega, by go_num, ⟨all_succ HJ.out HN.out⟩, ⟨(by repeat (first | exact Below.refl _ _ | apply below_alloc | apply pw_below_drewN | apply below_drew1 | apply below_drew | (refine Below.setCell ?_ (by (try simp); (try omega)) _) | (refine below_to ?_ HB6.out) | (refine below_to ?_ HB5.out) | (refine below_to ?_ HB4.out) | (refine below_to ?_ HB3.out) | (refine below_to ?_ HB2.out) | (refine below_to ?_ HB1.out)))⟩⟩
        case measure => simp [intOf]; omega
    · obtain rfl : k = a.length := by omega
      have er := HALL.out HJ.out
      subst er
      go_wp2
      go_ret
      exact ⟨rfl, (by repeat (first | exact Below.refl _ _ | apply below_alloc | apply pw_below_drewN | apply below_drew1 | apply below_drew | (refine Below.setCell ?_ (by (try simp); (try omega)) _) | (refine below_to ?_ HB6.out) | (refine below_to ?_ HB5.out) | (refine below_to ?_ HB4.out) | (refine below_to ?_ HB3.out) | (refine below_to ?_ HB2.out) | (refine below_to ?_ HB1.out)))⟩
/-! ### windows -/
def startS (t : Int) : List TWindow → Int × Bool
  | [] => (0, false)
  | w :: l => if t ≤ w.To then ((if t < w.From then w.From else t), true) else startS t l
theorem startS_at (t : Int) (l : List TWindow) (k : Nat) (h : k < l.length) : startS t (l.drop k) = if t ≤ l[k].To then ((if t < l[k].From then l[k].From else t), true) else startS t (l.drop (k + 1)) := by
  rw [List.drop_eq_getElem_cons h, startS]
structure WinOk (l : List TWindow) : Prop where
  len : l.length ≤ 4
  pos : ∀ i (h : i < l.length), 0 ≤ l[i].From ∧ l[i].From ≤ l[i].To ∧ l[i].To ≤ 1000000
  asc : ∀ i j (hi : i < j) (hj : j < l.length), (l[i]'(by omega)).To < l[j].From
theorem winS_ok : ∀ (l : List TWindow) (i lo : Int), (winS i lo l).2 = 0 → (∀ j (h : j < l.length), lo < l[j].From ∧ 0 ≤ l[j].From ∧ l[j].From ≤ l[j].To ∧ l[j].To ≤ 1000000) ∧ ∀ i j (hi : i < j) (hj : j < l.length), (l[i]'(by omega)).To < l[j].From
  | [], _, _, _ => ⟨fun j h => (by simp at h), fun _ _ _ h => (by simp at h)⟩
  | w :: l, i, lo, h => by
    unfold winS at h
    split at h
    · cases h
    · rename_i hn
      have hw : ¬ w.From < 0 ∧ ¬ w.To > 1000000 ∧ ¬ w.From > w.To ∧ ¬ w.From ≤ lo := ⟨fun a => hn (.inl a), fun a => hn (.inr (.inl a)), fun a => hn (.inr (.inr (.inl a))), fun a => hn (.inr (.inr (.inr a)))⟩
      obtain ⟨h1, h2⟩ := winS_ok l (i + 1) w.To h
      refine ⟨fun j hj => ?_, fun a b hab hb => ?_⟩
      · cases j with
        | zero => simp only [List.getElem_cons_zero]; omega
        | succ j =>
          simp only [List.getElem_cons_succ]
          have := h1 j (by simpa using hj)
          omega
      · cases b with
        | zero => omega
        | succ b =>
          cases a with
          | zero =>
            simp only [List.getElem_cons_succ, List.getElem_cons_zero]
            exact (h1 b (by simpa using hb)).1
          | succ a =>
            simp only [List.getElem_cons_succ]
            exact h2 a b (by omega) (by simpa using hb)
theorem winOk_of {l : List TWindow} (h : windowsB l = true) : WinOk l := by
  have hl := windowsB_len h
  unfold windowsB windowsS at h
  split at h
  · simp at h
  · have h' : (winS 0 (-1) l).2 = 0 := by simpa using h
    obtain ⟨h1, h2⟩ := winS_ok l 0 (-1) h'
    exact ⟨hl, fun i hi => by have := h1 i hi; omega, h2⟩
set_option maxHeartbeats 8000000 in
set_option maxRecDepth 100000 in
theorem start_any (l : List TWindow) (A : Option Addr) (c : Nat) (t : Int) (w : World) (hr : Kd.C kWindow w A l.length l) (hl : l.length ≤ 4611686018427387904) :
    Calls Try.prog 109 #[.slice A l.length c, .int .i64 t] w fun e w' => e = .returned (.tuple #[.int .i64 (startS t l).1, .bool (startS t l).2]) ∧ Below w.heap.size w w' := by
  have HR := Aside0.mk hr
  clear hr
  generalize hq : startS t l = r
  have HQ : Aside0 (startS t (l.drop 0) = r) := ⟨hq⟩
  clear hq
  go_enter Try.func109, Try.ntmps109
  go_wp2
  go_loopw [10] (fun i wr => ∃ k : Nat, k ≤ l.length ∧ i = .int .i64 k ∧ Aside0 (startS t (l.drop k) = r) ∧ Aside0 (Below w.heap.size w wr)) (fun i _ => l.length - (intOf i).toNat)
  case atStart => exact ⟨0, Nat.zero_le _, rfl, HQ, ⟨Below.refl _ _⟩⟩
  case round =>
    clear HQ
    obtain ⟨k, hk, rfl, HS, HB1⟩ := hrel
    by_cases hlt : k < l.length
    · obtain ⟨ad, ea, x0, x1⟩ := atNWindow (Kd.C_below HR.out HB1.out) k hlt
      subst ea
      have r0 : (0 : Int) ≤ (k : Int) := by omega
      have r1 : (k : Int) < (l.length : Int) := by omega
      have hs := HS.out
      rw [startS_at t l k hlt] at hs
      by_cases h1 : t ≤ l[k].To
      · have d1 : decide (t ≤ l[k].To) = true := decide_eq_true h1
        rw [if_pos h1] at hs
        clear HS
        by_cases h2 : t < l[k].From
        · rw [if_pos h2] at hs
          subst hs
          have d2 : decide (t < l[k].From) = true := decide_eq_true h2
          clear h1
          go_wp2
          go_ret2
          exact ⟨by first | rfl | (simp [h2]; done) | (simp [h2]; omega), (by repeat (first | exact Below.refl _ _ | apply below_alloc | apply pw_below_drewN | apply below_drew1 | apply below_drew | (refine Below.setCell ?_ (by (try simp); (try omega)) _) | (refine below_to ?_ HB6.out) | (refine below_to ?_ HB5.out) | (refine below_to ?_ HB4.out) | (refine below_to ?_ HB3.out) | (refine below_to ?_ HB2.out) | (refine below_to ?_ HB1.out)))⟩
        · rw [if_neg h2] at hs
          subst hs
          have d2 : decide (t < l[k].From) = false := decide_eq_false h2
          clear h1
          go_wp2
          go_ret2
          exact ⟨by first | rfl | (simp [h2]; done) | (simp [h2]; omega), (by repeat (first | exact Below.refl _ _ | apply below_alloc | apply pw_below_drewN | apply below_drew1 | apply below_drew | (refine Below.setCell ?_ (by (try simp); (try omega)) _) | (refine below_to ?_ HB6.out) | (refine below_to ?_ HB5.out) | (refine below_to ?_ HB4.out) | (refine below_to ?_ HB3.out) | (refine below_to ?_ HB2.out) | (refine below_to ?_ HB1.out)))⟩
      · have d1 : decide (t ≤ l[k].To) = false := decide_eq_false h1
        rw [if_neg h1] at hs
        have HN := Aside0.mk hs
        clear hs HS h1
        go_wp2
        go_roundw
        case rel => exact ⟨k + 1, by omega, by go_num, HN, ⟨(by repeat (first | exact Below.refl _ _ | apply below_alloc | apply pw_below_drewN | apply below_drew1 | apply below_drew | (refine Below.setCell ?_ (by (try simp); (try omega)) _) | (refine below_to ?_ HB6.out) | (refine below_to ?_ HB5.out) | (refine below_to ?_ HB4.out) | (refine below_to ?_ HB3.out) | (refine below_to ?_ HB2.out) | (refine below_to ?_ HB1.out)))⟩⟩
        case measure => simp [intOf]; omega
    · obtain rfl : k = l.length := by omega
      have hs := HS.out
      rw [List.drop_of_length_le (Nat.le_refl _), startS] at hs
      subst hs
      go_wp2
      go_ret2
      exact ⟨rfl, (by repeat (first | exact Below.refl _ _ | apply below_alloc | apply pw_below_drewN | apply below_drew1 | apply below_drew | (refine Below.setCell ?_ (by (try simp); (try omega)) _) | (refine below_to ?_ HB6.out) | (refine below_to ?_ HB5.out) | (refine below_to ?_ HB4.out) | (refine below_to ?_ HB3.out) | (refine below_to ?_ HB2.out) | (refine below_to ?_ HB1.out)))⟩
set_option maxHeartbeats 8000000 in
set_option maxRecDepth 100000 in
theorem refStart_any (l : List TWindow) (A : Option Addr) (c : Nat) (t : Int) (w : World) (hr : Kd.C kWindow w A l.length l) (hw : WinOk l) :
    Calls Try.prog 61 #[.slice A l.length c, .int .i64 t] w fun e w' => e = .returned (.tuple #[.int .i64 (startS t l).1, .bool (startS t l).2]) ∧ Below w.heap.size w w' := by
  have HR := Aside0.mk hr
  have HW := Aside0.mk hw
  have hl := hw.len
  clear hr hw
  generalize hq : startS t l = r
  have HQ : Aside0 (startS t (l.drop 0) = r) := ⟨hq⟩
  clear hq
  go_enter Try.func61, Try.ntmps61
  go_wp2
  go_loopw [6, 7, 8] (fun b f i wr => ∃ k : Nat, k ≤ l.length ∧ i = .int .i64 k ∧ Aside0 ((f = .bool false ∧ b = .int .i64 0 ∧ startS t (l.drop k) = r) ∨ (f = .bool true ∧ b = .int .i64 r.1 ∧ r.2 = true ∧ ∀ j (h : j < l.length), k ≤ j → r.1 < l[j].From)) ∧ Aside0 (Below w.heap.size w wr)) (fun _ _ i _ => l.length - (intOf i).toNat)
  case atStart => exact ⟨0, Nat.zero_le _, rfl, ⟨.inl ⟨rfl, rfl, HQ.out⟩⟩, ⟨Below.refl _ _⟩⟩
  case round =>
    clear HQ
    obtain ⟨k, hk, rfl, HS, HB1⟩ := hrel
    by_cases hlt : k < l.length
    · obtain ⟨ad, ea, x0, x1⟩ := atNWindow (Kd.C_below HR.out HB1.out) k hlt
      subst ea
      have r0 : (0 : Int) ≤ (k : Int) := by omega
      have r1 : (k : Int) < (l.length : Int) := by omega
      rcases HS.out with ⟨rfl, rfl, hs⟩ | ⟨rfl, rfl, h2, hj⟩
      · rw [startS_at t l k hlt] at hs
        by_cases h1 : t ≤ l[k].To
        · have d1 : decide (l[k].To < t) = false := decide_eq_false (by omega)
          rw [if_pos h1] at hs
          clear HS
          have hpos := HW.out.pos k hlt
          by_cases h2 : t < l[k].From
          · rw [if_pos h2] at hs
            subst hs
            have HN : Aside0 (∀ j (h : j < l.length), k + 1 ≤ j → l[k].From < l[j].From) := ⟨fun j h hj => by have := HW.out.asc k j (by omega) h; omega⟩
            have d2 : decide (l[k].From < t) = false := decide_eq_false (by omega)
            clear h1 h2 hpos
            go_wp2
            go_roundw
            case rel => exact ⟨k + 1, by omega, by go_num, ⟨.inr ⟨by trivial, by first | rfl | trivial, by first | rfl | trivial, HN.out⟩⟩, ⟨(by repeat (first | exact Below.refl _ _ | apply below_alloc | apply pw_below_drewN | apply below_drew1 | apply below_drew | (refine Below.setCell ?_ (by (try simp); (try omega)) _) | (refine below_to ?_ HB6.out) | (refine below_to ?_ HB5.out) | (refine below_to ?_ HB4.out) | (refine below_to ?_ HB3.out) | (refine below_to ?_ HB2.out) | (refine below_to ?_ HB1.out)))⟩⟩
            case measure => simp [intOf]; omega
          · rw [if_neg h2] at hs
            subst hs
            have HN : Aside0 (∀ j (h : j < l.length), k + 1 ≤ j → t < l[j].From) := ⟨fun j h hj => by have := HW.out.asc k j (by omega) h; omega⟩
            rcases Int.lt_or_eq_of_le (Int.not_lt.1 h2) with h3 | h3
            · have d2 : decide (l[k].From < t) = true := decide_eq_true h3
              clear h1 h2 hpos h3
              go_wp2
              go_roundw
              case rel => exact ⟨k + 1, by omega, by go_num, ⟨.inr ⟨by trivial, by first | rfl | trivial, by first | rfl | trivial, HN.out⟩⟩, ⟨(by repeat (first | exact Below.refl _ _ | apply below_alloc | apply pw_below_drewN | apply below_drew1 | apply below_drew | (refine Below.setCell ?_ (by (try simp); (try omega)) _) | (refine below_to ?_ HB6.out) | (refine below_to ?_ HB5.out) | (refine below_to ?_ HB4.out) | (refine below_to ?_ HB3.out) | (refine below_to ?_ HB2.out) | (refine below_to ?_ HB1.out)))⟩⟩
              case measure => simp [intOf]; omega
            · have d2 : decide (l[k].From < t) = false := decide_eq_false (by omega)
              have HE := Aside0.mk h3
              clear h1 h2 hpos h3
              go_wp2
              go_roundw
              case rel => exact ⟨k + 1, by omega, by go_num, ⟨.inr ⟨by trivial, by first | rw [HE.out] | (simp; exact HE.out), by first | rfl | trivial, HN.out⟩⟩, ⟨(by repeat (first | exact Below.refl _ _ | apply below_alloc | apply pw_below_drewN | apply below_drew1 | apply below_drew | (refine Below.setCell ?_ (by (try simp); (try omega)) _) | (refine below_to ?_ HB6.out) | (refine below_to ?_ HB5.out) | (refine below_to ?_ HB4.out) | (refine below_to ?_ HB3.out) | (refine below_to ?_ HB2.out) | (refine below_to ?_ HB1.out)))⟩⟩
              case measure => simp [intOf]; omega
        · have d1 : decide (l[k].To < t) = true := decide_eq_true (by omega)
          rw [if_neg h1] at hs
          have HN := Aside0.mk hs
          clear hs HS h1
          go_wp2
          go_roundw
          case rel => exact ⟨k + 1, by omega, by go_num, ⟨.inl ⟨rfl, rfl, HN.out⟩⟩, ⟨(by repeat (first | exact Below.refl _ _ | apply below_alloc | apply pw_below_drewN | apply below_drew1 | apply below_drew | (refine Below.setCell ?_ (by (try simp); (try omega)) _) | (refine below_to ?_ HB6.out) | (refine below_to ?_ HB5.out) | (refine below_to ?_ HB4.out) | (refine below_to ?_ HB3.out) | (refine below_to ?_ HB2.out) | (refine below_to ?_ HB1.out)))⟩⟩
          case measure => simp [intOf]; omega
      · have hf := hj k hlt (Nat.le_refl _)
        have HJ := Aside0.mk hj
        have H2 := Aside0.mk h2
        clear HS hj h2
        by_cases h1 : t ≤ l[k].To
        · have d1 : decide (l[k].To < t) = false := decide_eq_false (by omega)
          by_cases h3 : l[k].From < t
          · have d2 : decide (l[k].From < t) = true := decide_eq_true h3
            have d3 : decide (t < r.1) = false := decide_eq_false (by omega)
            clear h1 h3 hf
            go_wp2
            go_roundw
            case rel => exact ⟨k + 1, by omega, by go_num, ⟨.inr ⟨rfl, rfl, H2.out, fun j h hj => HJ.out j h (by omega)⟩⟩, ⟨(by repeat (first | exact Below.refl _ _ | apply below_alloc | apply pw_below_drewN | apply below_drew1 | apply below_drew | (refine Below.setCell ?_ (by (try simp); (try omega)) _) | (refine below_to ?_ HB6.out) | (refine below_to ?_ HB5.out) | (refine below_to ?_ HB4.out) | (refine below_to ?_ HB3.out) | (refine below_to ?_ HB2.out) | (refine below_to ?_ HB1.out)))⟩⟩
            case measure => simp [intOf]; omega
          · have d2 : decide (l[k].From < t) = false := decide_eq_false h3
            have d3 : decide (l[k].From < r.1) = false := decide_eq_false (by omega)
            clear h1 h3 hf
            go_wp2
            go_roundw
            case rel => exact ⟨k + 1, by omega, by go_num, ⟨.inr ⟨rfl, rfl, H2.out, fun j h hj => HJ.out j h (by omega)⟩⟩, ⟨(by repeat (first | exact Below.refl _ _ | apply below_alloc | apply pw_below_drewN | apply below_drew1 | apply below_drew | (refine Below.setCell ?_ (by (try simp); (try omega)) _) | (refine below_to ?_ HB6.out) | (refine below_to ?_ HB5.out) | (refine below_to ?_ HB4.out) | (refine below_to ?_ HB3.out) | (refine below_to ?_ HB2.out) | (refine below_to ?_ HB1.out)))⟩⟩
            case measure => simp [intOf]; omega
        · have d1 : decide (l[k].To < t) = true := decide_eq_true (by omega)
          clear h1 hf
          go_wp2
          go_roundw
          case rel => exact ⟨k + 1, by omega, by go_num, ⟨.inr ⟨rfl, rfl, H2.out, fun j h hj => HJ.out j h (by omega)⟩⟩, ⟨(by repeat (first | exact Below.refl _ _ | apply below_alloc | apply pw_below_drewN | apply below_drew1 | apply below_drew | (refine Below.setCell ?_ (by (try simp); (try omega)) _) | (refine below_to ?_ HB6.out) | (refine below_to ?_ HB5.out) | (refine below_to ?_ HB4.out) | (refine below_to ?_ HB3.out) | (refine below_to ?_ HB2.out) | (refine below_to ?_ HB1.out)))⟩⟩
          case measure => simp [intOf]; omega
    · obtain rfl : k = l.length := by omega
      rcases HS.out with ⟨rfl, rfl, hs⟩ | ⟨rfl, rfl, h2, hj⟩
      · rw [List.drop_of_length_le (Nat.le_refl _), startS] at hs
        subst hs
        go_wp2
        go_ret2
        exact ⟨rfl, (by repeat (first | exact Below.refl _ _ | apply below_alloc | apply pw_below_drewN | apply below_drew1 | apply below_drew | (refine Below.setCell ?_ (by (try simp); (try omega)) _) | (refine below_to ?_ HB6.out) | (refine below_to ?_ HB5.out) | (refine below_to ?_ HB4.out) | (refine below_to ?_ HB3.out) | (refine below_to ?_ HB2.out) | (refine below_to ?_ HB1.out)))⟩
      · obtain ⟨r1, r2⟩ := r
        obtain rfl : r2 = true := h2
        clear hj HS
        go_wp2
        go_ret2
        exact ⟨rfl, (by repeat (first | exact Below.refl _ _ | apply below_alloc | apply pw_below_drewN | apply below_drew1 | apply below_drew | (refine Below.setCell ?_ (by (try simp); (try omega)) _) | (refine below_to ?_ HB6.out) | (refine below_to ?_ HB5.out) | (refine below_to ?_ HB4.out) | (refine below_to ?_ HB3.out) | (refine below_to ?_ HB2.out) | (refine below_to ?_ HB1.out)))⟩
def lastTo (t : Int) (l : List TWindow) : Nat → Int × Bool
  | 0 => (0, false)
  | k + 1 => if (rdWindow l k).From ≤ t then ((if (rdWindow l k).To < t then (rdWindow l k).To else t), true) else lastTo t l k
def lastS (t : Int) (l : List TWindow) : Int × Bool := lastTo t l l.length
set_option maxHeartbeats 8000000 in
set_option maxRecDepth 100000 in
theorem last_any (l : List TWindow) (A : Option Addr) (c : Nat) (t : Int) (w : World) (hr : Kd.C kWindow w A l.length l) (hl : l.length ≤ 4611686018427387904) :
    Calls Try.prog 110 #[.slice A l.length c, .int .i64 t] w fun e w' => e = .returned (.tuple #[.int .i64 (lastS t l).1, .bool (lastS t l).2]) ∧ Below w.heap.size w w' := by
  have HR := Aside0.mk hr
  clear hr
  unfold lastS
  generalize hq : lastTo t l l.length = r
  have HQ : Aside0 (lastTo t l l.length = r) := ⟨hq⟩
  clear hq
  go_enter Try.func110, Try.ntmps110
  go_wp2
  go_loopw [6] (fun i wr => ∃ k : Nat, k ≤ l.length ∧ i = .int .i64 ((k : Int) - 1) ∧ Aside0 (lastTo t l k = r) ∧ Aside0 (Below w.heap.size w wr)) (fun i _ => (intOf i + 1).toNat)
  case atStart => exact ⟨l.length, Nat.le_refl _, rfl, HQ, ⟨Below.refl _ _⟩⟩
  case round =>
    clear HQ
    obtain ⟨k, hk, rfl, HS, HB1⟩ := hrel
    cases k with
    | zero =>
      have hs := HS.out
      rw [lastTo] at hs
      subst hs
      go_wp2
      go_ret2
      exact ⟨rfl, (by repeat (first | exact Below.refl _ _ | apply below_alloc | apply pw_below_drewN | apply below_drew1 | apply below_drew | (refine Below.setCell ?_ (by (try simp); (try omega)) _) | (refine below_to ?_ HB6.out) | (refine below_to ?_ HB5.out) | (refine below_to ?_ HB4.out) | (refine below_to ?_ HB3.out) | (refine below_to ?_ HB2.out) | (refine below_to ?_ HB1.out)))⟩
    | succ k =>
      have hlt : k < l.length := by omega
      obtain ⟨ad, ea, x0, x1⟩ := atNWindow (Kd.C_below HR.out HB1.out) k hlt
      subst ea
      have r0 : (0 : Int) ≤ (k : Int) := by omega
      have r1 : (k : Int) < (l.length : Int) := by omega
      have ek : (((k + 1 : Nat) : Int) - 1) = (k : Int) := by omega
      rw [ek]
      have hs := HS.out
      rw [lastTo, rdWindow_nat l k hlt] at hs
      by_cases h1 : l[k].From ≤ t
      · have d1 : decide (l[k].From ≤ t) = true := decide_eq_true h1
        rw [if_pos h1] at hs
        clear HS
        by_cases h2 : l[k].To < t
        · rw [if_pos h2] at hs
          subst hs
          have d2 : decide (l[k].To < t) = true := decide_eq_true h2
          clear h1 ek
          go_wp2
          go_ret2
          exact ⟨by first | rfl | (simp [h2]; done) | (simp [h2]; omega), (by repeat (first | exact Below.refl _ _ | apply below_alloc | apply pw_below_drewN | apply below_drew1 | apply below_drew | (refine Below.setCell ?_ (by (try simp); (try omega)) _) | (refine below_to ?_ HB6.out) | (refine below_to ?_ HB5.out) | (refine below_to ?_ HB4.out) | (refine below_to ?_ HB3.out) | (refine below_to ?_ HB2.out) | (refine below_to ?_ HB1.out)))⟩
        · rw [if_neg h2] at hs
          subst hs
          have d2 : decide (l[k].To < t) = false := decide_eq_false h2
          clear h1 ek
          go_wp2
          go_ret2
          exact ⟨by first | rfl | (simp [h2]; done) | (simp [h2]; omega), (by repeat (first | exact Below.refl _ _ | apply below_alloc | apply pw_below_drewN | apply below_drew1 | apply below_drew | (refine Below.setCell ?_ (by (try simp); (try omega)) _) | (refine below_to ?_ HB6.out) | (refine below_to ?_ HB5.out) | (refine below_to ?_ HB4.out) | (refine below_to ?_ HB3.out) | (refine below_to ?_ HB2.out) | (refine below_to ?_ HB1.out)))⟩
      · have d1 : decide (l[k].From ≤ t) = false := decide_eq_false h1
        rw [if_neg h1] at hs
        have HN := Aside0.mk hs
        clear hs HS h1 ek
        go_wp2
        go_roundw
        case rel => exact ⟨k, by omega, by go_num, HN, ⟨(by repeat (first | exact Below.refl _ _ | apply below_alloc | apply pw_below_drewN | apply below_drew1 | apply below_drew | (refine Below.setCell ?_ (by (try simp); (try omega)) _) | (refine below_to ?_ HB6.out) | (refine below_to ?_ HB5.out) | (refine below_to ?_ HB4.out) | (refine below_to ?_ HB3.out) | (refine below_to ?_ HB2.out) | (refine below_to ?_ HB1.out)))⟩⟩
        case measure => first | (simp [intOf]; done) | (simp [intOf]; omega)
end Go.Proofs.Ytemjpgmfignhnaa
