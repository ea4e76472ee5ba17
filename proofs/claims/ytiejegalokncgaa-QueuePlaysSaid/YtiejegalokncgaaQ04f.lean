/- container/heap over a queue: down.
Conditions: none. -/
import Derived.Test.YtiejegalokncgaaQ04e
namespace Go.Proofs.Ytiejegalokncgaa
open Go.RowKit Go.Proofs.YtiejegalokncgaaW.PrintWords Go.Proofs.YtiejegalokncgaaW.PrintLast Go.Proofs.YtiejegalokncgaaW.PrintMore
set_option linter.unusedVariables false
set_option linter.unusedSimpArgs false
section
variable {W : World} {qb mb c : Nat} {gb : Option Nat} {l : List QE} {D : List (IE Int)}
set_option maxHeartbeats 4000000 in
theorem down_any (h : QOk W qb mb gb c l D) (k i n : Nat) (hn : n ≤ l.length) (hi : i ≤ 4096) (hk : n ≤ i + k) : Calls Try.prog 26 #[qI qb, .int .i64 i, .int .i64 n] W
    fun x w' => x = .returned (.bool (decide (i < (downS k l i n).2))) ∧ (∃ c' D', QOk w' qb mb gb c' (downS k l i n).1 D') ∧ Turn (QS qb mb gb) W w' := by
  have HQ := Aside0.mk h
  have hln := h.len
  generalize hr : downS k l i n = r
  have HR := Aside0.mk hr
  generalize hN : l.length = N at *
  have HN := Aside0.mk hN
  clear h hr hN
  have hc1 := run_callLess
  have hc2 := run_callSwap
  have HKN0 := Aside0.mk hk
  clear hk
  go_enter Try.func26, Try.ntmps26
  go_wp2
  go_loopw [7] (fun vi wr => ∃ (i' k' c' : Nat) (l' : List QE) (D' : List (IE Int)), vi = .int .i64 i' ∧ i' ≤ 4096 ∧ n ≤ i' + k' ∧ Aside0 (downS k' l' i' n = r) ∧ Aside0 (QOk wr qb mb gb c' l' D') ∧ Aside0 (Turn (QS qb mb gb) W wr) ∧ Aside0 (l'.length = N)) (fun vi _ => n - (intOf vi).toNat)
  case atStart => exact ⟨i, k, c, l, D, rfl, hi, HKN0.out, HR, HQ, ⟨Turn.refl _ _⟩, HN⟩
  case round =>
    obtain ⟨i', k', c', l', D', rfl, hi', hk', HR', HQ', HT, HL⟩ := hrel
    have HKN := Aside0.mk hk'
    clear hk'
    obtain ⟨a, ha⟩ : ∃ a, 2 * i' = a := ⟨_, rfl⟩
    obtain ⟨j1, hj1⟩ : ∃ j1, a + 1 = j1 := ⟨_, rfl⟩
    obtain ⟨j2, hj2⟩ : ∃ j2, j1 + 1 = j2 := ⟨_, rfl⟩
    have e1 : IntKind.i64.wrap (2 * (i' : Int)) = (a : Int) := by rw [IntWalk.i64_in _ (by omega)]; omega
    have e2 : IntKind.i64.wrap ((a : Int) + 1) = (j1 : Int) := by rw [IntWalk.i64_in _ (by omega)]; omega
    have e3 : IntKind.i64.wrap ((j1 : Int) + 1) = (j2 : Int) := by rw [IntWalk.i64_in _ (by omega)]; omega
    have d2 : decide ((j1 : Int) < 0) = false := decide_eq_false (by omega)
    by_cases hjn : n ≤ j1
    · have d1 : decide ((n : Int) ≤ (j1 : Int)) = true := decide_eq_true (by omega)
      obtain rfl : (l', i') = r := by
        rw [← HR'.out]
        cases k' with
        | zero => rfl
        | succ k' => unfold downS; rw [if_neg (by omega)]
      go_wp2
      go_ret
      exact ⟨by first | rfl | (simp; rfl), ⟨c', D', HQ'.out⟩, HT.out⟩
    · have d1 : decide ((n : Int) ≤ (j1 : Int)) = false := decide_eq_false (by omega)
      have hlN := HL.out
      have HLS := Aside0.mk (fun w1 a b (hb : Below wr.heap.size wr w1) ha hb' => qLess_any (HQ'.out.below hb) a b ha hb')
      have HSW := Aside0.mk (fun w1 a b (hb : Below wr.heap.size wr w1) ha hb' => qSwap_any (HQ'.out.below hb) a b ha hb')
      have hil : i' < l'.length := by omega
      have hj1l : j1 < l'.length := by omega
      by_cases h2 : j2 < n
      · have d3 : decide ((j2 : Int) < (n : Int)) = true := decide_eq_true (by omega)
        have hj2l : j2 < l'.length := by omega
        by_cases h21 : (atE l' j2).lt (atE l' j1)
        · have d4 : decide ((atE l' j2).lt (atE l' j1)) = true := decide_eq_true h21
          have HKD : Aside0 (kidS l' n i' = j2) := ⟨by
            unfold kidS
            rw [show 2 * i' + 2 = j2 by omega, show 2 * i' + 1 = j1 by omega, if_pos ⟨h2, h21⟩]⟩
          clear hlN
          by_cases hlk : (atE l' j2).lt (atE l' i')
          · have dk : decide ((atE l' j2).lt (atE l' i')) = true := decide_eq_true hlk
            go_wp2_with (first
              | (go_at_call 43; refine (HLS.out _ _ _ (by first | exact Below.refl _ _ | assumption) (by assumption) (by assumption)).mono ?_; rintro e w1 ⟨rfl, hb0⟩; have hb : Below wr.heap.size wr w1 := below_to (by first | exact Below.refl _ _ | assumption) hb0; clear hb0)
              | (go_at_call 46; refine (HSW.out _ _ _ (by first | exact Below.refl _ _ | assumption) (by assumption) (by assumption)).mono ?_; rintro e w2 ⟨rfl, ⟨D2, hq2⟩, ht2⟩; have HQ2 := Aside0.mk hq2; have HT2 := Aside0.mk (Turn.trans (Turn.of_below (S := QS qb mb gb) (show Below wr.heap.size wr _ from (by first | exact Below.refl _ _ | assumption))) ht2 (fun _ _ h => h)); clear hq2 ht2))
            obtain ⟨k2, rfl⟩ : ∃ k2, k' = k2 + 1 := ⟨k' - 1, by have := HKN.out; omega⟩
            have HR2 : Aside0 (downS k2 (swapE l' i' j2) j2 n = r) := ⟨by
              have h := HR'.out
              unfold downS at h
              rw [HKD.out, if_pos ⟨by omega, hlk⟩] at h
              exact h⟩
            go_roundw
            case rel => exact ⟨j2, k2, c', _, D2, rfl, by omega, by have := HKN.out; omega, HR2, HQ2, ⟨HT.out.trans HT2.out (fun _ _ h => h)⟩, ⟨by rw [swapE_len]; exact HL.out⟩⟩
            case measure => simp [intOf]; omega
          · have dk : decide ((atE l' j2).lt (atE l' i')) = false := decide_eq_false hlk
            go_wp2_with (go_at_call 43; refine (HLS.out _ _ _ (by first | exact Below.refl _ _ | assumption) (by assumption) (by assumption)).mono ?_; rintro e w1 ⟨rfl, hb0⟩; have hb : Below wr.heap.size wr w1 := below_to (by first | exact Below.refl _ _ | assumption) hb0; clear hb0)
            obtain rfl : (l', i') = r := by
              rw [← HR'.out]
              cases k' with
              | zero => rfl
              | succ k' => unfold downS; rw [HKD.out, if_neg (fun h => hlk h.2)]
            go_ret
            exact ⟨by first | rfl | (simp; rfl), ⟨c', D', HQ'.out.below (by first | exact Below.refl _ _ | assumption)⟩, HT.out.trans (Turn.of_below (by first | exact Below.refl _ _ | assumption)) (fun _ _ h => h)⟩
        · have d4 : decide ((atE l' j2).lt (atE l' j1)) = false := decide_eq_false h21
          have HKD : Aside0 (kidS l' n i' = j1) := ⟨by
            unfold kidS
            rw [show 2 * i' + 2 = j2 by omega, show 2 * i' + 1 = j1 by omega, if_neg (fun h => h21 h.2)]⟩
          clear hlN
          by_cases hlk : (atE l' j1).lt (atE l' i')
          · have dk : decide ((atE l' j1).lt (atE l' i')) = true := decide_eq_true hlk
            go_wp2_with (first
              | (go_at_call 43; refine (HLS.out _ _ _ (by first | exact Below.refl _ _ | assumption) (by assumption) (by assumption)).mono ?_; rintro e w1 ⟨rfl, hb0⟩; have hb : Below wr.heap.size wr w1 := below_to (by first | exact Below.refl _ _ | assumption) hb0; clear hb0)
              | (go_at_call 46; refine (HSW.out _ _ _ (by first | exact Below.refl _ _ | assumption) (by assumption) (by assumption)).mono ?_; rintro e w2 ⟨rfl, ⟨D2, hq2⟩, ht2⟩; have HQ2 := Aside0.mk hq2; have HT2 := Aside0.mk (Turn.trans (Turn.of_below (S := QS qb mb gb) (show Below wr.heap.size wr _ from (by first | exact Below.refl _ _ | assumption))) ht2 (fun _ _ h => h)); clear hq2 ht2))
            obtain ⟨k2, rfl⟩ : ∃ k2, k' = k2 + 1 := ⟨k' - 1, by have := HKN.out; omega⟩
            have HR2 : Aside0 (downS k2 (swapE l' i' j1) j1 n = r) := ⟨by
              have h := HR'.out
              unfold downS at h
              rw [HKD.out, if_pos ⟨by omega, hlk⟩] at h
              exact h⟩
            go_roundw
            case rel => exact ⟨j1, k2, c', _, D2, rfl, by omega, by have := HKN.out; omega, HR2, HQ2, ⟨HT.out.trans HT2.out (fun _ _ h => h)⟩, ⟨by rw [swapE_len]; exact HL.out⟩⟩
            case measure => simp [intOf]; omega
          · have dk : decide ((atE l' j1).lt (atE l' i')) = false := decide_eq_false hlk
            go_wp2_with (go_at_call 43; refine (HLS.out _ _ _ (by first | exact Below.refl _ _ | assumption) (by assumption) (by assumption)).mono ?_; rintro e w1 ⟨rfl, hb0⟩; have hb : Below wr.heap.size wr w1 := below_to (by first | exact Below.refl _ _ | assumption) hb0; clear hb0)
            obtain rfl : (l', i') = r := by
              rw [← HR'.out]
              cases k' with
              | zero => rfl
              | succ k' => unfold downS; rw [HKD.out, if_neg (fun h => hlk h.2)]
            go_ret
            exact ⟨by first | rfl | (simp; rfl), ⟨c', D', HQ'.out.below (by first | exact Below.refl _ _ | assumption)⟩, HT.out.trans (Turn.of_below (by first | exact Below.refl _ _ | assumption)) (fun _ _ h => h)⟩
      · have d3 : decide ((j2 : Int) < (n : Int)) = false := decide_eq_false (by omega)
        have HKD : Aside0 (kidS l' n i' = j1) := ⟨by
          unfold kidS
          rw [show 2 * i' + 2 = j2 by omega, show 2 * i' + 1 = j1 by omega, if_neg (fun h => h2 h.1)]⟩
        clear hlN
        by_cases hlk : (atE l' j1).lt (atE l' i')
        · have dk : decide ((atE l' j1).lt (atE l' i')) = true := decide_eq_true hlk
          go_wp2_with (first
            | (go_at_call 43; refine (HLS.out _ _ _ (by first | exact Below.refl _ _ | assumption) (by assumption) (by assumption)).mono ?_; rintro e w1 ⟨rfl, hb0⟩; have hb : Below wr.heap.size wr w1 := below_to (by first | exact Below.refl _ _ | assumption) hb0; clear hb0)
            | (go_at_call 46; refine (HSW.out _ _ _ (by first | exact Below.refl _ _ | assumption) (by assumption) (by assumption)).mono ?_; rintro e w2 ⟨rfl, ⟨D2, hq2⟩, ht2⟩; have HQ2 := Aside0.mk hq2; have HT2 := Aside0.mk (Turn.trans (Turn.of_below (S := QS qb mb gb) (show Below wr.heap.size wr _ from (by first | exact Below.refl _ _ | assumption))) ht2 (fun _ _ h => h)); clear hq2 ht2))
          obtain ⟨k2, rfl⟩ : ∃ k2, k' = k2 + 1 := ⟨k' - 1, by have := HKN.out; omega⟩
          have HR2 : Aside0 (downS k2 (swapE l' i' j1) j1 n = r) := ⟨by
            have h := HR'.out
            unfold downS at h
            rw [HKD.out, if_pos ⟨by omega, hlk⟩] at h
            exact h⟩
          go_roundw
          case rel => exact ⟨j1, k2, c', _, D2, rfl, by omega, by have := HKN.out; omega, HR2, HQ2, ⟨HT.out.trans HT2.out (fun _ _ h => h)⟩, ⟨by rw [swapE_len]; exact HL.out⟩⟩
          case measure => simp [intOf]; omega
        · have dk : decide ((atE l' j1).lt (atE l' i')) = false := decide_eq_false hlk
          go_wp2_with (go_at_call 43; refine (HLS.out _ _ _ (by first | exact Below.refl _ _ | assumption) (by assumption) (by assumption)).mono ?_; rintro e w1 ⟨rfl, hb0⟩; have hb : Below wr.heap.size wr w1 := below_to (by first | exact Below.refl _ _ | assumption) hb0; clear hb0)
          obtain rfl : (l', i') = r := by
            rw [← HR'.out]
            cases k' with
            | zero => rfl
            | succ k' => unfold downS; rw [HKD.out, if_neg (fun h => hlk h.2)]
          go_ret
          exact ⟨by first | rfl | (simp; rfl), ⟨c', D', HQ'.out.below (by first | exact Below.refl _ _ | assumption)⟩, HT.out.trans (Turn.of_below (by first | exact Below.refl _ _ | assumption)) (fun _ _ h => h)⟩
end
end Go.Proofs.Ytiejegalokncgaa
