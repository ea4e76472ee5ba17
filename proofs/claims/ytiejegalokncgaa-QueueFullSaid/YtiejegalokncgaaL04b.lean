/- QueueFull: it answers true.
Conditions: none. -/
import Derived.Test.YtiejegalokncgaaL04a
import Derived.Test.YtiejegalokncgaaGoodOf
namespace Go.Proofs.Ytiejegalokncgaa
open Go.RowKit Go.Proofs.YtiejegalokncgaaW.PrintWords Go.Proofs.YtiejegalokncgaaW.PrintLast Go.Proofs.YtiejegalokncgaaW.PrintMore
set_option linter.unusedVariables false
set_option linter.unusedSimpArgs false
set_option maxHeartbeats 8000000 in
theorem queueFull_any (first key : Int) (w : World) (h0 : -9223372036854775808 ≤ first ∧ first ≤ 9223372036854775807) (h1 : -9223372036854775808 ≤ key ∧ key ≤ 9223372036854775807) :
    Calls Try.prog 4 #[.int .i64 first, .int .i64 key] w fun e w' => e = .returned (.bool true) ∧ Below w.heap.size w w' := by
  obtain ⟨f, hf⟩ : ∃ f, Int.tmod first 1000000 = f := ⟨_, rfl⟩
  obtain ⟨r, hr⟩ : ∃ r, Int.tmod key 5 = r := ⟨_, rfl⟩
  have hfb : -1000000 < f ∧ f < 1000000 := by
    rw [← hf]
    constructor
    · have := Int.lt_tmod_of_pos first (b := 1000000) (by omega); omega
    · exact Int.tmod_lt_of_pos _ (by omega)
  have hrb : -5 < r ∧ r < 5 := by
    rw [← hr]
    constructor
    · have := Int.lt_tmod_of_pos key (b := 5) (by omega); omega
    · exact Int.tmod_lt_of_pos _ (by omega)
  have e1 : IntKind.i64.wrap f = f := IntWalk.i64_in _ (by omega)
  have e2 : IntKind.i64.wrap r = r := IntWalk.i64_in _ (by omega)
  have e3 : IntKind.i64.wrap (10 + r) = 10 + r := IntWalk.i64_in _ (by omega)
  obtain ⟨kk, hkk⟩ : ∃ kk, 10 + r = kk := ⟨_, rfl⟩
  rw [hkk] at e3
  have hk0 : 0 < kk := by omega
  clear h0 h1
  go_enter Try.func4, Try.ntmps4
  go_upto_region 5 with (first
    | (go_at_call 8; refine (awake04_any _).mono ?_; rintro e w1 ⟨rfl, hb⟩; have HB1 := Aside0.mk hb; clear hb)
    | (go_at_call 9; refine (qqNew w _ HB1.out).mono ?_; rintro e w2 ⟨rfl, hq, _⟩; have HQ2 := Aside0.mk hq; clear hq))
  generalize w1.heap.size + 1 = qb at *
  generalize w1.heap.size = mb at *
  clear HB1
  go_wp2
  go_loopw [6] (fun vi wr => ∃ (i : Nat) (gb : Option Nat), i ≤ 4096 ∧ vi = .int .i64 i ∧ Aside0 (QQ w wr qb mb gb (fullM f kk i))) (fun vi _ => 4096 - (intOf vi).toNat)
  case atStart => exact ⟨0, none, by omega, rfl, HQ2⟩
  case round =>
    obtain ⟨i, gb, hi, rfl, HQ⟩ := hrel
    by_cases hlt : i < 4096
    · have d1 : decide ((i : Int) < 4096) = true := decide_eq_true (by omega)
      have e4 : IntKind.i64.wrap (f + (i : Int)) = f + (i : Int) := IntWalk.i64_in _ (by omega)
      have e5 : IntKind.i64.wrap ((i : Int) + 1) = (i : Int) + 1 := IntWalk.i64_in _ (by omega)
      have HP := Aside0.mk (qqPut HQ.out (f + (i : Int)) kk)
      rw [fullM_put hlt] at HP
      go_wp2_with (go_at_call 10; refine HP.out.mono ?_; rintro e w3 ⟨rfl, gb3, hq, _, _⟩; have HQ3 := Aside0.mk hq; clear hq)
      go_roundw
      case rel => exact ⟨i + 1, gb3, by omega, by go_num, HQ3⟩
      case measure => simp [intOf]; omega
    · obtain rfl : i = 4096 := by omega
      have d1 : decide (((4096 : Nat) : Int) < 4096) = false := by decide
      have g1 := Aside0.mk (full_over (f := f) (k := kk))
      have g2 := Aside0.mk (full_lower (f := f) (k := kk) hk0)
      have g3 := Aside0.mk (full_take (f := f) (k := kk) hk0)
      have g4 := Aside0.mk (full_again (f := f) (k := kk) hk0)
      have e6 : IntKind.i64.wrap (f + 4096) = f + 4096 := IntWalk.i64_in _ (by omega)
      have e7 : IntKind.i64.wrap (f + 4095) = f + 4095 := IntWalk.i64_in _ (by omega)
      have e8 : IntKind.i64.wrap (f + 5000) = f + 5000 := IntWalk.i64_in _ (by omega)
      obtain ⟨m5, g5, g6⟩ := g4.out
      have hlen : (lowerQ (fullM f kk 4096) (f + 4095) 0).length = 4096 := by rw [lowerQ_len, fullM_len]
      clear g4
      generalize fullM f kk 4096 = M at *
      generalize lowerQ M (f + 4095) 0 = M2 at *
      generalize hM3 : dropQ M2 (f + 4095) = M3 at *
      have HM3 := Aside0.mk hM3
      clear hM3
      have HP1 : Aside0 (∀ W gb, QQ w W qb mb gb M → Calls Try.prog 10 #[qP qb, .int .i64 (f + 4096), .int .i64 0] W fun e w' => e = .returned (.bool false) ∧ ∃ gb', QQ w w' qb mb gb' M) := ⟨fun W gb h => (qqPut h (f + 4096) 0).mono (by
        rw [g1.out]; rintro e w' ⟨he, gb', hq, _⟩; exact ⟨he, gb', hq⟩)⟩
      have HP2 : Aside0 (∀ W gb, QQ w W qb mb gb M → Calls Try.prog 10 #[qP qb, .int .i64 (f + 4095), .int .i64 0] W fun e w' => e = .returned (.bool true) ∧ ∃ gb', QQ w w' qb mb gb' M2) := ⟨fun W gb h => (qqPut h (f + 4095) 0).mono (by
        rw [g2.out]; rintro e w' ⟨he, gb', hq, _⟩; exact ⟨he, gb', hq⟩)⟩
      have HT : Aside0 (∀ W gb, QQ w W qb mb gb M2 → Calls Try.prog 11 #[qP qb] W fun e w' => e = .returned (.tuple #[.int .i64 (f + 4095), .int .i64 0, .bool true]) ∧ QQ w w' qb mb gb M3) := ⟨fun W gb h => (qqTake h).mono (by
        rw [g3.out]; rintro e w' ⟨he, hq, _⟩; exact ⟨he, HM3.out ▸ hq⟩)⟩
      have HP3 : Aside0 (∀ W gb, QQ w W qb mb gb M3 → Calls Try.prog 10 #[qP qb, .int .i64 (f + 4096), .int .i64 1] W fun e w' => e = .returned (.bool true) ∧ ∃ gb', QQ w w' qb mb gb' m5) := ⟨fun W gb h => (qqPut h (f + 4096) 1).mono (by
        rw [g5]; rintro e w' ⟨he, gb', hq, _⟩; exact ⟨he, gb', hq⟩)⟩
      have HP4 : Aside0 (∀ W gb, QQ w W qb mb gb m5 → Calls Try.prog 10 #[qP qb, .int .i64 (f + 5000), .int .i64 1] W fun e w' => e = .returned (.bool false) ∧ ∃ gb', QQ w w' qb mb gb' (putQ m5 (f + 5000) 1).1) := ⟨fun W gb h => (qqPut h (f + 5000) 1).mono (by
        rw [g6]; rintro e w' ⟨he, gb', hq, _⟩; exact ⟨he, gb', hq⟩)⟩
      have HLN : Aside0 (∀ W gb, QQ w W qb mb gb M2 → Calls Try.prog 12 #[qP qb] W fun e w' => e = .returned (.int .i64 4096) ∧ w' = W) := ⟨fun W gb h => (quLen_any h.q).mono (by
        rw [hlen]; exact fun e w' h => h)⟩
      clear g1 g2 g3 g5 g6 hlen
      generalize (putQ m5 (f + 5000) 1).1 = M4 at *
      go_wp2_with (first
        | (go_at_call 10; with_reducible refine (HP1.out _ _ HQ.out).mono ?_; rintro e w4 ⟨rfl, gb4, hq⟩; have HQ4 := Aside0.mk hq; clear hq)
        | (go_at_call 10; with_reducible refine (HP2.out _ _ HQ4.out).mono ?_; rintro e w5 ⟨rfl, gb5, hq⟩; have HQ5 := Aside0.mk hq; clear hq)
        | (go_at_call 12; with_reducible refine (HLN.out _ _ HQ5.out).mono ?_; rintro e w8 ⟨rfl, hw⟩; subst hw)
        | (go_at_call 11; with_reducible refine (HT.out _ _ HQ5.out).mono ?_; rintro e w6 ⟨rfl, hq⟩; have HQ6 := Aside0.mk hq; clear hq)
        | (go_at_call 10; with_reducible refine (HP3.out _ _ HQ6.out).mono ?_; rintro e w7 ⟨rfl, gb7, hq⟩; have HQ7 := Aside0.mk hq; clear hq)
        | (go_at_call 10; with_reducible refine (HP4.out _ _ HQ7.out).mono ?_; rintro e w9 ⟨rfl, gb9, hq⟩; have HQ9 := Aside0.mk hq; clear hq))
      go_ret
      exact ⟨rfl, HQ9.out.b⟩
theorem queueFull_row (x y : Int) (w : World) (h0 : (Lit.int .i64 x).wf = true) (h1 : (Lit.int .i64 y).wf = true) : Calls Try.prog 4 #[.int .i64 x, .int .i64 y] w fun e w' => e = .returned (.bool true) ∧ Below w.heap.size w w' := queueFull_any x y w (wf_i64 h0) (wf_i64 h1)
end Go.Proofs.Ytiejegalokncgaa
