/- container/heap over a queue: Push, Fix, Pop, Remove.
Conditions: none. -/
import Derived.Test.YtiejegalokncgaaQ04f
namespace Go.Proofs.Ytiejegalokncgaa
open Go.RowKit Go.Proofs.YtiejegalokncgaaW.PrintWords Go.Proofs.YtiejegalokncgaaW.PrintLast Go.Proofs.YtiejegalokncgaaW.PrintMore
set_option linter.unusedVariables false
set_option linter.unusedSimpArgs false
section
variable {W : World} {qb mb c : Nat} {gb : Option Nat} {l : List QE} {D : List (IE Int)}
theorem QS_mono {gb gb' : Option Nat} {n k : Nat} (h : gb' = gb ∨ ∃ g, gb' = some g ∧ n ≤ g) (hk : k < n) (hS : QS qb mb gb' k) : QS qb mb gb k := by
  rcases h with rfl | ⟨g, rfl, hg⟩
  · exact hS
  · rcases hS with h | h | h
    · exact .inl h
    · exact .inr (.inl h)
    · have := Option.some.inj h; omega
theorem hPush_any (h : QOk W qb mb gb c l D) (e : QE) (hn : getI D e.Item = none) (hl : l.length < 4096) : Calls Try.prog 19 #[qI qb, .iface 51 (.agg #[.int .i64 e.Item, .int .i64 e.Key])] W
    fun x w' => x = .returned (.tuple #[]) ∧ (∃ gb' c' D', QOk w' qb mb gb' c' (pushS l e) D' ∧ (gb' = gb ∨ ∃ g, gb' = some g ∧ W.heap.size ≤ g)) ∧ Turn (QS qb mb gb) W w' := by
  have HP := Aside0.mk (qPush_any h e hn hl)
  have hl2 : (l ++ [e]).length = l.length + 1 := by simp
  have HE : Aside0 (pushS l e = upS (l.length + 1) (l ++ [e]) l.length) := ⟨rfl⟩
  generalize l ++ [e] = l2 at *
  clear h hn
  have e1 : IntKind.i64.wrap ((l2.length : Int) - 1) = (l.length : Int) := by rw [IntWalk.i64_in _ (by omega)]; omega
  have HL2 := Aside0.mk hl2
  clear hl2
  have hc1 := run_callPush
  have hc2 := run_callLen
  go_enter Try.func19, Try.ntmps19
  go_upto_region 1 with (go_at_call 45; refine HP.out.mono ?_; rintro x w1 ⟨rfl, ⟨gb', c', D', hq, hgb⟩, ht⟩; have HQ1 := Aside0.mk hq; have HG := Aside0.mk hgb; have HT := Aside0.mk ht; clear hq hgb ht)
  have HLn := Aside0.mk (qLen_any HQ1.out)
  have HUp := Aside0.mk (up_any HQ1.out (l.length + 1) l.length (by have := HL2.out; omega) (by omega))
  go_wp2_with (first
    | (go_at_call 22; refine (HLn.out).mono ?_; rintro e wL ⟨rfl, hwL⟩; subst hwL)
    | (go_at_call 25; refine HUp.out.mono ?_; rintro x w2 ⟨rfl, ⟨c2, D2, hq⟩, ht⟩; have HQ2 := Aside0.mk hq; have HT2 := Aside0.mk ht; clear hq ht))
  go_end0
  exact ⟨rfl, ⟨gb', c2, D2, by rw [HE.out]; exact HQ2.out, HG.out⟩, HT.out.trans HT2.out (fun k hk hS => QS_mono HG.out hk hS)⟩
set_option maxHeartbeats 4000000 in
theorem hFix_any (h : QOk W qb mb gb c l D) (i : Nat) (hi : i < l.length) : Calls Try.prog 20 #[qI qb, .int .i64 i] W
    fun x w' => x = .returned (.tuple #[]) ∧ (∃ c' D', QOk w' qb mb gb c' (fixS l i l.length) D') ∧ Turn (QS qb mb gb) W w' := by
  have hln := h.len
  have HLn := Aside0.mk (qLen_any h)
  have HD := Aside0.mk (down_any h l.length i l.length (Nat.le_refl _) (by omega) (by omega))
  have HE : Aside0 (fixS l i l.length = if i < (downS l.length l i l.length).2 then (downS l.length l i l.length).1 else upS l.length (downS l.length l i l.length).1 i) := ⟨rfl⟩
  have hdl := downS_len l.length l i l.length
  generalize downS l.length l i l.length = r at *
  generalize fixS l i l.length = F at *
  obtain ⟨dl, de⟩ := r
  dsimp only at HD HE hdl
  have HDL := Aside0.mk hdl
  clear h hdl
  have hc2 := run_callLen
  by_cases hm : i < de
  · have dm : decide (i < de) = true := decide_eq_true hm
    go_enter Try.func20, Try.ntmps20
    go_wp2_with (first
      | (go_at_call 22; refine (HLn.out).mono ?_; rintro e wL ⟨rfl, hwL⟩; subst hwL)
      | (go_at_call 26; refine HD.out.mono ?_; rintro x w1 ⟨rfl, ⟨c1, D1, hq⟩, ht⟩; have HQ1 := Aside0.mk hq; have HT1 := Aside0.mk ht; clear hq ht))
    go_end0
    exact ⟨rfl, ⟨c1, D1, by rw [HE.out, if_pos hm]; exact HQ1.out⟩, HT1.out⟩
  · have dm : decide (i < de) = false := decide_eq_false hm
    go_enter Try.func20, Try.ntmps20
    go_wp2_with (first
      | (go_at_call 22; refine (HLn.out).mono ?_; rintro e wL ⟨rfl, hwL⟩; subst hwL)
      | (go_at_call 26; refine HD.out.mono ?_; rintro x w1 ⟨rfl, ⟨c1, D1, hq⟩, ht⟩; have HQ1 := Aside0.mk hq; have HT1 := Aside0.mk ht; clear hq ht)
      | (go_at_call 25; refine (up_any HQ1.out l.length i (by have := HDL.out; omega) (by omega)).mono ?_; rintro x w2 ⟨rfl, ⟨c2, D2, hq⟩, ht⟩; have HQ2 := Aside0.mk hq; have HT2 := Aside0.mk ht; clear hq ht))
    go_end0
    exact ⟨rfl, ⟨c2, D2, by rw [HE.out, if_neg hm]; exact HQ2.out⟩, HT1.out.trans HT2.out (fun _ _ h => h)⟩
set_option maxHeartbeats 4000000 in
theorem hPop_any (h : QOk W qb mb gb c l D) (n : Nat) (hn : n + 1 = l.length) : Calls Try.prog 21 #[qI qb] W
    fun x w' => x = .returned (.iface 51 (.agg #[.int .i64 (atE (downS n (swapE l 0 n) 0 n).1 n).Item, .int .i64 (atE (downS n (swapE l 0 n) 0 n).1 n).Key])) ∧ (∃ c' D', QOk w' qb mb gb c' (popS l) D') ∧ Turn (QS qb mb gb) W w' := by
  have hln := h.len
  have HLn := Aside0.mk (qLen_any h)
  have HSW := Aside0.mk (qSwap_any h 0 n (by omega) (by omega))
  have HE : Aside0 (popS l = (downS n (swapE l 0 n) 0 n).1.dropLast) := ⟨by unfold popS; rw [show l.length - 1 = n by omega]⟩
  have hsl : Aside0 ((swapE l 0 n).length = l.length) := ⟨swapE_len l 0 n⟩
  have hdl : Aside0 ((downS n (swapE l 0 n) 0 n).1.length = l.length) := ⟨by rw [downS_len, swapE_len]⟩
  have e1 : IntKind.i64.wrap ((l.length : Int) - 1) = (n : Int) := by rw [IntWalk.i64_in _ (by omega)]; omega
  generalize popS l = F at *
  have HDN := Aside0.mk (fun (w1 : World) (c1 : Nat) (D1 : List (IE Int)) (hq : QOk w1 qb mb gb c1 (swapE l 0 n) D1) => down_any hq n 0 n (by rw [hsl.out]; omega) (by omega) (by omega))
  generalize swapE l 0 n = sl at *
  generalize downS n sl 0 n = r at *
  clear h
  have hc1 := run_callPop
  have hc2 := run_callLen
  have hc3 := run_callSwap
  go_enter Try.func21, Try.ntmps21
  go_wp2_with (first
    | (go_at_call 22; refine (HLn.out).mono ?_; rintro e wL ⟨rfl, hwL⟩; subst hwL)
    | (go_at_call 46; refine HSW.out.mono ?_; rintro x w1 ⟨rfl, ⟨D1, hq⟩, ht⟩; have HQ1 := Aside0.mk hq; have HT1 := Aside0.mk ht; clear hq ht)
    | (go_at_call 26; refine (HDN.out _ _ _ HQ1.out).mono ?_; rintro x w2 ⟨rfl, ⟨c2, D2, hq⟩, ht⟩; have HQ2 := Aside0.mk hq; have HT2 := Aside0.mk ht; clear hq ht)
    | (go_at_call 44; refine (qPop_any HQ2.out n (by rw [hdl.out]; exact hn)).mono ?_; rintro x w3 ⟨rfl, ⟨c3, D3, hq⟩, ht⟩; have HQ3 := Aside0.mk hq; have HT3 := Aside0.mk ht; clear hq ht))
  go_ret
  exact ⟨rfl, ⟨c3, D3, by rw [HE.out]; exact HQ3.out⟩, (HT1.out.trans HT2.out (fun _ _ h => h)).trans HT3.out (fun _ _ h => h)⟩
set_option maxHeartbeats 4000000 in
theorem hRemove_any (h : QOk W qb mb gb c l D) (i n : Nat) (hi : i < l.length) (hn : n + 1 = l.length) : Calls Try.prog 23 #[qI qb, .int .i64 i] W
    fun x w' => (∃ v, x = .returned v) ∧ (∃ c' D', QOk w' qb mb gb c' (removeS l i) D') ∧ Turn (QS qb mb gb) W w' := by
  have hln := h.len
  have HLn := Aside0.mk (qLen_any h)
  have e1 : IntKind.i64.wrap ((l.length : Int) - 1) = (n : Int) := by rw [IntWalk.i64_in _ (by omega)]; omega
  have hc1 := run_callPop
  have hc2 := run_callLen
  have hc3 := run_callSwap
  by_cases hin : i = n
  · have HE : Aside0 (removeS l i = l.dropLast) := ⟨by unfold removeS; rw [if_pos (by omega)]⟩
    have HPP := Aside0.mk (qPop_any h n hn)
    have d1 : ((n : Int) != (i : Int)) = false := by simp [hin]
    generalize removeS l i = F at *
    clear h hin
    go_enter Try.func23, Try.ntmps23
    go_wp2_with (first
      | (go_at_call 22; refine (HLn.out).mono ?_; rintro e wL ⟨rfl, hwL⟩; subst hwL)
      | (go_at_call 44; refine HPP.out.mono ?_; rintro x w3 ⟨rfl, ⟨c3, D3, hq⟩, ht⟩; have HQ3 := Aside0.mk hq; have HT3 := Aside0.mk ht; clear hq ht))
    go_ret
    exact ⟨⟨_, rfl⟩, ⟨c3, D3, by rw [HE.out]; exact HQ3.out⟩, HT3.out⟩
  · have HSW := Aside0.mk (qSwap_any h i n (by omega) (by omega))
    have HE : Aside0 (removeS l i = (if i < (downS n (swapE l i n) i n).2 then (downS n (swapE l i n) i n).1 else upS n (downS n (swapE l i n) i n).1 i).dropLast) := ⟨by
      unfold removeS fixS
      rw [show l.length - 1 = n by omega, if_neg hin]⟩
    have hsl : Aside0 ((swapE l i n).length = l.length) := ⟨swapE_len l i n⟩
    have hdl : Aside0 ((downS n (swapE l i n) i n).1.length = l.length) := ⟨by rw [downS_len, swapE_len]⟩
    have hul : Aside0 ((upS n (downS n (swapE l i n) i n).1 i).length = l.length) := ⟨by rw [upS_len, downS_len, swapE_len]⟩
    have d1 : ((n : Int) != (i : Int)) = true := by simp; omega
    generalize removeS l i = F at *
    have HDN := Aside0.mk (fun (w1 : World) (c1 : Nat) (D1 : List (IE Int)) (hq : QOk w1 qb mb gb c1 (swapE l i n) D1) => down_any hq n i n (by rw [hsl.out]; omega) (by omega) (by omega))
    have HIN := Aside0.mk hin
    generalize swapE l i n = sl at *
    generalize downS n sl i n = r at *
    obtain ⟨dl, de⟩ := r
    dsimp only at HDN HE hdl hul
    clear h hin
    by_cases hm : i < de
    · have dm : decide (i < de) = true := decide_eq_true hm
      go_enter Try.func23, Try.ntmps23
      go_wp2_with (first
        | (go_at_call 22; refine (HLn.out).mono ?_; rintro e wL ⟨rfl, hwL⟩; subst hwL)
        | (go_at_call 46; refine HSW.out.mono ?_; rintro x w1 ⟨rfl, ⟨D1, hq⟩, ht⟩; have HQ1 := Aside0.mk hq; have HT1 := Aside0.mk ht; clear hq ht)
        | (go_at_call 26; refine (HDN.out _ _ _ HQ1.out).mono ?_; rintro x w2 ⟨rfl, ⟨c2, D2, hq⟩, ht⟩; have HQ2 := Aside0.mk hq; have HT2 := Aside0.mk ht; clear hq ht)
        | (go_at_call 44; refine (qPop_any HQ2.out n (by rw [hdl.out]; exact hn)).mono ?_; rintro x w3 ⟨rfl, ⟨c3, D3, hq⟩, ht⟩; have HQ3 := Aside0.mk hq; have HT3 := Aside0.mk ht; clear hq ht))
      go_ret
      exact ⟨⟨_, rfl⟩, ⟨c3, D3, by rw [HE.out, if_pos hm]; exact HQ3.out⟩, (HT1.out.trans HT2.out (fun _ _ h => h)).trans HT3.out (fun _ _ h => h)⟩
    · have dm : decide (i < de) = false := decide_eq_false hm
      go_enter Try.func23, Try.ntmps23
      go_wp2_with (first
        | (go_at_call 22; refine (HLn.out).mono ?_; rintro e wL ⟨rfl, hwL⟩; subst hwL)
        | (go_at_call 46; refine HSW.out.mono ?_; rintro x w1 ⟨rfl, ⟨D1, hq⟩, ht⟩; have HQ1 := Aside0.mk hq; have HT1 := Aside0.mk ht; clear hq ht)
        | (go_at_call 26; refine (HDN.out _ _ _ HQ1.out).mono ?_; rintro x w2 ⟨rfl, ⟨c2, D2, hq⟩, ht⟩; have HQ2 := Aside0.mk hq; have HT2 := Aside0.mk ht; clear hq ht)
        | (go_at_call 25; refine (up_any HQ2.out n i (by have := hdl.out; omega) (by omega)).mono ?_; rintro x w4 ⟨rfl, ⟨c4, D4, hq⟩, ht⟩; have HQ4 := Aside0.mk hq; have HT4 := Aside0.mk ht; clear hq ht)
        | (go_at_call 44; refine (qPop_any HQ4.out n (by rw [hul.out]; exact hn)).mono ?_; rintro x w3 ⟨rfl, ⟨c3, D3, hq⟩, ht⟩; have HQ3 := Aside0.mk hq; have HT3 := Aside0.mk ht; clear hq ht))
      go_ret
      exact ⟨⟨_, rfl⟩, ⟨c3, D3, by rw [HE.out, if_neg hm]; exact HQ3.out⟩, ((HT1.out.trans HT2.out (fun _ _ h => h)).trans HT4.out (fun _ _ h => h)).trans HT3.out (fun _ _ h => h)⟩
end
end Go.Proofs.Ytiejegalokncgaa
