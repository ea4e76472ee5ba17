/- container/heap over a queue: up.
Conditions: none. -/
import Derived.Test.YtiejegalokncgaaQ04d
namespace Go.Proofs.Ytiejegalokncgaa
open Go.RowKit Go.Proofs.YtiejegalokncgaaW.PrintWords Go.Proofs.YtiejegalokncgaaW.PrintLast Go.Proofs.YtiejegalokncgaaW.PrintMore
set_option linter.unusedVariables false
set_option linter.unusedSimpArgs false
abbrev qI (qb : Nat) : Value := .iface 53 (qP qb)
theorem run_callLess (p : Value) (W : World) : (Go.method 182 53 p "Less").run Try.prog W = .ok (43, p) W := by kernel_rfl
theorem run_callSwap (p : Value) (W : World) : (Go.method 182 53 p "Swap").run Try.prog W = .ok (46, p) W := by kernel_rfl
theorem run_callLen (p : Value) (W : World) : (Go.method 182 53 p "Len").run Try.prog W = .ok (22, p) W := by kernel_rfl
theorem run_callPush (p : Value) (W : World) : (Go.method 182 53 p "Push").run Try.prog W = .ok (45, p) W := by kernel_rfl
theorem run_callPop (p : Value) (W : World) : (Go.method 182 53 p "Pop").run Try.prog W = .ok (44, p) W := by kernel_rfl
section
variable {W : World} {qb mb c : Nat} {gb : Option Nat} {l : List QE} {D : List (IE Int)}
theorem QOk.below (h : QOk W qb mb gb c l D) {w' : World} (hb : Below W.heap.size W w') : QOk w' qb mb gb c l D :=
  ⟨blk_below h.box hb, h.row.kept (row := none) ⟨hb.os, hb.tape, hb.output, hb.size, fun k hk _ => hb.block k hk⟩ (by cases gb with
    | none => exact .inl rfl
    | some g => exact .inr (by simp [qA, Value.ownBlock])), h.map.keep (hb.block mb h.map.lt), h.pl, h.len⟩
theorem upS_stop {l : List QE} {k j : Nat} (h : ¬ (0 < j ∧ (atE l j).lt (atE l (par j)))) : upS k l j = l := by
  cases k with
  | zero => rfl
  | succ k => unfold upS; rw [if_neg h]
set_option maxHeartbeats 4000000 in
theorem up_any (h : QOk W qb mb gb c l D) (k j : Nat) (hj : j < l.length) (hk : j ≤ k) : Calls Try.prog 25 #[qI qb, .int .i64 j] W
    fun x w' => x = .returned (.tuple #[]) ∧ (∃ c' D', QOk w' qb mb gb c' (upS k l j) D') ∧ Turn (QS qb mb gb) W w' := by
  have HQ := Aside0.mk h
  have hln := h.len
  generalize hr : upS k l j = r
  have HR := Aside0.mk hr
  generalize hN : l.length = N at *
  have HN := Aside0.mk hN
  clear h hr hN
  have hc1 := run_callLess
  have hc2 := run_callSwap
  go_enter Try.func25, Try.ntmps25
  go_wp2
  go_loopw [1] (fun vj wr => ∃ (j' k' c' : Nat) (l' : List QE) (D' : List (IE Int)), vj = .int .i64 j' ∧ j' < N ∧ j' ≤ k' ∧ Aside0 (upS k' l' j' = r) ∧ Aside0 (QOk wr qb mb gb c' l' D') ∧ Aside0 (Turn (QS qb mb gb) W wr) ∧ Aside0 (l'.length = N)) (fun vj _ => (intOf vj).toNat)
  case atStart => exact ⟨j, k, c, l, D, rfl, hj, hk, HR, HQ, ⟨Turn.refl _ _⟩, HN⟩
  case round =>
    obtain ⟨j', k', c', l', D', rfl, hj', hk', HR', HQ', HT, HL⟩ := hrel
    by_cases j0 : j' = 0
    · subst j0
      have e1 : IntKind.i64.wrap (((0 : Nat) : Int) - 1) = -1 := by decide
      obtain rfl : l' = r := by rw [← HR'.out, upS_stop (by omega)]
      go_wp2
      go_end0
      exact ⟨rfl, ⟨c', D', HQ'.out⟩, HT.out⟩
    · obtain ⟨m, hm⟩ : ∃ m, m + 1 = j' := ⟨j' - 1, by omega⟩
      obtain ⟨i, hi⟩ : ∃ i, m / 2 = i := ⟨_, rfl⟩
      have hp : par j' = i := by unfold par; omega
      have e1 : IntKind.i64.wrap ((j' : Int) - 1) = (m : Int) := by rw [IntWalk.i64_in _ (by omega)]; omega
      have e2 : Int.tdiv (m : Int) 2 = (i : Int) := by rw [Int.tdiv_eq_ediv_of_nonneg (by omega)]; omega
      have e3 : IntKind.i64.wrap (i : Int) = (i : Int) := IntWalk.i64_in _ (by omega)
      have d1 : ((i : Int) == (j' : Int)) = false := by simp; omega
      have hil : i < l'.length := by have := HL.out; omega
      have hjl : j' < l'.length := by have := HL.out; omega
      have HLS := Aside0.mk (qLess_any HQ'.out j' i hjl hil)
      have HSW := Aside0.mk (fun w1 (hb : Below wr.heap.size wr w1) => qSwap_any (HQ'.out.below hb) i j' hil hjl)
      have HPJ := Aside0.mk (show par j' = i ∧ i < l'.length ∧ j' < l'.length ∧ i < j' from ⟨hp, hil, hjl, by omega⟩)
      clear hp hil hjl hi hm j0
      by_cases hls : (atE l' j').lt (atE l' i)
      · have dl : decide ((atE l' j').lt (atE l' i)) = true := decide_eq_true hls
        go_wp2_with (first
          | (go_at_call 43; refine HLS.out.mono ?_; rintro e w1 ⟨rfl, hb⟩; have HB1 := Aside0.mk hb; clear hb)
          | (go_at_call 46; refine (HSW.out _ HB1.out).mono ?_; rintro e w2 ⟨rfl, ⟨D2, hq2⟩, ht2⟩; have HQ2 := Aside0.mk hq2; have HT2 := Aside0.mk ht2; clear hq2 ht2))
        obtain ⟨hp, hil, hjl, him⟩ := HPJ.out
        obtain ⟨k2, rfl⟩ : ∃ k2, k' = k2 + 1 := ⟨k' - 1, by omega⟩
        have HR2 : Aside0 (upS k2 (swapE l' i j') i = r) := ⟨by
          have h := HR'.out
          unfold upS at h
          rw [hp, if_pos ⟨by omega, hls⟩] at h
          exact h⟩
        go_roundw
        case rel => exact ⟨i, k2, c', _, D2, rfl, by omega, by omega, HR2, HQ2, ⟨HT.out.trans ((Turn.of_below HB1.out).trans HT2.out (fun _ _ h => h)) (fun _ _ h => h)⟩, ⟨by rw [swapE_len]; exact HL.out⟩⟩
        case measure => simp [intOf]; omega
      · have dl : decide ((atE l' j').lt (atE l' i)) = false := decide_eq_false hls
        go_wp2_with (go_at_call 43; refine HLS.out.mono ?_; rintro e w1 ⟨rfl, hb⟩; have HB1 := Aside0.mk hb; clear hb)
        obtain ⟨hp, hil, hjl, him⟩ := HPJ.out
        obtain rfl : l' = r := by rw [← HR'.out, upS_stop (by rw [hp]; exact fun h => hls h.2)]
        go_end0
        exact ⟨rfl, ⟨c', D', HQ'.out.below HB1.out⟩, HT.out.trans (Turn.of_below HB1.out) (fun _ _ h => h)⟩
end
end Go.Proofs.Ytiejegalokncgaa
