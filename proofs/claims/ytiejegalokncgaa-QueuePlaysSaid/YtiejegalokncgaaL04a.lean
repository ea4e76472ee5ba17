/- Layer 4: a call's own queue; the fixed fact; QueueNil.
Conditions: none. -/
import Derived.Test.YtiejegalokncgaaQ04h
namespace Go.Proofs.Ytiejegalokncgaa
open Go.RowKit Go.Proofs.YtiejegalokncgaaW.PrintWords Go.Proofs.YtiejegalokncgaaW.PrintLast Go.Proofs.YtiejegalokncgaaW.PrintMore
set_option linter.unusedVariables false
set_option linter.unusedSimpArgs false
/-- A queue that was made since w. -/
structure QQ (w W : World) (qb mb : Nat) (gb : Option Nat) (m : List QE) : Prop where
  q : Qu W qb mb gb m
  q0 : w.heap.size ≤ qb
  m0 : w.heap.size ≤ mb
  g0 : ∀ g, gb = some g → w.heap.size ≤ g
  b : Below w.heap.size w W
theorem below_mid' {n : Nat} {a b c : World} (h : Below n a b) (k : Below n b c) : Below n a c := ⟨k.os.trans h.os, k.tape.trans h.tape, k.output.trans h.output, Nat.le_trans h.size k.size, fun i hi => (k.block i hi).trans (h.block i hi)⟩
section
variable {w W W' : World} {qb mb : Nat} {gb gb' : Option Nat} {m m' : List QE}
theorem QQ.next (h : QQ w W qb mb gb m) (hq : Qu W' qb mb gb' m') (hg : gb' = gb ∨ ∃ g, gb' = some g ∧ W.heap.size ≤ g) (ht : Turn (QS qb mb gb) W W') : QQ w W' qb mb gb' m' := by
  have hs := h.b.size
  refine ⟨hq, h.q0, h.m0, fun g e => ?_, below_mid' h.b (ht.below hs (fun k hk hS => ?_))⟩
  · rcases hg with rfl | ⟨g', rfl, hg'⟩
    · exact h.g0 g e
    · have := Option.some.inj e; omega
  · rcases hS with rfl | rfl | hS
    · have := h.q0; omega
    · have := h.m0; omega
    · have := h.g0 k hS.symm; omega
theorem qqNew (w W : World) (hb : Below w.heap.size w W) : Calls Try.prog 9 #[] W fun e w' => e = .returned (qP (W.heap.size + 1)) ∧ QQ w w' (W.heap.size + 1) W.heap.size none [] ∧ Below W.heap.size W w' :=
  (new_any W).mono (by
    rintro e w' ⟨rfl, hq, h2⟩
    have := hb.size
    exact ⟨rfl, ⟨hq, by omega, this, fun g e => (by cases e), below_to hb h2⟩, h2⟩)
theorem qqPut (h : QQ w W qb mb gb m) (x y : Int) : Calls Try.prog 10 #[qP qb, .int .i64 x, .int .i64 y] W
    fun e w' => e = .returned (.bool (putQ m x y).2) ∧ ∃ gb', QQ w w' qb mb gb' (putQ m x y).1 ∧ (gb' = gb ∨ ∃ g, gb' = some g ∧ W.heap.size ≤ g) ∧ Turn (QS qb mb gb) W w' :=
  (quPut_any h.q x y).mono (by
    rintro e w' ⟨rfl, ⟨gb', hq, hg⟩, ht⟩
    exact ⟨rfl, gb', h.next hq hg ht, hg, ht⟩)
theorem qqTake (h : QQ w W qb mb gb m) : Calls Try.prog 11 #[qP qb] W
    fun e w' => e = .returned (.tuple #[.int .i64 (match takeQ m with | some a => a.Item | none => 0), .int .i64 (match takeQ m with | some a => a.Key | none => 0), .bool (takeQ m).isSome]) ∧
      QQ w w' qb mb gb (match takeQ m with | some a => dropQ m a.Item | none => m) ∧ Turn (QS qb mb gb) W w' :=
  (quTake_any h.q).mono (by
    rintro e w' ⟨rfl, hq, ht⟩
    exact ⟨rfl, h.next hq (.inl rfl) ht, ht⟩)
theorem qqDrop (h : QQ w W qb mb gb m) (x : Int) : Calls Try.prog 14 #[qP qb, .int .i64 x] W
    fun e w' => e = .returned (.bool (findQ m x).isSome) ∧ QQ w w' qb mb gb (dropQ m x) ∧ Turn (QS qb mb gb) W w' :=
  (quDrop_any h.q x).mono (by
    rintro e w' ⟨rfl, hq, ht⟩
    exact ⟨rfl, h.next hq (.inl rfl) ht, ht⟩)
theorem QQ.below (h : QQ w W qb mb gb m) (hb : Below W.heap.size W W') : QQ w W' qb mb gb m := ⟨h.q.below hb, h.q0, h.m0, h.g0, below_to h.b hb⟩
theorem awake04_any (w : World) : Calls Try.prog 8 #[] w fun e w' => e = .returned (.bool true) ∧ Below w.heap.size w w' := by
  have h1 : putQ [] 7 5 = ([⟨7, 5⟩], true) := by decide
  have h2 : putQ [⟨7, 5⟩] 3 5 = ([⟨7, 5⟩, ⟨3, 5⟩], true) := by decide
  have h3 : takeQ [⟨7, 5⟩, ⟨3, 5⟩] = some ⟨3, 5⟩ := by decide
  have h4 : dropQ [⟨7, 5⟩, ⟨3, 5⟩] 3 = [⟨7, 5⟩] := by decide
  have HH := Aside0.mk (show _ ∧ _ ∧ _ ∧ _ from ⟨h1, h2, h3, h4⟩)
  clear h1 h2 h3 h4
  go_enter Try.func8, Try.ntmps8
  go_upto_region 2 with (go_at_call 9; refine (qqNew w _ (Below.refl _ _)).mono ?_; rintro e w1 ⟨rfl, hq, _⟩; have HQ1 := Aside0.mk hq; clear hq)
  go_upto_region 5 with (go_at_call 10; refine (qqPut HQ1.out 7 5).mono ?_; rintro e w2 ⟨rfl, gb2, hq, _, _⟩; rw [HH.out.1] at hq; have HQ2 := Aside0.mk hq; clear hq)
  go_upto_region 6 with (go_at_call 10; refine (qqPut HQ2.out 3 5).mono ?_; rintro e w3 ⟨rfl, gb3, hq, _, _⟩; rw [HH.out.2.1] at hq; have HQ3 := Aside0.mk hq; clear hq)
  have HT := Aside0.mk (qqTake HQ3.out)
  rw [HH.out.2.2.1] at HT
  dsimp only at HT
  rw [HH.out.2.2.2] at HT
  go_wp2_with (first
    | (go_at_call 11; refine HT.out.mono ?_; rintro e w4 ⟨rfl, hq, _⟩; have HQ4 := Aside0.mk hq; clear hq)
    | (go_at_call 12; refine (quLen_any HQ4.out.q).mono ?_; rintro e w5 ⟨rfl, hw⟩; subst hw))
  go_ret
  exact ⟨rfl, HQ4.out.b⟩
theorem nil_Len (w : World) : Calls Try.prog 12 #[.pointer none] w fun e w' => e = .returned (.int .i64 0) ∧ w' = w := by
  go_enter Try.func12, Try.ntmps12
  go_wp2
  go_ret
  exact ⟨rfl, rfl⟩
theorem nil_Put (x y : Int) (w : World) : Calls Try.prog 10 #[.pointer none, .int .i64 x, .int .i64 y] w fun e w' => e = .returned (.bool false) ∧ w' = w := by
  go_enter Try.func10, Try.ntmps10
  go_wp2
  go_ret
  exact ⟨rfl, rfl⟩
theorem nil_Key (x : Int) (w : World) : Calls Try.prog 16 #[.pointer none, .int .i64 x] w fun e w' => e = .returned (.tuple #[.int .i64 0, .bool false]) ∧ w' = w := by
  go_enter Try.func16, Try.ntmps16
  go_wp2
  exact bodyPost_ret (v := .tuple #[.int .i64 0, .bool false]) (by simp [results, Try.results16, go_sem, *]) rfl ⟨rfl, rfl⟩
theorem nil_Take (w : World) : Calls Try.prog 11 #[.pointer none] w fun e w' => e = .returned (.tuple #[.int .i64 0, .int .i64 0, .bool false]) ∧ w' = w := by
  go_enter Try.func11, Try.ntmps11
  go_wp2_with (go_at_call 12; refine (nil_Len _).mono ?_; rintro e w1 ⟨rfl, hw⟩; subst hw)
  exact bodyPost_ret (v := .tuple #[.int .i64 0, .int .i64 0, .bool false]) (by simp [results, Try.results11, go_sem, *]) rfl ⟨rfl, rfl⟩
theorem nil_Drop (x : Int) (w : World) : Calls Try.prog 14 #[.pointer none, .int .i64 x] w fun e w' => e = .returned (.bool false) ∧ w' = w := by
  go_enter Try.func14, Try.ntmps14
  go_wp2
  go_ret
  exact ⟨rfl, rfl⟩
theorem queueNil_any (x y : Int) (w : World) : Calls Try.prog 6 #[.int .i64 x, .int .i64 y] w fun e w' => e = .returned (.bool true) ∧ Below w.heap.size w w' := by
  go_enter Try.func6, Try.ntmps6
  go_wp2_with (first
    | (go_at_call 8; refine (awake04_any _).mono ?_; rintro e w1 ⟨rfl, hb⟩; have HB1 := Aside0.mk hb; clear hb)
    | (go_at_call 12; refine (nil_Len _).mono ?_; rintro e w2 ⟨rfl, hw⟩; subst hw)
    | (go_at_call 10; refine (nil_Put _ _ _).mono ?_; rintro e w2 ⟨rfl, hw⟩; subst hw)
    | (go_at_call 16; refine (nil_Key _ _).mono ?_; rintro e w2 ⟨rfl, hw⟩; subst hw)
    | (go_at_call 11; refine (nil_Take _).mono ?_; rintro e w2 ⟨rfl, hw⟩; subst hw)
    | (go_at_call 14; refine (nil_Drop _ _).mono ?_; rintro e w2 ⟨rfl, hw⟩; subst hw))
  go_ret
  exact ⟨rfl, HB1.out⟩
theorem queueNil_row (x y : Int) (w : World) (_ : (Lit.int .i64 x).wf = true) (_ : (Lit.int .i64 y).wf = true) : Calls Try.prog 6 #[.int .i64 x, .int .i64 y] w fun e w' => e = .returned (.bool true) ∧ Below w.heap.size w w' := queueNil_any x y w
end
end Go.Proofs.Ytiejegalokncgaa
