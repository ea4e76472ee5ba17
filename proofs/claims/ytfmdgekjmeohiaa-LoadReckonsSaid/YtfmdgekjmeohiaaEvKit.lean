/- Small words about rounds: a test that is decided, and numbers that do not wrap.
Conditions: none. -/
import Derived.Test.YtfmdgekjmeohiaaWWords
import Derived.Test.YtfmdgekjmeohiaaWMore
namespace Go.Proofs.Ytfmdgekjmeohiaa.EvKit
open Go.RowKit Go.Proofs.YtfmdgekjmeohiaaW.PrintWords
theorem evPos {α : Type} {c : Prop} [Decidable c] {g f : Nat → Option α} {r : α} (h : c) (e : Ev g r) : Ev (fun k => if c then g k else f k) r := by
  simp only [h, if_true]
  exact e
theorem evNeg {α : Type} {c : Prop} [Decidable c] {g f : Nat → Option α} {r : α} (h : ¬ c) (e : Ev f r) : Ev (fun k => if c then g k else f k) r := by
  simp only [h, if_false]
  exact e
theorem evIte {α : Type} {c : Prop} [Decidable c] {g f : Nat → Option α} {r s : α} (h : c → Ev g r) (h' : ¬ c → Ev f s) : Ev (fun k => if c then g k else f k) (if c then r else s) := by
  by_cases hc : c
  · simp only [hc, if_true]
    exact h hc
  · simp only [hc, if_false]
    exact h' hc
theorem evNow {α : Type} {r s : α} (h : r = s) : Ev (fun _ => some r) s := h ▸ Ev.now r
theorem evSome {α β : Type} {a : α} {f : Nat → α → Option β} {r : β} (h : Ev (fun n => f n a) r) : Ev (fun n => (some a).bind (f n)) r := Ev.bind (Ev.now a) h
theorem evEq {α : Type} {g : Nat → Option α} {r s : α} (e : Ev g r) (h : r = s) : Ev g s := h ▸ e
theorem wrap_ok {n : Int} (h0 : -9223372036854775808 ≤ n) (h1 : n ≤ 9223372036854775807) : wrap64 n = n := by
  unfold wrap64
  omega
theorem wrap_succ {i n : Nat} (h : i < n) (hn : n ≤ 4611686018427387904) : wrap64 ((i : Int) + 1) = ((i + 1 : Nat) : Int) := by
  unfold wrap64
  omega
theorem wrap_pred {i n : Nat} (h : 0 < i) (h' : i ≤ n) (hn : n ≤ 4611686018427387904) : wrap64 ((i : Int) - 1) = ((i - 1 : Nat) : Int) := by
  unfold wrap64
  omega
end Go.Proofs.Ytfmdgekjmeohiaa.EvKit
