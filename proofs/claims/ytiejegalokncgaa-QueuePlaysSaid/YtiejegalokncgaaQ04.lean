/- A queue in memory: its box, the list of its entries, the map of their places. Its order's Len and Less.
Conditions: none. -/
import Derived.Test.YtiejegalokncgaaP04
import Derived.Test.YtiejegalokncgaaIM
import Derived.Test.YtiejegalokncgaaTail
namespace Go.Proofs.Ytiejegalokncgaa
open Go.RowKit Go.Proofs.YtiejegalokncgaaW.PrintWords Go.Proofs.YtiejegalokncgaaW.PrintLast Go.Proofs.YtiejegalokncgaaW.PrintMore
set_option linter.unusedVariables false
set_option linter.unusedSimpArgs false
abbrev entV (e : QE) : List Value := [.int .i64 e.Item, .int .i64 e.Key]
def cellsQ : List QE → List Value
  | [] => []
  | e :: l => .int .i64 e.Item :: .int .i64 e.Key :: cellsQ l
theorem cellsQ_len : ∀ l : List QE, (cellsQ l).length = l.length * 2
  | [] => rfl
  | e :: l => by simp [cellsQ, cellsQ_len l]; omega
theorem cellsQ_get : ∀ (l : List QE) (k : Nat), k < l.length → (cellsQ l)[k * 2]? = some (.int .i64 (atE l k).Item) ∧ (cellsQ l)[k * 2 + 1]? = some (.int .i64 (atE l k).Key)
  | [], k, h => by simp at h
  | e :: l, 0, h => by simp [cellsQ, atE]
  | e :: l, k + 1, h => by
    have := cellsQ_get l k (by simpa using h)
    rw [show (k + 1) * 2 = k * 2 + 2 by omega]
    simpa [cellsQ, atE] using this
theorem cellsQ_set : ∀ (l : List QE) (k : Nat) (e : QE), cellsQ (l.set k e) = ((cellsQ l).set (k * 2) (.int .i64 e.Item)).set (k * 2 + 1) (.int .i64 e.Key)
  | [], k, e => by simp [cellsQ]
  | a :: l, 0, e => by simp [cellsQ]
  | a :: l, k + 1, e => by
    rw [show (k + 1) * 2 = k * 2 + 2 by omega]
    simp [cellsQ, cellsQ_set l k e]
theorem cellsQ_append : ∀ (l m : List QE), cellsQ (l ++ m) = cellsQ l ++ cellsQ m
  | [], m => rfl
  | e :: l, m => by simp [cellsQ, cellsQ_append l m]
abbrev qA (gb : Option Nat) : Option Addr := gb.map (fun g => ⟨g, 0, none⟩)
abbrev qP (qb : Nat) : Value := .pointer (some ⟨qb, 0, none⟩)
/-- The queue in block qb: its places are in block mb, its entries, l, in block gb. -/
structure QOk (W : World) (qb mb : Nat) (gb : Option Nat) (c : Nat) (l : List QE) (D : List (IE Int)) : Prop where
  box : W.heap[qb]? = some (.cells #[.slice (qA gb) l.length c, .map (some mb)] 49 (0, 0))
  row : W.ownsRow 0 51 2 (.slice (qA gb) l.length c) l.length (cellsQ l)
  map : IMapAt (fun v : Int => Value.int .i64 v) W mb D
  pl : ∀ x i, getI D x = some i ↔ ∃ k : Nat, k < l.length ∧ i = (k : Int) ∧ (atE l k).Item = x
  len : l.length ≤ 4096
def QAt (W : World) (qb mb : Nat) (gb : Option Nat) (l : List QE) : Prop := ∃ c D, QOk W qb mb gb c l D
section
variable {W : World} {qb mb c : Nat} {gb : Option Nat} {l : List QE} {D : List (IE Int)}
theorem QOk.cell0 (h : QOk W qb mb gb c l D) : W.cell? ⟨qb, 0, none⟩ = some (.slice (qA gb) l.length c) := blk_cell h.box 0
theorem QOk.cell1 (h : QOk W qb mb gb c l D) : W.cell? ⟨qb, 1, none⟩ = some (.map (some mb)) := blk_cell h.box 1
theorem QOk.qlt (h : QOk W qb mb gb c l D) : qb < W.heap.size := blk_lt h.box
theorem QOk.row' (h : QOk W qb mb gb c l D) (hl : 0 < l.length) : ∃ g, gb = some g ∧ W.ownsRow 0 51 2 (.slice (some ⟨g, 0, none⟩) l.length c) l.length (cellsQ l) := by
  cases gb with
  | some g => exact ⟨g, rfl, h.row⟩
  | none =>
    rcases h.row.2 with ⟨_, h2⟩ | ⟨g, cap, cur, h2, _⟩
    · omega
    · simp [qA] at h2
theorem QOk.at_ (h : QOk W qb mb gb c l D) (k : Nat) (hk : k < l.length) : ∃ g, gb = some g ∧ g < W.heap.size ∧ W.cell? ⟨g, k * 2, none⟩ = some (.int .i64 (atE l k).Item) ∧ W.cell? ⟨g, k * 2 + 1, none⟩ = some (.int .i64 (atE l k).Key) := by
  obtain ⟨g, rfl, h1⟩ := h.row' (by omega)
  have h2 := cellsQ_get l k hk
  refine ⟨g, rfl, (h1.lt g rfl).2, ?_, ?_⟩
  · rw [h1.cellAt _ (by omega), ← h2.1]
  · rw [h1.cellAt _ (by omega), ← h2.2]
end
section
variable {W : World} {qb mb c : Nat} {gb : Option Nat} {l : List QE} {D : List (IE Int)}
theorem qLen_any (h : QOk W qb mb gb c l D) : Calls Try.prog 22 #[qP qb] W fun e w' => e = .returned (.int .i64 l.length) ∧ w' = W := by
  have h0 := h.cell0
  go_enter Try.func22, Try.ntmps22
  go_wp2
  go_ret
  exact ⟨rfl, rfl⟩
theorem qLess_any (h : QOk W qb mb gb c l D) (i j : Nat) (hi : i < l.length) (hj : j < l.length) : Calls Try.prog 43 #[qP qb, .int .i64 i, .int .i64 j] W fun e w' => e = .returned (.bool (decide ((atE l i).lt (atE l j)))) ∧ Below W.heap.size W w' := by
  have h0 := h.cell0
  obtain ⟨g, rfl, hg, x0, x1⟩ := h.at_ i hi
  obtain ⟨g', e, -, y0, y1⟩ := h.at_ j hj
  obtain rfl := Option.some.inj e
  have hln := h.len
  have i0 : (0 : Int) ≤ i := by omega
  have i1 : (i : Int) < l.length := by omega
  have j0 : (0 : Int) ≤ j := by omega
  have j1 : (j : Int) < l.length := by omega
  clear h e hln
  have hq := World.block_lt_of_cell? _ ⟨qb, 0, none⟩ h0
  go_enter Try.func43, Try.ntmps43
  go_upto_region 1 with fail
  go_region_held3 (fun W' => Below W.heap.size W W' ∧ ∀ a : Addr, a.block < W.heap.size → W'.cell? a = W.cell? a) (first | exact hl_start _ | exact hl_of (by repeat (first | with_reducible exact Below.refl _ _ | with_reducible apply below_alloc | with_reducible apply below_drew | with_reducible apply pw_below_drewN | (with_reducible refine Below.setCell ?_ (by first | (simp; done) | (simp; omega) | (dsimp only; omega)) _) | (with_reducible refine below_to ?_ (by assumption)))))
      (first
        | fail)
  all_goals
    by_cases h1 : (atE l i).Key < (atE l j).Key
    · have d1 : decide ((atE l i).Key < (atE l j).Key) = true := decide_eq_true h1
      have dl : decide ((atE l i).lt (atE l j)) = true := decide_eq_true (.inl h1)
      go_wp2
      go_ret
      exact ⟨by first | rfl | (rw [dl]; rfl), (by repeat (first | with_reducible exact Below.refl _ _ | with_reducible apply below_alloc | with_reducible apply below_drew | with_reducible apply pw_below_drewN | (with_reducible refine Below.setCell ?_ (by first | (simp; done) | (simp; omega) | (dsimp only; omega)) _) | (with_reducible refine below_to ?_ (by assumption))))⟩
    · have d1 : decide ((atE l i).Key < (atE l j).Key) = false := decide_eq_false h1
      by_cases h2 : (atE l i).Key = (atE l j).Key
      · have d2 : ((atE l i).Key == (atE l j).Key) = true := by simp [h2]
        have dl : decide ((atE l i).lt (atE l j)) = decide ((atE l i).Item < (atE l j).Item) := by
          unfold QE.lt
          simp [h2]
        go_wp2
        go_ret
        exact ⟨by first | rfl | (rw [dl]; rfl), (by repeat (first | with_reducible exact Below.refl _ _ | with_reducible apply below_alloc | with_reducible apply below_drew | with_reducible apply pw_below_drewN | (with_reducible refine Below.setCell ?_ (by first | (simp; done) | (simp; omega) | (dsimp only; omega)) _) | (with_reducible refine below_to ?_ (by assumption))))⟩
      · have d2 : ((atE l i).Key == (atE l j).Key) = false := by simp [h2]
        have dl : decide ((atE l i).lt (atE l j)) = false := decide_eq_false (by unfold QE.lt; omega)
        go_wp2
        go_ret
        exact ⟨by first | rfl | (rw [dl]; rfl), (by repeat (first | with_reducible exact Below.refl _ _ | with_reducible apply below_alloc | with_reducible apply below_drew | with_reducible apply pw_below_drewN | (with_reducible refine Below.setCell ?_ (by first | (simp; done) | (simp; omega) | (dsimp only; omega)) _) | (with_reducible refine below_to ?_ (by assumption))))⟩
end
end Go.Proofs.Ytiejegalokncgaa
