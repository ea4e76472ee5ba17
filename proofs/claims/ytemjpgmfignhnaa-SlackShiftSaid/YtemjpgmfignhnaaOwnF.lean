/- A row of the call's own whose elements lead to elder memory: grown, kept, read.
Conditions: none. -/
import Derived.Test.YtemjpgmfignhnaaHeld2
import Derived.Test.YtemjpgmfignhnaaM0
namespace Go.Proofs.Ytemjpgmfignhnaa
open Go.RowKit Go.Proofs.YtemjpgmfignhnaaW.PrintWords Go.Proofs.YtemjpgmfignhnaaW.PrintLast Go.Proofs.YtemjpgmfignhnaaW.PrintMore
set_option linter.unusedVariables false
set_option linter.unusedSimpArgs false
section
variable {α : Type} {d : Kd α} {e lo base : Nat} {w w1 W : World} {v : Value} {xs : List α}
/-- v is a row of type e in a block from base on (or nil); its elements hang on blocks from lo to base. -/
def OwnF (d : Kd α) (e : Nat) (w : World) (lo base : Nat) (v : Value) (xs : List α) : Prop := OwnRow (Kd.FK d w (fun k => lo ≤ k ∧ k < base)) e d.sz w base v xs
theorem OwnF.nil (d : Kd α) (e : Nat) (w : World) (lo base : Nat) : OwnF d e w lo base (.slice none 0 0) [] := OwnRow.none_ _ _ _ _ _
theorem OwnF.base_le (h : OwnF d e w lo base v xs) (k : Nat) (hk : v.ownBlock = some k) : base ≤ k := by
  obtain ⟨inner, ho, _⟩ := h
  exact own_base ho k hk
theorem OwnF.ne_typed (h : OwnF d e w lo base v xs) {g t : Nat} {cells : Array Value} (hb : w.heap[g]? = some (.cells cells t (0, 0))) (ht : e ≠ t) : some g ≠ v.ownBlock := OwnRow.ne_block h hb ht
theorem OwnF.step (h : OwnF d e w lo base v xs) (hlow : ∀ k, lo ≤ k → k < base → k < w.heap.size → w1.heap[k]? = w.heap[k]?) (hown : ∀ k, v.ownBlock = some k → w1.heap[k]? = w.heap[k]?) : OwnF d e w1 lo base v xs := by
  obtain ⟨inner, ho, hr⟩ := h
  exact ⟨inner, own_move ho hown, hr.imp_ (fun _ _ hk => Kd.FK_step hk (fun k hk => hlow k hk.1 hk.2))⟩
theorem OwnF.below (h : OwnF d e w lo base v xs) (hb : Below w.heap.size w w1) : OwnF d e w1 lo base v xs := h.step (fun k _ _ hk => hb.block k hk) (fun k hk => by
  obtain ⟨inner, ho, _⟩ := h
  exact hb.block k (own_lt ho k hk))
/-- A cell of another block, from base on, is written. -/
theorem OwnF.set (h : OwnF d e w lo base v xs) {p : Addr} (hp : base ≤ p.block) (hne : some p.block ≠ v.ownBlock) (u : Value) : OwnF d e (w.setCell p u) lo base v xs :=
  h.step (fun k _ hk _ => Below.heap_setCell w p u k (by omega)) (fun k hk => Below.heap_setCell w p u k (fun e => hne (by rw [hk, e])))
/-- A cell of an elder block is written. -/
theorem OwnF.set_low (h : OwnF d e w lo base v xs) {p : Addr} (hp : p.block < lo) (hlo : lo ≤ base) (u : Value) : OwnF d e (w.setCell p u) lo base v xs :=
  h.step (fun k hk _ _ => Below.heap_setCell w p u k (by omega)) (fun k hk => Below.heap_setCell w p u k (by have := h.base_le k hk; omega))
theorem OwnF.reads (h : OwnF d e w lo base v xs) : ∃ A c, v = .slice A xs.length c ∧ xs.length ≤ c ∧ d.C w A xs.length xs := by
  obtain ⟨A, c, he, hl, hr⟩ := OwnRow.reads h
  exact ⟨A, c, he, hl, hr.imp_ (Below.refl _ _) (fun _ _ hp => Kd.FK_now hp)⟩
theorem OwnF.appended {p : α} {v1 : Value} {inner cs : List Value} (hr : Reps (Kd.FK d W (fun k => lo ≤ k ∧ k < base)) d.sz xs inner) (hp : Kd.FK d W (fun k => lo ≤ k ∧ k < base) p cs) (hl : cs.length = d.sz)
    (hown : W.ownsRow base e d.sz v xs.length inner) (hown1 : w1.ownsRow base e d.sz v1 (xs.length + 1) (inner ++ cs)) (hg : W.grownBy w1 v.ownBlock) : OwnF d e w1 lo base v1 (xs ++ [p]) := by
  have hm : ∀ k, (lo ≤ k ∧ k < base) → k < W.heap.size → w1.heap[k]? = W.heap[k]? := fun k hk hlt => hg.block k hlt (fun he => by have := own_base hown k he.symm; omega)
  refine ⟨inner ++ cs, by simpa using hown1, ?_⟩
  have h1 : Reps (Kd.FK d w1 (fun k => lo ≤ k ∧ k < base)) d.sz xs inner := hr.imp_ (fun _ _ hk => Kd.FK_step hk hm)
  have h2 : Kd.FK d w1 (fun k => lo ≤ k ∧ k < base) p cs := Kd.FK_step hp hm
  refine ⟨by rw [List.length_append, h1.1, hl, List.length_append, List.length_singleton, Nat.add_mul, Nat.one_mul], fun j x hj => ?_⟩
  rcases Nat.lt_or_ge j xs.length with hlt | hge
  · rw [List.getElem?_append_left hlt] at hj
    have hseg : ((inner ++ cs).drop (j * d.sz)).take d.sz = (inner.drop (j * d.sz)).take d.sz := by
      have hb : j * d.sz + d.sz ≤ inner.length := by rw [h1.1, ← Nat.succ_mul]; exact Nat.mul_le_mul_right _ hlt
      rw [List.drop_append_of_le_length (by omega), List.take_append_of_le_length (by rw [List.length_drop]; omega)]
    rw [hseg]
    exact h1.2 j x hj
  · rw [List.getElem?_append_right hge] at hj
    have e0 : j = xs.length := by
      rcases Nat.eq_or_lt_of_le hge with h | h
      · exact h.symm
      · rw [List.getElem?_eq_none (by simp; omega)] at hj
        cases hj
    subst e0
    obtain rfl : p = x := by simpa using hj
    have hseg : ((inner ++ cs).drop (xs.length * d.sz)).take d.sz = cs := by
      rw [← h1.1, List.drop_left, ← hl, List.take_length]
    rw [hseg]
    exact h2
end
section
variable {P : Program} {ops : Array Oper} {o : Oper} {a : Act} {rest : List Oper} {Q : Exit → Act → World → Prop} {Kc : Act → World → Prop} {α : Type} {lo : Nat}
theorem OwnF.append (d : Kd α) {w0 W : World} (base : Nat) (hgd : o.guard = none) (s x : Operand) (t e : TypeId) (z : Value) (bytes : Nat)
    (ho : o.op = .call { callee := .builtin .append, args := #[s, x], argTypes := #[t, t] })
    (ht : P.underlying t = some (.slice e)) (hinfo : (P.info? e).map (fun i => (i.zero, i.size, i.bytes)) = some (some z, d.sz, bytes)) (hz : z.cells.size = d.sz) (hs0 : 0 < d.sz) (hb0 : 0 < bytes)
    (v : Value) (xs : List α) (p : α) (cs : List Value) (hs : a.eval s = v) (hx : a.eval x = .slice (some ⟨W.heap.size, 0, none⟩) 1 1) (hp : Kd.FK d W (fun k => lo ≤ k ∧ k < base) p cs)
    (HO : OwnF d e W lo base v xs) (HB : Below base w0 W) (hbase : base ≤ W.heap.size) (hl : (xs.length + 1) * bytes ≤ 140737488355328)
    (h : ∀ v1 w1, OwnF d e w1 lo base v1 (xs ++ [p]) → Below base w0 w1 → W.grownBy w1 v.ownBlock → (v1.ownBlock = v.ownBlock ∨ ∃ b, v1.ownBlock = some b ∧ W.heap.size ≤ b) → wpList P ops Q rest (a.put o.dst v1) w1) : wpList P ops Q (o :: rest) a (W.alloc (.cells cs.toArray e)) := by
  obtain ⟨inner, hown, hr⟩ := HO
  have hK := Kd.FK_now hp
  refine print_append_cells base hgd s x t e z d.sz bytes ho ht hinfo hz hs0 hb0 v xs.length inner cs hs hx (d.K_len hK) (d.K_one hK) hown HB hbase hl ?_
  intro v1 w1 hown1 hb1 hg1 hat1
  exact h v1 w1 (OwnF.appended hr hp (d.K_len hK) hown hown1 hg1) hb1 hg1 hat1
end
end Go.Proofs.Ytemjpgmfignhnaa
