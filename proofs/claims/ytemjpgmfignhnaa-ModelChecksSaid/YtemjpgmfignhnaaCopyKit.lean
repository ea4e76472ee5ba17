/- A row copied by append([]T{}, xs...), and its elements written over: what the new block holds, and on which blocks that hangs.
Conditions: none. -/
import Derived.Test.YtemjpgmfignhnaaInv
import Derived.ArgAppend
import Derived.Deep.Upon
namespace Go.Proofs.Ytemjpgmfignhnaa
open Go.RowKit Go.Proofs.YtemjpgmfignhnaaW.PrintWords Go.Proofs.YtemjpgmfignhnaaW.PrintLast Go.Proofs.YtemjpgmfignhnaaW.PrintMore
set_option linter.unusedVariables false
set_option linter.unusedSimpArgs false
theorem heap_window : Kd.Heap kWindow := Kd.heap_iso _ (Kd.heap_pair (Kd.heap_int _) (Kd.heap_int _))
theorem heap_break : Kd.Heap kBreak := Kd.heap_iso _ (Kd.heap_pair (Kd.heap_slice _ heap_window) (Kd.heap_int _))
theorem heap_stop : Kd.Heap kStop := Kd.heap_iso _ (Kd.heap_pair (Kd.heap_int _) (Kd.heap_pair (Kd.heap_int _) (Kd.heap_slice _ heap_window)))
theorem heap_vehicle : Kd.Heap kVehicle := by
  unfold kVehicle
  refine Kd.heap_iso _ ?_
  repeat (first | exact Kd.heap_int _ | exact heap_window | exact Kd.heap_slice _ (Kd.heap_int _) | exact Kd.heap_slice _ heap_break | refine Kd.heap_pair ?_ ?_)
theorem heap_job : Kd.Heap kJob := by
  unfold kJob
  refine Kd.heap_iso _ ?_
  repeat (first | exact Kd.heap_int _ | exact heap_stop | exact Kd.heap_slice _ (Kd.heap_int _) | refine Kd.heap_pair ?_ ?_)
theorem heap_shipment : Kd.Heap kShipment := by
  unfold kShipment
  refine Kd.heap_iso _ ?_
  repeat (first | exact Kd.heap_int _ | exact heap_stop | exact Kd.heap_slice _ (Kd.heap_int _) | refine Kd.heap_pair ?_ ?_)
section
variable {α : Type} {d : Kd α} {e g : Nat} {W W1 : World} {ok ok' : Nat → Prop} {xs : List α}
/-- What lies in memory now hangs on the blocks of now. -/
theorem F_of_C (hd : Kd.Heap d) {A : Option Addr} {n : Nat} (h : d.C W A n xs) : Kd.F d W (fun k => k < W.heap.size) A n xs := fun W' hW => hd.C (fun k hk => hW k hk hk) h
theorem FK_of_K (hd : Kd.Heap d) {x : α} {cs : List Value} (h : d.K W x cs) : Kd.FK d W (fun k => k < W.heap.size) x cs := fun W' hW => hd.K (fun k hk => hW k hk hk) h
/-- Block g holds the elements xs (type e), and what they lead to lies in blocks of ok. -/
def RowAt (d : Kd α) (e : Nat) (W : World) (ok : Nat → Prop) (g : Nat) (xs : List α) : Prop :=
  ∃ cur inner, W.heap[g]? = some (.cells cur e (0, 0)) ∧ cur.toList.take (xs.length * d.sz) = inner ∧ Reps (Kd.FK d W ok) d.sz xs inner
theorem RowAt.lt (h : RowAt d e W ok g xs) : g < W.heap.size := by
  obtain ⟨cur, inner, hc, _⟩ := h
  exact blk_lt hc
theorem RowAt.step (h : RowAt d e W ok g xs) (hg : W1.heap[g]? = W.heap[g]?) (hm : ∀ k, ok k → k < W.heap.size → W1.heap[k]? = W.heap[k]?) : RowAt d e W1 ok g xs := by
  obtain ⟨cur, inner, hc, ht, hr⟩ := h
  exact ⟨cur, inner, hg.trans hc, ht, hr.imp_ (fun _ _ hk => Kd.FK_step hk hm)⟩
theorem RowAt.below (h : RowAt d e W ok g xs) (hb : Below W.heap.size W W1) : RowAt d e W1 ok g xs := h.step (hb.block g h.lt) (fun k _ hk => hb.block k hk)
theorem RowAt.far (h : RowAt d e W ok g xs) {p : Addr} (hg : g ≠ p.block) (hok : ∀ k, ok k → k ≠ p.block) (u : Value) : RowAt d e (W.setCell p u) ok g xs :=
  h.step (Below.heap_setCell W p u g hg) (fun k hk _ => Below.heap_setCell W p u k (hok k hk))
theorem RowAt.mono (h : RowAt d e W ok g xs) (hok : ∀ k, ok k → ok' k) : RowAt d e W ok' g xs := by
  obtain ⟨cur, inner, hc, ht, hr⟩ := h
  exact ⟨cur, inner, hc, ht, hr.imp_ (fun _ _ hk => Kd.FK_mono hk hok)⟩
theorem RowAt.cell (h : RowAt d e W ok g xs) (j : Nat) (x : α) (hj : xs[j]? = some x) : ∃ cs, cs.length = d.sz ∧ Kd.FK d W ok x cs ∧ ∀ i u, cs[i]? = some u → W.cell? ⟨g, j * d.sz + i, none⟩ = some u := by
  obtain ⟨cur, inner, hc, ht, hr⟩ := h
  have hjl := (List.getElem?_eq_some_iff.1 hj).1
  have hm : j * d.sz + d.sz ≤ xs.length * d.sz := by rw [← Nat.succ_mul]; exact Nat.mul_le_mul_right _ hjl
  have hfk := hr.2 j x hj
  refine ⟨_, d.K_len (Kd.FK_now hfk), hfk, fun i u hu => ?_⟩
  rw [blk_cell hc]
  rw [List.getElem?_take] at hu
  split at hu
  · rename_i hi
    rw [List.getElem?_drop, ← ht, List.getElem?_take, if_pos (by omega)] at hu
    simpa using hu
  · cases hu
theorem RowAt.reads (h : RowAt d e W ok g xs) (hn : xs.length ≤ 4611686018427387904) : d.C W (some ⟨g, 0, none⟩) xs.length xs := by
  refine ⟨rfl, by omega, fun _ => ⟨_, rfl, fun j x hj => ?_⟩⟩
  obtain ⟨cs, h1, h2, h3⟩ := h.cell j x hj
  exact ⟨cs, h1, Kd.FK_now h2, fun i u hu => by rw [add_plain]; exact h3 i u hu⟩
theorem RowAt.frozen (h : RowAt d e W ok g xs) (i : Nat) : W.frozen? ⟨g, i, none⟩ = false := by
  obtain ⟨cur, inner, hc, _⟩ := h
  exact blk_frozen hc i
/-- What the row is good for as a slice that is handed on. -/
theorem RowAt.F (h : RowAt d e W ok g xs) (hn : xs.length ≤ 4611686018427387904) : Kd.F d W (fun k => ok k ∨ k = g) (some ⟨g, 0, none⟩) xs.length xs := fun W' hW =>
  (h.step (W1 := W') (hW g (.inr rfl) h.lt) (fun k hk hlt => hW k (.inl hk) hlt)).reads hn

theorem seg_set {l : List Value} {b i s : Nat} {v : Value} (hi : i < s) : ((l.set (b + i) v).drop b).take s = ((l.drop b).take s).set i v := by
  refine List.ext_getElem? fun m => ?_
  rw [List.getElem?_take, List.getElem?_set, List.getElem?_drop, List.getElem?_set, List.getElem?_take, List.getElem?_drop, List.length_take, List.length_drop]
  by_cases hm : m < s
  · rw [if_pos hm, if_pos hm]
    by_cases e : i = m
    · subst e
      rw [if_pos rfl, if_pos rfl]
      by_cases hb : b + i < l.length
      · rw [if_pos hb, if_pos (by omega)]
      · rw [if_neg hb, if_neg (by omega)]
    · rw [if_neg (by omega), if_neg e]
  · rw [if_neg hm, if_neg hm]
    by_cases e : i = m
    · omega
    · rw [if_neg e]
theorem seg_other {l : List Value} {b i s b' : Nat} {v : Value} (h : b + i < b' ∨ b' + s ≤ b + i) : ((l.set (b + i) v).drop b').take s = (l.drop b').take s := by
  refine List.ext_getElem? fun m => ?_
  rw [List.getElem?_take, List.getElem?_take, List.getElem?_drop, List.getElem?_set, List.getElem?_drop]
  by_cases hm : m < s
  · rw [if_pos hm, if_pos hm, if_neg (by omega)]
  · rw [if_neg hm, if_neg hm]
/-- One cell of an element is written over. -/
theorem RowAt.set (h : RowAt d e W ok g xs) (hg : ¬ ok g) (j : Nat) (x x' : α) (hj : xs[j]? = some x) (i : Nat) (v : Value) (hi : i < d.sz) (hk : ∀ cs, Kd.FK d W ok x cs → Kd.FK d W ok x' (cs.set i v)) :
    RowAt d e (W.setCell ⟨g, j * d.sz + i, none⟩ v) ok g (xs.set j x') := by
  obtain ⟨cur, inner, hc, ht, hr⟩ := h
  have hjl := (List.getElem?_eq_some_iff.1 hj).1
  have hm : j * d.sz + d.sz ≤ xs.length * d.sz := by rw [← Nat.succ_mul]; exact Nat.mul_le_mul_right _ hjl
  refine ⟨cur.setIfInBounds (j * d.sz + i) v, inner.set (j * d.sz + i) v, blk_set hc _ _, ?_, by simp [hr.1], fun m y hy => ?_⟩
  · rw [List.length_set, ← ht, Array.toList_setIfInBounds, List.take_set]
  · have hstep : ∀ y cs, Kd.FK d W ok y cs → Kd.FK d (W.setCell ⟨g, j * d.sz + i, none⟩ v) ok y cs := fun y cs hf => Kd.FK_step hf (fun k hk _ => Below.heap_setCell W _ v k (by rintro rfl; exact hg hk))
    by_cases ejm : j = m
    · subst ejm
      have : y = x' := by
        rw [List.getElem?_set_self hjl] at hy
        exact (Option.some.inj hy).symm
      subst this
      rw [seg_set hi]
      exact hstep _ _ (hk _ (hr.2 j x hj))
    · rw [List.getElem?_set_ne ejm] at hy
      rw [seg_other]
      · exact hstep _ _ (hr.2 m y hy)
      · rcases Nat.lt_or_gt_of_ne ejm with hlt | hgt
        · left
          have : j * d.sz + d.sz ≤ m * d.sz := by rw [← Nat.succ_mul]; exact Nat.mul_le_mul_right _ hlt
          omega
        · right
          have : m * d.sz + d.sz ≤ j * d.sz := by rw [← Nat.succ_mul]; exact Nat.mul_le_mul_right _ hgt
          omega
/-- What append([]T{}, xs...) hands back. -/
def Copied (d : Kd α) (e : Nat) (base : Nat) (ok : Nat → Prop) (xs : List α) (v : Value) (w : World) : Prop :=
  ∃ g c, v = .slice (some ⟨g, 0, none⟩) xs.length c ∧ xs.length ≤ c ∧ base ≤ g ∧ RowAt d e w ok g xs
theorem Copied.below {base : Nat} {v : Value} (h : Copied d e base ok xs v W) (hb : Below W.heap.size W W1) : Copied d e base ok xs v W1 := by
  obtain ⟨g, c, h1, h2, h3, h4⟩ := h
  exact ⟨g, c, h1, h2, h3, h4.below hb⟩
/-- An empty slice of the call's own. -/
def EmptyRow (e : Nat) (base : Nat) (v : Value) (w : World) : Prop := ∃ g, v = .slice (some ⟨g, 0, none⟩) 0 0 ∧ base ≤ g ∧ w.heap[g]? = some (.cells #[] e (0, 0))
theorem EmptyRow.below {base : Nat} {v : Value} (h : EmptyRow e base v W) (hb : Below W.heap.size W W1) : EmptyRow e base v W1 := by
  obtain ⟨g, h1, h2, h3⟩ := h
  exact ⟨g, h1, h2, blk_below h3 hb⟩
theorem wp_copy {P : Program} {o : Oper} {a : Act} {w W0 : World} {K : Act → World → Prop} {Q : Exit → Act → World → Prop} (s x : Operand) (t e : TypeId) (z : Value) (bytes : Nat)
    (ho : o.op = .call { callee := .builtin .append, args := #[s, x], argTypes := #[t, t] }) (ht : P.underlying t = some (.slice e))
    (hinfo : (P.info? e).map (fun i => (i.zero, i.size, i.bytes)) = some (some z, d.sz, bytes)) (hzs : z.cells.size = d.sz) (hsz : 0 < d.sz)
    (hd : Kd.Heap d) (base : Nat) (hbase : base ≤ w.heap.size) (hs : EmptyRow e base (a.eval s) w) (A : Option Addr) (c : Nat) (hx : a.eval x = .slice A xs.length c) (hC : d.C W0 A xs.length xs) (hb : Below W0.heap.size W0 w)
    (hbytes : xs.length * bytes ≤ 140737488355328) (h63 : xs.length ≤ maxLen)
    (hK : ∀ v w', Copied d e base (fun k => k < W0.heap.size) xs v w' → Below w.heap.size w w' → K (a.put o.dst v) w') : o.wp P a w K Q := by
  obtain ⟨i, hi, hz0, hz1, hz2⟩ := info_parts hinfo
  obtain ⟨g, hsv, hgb, hgc⟩ := hs
  unfold Oper.wp execOp
  simp only [ho, resolve, invoke, builtin, Sem.run_bind, Sem.run_pure, Result.andThen_ok, List.map_toArray, List.map_cons, List.map_nil, hsv, hx]
  rcases Nat.eq_zero_or_pos xs.length with h0 | h0
  · have hnil : xs = [] := List.eq_nil_of_length_eq_zero h0
    subst hnil
    have hsrc : Src P i.size t (.slice A ([] : List α).length c) 0 [] w := by
      cases A with
      | none => exact Src.ofNil w ht c
      | some ad => exact Src.ofSlice w ht ad 0 c [] (by simp) (by simp) (by simp)
    rw [run_append_nothing w t t o.type e i ht hi (some ⟨g, 0, none⟩) 0 0 (Nat.le_refl _) _ hsrc]
    exact hK _ _ ⟨g, 0, rfl, Nat.le_refl _, hgb, #[], [], hgc, by simp, Reps.none _ _⟩ (Below.refl _ _)
  · obtain ⟨ad, rfl, _⟩ := hC.2.2 h0
    obtain ⟨inner, hr, hcell⟩ := ReadsRow.inner_ hC
    have h1 : ∀ u ∈ inner, u.oneCell' = true := by
      intro u hu
      obtain ⟨m, hm⟩ := List.getElem?_of_mem hu
      have hml : m < xs.length * d.sz := by rw [← hr.1]; exact (List.getElem?_eq_some_iff.1 hm).1
      have hj : m / d.sz < xs.length := (Nat.div_lt_iff_lt_mul hsz).2 hml
      have hk := hr.2 (m / d.sz) _ (List.getElem?_eq_getElem hj)
      refine d.K_one hk u (List.mem_of_getElem? (i := m % d.sz) ?_)
      rw [List.getElem?_take, if_pos (Nat.mod_lt _ hsz), List.getElem?_drop, Nat.mul_comm, Nat.div_add_mod]
      exact hm
    obtain ⟨v', w', hrun, hown, hgr⟩ := run_append_arg_grows (P := P) w t o.type e i z d.sz bytes ht hi hz0 hz1 hz2 hzs hsz ⟨g, 0, none⟩ 0 0 [] (by simp) (by simp) ad xs.length c inner hr.1 (fun j u hu => pw_cell_below hb (hcell j u hu)) (by omega) (by simpa using h63) (by simpa using hbytes)
    rw [hrun]
    have hbw : Below w.heap.size w w' := ⟨hgr.os, hgr.tape, hgr.output, hgr.size, fun k hk => hgr.block k hk (by simp)⟩
    rcases hown.2 with ⟨_, hz⟩ | ⟨g', cap, cur, hv, hg', hh, hle, _, _, htk⟩
    · omega
    · rw [Nat.zero_add] at hv hle htk
      subst hv
      refine hK _ _ ⟨g', cap, rfl, hle, by omega, cur, inner, hh, by simpa using htk, hr.imp_ (fun y cs hk => ?_)⟩ hbw
      exact Kd.FK_step (FK_of_K hd hk) (fun k hk' _ => (hbw.block k (Nat.lt_of_lt_of_le hk' hb.size)).trans (hb.block k hk'))
end
end Go.Proofs.Ytemjpgmfignhnaa
