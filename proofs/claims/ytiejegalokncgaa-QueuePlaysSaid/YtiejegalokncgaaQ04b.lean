/- A queue's order: Swap.
Conditions: none. -/
import Derived.Test.YtiejegalokncgaaQ04
namespace Go.Proofs.Ytiejegalokncgaa
open Go.RowKit Go.Proofs.YtiejegalokncgaaW.PrintWords Go.Proofs.YtiejegalokncgaaW.PrintLast Go.Proofs.YtiejegalokncgaaW.PrintMore
set_option linter.unusedVariables false
set_option linter.unusedSimpArgs false
section
variable {W : World} {qb mb c : Nat} {gb : Option Nat} {l : List QE} {D : List (IE Int)}
/-- The blocks of a queue. -/
def QS (qb mb : Nat) (gb : Option Nat) (k : Nat) : Prop := k = qb ∨ k = mb ∨ some k = gb
theorem row_set {g : Nat} {l : List QE} (h : W.ownsRow 0 51 2 (.slice (some ⟨g, 0, none⟩) l.length c) l.length (cellsQ l)) (k : Nat) (e : QE) :
    ((W.setCell ⟨g, k * 2, none⟩ (.int .i64 e.Item)).setCell ⟨g, k * 2 + 1, none⟩ (.int .i64 e.Key)).ownsRow 0 51 2 (.slice (some ⟨g, 0, none⟩) (l.set k e).length c) (l.set k e).length (cellsQ (l.set k e)) := by
  have h1 := ((h.stored (k * 2) (.int .i64 e.Item)).1.stored (k * 2 + 1) (.int .i64 e.Key)).1
  rw [List.length_set, cellsQ_set]
  exact h1
theorem QOk.gq {g : Nat} (h : QOk W qb mb (some g) c l D) (hl : 0 < l.length) : qb ≠ g ∧ mb ≠ g ∧ mb ≠ qb ∧ g < W.heap.size ∧ mb < W.heap.size := by
  obtain ⟨g', e, h1⟩ := h.row' hl
  obtain rfl := Option.some.inj e
  obtain ⟨clock, h2, _⟩ := h.map
  rcases h1.2 with ⟨h', _⟩ | ⟨g', cap', cur, h', hb, hg, hnc, hcm, hcs, htake⟩
  · simp at h'
  · simp only [Value.slice.injEq, Option.some.injEq, Addr.mk.injEq, and_true, true_and] at h'
    obtain ⟨rfl, rfl⟩ := h'
    refine ⟨blk_ne h.box hg (by decide), fun e => ?_, fun e => ?_, blk_lt hg, (Array.getElem?_eq_some_iff.1 h2).1⟩
    · rw [e, hg] at h2; cases h2
    · rw [e, h.box] at h2; cases h2
theorem pl_inj {l : List QE} {D : List (IE Int)} (pl : ∀ x i, getI D x = some i ↔ ∃ k : Nat, k < l.length ∧ i = (k : Int) ∧ (atE l k).Item = x) {i j : Nat} (hi : i < l.length) (hj : j < l.length) (e : (atE l i).Item = (atE l j).Item) : i = j := by
  have h1 := (pl (atE l j).Item (i : Int)).2 ⟨i, hi, rfl, e⟩
  have h2 := (pl (atE l j).Item (j : Int)).2 ⟨j, hj, rfl, rfl⟩
  rw [h1] at h2
  have := Option.some.inj h2
  omega
theorem pl_swap {l : List QE} {D D2 : List (IE Int)} (pl : ∀ x i, getI D x = some i ↔ ∃ k : Nat, k < l.length ∧ i = (k : Int) ∧ (atE l k).Item = x) {i j : Nat} (hi : i < l.length) (hj : j < l.length)
    (hD : ∀ y, getI D2 y = if y = (atE l i).Item then some (j : Int) else if y = (atE l j).Item then some (i : Int) else getI D y) (x v : Int) : getI D2 x = some v ↔ ∃ k : Nat, k < (swapE l i j).length ∧ v = (k : Int) ∧ (atE (swapE l i j) k).Item = x := by
  have key := atE_swap hi hj
  rw [hD, swapE_len]
  constructor
  · intro h
    split at h
    · rename_i e
      obtain rfl := Option.some.inj h
      exact ⟨j, hj, rfl, by rw [key, if_pos rfl, e]⟩
    · rename_i e
      split at h
      · rename_i e2
        obtain rfl := Option.some.inj h
        refine ⟨i, hi, rfl, ?_⟩
        rw [key]
        by_cases hij : i = j
        · rw [if_pos hij, e2, hij]
        · rw [if_neg hij, if_pos rfl, e2]
      · rename_i e2
        obtain ⟨k, h1, h2, h3⟩ := (pl x v).1 h
        refine ⟨k, h1, h2, ?_⟩
        rw [key, if_neg (fun h => e2 (by rw [← h3, h])), if_neg (fun h => e (by rw [← h3, h])), h3]
  · rintro ⟨k, h1, rfl, rfl⟩
    rw [key]
    by_cases e1 : k = j
    · subst e1
      rw [if_pos rfl, if_pos rfl]
    · rw [if_neg e1]
      by_cases e2 : k = i
      · subst e2
        rw [if_pos rfl, if_neg (fun h => e1 (pl_inj pl hj hi h).symm), if_pos rfl]
      · rw [if_neg e2, if_neg (fun h => e2 (pl_inj pl h1 hi h)), if_neg (fun h => e1 (pl_inj pl h1 hj h))]
        exact (pl _ _).2 ⟨k, h1, rfl, rfl⟩
theorem set4_block {W : World} {g k : Nat} (h : k ≠ g) (a b c d : Nat) (u v x y : Value) : ((((W.setCell ⟨g, a, none⟩ u).setCell ⟨g, b, none⟩ v).setCell ⟨g, c, none⟩ x).setCell ⟨g, d, none⟩ y).heap[k]? = W.heap[k]? := by
  rw [Below.heap_setCell _ ⟨g, d, none⟩ _ _ h, Below.heap_setCell _ ⟨g, c, none⟩ _ _ h, Below.heap_setCell _ ⟨g, b, none⟩ _ _ h, Below.heap_setCell _ ⟨g, a, none⟩ _ _ h]
structure SwapMid (w2 : World) (qb mb g c : Nat) (l : List QE) (i j : Nat) (D : List (IE Int)) (W : World) : Prop where
  a1 : w2.heap[qb]? = some (.cells #[.slice (qA (some g)) l.length c, .map (some mb)] 49 (0, 0))
  a2 : w2.ownsRow 0 51 2 (.slice (some ⟨g, 0, none⟩) l.length c) l.length (cellsQ (swapE l i j))
  a3 : IMapAt (fun v : Int => Value.int .i64 v) w2 mb D
  a4 : Turn (QS qb mb (some g)) W w2
theorem SwapMid.drew {w2 : World} {g i j : Nat} (h : SwapMid w2 qb mb g c l i j D W) : SwapMid w2.drew qb mb g c l i j D W := ⟨h.a1, h.a2.drew, h.a3.keep rfl, ⟨h.a4.os, h.a4.tape, h.a4.output, h.a4.size, h.a4.block⟩⟩
theorem swap_stores {g : Nat} (h : QOk W qb mb (some g) c l D) {i j : Nat} (hi : i < l.length) (hj : j < l.length) :
    SwapMid ((((W.setCell ⟨g, i * 2, none⟩ (.int .i64 (atE l j).Item)).setCell ⟨g, i * 2 + 1, none⟩ (.int .i64 (atE l j).Key)).setCell ⟨g, j * 2, none⟩ (.int .i64 (atE l i).Item)).setCell ⟨g, j * 2 + 1, none⟩ (.int .i64 (atE l i).Key)) qb mb g c l i j D W := by
  obtain ⟨h1, h2, h3, h4, h5⟩ := h.gq (by omega)
  obtain ⟨g', e, hr⟩ := h.row' (by omega)
  obtain rfl := Option.some.inj e
  refine ⟨blk_far (blk_far (blk_far (blk_far h.box h1 _) h1 _) h1 _) h1 _, ?_, ?_, ?_⟩
  · have := row_set (row_set hr i (atE l j)) j (atE l i)
    unfold swapE
    simpa using this
  · exact h.map.keep (set4_block h2 ..)
  · refine ⟨rfl, rfl, rfl, by simp, fun k hk hS => ?_⟩
    have : k ≠ g := fun e => hS (.inr (.inr (by rw [e])))
    exact set4_block this ..
structure SwapFacts (w2 : World) (qb mb g c : Nat) (l : List QE) (i j : Nat) (D : List (IE Int)) (W : World) : Prop where
  h0 : w2.cell? ⟨qb, 0, none⟩ = some (.slice (some ⟨g, 0, none⟩) l.length c)
  h1 : w2.cell? ⟨qb, 1, none⟩ = some (.map (some mb))
  x0 : w2.cell? ⟨g, i * 2, none⟩ = some (.int .i64 (atE l j).Item)
  y0 : w2.cell? ⟨g, j * 2, none⟩ = some (.int .i64 (atE l i).Item)
  ops : ∃ (v1 v2 : Int) (s1 s2 : Nat) (w3 w4 : World), (Instr.mapEntry 26 (.map (some mb)) (.int .i64 (atE l j).Item)).run Try.prog w2.drew = .ok (.tuple #[.int .i64 v1, (.int .i64 (s1 : Int))]) w2.drew ∧
    (Instr.entryStore 26 (.map (some mb)) (.int .i64 (s1 : Int)) (.int .i64 i)).run Try.prog w2.drew = .ok () w3 ∧
    (Instr.mapEntry 26 (.map (some mb)) (.int .i64 (atE l i).Item)).run Try.prog w3 = .ok (.tuple #[.int .i64 v2, (.int .i64 (s2 : Int))]) w3 ∧
    (Instr.entryStore 26 (.map (some mb)) (.int .i64 (s2 : Int)) (.int .i64 j)).run Try.prog w3 = .ok () w4 ∧
    Aside0 (∃ D', QOk w4 qb mb (some g) c (swapE l i j) D') ∧ Aside0 (Turn (QS qb mb (some g)) W w4)
theorem swap_facts {w2 : World} {g : Nat} (h : QOk W qb mb (some g) c l D) {i j : Nat} (hi : i < l.length) (hj : j < l.length)
    (h2 : SwapMid w2 qb mb g c l i j D W) : SwapFacts w2 qb mb g c l i j D W := by
  obtain ⟨a1, a2, a3, a4⟩ := h2
  obtain ⟨n1, n2, n3, n4, n5⟩ := h.gq (by omega)
  have key := atE_swap hi hj
  have ci := cellsQ_get (swapE l i j) i (by rw [swapE_len]; exact hi)
  have cj := cellsQ_get (swapE l i j) j (by rw [swapE_len]; exact hj)
  have ej : atE (swapE l i j) j = atE l i := by rw [key, if_pos rfl]
  have ei : atE (swapE l i j) i = atE l j := by
    rw [key]
    by_cases e : i = j
    · rw [if_pos e, e]
    · rw [if_neg e, if_pos rfl]
  rw [ei] at ci
  rw [ej] at cj
  refine ⟨blk_cell a1 0, blk_cell a1 1, ?_, ?_, ?_⟩
  · rw [a2.cellAt _ (by omega), ← ci.1]
  · rw [a2.cellAt _ (by omega), ← cj.1]
  · have hT := Try.underlying26
    have hk := Try.underlying3
    have m2 : IMapAt (fun v : Int => Value.int .i64 v) w2.drew mb D := a3.keep rfl
    have gj := (h.pl (atE l j).Item (j : Int)).2 ⟨j, hj, rfl, rfl⟩
    have gi := (h.pl (atE l i).Item (i : Int)).2 ⟨i, hi, rfl, rfl⟩
    obtain ⟨s1, hs1, e1⟩ := m2.entry hT hk gj
    obtain ⟨w3, e2, m3, z3, b3, o3, t3, u3⟩ := m2.store (P := Try.prog) (T := 26) hs1 (i : Int)
    obtain ⟨v2, gi2⟩ : ∃ v2, getI (setI D (atE l j).Item (i : Int)) (atE l i).Item = some v2 := by
      rw [getI_set]
      split
      · rw [gj]; exact ⟨_, rfl⟩
      · exact ⟨_, gi⟩
    obtain ⟨s2, hs2, e3⟩ := m3.entry hT hk gi2
    obtain ⟨w4, e4, m4, z4, b4, o4, t4, u4⟩ := m3.store (P := Try.prog) (T := 26) hs2 (j : Int)
    have hh : ∀ k, k ≠ mb → w4.heap[k]? = w2.heap[k]? := fun k hk => (b4 k hk).trans (b3 k hk)
    have hg : w2.grownBy w4 (some mb) := ⟨o4.trans o3, t4.trans t3, u4.trans u3, by rw [z4, z3]; exact Nat.le_refl _, fun k _ hn => hh k (fun e => hn (by rw [e]))⟩
    refine ⟨_, v2, s1, s2, w3, w4, e1, e2, e3, e4, ⟨_, ⟨(hh qb (Ne.symm n3)).trans (by rw [swapE_len]; exact a1), ?_, m4, fun x v => ?_, by rw [swapE_len]; exact h.len⟩⟩, ⟨a4.trans (S' := QS qb mb (some g)) ⟨hg.os, hg.tape, hg.output, hg.size, fun k hk hn => hh k (fun e => hn (.inr (.inl e)))⟩ (fun _ _ h => h)⟩⟩
    · rw [swapE_len]
      exact a2.kept hg (.inr (by simp [Value.ownBlock]; exact Ne.symm n2))
    · refine pl_swap h.pl hi hj (fun y => ?_) x v
      rw [getI_set, getI_set, getI_set]
      by_cases e5 : y = (atE l i).Item
      · rw [if_pos e5, if_pos e5]
        split
        · rw [gj]; rfl
        · rw [gi]; rfl
      · rw [if_neg e5, if_neg e5]
        by_cases e6 : y = (atE l j).Item
        · rw [if_pos e6, if_pos e6, gj]; rfl
        · rw [if_neg e6, if_neg e6]
set_option maxHeartbeats 4000000 in
theorem qSwap_any (h : QOk W qb mb gb c l D) (i j : Nat) (hi : i < l.length) (hj : j < l.length) : Calls Try.prog 46 #[qP qb, .int .i64 i, .int .i64 j] W fun e w' => e = .returned (.tuple #[]) ∧ (∃ D', QOk w' qb mb gb c (swapE l i j) D') ∧ Turn (QS qb mb gb) W w' := by
  have h0 := h.cell0
  have h1 := h.cell1
  obtain ⟨g, rfl, hg, x0, x1⟩ := h.at_ i hi
  obtain ⟨g', e, -, y0, y1⟩ := h.at_ j hj
  obtain rfl := Option.some.inj e
  obtain ⟨g', e, hr⟩ := h.row' (by omega)
  obtain rfl := Option.some.inj e
  have hfr := fun k => hr.frozenAt k
  obtain ⟨n1, n2, n3, n4, n5⟩ := h.gq (by omega)
  have HSW := Aside0.mk (swap_stores h hi hj)
  have HQ := Aside0.mk h
  have hln := h.len
  have i0 : (0 : Int) ≤ i := by omega
  have i1 : (i : Int) < l.length := by omega
  have j0 : (0 : Int) ≤ j := by omega
  have j1 : (j : Int) < l.length := by omega
  have hq := World.block_lt_of_cell? _ ⟨qb, 0, none⟩ h0
  clear h e hln hr
  go_enter Try.func46, Try.ntmps46
  have HEND : Aside0 (∀ w2, SwapMid w2 qb mb g c l i j D W → SwapFacts w2 qb mb g c l i j D W) := ⟨fun w2 h => swap_facts HQ.out hi hj h⟩
  by_cases hij : i = j
  · subst hij
    go_upto_region 0 with fail
    go_region
    go_upto_region 1 with fail
    clear hfr x0 x1 y0 y1 h0 h1
    refine gen_wp (fun w2 => SwapFacts w2 qb mb g c l i i D W) (HEND.out _ (by first | exact HSW.out | exact HSW.out.drew)) (fun w2 H2 => ?_)
    obtain ⟨h0, h1, x0, y0, v1, v2, s1, s2, w3, w4, e1, e2, e3, e4, HO, HT⟩ := H2.out
    clear H2 HEND HSW HQ
    go_region
    go_wp2
    go_end0
    exact ⟨rfl, HO.out, HT.out⟩
  · have m1 : ¬ j = i := fun h => hij h.symm
    have m2 : ¬ i * 2 = j * 2 := by omega
    have m3 : ¬ j * 2 = i * 2 := by omega
    have m4 : ¬ i * 2 + 1 = j * 2 := by omega
    have m5 : ¬ j * 2 + 1 = i * 2 := by omega
    have m6 : ¬ i * 2 = j * 2 + 1 := by omega
    have m7 : ¬ j * 2 = i * 2 + 1 := by omega
    go_upto_region 0 with fail
    go_region
    go_upto_region 1 with fail
    clear hfr x0 x1 y0 y1 h0 h1 m1 m2 m3 m4 m5 m6 m7
    refine gen_wp (fun w2 => SwapFacts w2 qb mb g c l i j D W) (HEND.out _ (by first | exact HSW.out | exact HSW.out.drew)) (fun w2 H2 => ?_)
    obtain ⟨h0, h1, x0, y0, v1, v2, s1, s2, w3, w4, e1, e2, e3, e4, HO, HT⟩ := H2.out
    clear H2 HEND HSW HQ
    go_region
    go_wp2
    go_end0
    exact ⟨rfl, HO.out, HT.out⟩
end
end Go.Proofs.Ytiejegalokncgaa
