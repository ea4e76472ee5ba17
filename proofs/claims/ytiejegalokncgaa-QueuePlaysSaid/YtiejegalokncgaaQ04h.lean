/- A queue's calls: New, Len, Put, Key.
Conditions: none. -/
import Derived.Test.YtiejegalokncgaaQ04g
namespace Go.Proofs.Ytiejegalokncgaa
open Go.RowKit Go.Proofs.YtiejegalokncgaaW.PrintWords Go.Proofs.YtiejegalokncgaaW.PrintLast Go.Proofs.YtiejegalokncgaaW.PrintMore
set_option linter.unusedVariables false
set_option linter.unusedSimpArgs false
/-- The queue in block qb holds the entries of m. -/
def Qu (W : World) (qb mb : Nat) (gb : Option Nat) (m : List QE) : Prop := ∃ c l D, QOk W qb mb gb c l D ∧ HeapOf l m
section
variable {W : World} {qb mb c : Nat} {gb : Option Nat} {l m : List QE} {D : List (IE Int)}
theorem Qu.items (h : Qu W qb mb gb m) : ItemsOk m := by
  obtain ⟨c, l, D, h1, h2⟩ := h
  exact h2.items
theorem Qu.len (h : Qu W qb mb gb m) : m.length ≤ 4096 := by
  obtain ⟨c, l, D, h1, h2⟩ := h
  rw [← h2.perm.length_eq]
  exact h1.len
theorem Qu.below (h : Qu W qb mb gb m) {w' : World} (hb : Below W.heap.size W w') : Qu w' qb mb gb m := by
  obtain ⟨c, l, D, h1, h2⟩ := h
  exact ⟨c, l, D, h1.below hb, h2⟩
theorem Qu.perm (h : Qu W qb mb gb m) {m' : List QE} (hp : m.Perm m') : Qu W qb mb gb m' := by
  obtain ⟨c, l, D, h1, h2⟩ := h
  exact ⟨c, l, D, h1, ⟨h2.heap, h2.perm.trans hp, h2.items.perm hp.symm⟩⟩
/-- A queue stays where its blocks do. -/
theorem Qu.far (h : Qu W qb mb gb m) {S : Nat → Prop} {w' : World} (ht : Turn S W w') (hn : ∀ k, QS qb mb gb k → ¬ S k) : Qu w' qb mb gb m := by
  obtain ⟨c, l, D, h1, h2⟩ := h
  refine ⟨c, l, D, ⟨(ht.block qb h1.qlt (hn qb (.inl rfl))).trans h1.box, ?_, h1.map.keep (ht.block mb h1.map.lt (hn mb (.inr (.inl rfl)))), h1.pl, h1.len⟩, h2⟩
  rcases h1.row with ⟨r1, ⟨r2, r3⟩ | ⟨g, cap, cur, r2, r3, r4, r5⟩⟩
  · exact ⟨r1, .inl ⟨r2, r3⟩⟩
  · refine ⟨r1, .inr ⟨g, cap, cur, r2, r3, ?_, r5⟩⟩
    have hg : some g = gb := by
      cases gb with
      | none => simp [qA] at r2
      | some g' => simp [qA] at r2; rw [r2.1]
    exact (ht.block g (blk_lt r4) (hn g (.inr (.inr hg)))).trans r4
theorem find_none (h : QOk W qb mb gb c l D) (hh : HeapOf l m) {x : Int} (hx : getI D x = none) : findQ m x = none := by
  refine findQ_none.2 fun e he h2 => ?_
  obtain ⟨k, hk, hk2⟩ := List.mem_iff_getElem.1 (hh.perm.mem_iff.2 he)
  have := (h.pl x (k : Int)).2 ⟨k, hk, rfl, by rw [atE_get hk, hk2]; exact h2⟩
  rw [hx] at this
  cases this
theorem find_some (h : QOk W qb mb gb c l D) (hh : HeapOf l m) {x i : Int} (hx : getI D x = some i) : ∃ k : Nat, k < l.length ∧ i = (k : Int) ∧ findQ m x = some (atE l k) ∧ (atE l k).Item = x := by
  obtain ⟨k, h1, h2, h3⟩ := (h.pl x i).1 hx
  exact ⟨k, h1, h2, (findQ_some hh.items).2 ⟨hh.perm.mem_iff.1 (by rw [atE_get h1]; exact List.getElem_mem _), h3⟩, h3⟩
theorem run_look (h : QOk W qb mb gb c l D) (x : Int) : (Instr.lookup 26 (.map (some mb)) (.int .i64 x) true).run Try.prog W = .ok (match getI D x with | some v => .tuple #[.int .i64 v, .bool true] | none => .tuple #[.int .i64 0, .bool false]) W := by
  have := h.map.lookup (P := Try.prog) (T := 26) Try.underlying26 Try.underlying3 (z := .int .i64 0) (fun _ => rfl) x true
  rw [this]
  cases getI D x <;> rfl
theorem new_any (w : World) : Calls Try.prog 9 #[] w fun e w' => e = .returned (qP (w.heap.size + 1)) ∧ Qu w' (w.heap.size + 1) w.heap.size none [] ∧ Below w.heap.size w w' := by
  have hmk := fun W => run_makeMap (P := Try.prog) 26 W
  go_enter Try.func9, Try.ntmps9
  go_wp2
  go_ret
  refine ⟨rfl, ⟨0, [], [], ⟨?_, World.ownsRow_nil _ _ _ _, (IMapAt.new w).keep (Below.heap_alloc (w.alloc (.map #[] 0)) _ w.heap.size (by simp)), fun x i => by simp [getI], by simp⟩, ⟨fun c c0 cn => by simp at cn, .refl _, by simp [ItemsOk]⟩⟩, (by repeat (first | with_reducible exact Below.refl _ _ | with_reducible apply below_alloc | with_reducible apply below_drew | with_reducible apply pw_below_drewN | (with_reducible refine Below.setCell ?_ (by first | (simp; done) | (simp; omega) | (dsimp only; omega)) _) | (with_reducible refine below_to ?_ (by assumption))))⟩
  have := blk_new (w.alloc (.map #[] 0)) (.cells #[.slice none 0 0, .map (some w.heap.size)] 49)
  simpa [qA] using this
theorem quLen_any (h : Qu W qb mb gb m) : Calls Try.prog 12 #[qP qb] W fun e w' => e = .returned (.int .i64 m.length) ∧ w' = W := by
  obtain ⟨c, l, D, h1, h2⟩ := h
  have HL := Aside0.mk (qLen_any h1)
  rw [h2.perm.length_eq] at HL
  clear h1 h2
  go_enter Try.func12, Try.ntmps12
  go_wp2_with (go_at_call 22; refine HL.out.mono ?_; rintro e w1 ⟨rfl, hw⟩; subst hw)
  go_ret
  exact ⟨rfl, rfl⟩
theorem quKey_any (h : Qu W qb mb gb m) (x : Int) : Calls Try.prog 16 #[qP qb, .int .i64 x] W
    fun e w' => e = .returned (.tuple #[.int .i64 (match findQ m x with | some a => a.Key | none => 0), .bool (findQ m x).isSome]) ∧ w' = W := by
  obtain ⟨c, l, D, h1, h2⟩ := h
  have hlk := run_look h1 x
  cases hx : getI D x with
  | none =>
    rw [hx] at hlk
    rw [find_none h1 h2 hx]
    have h0 := h1.cell0
    have h1' := h1.cell1
    clear h1 h2 hx
    go_enter Try.func16, Try.ntmps16
    go_wp2
    exact bodyPost_ret (v := .tuple #[.int .i64 0, .bool false]) (by simp [results, Try.results16, go_sem, *]) rfl ⟨rfl, rfl⟩
  | some i =>
    rw [hx] at hlk
    obtain ⟨k, hk, rfl, hf, hi⟩ := find_some h1 h2 hx
    rw [hf]
    have h0 := h1.cell0
    have h1' := h1.cell1
    obtain ⟨g, rfl, hg, x0, x1⟩ := h1.at_ k hk
    have i0 : (0 : Int) ≤ k := by omega
    have i1 : (k : Int) < l.length := by omega
    clear h1 h2 hx hf hi
    go_enter Try.func16, Try.ntmps16
    go_wp2
    exact bodyPost_ret (v := .tuple #[.int .i64 (atE l k).Key, .bool true]) (by simp [results, Try.results16, go_sem, *]) rfl ⟨rfl, rfl⟩
theorem pl_set {l : List QE} {D : List (IE Int)} (pl : ∀ x i, getI D x = some i ↔ ∃ k : Nat, k < l.length ∧ i = (k : Int) ∧ (atE l k).Item = x) {j : Nat} (hj : j < l.length) {e : QE} (he : e.Item = (atE l j).Item) (x i : Int) :
    getI D x = some i ↔ ∃ k : Nat, k < (l.set j e).length ∧ i = (k : Int) ∧ (atE (l.set j e) k).Item = x := by
  rw [pl, List.length_set]
  have key : ∀ k, (atE (l.set j e) k).Item = (atE l k).Item := fun k => by
    rw [atE_set hj]
    split
    · rename_i h; rw [h, he]
    · rfl
  simp only [key]
theorem QOk.lower {g k : Nat} (h : QOk W qb mb (some g) c l D) (hk : k < l.length) {x y : Int} (hx : (atE l k).Item = x) :
    QOk (W.setCell ⟨g, k * 2 + 1, none⟩ (.int .i64 y)) qb mb (some g) c (l.set k ⟨x, y⟩) D ∧ Turn (QS qb mb (some g)) W (W.setCell ⟨g, k * 2 + 1, none⟩ (.int .i64 y)) := by
  obtain ⟨n1, n2, n3, n4, n5⟩ := h.gq (by omega)
  obtain ⟨g', e, hr⟩ := h.row' (by omega)
  obtain rfl := Option.some.inj e
  have hc : cellsQ (l.set k ⟨x, y⟩) = (cellsQ l).set (k * 2 + 1) (.int .i64 y) := by
    rw [cellsQ_set]
    congr 1
    apply List.ext_getElem?
    intro j
    rw [List.getElem?_set]
    split
    · rename_i h3
      subst h3
      have := (cellsQ_get l k hk).1
      rw [if_pos (by rw [cellsQ_len]; omega), this, hx]
    · rfl
  refine ⟨⟨?_, ?_, h.map.keep (Below.heap_setCell W ⟨g, k * 2 + 1, none⟩ _ mb n2), pl_set h.pl hk hx.symm, by rw [List.length_set]; exact h.len⟩, ⟨rfl, rfl, rfl, by simp, fun j hj hS => Below.heap_setCell W ⟨g, k * 2 + 1, none⟩ _ j (fun e => hS (.inr (.inr (by rw [e]))))⟩⟩
  · rw [List.length_set]; exact blk_far h.box n1 _
  · rw [List.length_set, hc]; exact (hr.stored (k * 2 + 1) (.int .i64 y)).1
set_option maxHeartbeats 4000000 in
theorem quPut_any (h : Qu W qb mb gb m) (x y : Int) : Calls Try.prog 10 #[qP qb, .int .i64 x, .int .i64 y] W
    fun e w' => e = .returned (.bool (putQ m x y).2) ∧ (∃ gb', Qu w' qb mb gb' (putQ m x y).1 ∧ (gb' = gb ∨ ∃ g, gb' = some g ∧ W.heap.size ≤ g)) ∧ Turn (QS qb mb gb) W w' := by
  have HQU := Aside0.mk h
  have HLn := Aside0.mk (quLen_any h)
  obtain ⟨c, l, D, h1, h2⟩ := h
  have hlk := run_look h1 x
  have h0 := h1.cell0
  have h1' := h1.cell1
  cases hx : getI D x with
  | none =>
    rw [hx] at hlk
    have hf := find_none h1 h2 hx
    by_cases hf4 : 4096 ≤ m.length
    · have e1 : putQ m x y = (m, false) := by unfold putQ; rw [hf]; exact if_pos hf4
      have d1 : decide ((4096 : Int) ≤ (m.length : Int)) = true := decide_eq_true (by omega)
      rw [e1]
      clear h1 h2 hx hf e1 hf4
      go_enter Try.func10, Try.ntmps10
      go_wp2_with (go_at_call 12; refine HLn.out.mono ?_; rintro e w1 ⟨rfl, hw⟩; subst hw)
      go_ret
      exact ⟨rfl, ⟨gb, HQU.out, .inl rfl⟩, Turn.refl _ _⟩
    · have e1 : putQ m x y = (m ++ [⟨x, y⟩], true) := by unfold putQ; rw [hf]; exact if_neg hf4
      have d1 : decide ((4096 : Int) ≤ (m.length : Int)) = false := decide_eq_false (by omega)
      rw [e1]
      have HPS := Aside0.mk (hPush_any h1 ⟨x, y⟩ hx (by have := h2.perm.length_eq; omega))
      have HH := Aside0.mk (h2.put (k := y) hf)
      clear h1 h2 hx hf e1 hf4
      go_enter Try.func10, Try.ntmps10
      go_wp2_with (first
        | (go_at_call 12; refine HLn.out.mono ?_; rintro e w1 ⟨rfl, hw⟩; subst hw)
        | (go_at_call 19; refine HPS.out.mono ?_; rintro e w1 ⟨rfl, ⟨gb', c', D', hq, hgb⟩, ht⟩; have HQ1 := Aside0.mk hq; have HG := Aside0.mk hgb; have HT := Aside0.mk ht; clear hq hgb ht))
      go_ret
      exact ⟨rfl, ⟨gb', ⟨c', _, D', HQ1.out, HH.out⟩, HG.out⟩, HT.out⟩
  | some i =>
    rw [hx] at hlk
    obtain ⟨k, hk, rfl, hf, hi⟩ := find_some h1 h2 hx
    obtain ⟨g, rfl, hg, x0, x1⟩ := h1.at_ k hk
    have i0 : (0 : Int) ≤ k := by omega
    have i1 : (k : Int) < l.length := by omega
    by_cases hky : (atE l k).Key ≤ y
    · have e1 : putQ m x y = (m, false) := by unfold putQ; rw [hf]; exact if_pos hky
      have d1 : decide ((atE l k).Key ≤ y) = true := decide_eq_true hky
      rw [e1]
      clear h1 h2 hx hf e1 hky hi
      go_enter Try.func10, Try.ntmps10
      go_wp2
      go_ret
      exact ⟨rfl, ⟨some g, HQU.out, .inl rfl⟩, Turn.refl _ _⟩
    · have e1 : putQ m x y = (lowerQ m x y, true) := by unfold putQ; rw [hf]; exact if_neg hky
      have d1 : decide ((atE l k).Key ≤ y) = false := decide_eq_false hky
      rw [e1]
      obtain ⟨g', e, hr⟩ := h1.row' (by omega)
      obtain rfl := Option.some.inj e
      have hfr := hr.frozenAt (k * 2 + 1)
      have HLW := Aside0.mk (h1.lower hk (y := y) hi)
      have HFX := Aside0.mk (hFix_any HLW.out.1 k (by rw [List.length_set]; exact hk))
      have HH : Aside0 (HeapOf (fixS (l.set k ⟨x, y⟩) k (l.set k ⟨x, y⟩).length) (lowerQ m x y)) := ⟨by rw [List.length_set]; exact h2.lower hk hi⟩
      clear h1 h2 hx hf e1 hky hi e hr
      go_enter Try.func10, Try.ntmps10
      go_wp2_with (go_at_call 20; refine HFX.out.mono ?_; rintro e w1 ⟨rfl, ⟨c', D', hq⟩, ht⟩; have HQ1 := Aside0.mk hq; have HT := Aside0.mk ht; clear hq ht)
      go_ret
      exact ⟨rfl, ⟨some g, ⟨c', _, D', HQ1.out, HH.out⟩, .inl rfl⟩, HLW.out.2.trans HT.out (fun _ _ h => h)⟩
theorem least_of {l : List QE} (h : HeapOf l m) {n : Nat} (hn : n + 1 = l.length) : atE (downS n (swapE l 0 n) 0 n).1 n = atE l 0 := by
  by_cases h1 : n = 0
  · subst h1
    show atE (swapE l 0 0) 0 = _
    rw [atE_swap (by omega) (by omega), if_pos rfl]
  · have hd := DownOk.of_swap h.heap (i := 0) (by omega)
    rw [show l.length - 1 = n by omega] at hd
    obtain ⟨m', h3, h4, h5, h6, h7, h8, h9⟩ := downS_ok n n (swapE l 0 n) 0 True ⟨hd.1, fun _ _ _ _ h => absurd h (by omega), fun _ h => absurd h (by omega)⟩ (by rw [swapE_len]; omega) (by omega) (by omega)
    rw [h9 n (Nat.le_refl _), atE_swap (by omega) (by omega), if_pos rfl]
set_option maxHeartbeats 4000000 in
theorem quTake_any (h : Qu W qb mb gb m) : Calls Try.prog 11 #[qP qb] W
    fun e w' => e = .returned (.tuple #[.int .i64 (match takeQ m with | some a => a.Item | none => 0), .int .i64 (match takeQ m with | some a => a.Key | none => 0), .bool (takeQ m).isSome]) ∧
      Qu w' qb mb gb (match takeQ m with | some a => dropQ m a.Item | none => m) ∧ Turn (QS qb mb gb) W w' := by
  have HQU := Aside0.mk h
  have HLn := Aside0.mk (quLen_any h)
  obtain ⟨c, l, D, h1, h2⟩ := h
  have hlen := h2.perm.length_eq
  by_cases hm : m = []
  · subst hm
    have d1 : (((([] : List QE).length : Nat) : Int) == 0) = true := by simp
    generalize hz : ([] : List QE).length = z at *
    have hz0 : z = 0 := by rw [← hz]; rfl
    subst hz0
    clear h1 h2 hlen hz d1
    go_enter Try.func11, Try.ntmps11
    go_wp2_with (go_at_call 12; refine HLn.out.mono ?_; rintro e w1 ⟨rfl, hw⟩; subst hw)
    exact bodyPost_ret (v := .tuple #[.int .i64 0, .int .i64 0, .bool false]) (by simp [results, Try.results11, go_sem, *]) rfl ⟨rfl, HQU.out, Turn.refl _ _⟩
  · have hml : 0 < m.length := List.length_pos_iff.2 hm
    obtain ⟨n, hn⟩ : ∃ n, n + 1 = l.length := ⟨l.length - 1, by omega⟩
    have hl0 : 0 < l.length := by omega
    obtain ⟨t1, t2, t3⟩ := h2.take hl0
    have ht : takeQ m = some (atE l 0) := takeQ_of ⟨t2, t3⟩
    rw [ht]
    have HP := Aside0.mk (hPop_any h1 n hn)
    rw [least_of h2 hn] at HP
    have HH := Aside0.mk t1
    have d1 : ((m.length : Int) == 0) = false := by simp; omega
    have hta := run_assertE
    clear h1 h2 hlen ht t1 t2 t3 hm
    go_enter Try.func11, Try.ntmps11
    go_upto_region 4 with (first
      | (go_at_call 12; refine HLn.out.mono ?_; rintro e w1 ⟨rfl, hw⟩; subst hw)
      | (go_at_call 21; refine HP.out.mono ?_; rintro e w1 ⟨rfl, ⟨c', D', hq⟩, ht⟩; have HQ1 := Aside0.mk hq; have HT := Aside0.mk ht; clear hq ht))
    refine gen_wp (fun w2 => Below w1.heap.size w1 w2 ∧ w2.heap[w1.heap.size]? = some (.cells #[.int .i64 (atE l 0).Item, .int .i64 (atE l 0).Key] 51 (0, 0))) ⟨(by repeat (first | with_reducible exact Below.refl _ _ | with_reducible apply below_alloc | with_reducible apply below_drew | with_reducible apply pw_below_drewN | (with_reducible refine Below.setCell ?_ (by first | (simp; done) | (simp; omega) | (dsimp only; omega)) _) | (with_reducible refine below_to ?_ (by assumption)))), blk_new _ _⟩ (fun w2 H2 => ?_)
    have y0 := blk_cell H2.out.2 0
    have y1 := blk_cell H2.out.2 1
    simp only [List.getElem?_toArray, List.getElem?_cons_succ, List.getElem?_cons_zero] at y0 y1
    go_region
    go_wp2
    exact bodyPost_ret (v := .tuple #[.int .i64 (atE l 0).Item, .int .i64 (atE l 0).Key, .bool true]) (by simp [results, Try.results11, go_sem, *]) rfl ⟨rfl, ⟨c', _, D', HQ1.out.below (by first | exact H2.out.1 | exact below_drew H2.out.1), HH.out⟩, HT.out.trans (Turn.of_below (by first | exact H2.out.1 | exact below_drew H2.out.1)) (fun _ _ h => h)⟩
set_option maxHeartbeats 4000000 in
theorem quDrop_any (h : Qu W qb mb gb m) (x : Int) : Calls Try.prog 14 #[qP qb, .int .i64 x] W
    fun e w' => e = .returned (.bool (findQ m x).isSome) ∧ Qu w' qb mb gb (dropQ m x) ∧ Turn (QS qb mb gb) W w' := by
  have HQU := Aside0.mk h
  obtain ⟨c, l, D, h1, h2⟩ := h
  have hlk := run_look h1 x
  have h0 := h1.cell0
  have h1' := h1.cell1
  cases hx : getI D x with
  | none =>
    rw [hx] at hlk
    have hf := find_none h1 h2 hx
    rw [dropQ_none hf, hf]
    clear h1 h2 hx hf
    go_enter Try.func14, Try.ntmps14
    go_wp2
    go_ret
    exact ⟨rfl, HQU.out, Turn.refl _ _⟩
  | some i =>
    rw [hx] at hlk
    obtain ⟨k, hk, rfl, hf, hi⟩ := find_some h1 h2 hx
    rw [hf]
    have HR := Aside0.mk (hRemove_any h1 k (l.length - 1) hk (by omega))
    have HH := Aside0.mk (hi ▸ h2.drop hk)
    clear h1 h2 hx hf
    go_enter Try.func14, Try.ntmps14
    go_wp2_with (go_at_call 23; refine HR.out.mono ?_; rintro e w1 ⟨⟨vv, rfl⟩, ⟨c', D', hq⟩, ht⟩; have HQ1 := Aside0.mk hq; have HT := Aside0.mk ht; clear hq ht)
    go_ret
    exact ⟨rfl, ⟨c', _, D', HQ1.out, HH.out⟩, HT.out⟩
end
end Go.Proofs.Ytiejegalokncgaa
