/- The document's queue: Put.
Conditions: none. -/
import Derived.Test.YtiejegalokncgaaL04f
namespace Go.Proofs.Ytiejegalokncgaa
open Go.RowKit Go.Proofs.YtiejegalokncgaaW.PrintWords Go.Proofs.YtiejegalokncgaaW.PrintLast Go.Proofs.YtiejegalokncgaaW.PrintMore
set_option linter.unusedVariables false
set_option linter.unusedSimpArgs false
section
variable {W : World} {rb c : Nat} {gb : Option Nat} {m : List QE}
theorem app_run {v : Value} {n : Nat} {xs : List Value} (h : W.ownsRow 0 57 2 v n xs) (a : Addr) (k cc : Nat) (news : List Value) (hl : news.length = k * 2) (hnews : ∀ j u, news[j]? = some u → W.cell? (a.add j) = some u) (h1 : ∀ u ∈ news, u.oneCell' = true) (hn : n + k ≤ 8192) :
    ∃ v' w', (Builtin.append_ #[35, 35] 35 #[v, .slice (some a) k cc]).run Try.prog W = .ok v' w' ∧ w'.ownsRow 0 57 2 v' (n + k) (xs ++ news) ∧ W.grownBy w' v.ownBlock ∧ (v'.ownBlock = v.ownBlock ∨ v'.ownBlock = some W.heap.size) ∧ (0 < n + k → ∃ g cap, v' = .slice (some ⟨g, 0, none⟩) (n + k) cap) ∧ (v' = .slice none 0 0 ↔ v = .slice none 0 0 ∧ k = 0) := by
  obtain ⟨i, hi, hiz, his, hib⟩ := info_parts infoEntry
  obtain ⟨v', w', hr, ho, hg, hnil, hat⟩ := run_append_own_at (P := Try.prog) W 0 35 35 57 i _ 2 16 Try.underlying35 hi hiz his hib rfl (by decide) v n xs h a k cc news hl hnews h1 (by unfold maxLen; omega) (by omega) (Nat.zero_le _)
  refine ⟨v', w', hr, ho, hg, hat, fun hp => ?_, hnil⟩
  rcases ho.2 with ⟨_, h5⟩ | ⟨g, cap, cur, h6, _⟩
  · omega
  · exact ⟨g, cap, h6⟩
theorem ROk.ownN (h : ROk W rb gb c m) : some rb ≠ (Value.slice (qA gb) m.length c).ownBlock := own_ne h.row h.box (by decide)
/-- The box is written with a row of one's own. -/
theorem ROk.write {W3 : World} {v' : Value} {m' : List QE} {n : Nat} (hbox : ∃ x, W3.heap[rb]? = some (.cells #[x] 37 (0, 0))) (ho : W3.ownsRow 0 57 2 v' n (cellsQ m')) (hn : n = m'.length) (hl : m'.length ≤ 4096) :
    ∃ gb' c', ROk (W3.setCell ⟨rb, 0, none⟩ v') rb gb' c' m' ∧ (∀ g, gb' = some g → v'.ownBlock = some g) := by
  subst hn
  obtain ⟨x, hb⟩ := hbox
  have hb4 : (W3.setCell ⟨rb, 0, none⟩ v').heap[rb]? = some (.cells #[v'] 37 (0, 0)) := by simpa using blk_set hb 0 v'
  have ho4 := own_setCell ho (p := ⟨rb, 0, none⟩) (own_ne ho hb (by decide)) v'
  rcases ho.2 with ⟨rfl, h5⟩ | ⟨g, cap, cur, rfl, h6⟩
  · exact ⟨none, 0, ⟨by rw [h5]; exact hb4, by rw [h5] at ho4 ⊢; exact ho4, hl⟩, fun g e => by cases e⟩
  · exact ⟨some g, cap, ⟨hb4, ho4, hl⟩, fun g' e => by rw [← e]; rfl⟩
theorem own_gb {n cc k : Nat} (h : some k = (Value.slice (qA gb) n cc).ownBlock) : some k = gb := by
  cases gb with
  | none => simp [qA, Value.ownBlock] at h
  | some g => simpa [qA, Value.ownBlock] using h
theorem gb_own {n cc k : Nat} (h : (Value.slice (some ⟨k, 0, none⟩) n cc).ownBlock = (Value.slice (qA gb) m.length c).ownBlock) : some k = gb := own_gb (n := m.length) (cc := c) (by rw [← h]; rfl)
theorem ROk.lower {g k : Nat} (h : ROk W rb (some g) c m) (hk : k < m.length) {x y : Int} (hx : (atE m k).Item = x) :
    ROk (W.setCell ⟨g, k * 2 + 1, none⟩ (.int .i64 y)) rb (some g) c (m.set k ⟨x, y⟩) := by
  obtain ⟨g', e, n1, n2, n3, hr⟩ := h.row' (by omega)
  obtain rfl := Option.some.inj e
  have hc : cellsQ (m.set k ⟨x, y⟩) = (cellsQ m).set (k * 2 + 1) (.int .i64 y) := by
    rw [cellsQ_set]
    congr 1
    apply List.ext_getElem?
    intro j
    rw [List.getElem?_set]
    split
    · rename_i h3
      subst h3
      have := (cellsQ_get m k hk).1
      rw [if_pos (by rw [cellsQ_len]; omega), this, hx]
    · rfl
  refine ⟨by rw [List.length_set]; exact blk_far h.box (Ne.symm n1) _, ?_, by rw [List.length_set]; exact h.len⟩
  rw [List.length_set, hc]; exact (hr.stored (k * 2 + 1) (.int .i64 y)).1
theorem lower_set {k : Nat} (hI : ItemsOk m) (hk : k < m.length) {x y : Int} (hx : (atE m k).Item = x) : m.set k ⟨x, y⟩ = lowerQ m x y := by
  apply List.ext_getElem
  · simp [lowerQ]
  · intro j h3 h4
    rw [List.getElem_set]
    have hj : j < m.length := by simpa using h3
    simp only [lowerQ, List.getElem_map]
    by_cases hij : k = j
    · subst hij
      have h5 : m[k].Item = x := by rw [← hx, atE_get hk]
      rw [if_pos rfl, if_pos h5]
    · rw [if_neg hij, if_neg]
      intro h5
      have h6 : m[k] = m[j] := hI.inj (List.getElem_mem hk) (List.getElem_mem hj) (by rw [h5, ← hx, atE_get hk])
      have h7 : (m.map (·.Item))[k]'(by simpa using hk) = (m.map (·.Item))[j]'(by simpa using hj) := by simp [h6]
      exact hij ((List.getElem_inj (show (m.map (·.Item)).Nodup from hI)).1 h7)
set_option maxHeartbeats 4000000 in
theorem rPut_any (h : ROk W rb gb c m) (hI : ItemsOk m) (x y : Int) : Calls Try.prog 18 #[qP rb, .int .i64 x, .int .i64 y] W
    fun e w' => e = .returned (.bool (putQ m x y).2) ∧ (∃ gb' c', ROk w' rb gb' c' (putQ m x y).1 ∧ (gb' = gb ∨ gb' = none ∨ ∃ g, gb' = some g ∧ W.heap.size ≤ g)) ∧ Turn (RS rb gb) W w' := by
  have HF := Aside0.mk (rFind_any h x)
  have HRO := Aside0.mk h
  have h0 := h.cell0
  have hln := h.len
  have hqw := World.block_lt_of_cell? _ ⟨rb, 0, none⟩ h0
  rcases rfind_at x m 0 with ⟨h1, h2⟩ | ⟨k, h1, h2, h3, h4⟩
  · rw [h2] at HF
    by_cases hf4 : 4096 ≤ m.length
    · have e1 : putQ m x y = (m, false) := by unfold putQ; rw [h1]; exact if_pos hf4
      have d1 : decide ((4096 : Int) ≤ (m.length : Int)) = true := decide_eq_true (by omega)
      rw [e1]
      clear h h1 h2 e1 hf4 hI
      go_enter Try.func18, Try.ntmps18
      go_wp2_with (go_at_call 24; refine HF.out.mono ?_; rintro e w1 ⟨rfl, hw⟩; subst hw)
      go_ret
      exact ⟨rfl, ⟨gb, c, HRO.out, .inl rfl⟩, Turn.refl _ _⟩
    · have e1 : putQ m x y = (m ++ [⟨x, y⟩], true) := by unfold putQ; rw [h1]; exact if_neg hf4
      have d1 : decide ((4096 : Int) ≤ (m.length : Int)) = false := decide_eq_false (by omega)
      rw [e1]
      have HL4 : Aside0 (m.length < 4096) := ⟨by omega⟩
      clear h h1 h2 e1 hf4 hI
      go_enter Try.func18, Try.ntmps18
      go_upto_region 5 with (go_at_call 24; refine HF.out.mono ?_; rintro e w1 ⟨rfl, hw⟩; subst hw)
      refine wp_region_lit ?_
      refine wpList_plain rfl (fun K hK => ?_)
      go_simp
      refine hK _ _ ?_
      clear hK K
      (try simp only [Act.put, List.setIfInBounds_toArray, List.set_cons_zero, List.set_cons_succ])
      refine wpList_plain rfl (fun K hK => ?_)
      go_simp
      refine hK _ _ ?_
      clear hK K
      (try simp only [Act.put, List.setIfInBounds_toArray, List.set_cons_zero, List.set_cons_succ])
      refine wpList_plain rfl (fun K hK => ?_)
      go_simp
      refine hK _ _ ?_
      clear hK K
      (try simp only [Act.put, List.setIfInBounds_toArray, List.set_cons_zero, List.set_cons_succ])
      refine wpList_plain rfl (fun K hK => ?_)
      go_simp
      refine hK _ _ ?_
      clear hK K
      (try simp only [Act.put, List.setIfInBounds_toArray, List.set_cons_zero, List.set_cons_succ])
      refine wpList_plain rfl (fun K hK => ?_)
      go_simp
      refine hK _ _ ?_
      clear hK K
      (try simp only [Act.put, List.setIfInBounds_toArray, List.set_cons_zero, List.set_cons_succ])
      refine wpList_plain rfl (fun K hK => ?_)
      go_simp
      refine hK _ _ ?_
      clear hK K
      (try simp only [Act.put, List.setIfInBounds_toArray, List.set_cons_zero, List.set_cons_succ])
      refine wpList_plain rfl (fun K hK => ?_)
      go_simp
      refine hK _ _ ?_
      clear hK K
      (try simp only [Act.put, List.setIfInBounds_toArray, List.set_cons_zero, List.set_cons_succ])
      refine wpList_plain rfl (fun K hK => ?_)
      go_simp
      refine hK _ _ ?_
      clear hK K
      (try simp only [Act.put, List.setIfInBounds_toArray, List.set_cons_zero, List.set_cons_succ])
      refine wpList_plain rfl (fun K hK => ?_)
      go_simp
      refine hK _ _ ?_
      clear hK K
      (try simp only [Act.put, List.setIfInBounds_toArray, List.set_cons_zero, List.set_cons_succ])
      obtain ⟨v', w3, hr, ho, hg, hat, hsl, -⟩ := app_run (W := w1.alloc (.cells #[.int .i64 x, .int .i64 y] 57)) (HRO.out.row.alloc _) ⟨w1.heap.size, 0, none⟩ 1 1 [.int .i64 x, .int .i64 y] rfl (fun j u hu => by rw [add_plain]; exact (blk_cell (g := w1.heap.size) (blk_new w1 _) j).trans (by simpa using hu)) (by simp [Value.oneCell']) (by omega)
      obtain ⟨g, cap, rfl⟩ := hsl (by omega)
      have boxA := blk_alloc HRO.out.box (.cells #[.int .i64 x, .int .i64 y] 57)
      have box3 := (hg.block rb (blk_lt boxA) HRO.out.ownN).trans boxA
      have z0 := blk_cell box3 0
      have zf := blk_frozen box3 0
      simp only [List.getElem?_toArray, List.getElem?_cons_zero] at z0
      have ho' : w3.ownsRow 0 57 2 (.slice (some ⟨g, 0, none⟩) (m.length + 1) cap) (m.length + 1) (cellsQ (m ++ [⟨x, y⟩])) := by rw [cellsQ_append]; exact ho
      have HW := Aside0.mk (ROk.write ⟨_, box3⟩ ho' (by simp) (by have := HL4.out; simp; omega))
      have HTN : Aside0 (Turn (RS rb gb) w1 (w3.setCell ⟨rb, 0, none⟩ (.slice (some ⟨g, 0, none⟩) (m.length + 1) cap))) := ⟨⟨hg.os, hg.tape, hg.output, by have := hg.size; simp at this ⊢; omega, fun k hk hS => by
        have k1 : k ≠ rb := fun e => hS (.inl e)
        rw [Below.heap_setCell w3 ⟨rb, 0, none⟩ _ k k1, hg.block k (by simp; omega) (fun e => hS (.inr (own_gb e)))]
        exact Below.heap_alloc w1 _ k hk⟩⟩
      have HAT := Aside0.mk hat
      clear hg hat ho ho' boxA box3
      refine wpList_plain rfl (fun K hK => ?_)
      refine wp_append_run rfl rfl rfl hr ?_
      refine hK _ _ ?_
      clear hK K
      (try simp only [Act.put, List.setIfInBounds_toArray, List.set_cons_zero, List.set_cons_succ])
      refine wpList_plain rfl (fun K hK => ?_)
      go_simp
      refine hK _ _ ?_
      clear hK K
      (try simp only [Act.put, List.setIfInBounds_toArray, List.set_cons_zero, List.set_cons_succ])
      refine wpList_plain rfl (fun K hK => ?_)
      go_simp
      refine hK _ _ ?_
      clear hK K
      (try simp only [Act.put, List.setIfInBounds_toArray, List.set_cons_zero, List.set_cons_succ])
      refine wpList_plain rfl (fun K hK => ?_)
      go_simp
      refine hK _ _ ?_
      clear hK K
      (try simp only [Act.put, List.setIfInBounds_toArray, List.set_cons_zero, List.set_cons_succ])
      refine wpList_nil ?_
      go_wp2
      go_ret
      obtain ⟨gb', c', hq, hgb⟩ := HW.out
      refine ⟨rfl, ⟨gb', c', hq, ?_⟩, HTN.out⟩
      cases gb' with
      | none => exact .inr (.inl rfl)
      | some g' =>
        have e1 := hgb g' rfl
        rcases HAT.out with hat | hat
        · left
          rw [← e1]
          exact own_gb (n := m.length) (cc := c) (by rw [← hat]; rfl) ▸ rfl
        · right; right
          refine ⟨g', rfl, ?_⟩
          have e2 : some g' = some (w1.alloc (.cells #[.int .i64 x, .int .i64 y] 57)).heap.size := by rw [← e1]; exact hat
          have e3 := Option.some.inj e2
          simp at e3
          omega
  · rw [h2, Nat.zero_add] at HF
    obtain ⟨g, rfl, hg, x0, x1⟩ := h.at_ k h1
    have i0 : (0 : Int) ≤ k := by omega
    have i1 : (k : Int) < m.length := by omega
    have d0 : decide ((k : Int) < 0) = false := decide_eq_false (by omega)
    by_cases hky : (atE m k).Key ≤ y
    · have e1 : putQ m x y = (m, false) := by unfold putQ; rw [h3]; exact if_pos hky
      have d1 : decide ((atE m k).Key ≤ y) = true := decide_eq_true hky
      rw [e1]
      clear h h1 h2 h3 h4 e1 hky hI
      go_enter Try.func18, Try.ntmps18
      go_wp2_with (go_at_call 24; refine HF.out.mono ?_; rintro e w1 ⟨rfl, hw⟩; subst hw)
      go_ret
      exact ⟨rfl, ⟨some g, c, HRO.out, .inl rfl⟩, Turn.refl _ _⟩
    · have e1 : putQ m x y = (lowerQ m x y, true) := by unfold putQ; rw [h3]; exact if_neg hky
      have d1 : decide ((atE m k).Key ≤ y) = false := decide_eq_false hky
      rw [e1]
      obtain ⟨g', e, n1, n2, n3, hr⟩ := h.row' (by omega)
      obtain rfl := Option.some.inj e
      have hfr := hr.frozenAt (k * 2 + 1)
      have HLW := Aside0.mk (h.lower h1 (y := y) h4)
      rw [lower_set hI h1 h4] at HLW
      have HTN : Aside0 (Turn (RS rb (some g)) W (W.setCell ⟨g, k * 2 + 1, none⟩ (.int .i64 y))) := ⟨⟨rfl, rfl, rfl, by simp, fun j hj hS => Below.heap_setCell W ⟨g, k * 2 + 1, none⟩ _ j (fun e => hS (.inr (by rw [e])))⟩⟩
      clear h h1 h2 h3 h4 e1 hky hI e hr n1 n3
      go_enter Try.func18, Try.ntmps18
      go_wp2_with (go_at_call 24; refine HF.out.mono ?_; rintro e w1 ⟨rfl, hw⟩; subst hw)
      go_ret
      exact ⟨rfl, ⟨some g, c, HLW.out, .inl rfl⟩, HTN.out⟩
end
end Go.Proofs.Ytiejegalokncgaa
