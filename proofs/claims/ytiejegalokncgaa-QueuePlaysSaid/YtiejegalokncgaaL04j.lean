/- The document's queue: Drop.
Conditions: none. -/
import Derived.Test.YtiejegalokncgaaL04i
namespace Go.Proofs.Ytiejegalokncgaa
open Go.RowKit Go.Proofs.YtiejegalokncgaaW.PrintWords Go.Proofs.YtiejegalokncgaaW.PrintLast Go.Proofs.YtiejegalokncgaaW.PrintMore
set_option linter.unusedVariables false
set_option linter.unusedSimpArgs false
section
variable {W : World} {rb c : Nat} {gb : Option Nat} {m : List QE}
theorem dropQ_le {x : Int} : (dropQ m x).length ≤ m.length := List.length_filter_le _ _
theorem below_grown {n : Nat} {a b c : World} {row : Option Nat} (h : Below n a b) (hg : b.grownBy c row) (hr : ∀ k, row = some k → n ≤ k) (hn : n ≤ b.heap.size) : Below n a c :=
  ⟨hg.os.trans h.os, hg.tape.trans h.tape, hg.output.trans h.output, Nat.le_trans h.size hg.size, fun k hk => (hg.block k (by omega) (fun e => by have := hr k e.symm; omega)).trans (h.block k hk)⟩
theorem drop_split {k : Nat} (hI : ItemsOk m) (hk : k < m.length) {x : Int} (hx : (atE m k).Item = x) : dropQ m x = m.take k ++ m.drop (k + 1) := by
  have h1 : m = m.take k ++ m[k] :: m.drop (k + 1) := by
    rw [← List.drop_eq_getElem_cons hk, List.take_append_drop]
  have hxk : m[k].Item = x := by rw [← hx, atE_get hk]
  have hn : ((m.take k ++ m[k] :: m.drop (k + 1)).map (·.Item)).Nodup := by rw [← h1]; exact hI
  rw [List.map_append, List.map_cons, List.nodup_append] at hn
  obtain ⟨h2, h3, h4⟩ := hn
  obtain ⟨h5, h6⟩ := List.nodup_cons.1 h3
  conv => lhs; rw [h1]
  unfold dropQ
  rw [List.filter_append, List.filter_cons_of_neg (by simp [hxk]), List.filter_eq_self.2, List.filter_eq_self.2]
  · intro a ha
    simp only [decide_eq_true_eq]
    intro h
    exact h5 (List.mem_map.2 ⟨a, ha, by rw [h, hxk]⟩)
  · intro a ha
    simp only [decide_eq_true_eq]
    intro h
    exact h4 a.Item (List.mem_map.2 ⟨a, ha, rfl⟩) m[k].Item (by simp) (by rw [h, hxk])
theorem cellsQ_take : ∀ (l : List QE) (k : Nat), cellsQ (l.take k) = (cellsQ l).take (k * 2)
  | [], k => by simp [cellsQ]
  | e :: l, 0 => by simp [cellsQ]
  | e :: l, k + 1 => by
    rw [show (k + 1) * 2 = k * 2 + 1 + 1 by omega, List.take_succ_cons]
    simp [cellsQ, cellsQ_take l k]
theorem cellsQ_drop : ∀ (l : List QE) (k : Nat), cellsQ (l.drop k) = (cellsQ l).drop (k * 2)
  | [], k => by simp [cellsQ]
  | e :: l, 0 => by simp [cellsQ]
  | e :: l, k + 1 => by
    rw [show (k + 1) * 2 = k * 2 + 1 + 1 by omega, List.drop_succ_cons]
    simp [cellsQ, cellsQ_drop l k]
theorem cellsQ_one : ∀ (l : List QE), ∀ u ∈ cellsQ l, u.oneCell' = true
  | [], u, h => by cases h
  | e :: l, u, h => by
    rcases List.mem_cons.1 h with rfl | h
    · rfl
    · rcases List.mem_cons.1 h with rfl | h
      · rfl
      · exact cellsQ_one l u h
/-- What the two appends leave. -/
theorem drop_runs {w1 : World} {g k k1 : Nat} (h : ROk w1 rb (some g) c m) (hI : ItemsOk m) {x : Int} (hK : k + 1 = k1 ∧ k < m.length ∧ m.length ≤ c ∧ (atE m k).Item = x) :
    ∃ v1 w2 v2 w3, (Builtin.append_ #[35, 35] 35 #[.slice (some ⟨w1.heap.size, 0, none⟩) 0 0, .slice (some ⟨g, 0, none⟩) k c]).run Try.prog ((w1.alloc (.cells #[] 57)).drew) = .ok v1 w2 ∧
      (Builtin.append_ #[35, 35] 35 #[v1, .slice (if c = k1 then some ⟨g, 0, none⟩ else some ⟨g, k1 * 2, none⟩) (m.length - k1) (c - k1)]).run Try.prog w2 = .ok v2 w3 ∧
      Below w1.heap.size w1 w2 ∧ Below w1.heap.size w1 w3 ∧ w3.ownsRow 0 57 2 v2 (dropQ m x).length (cellsQ (dropQ m x)) ∧ (∀ b, v2.ownBlock = some b → w1.heap.size ≤ b) := by
  obtain ⟨k0, k2, k3, k4⟩ := hK
  obtain ⟨g', e, n1, n2, n3, hr⟩ := h.row' (by omega)
  obtain rfl := Option.some.inj e
  have hln := h.len
  have hA : Below w1.heap.size w1 ((w1.alloc (.cells #[] 57)).drew) := (by repeat (first | with_reducible exact Below.refl _ _ | with_reducible apply below_alloc | with_reducible apply below_drew | with_reducible apply pw_below_drewN | (with_reducible refine Below.setCell ?_ (by first | (simp; done) | (simp; omega) | (dsimp only; omega)) _) | (with_reducible refine below_to ?_ (by assumption))))
  have ow0 : ((w1.alloc (.cells #[] 57)).drew).ownsRow 0 57 2 (.slice (some ⟨w1.heap.size, 0, none⟩) 0 0) 0 [] := (World.ownsRow_lit w1 #[] 0 (Nat.zero_le _) (Nat.zero_le _) rfl).drew
  have hlen := cellsQ_len m
  obtain ⟨v1, w2, hr1, ho1, hg1, hat1, hs1, hn1⟩ := app_run ow0 ⟨g, 0, none⟩ k c ((cellsQ m).take (k * 2)) (by rw [List.length_take]; omega) (fun j u hu => by
    have hj : j < k * 2 := by
      have := (List.getElem?_eq_some_iff.1 hu).1
      rw [List.length_take] at this
      omega
    rw [List.getElem?_take, if_pos hj] at hu
    rw [add_plain, hA.cell (p := ⟨g, j, none⟩) n2, hr.cellAt j (by omega)]
    exact hu) (fun u hu => cellsQ_one m u (List.mem_of_mem_take hu)) (by omega)
  have hB2 : Below w1.heap.size w1 w2 := below_grown hA hg1 (fun k hk => by
    have : w1.heap.size = k := Option.some.inj hk
    omega) (by simp)
  have hv1 : ∀ b, v1.ownBlock = some b → w1.heap.size ≤ b := fun b hb => by
    rcases hat1 with h | h
    · rw [h] at hb
      have : w1.heap.size = b := Option.some.inj hb
      omega
    · rw [h] at hb
      have := Option.some.inj hb
      simp at this
      omega
  obtain ⟨aa, haa, hac⟩ : ∃ aa : Addr, (if c = k1 then some (⟨g, 0, none⟩ : Addr) else some ⟨g, k1 * 2, none⟩) = some aa ∧ (c ≠ k1 → aa = ⟨g, k1 * 2, none⟩) := by
    by_cases e : c = k1
    · rw [if_pos e]; exact ⟨_, rfl, fun h => absurd e h⟩
    · rw [if_neg e]; exact ⟨_, rfl, fun _ => rfl⟩
  obtain ⟨v2, w3, hr2, ho2, hg2, hat2, hs2, hn2⟩ := app_run ho1 aa (m.length - k1) (c - k1) ((cellsQ m).drop (k1 * 2)) (by rw [List.length_drop, hlen, ← Nat.sub_mul]) (fun j u hu => by
    have hj : k1 * 2 + j < m.length * 2 := by
      have := (List.getElem?_eq_some_iff.1 hu).1
      rw [List.length_drop, hlen] at this
      omega
    rw [List.getElem?_drop] at hu
    rw [hac (by omega)]
    rw [show (⟨g, k1 * 2, none⟩ : Addr).add j = ⟨g, k1 * 2 + j, none⟩ by simp [Addr.add], hB2.cell (p := ⟨g, k1 * 2 + j, none⟩) n2, hr.cellAt _ hj]
    exact hu) (fun u hu => cellsQ_one m u (List.mem_of_mem_drop hu)) (by omega)
  have hB3 : Below w1.heap.size w1 w3 := below_grown hB2 hg2 hv1 hB2.size
  have hds := drop_split hI k2 k4
  have hc3 : cellsQ (dropQ m x) = [] ++ (cellsQ m).take (k * 2) ++ (cellsQ m).drop (k1 * 2) := by rw [hds, cellsQ_append, cellsQ_take, cellsQ_drop, k0, List.nil_append]
  have hl3 : (dropQ m x).length = 0 + k + (m.length - k1) := by rw [hds, List.length_append, List.length_take, List.length_drop]; omega
  refine ⟨v1, w2, v2, w3, hr1, by rw [haa]; exact hr2, hB2, hB3, by rw [hl3, hc3]; exact ho2, fun b hb => ?_⟩
  rcases hat2 with h | h
  · rw [h] at hb; exact hv1 b hb
  · rw [h] at hb
    have := Option.some.inj hb
    have := hB2.size
    omega
set_option maxHeartbeats 4000000 in
theorem rDrop_any (h : ROk W rb gb c m) (hI : ItemsOk m) (x : Int) : Calls Try.prog 15 #[qP rb, .int .i64 x] W
    fun e w' => e = .returned (.bool (findQ m x).isSome) ∧ (∃ gb' c', ROk w' rb gb' c' (dropQ m x) ∧ (gb' = gb ∨ gb' = none ∨ ∃ g, gb' = some g ∧ W.heap.size ≤ g)) ∧ Turn (RS rb gb) W w' := by
  have HF := Aside0.mk (rFind_any h x)
  have HRO := Aside0.mk h
  have h0 := h.cell0
  have hln := h.len
  have hqw := World.block_lt_of_cell? _ ⟨rb, 0, none⟩ h0
  rcases rfind_at x m 0 with ⟨h1, h2⟩ | ⟨k, h1, h2, h3, h4⟩
  · rw [h2] at HF
    rw [dropQ_none h1, h1]
    clear h h1 h2 hI
    go_enter Try.func15, Try.ntmps15
    go_wp2_with (go_at_call 24; refine HF.out.mono ?_; rintro e w1 ⟨rfl, hw⟩; subst hw)
    go_ret
    exact ⟨rfl, ⟨gb, c, HRO.out, .inl rfl⟩, Turn.refl _ _⟩
  · rw [h2, Nat.zero_add] at HF
    rw [h3]
    obtain ⟨g, rfl, n1, n2, n3, hr⟩ := h.row' (by omega)
    have d0 : decide ((k : Int) < 0) = false := decide_eq_false (by omega)
    have i0 : (0 : Int) ≤ k := by omega
    have i1 : (k : Int) ≤ m.length := by omega
    have i2 : (k : Int) ≤ c := by omega
    have e1 : IntKind.i64.wrap ((k : Int) + 1) = ((k + 1 : Nat) : Int) := by rw [IntWalk.i64_in _ (by omega)]; omega
    obtain ⟨k1, hk1⟩ : ∃ k1, k + 1 = k1 := ⟨_, rfl⟩
    rw [hk1] at e1
    have i3 : (0 : Int) ≤ k1 := by omega
    have i4 : (k1 : Int) ≤ m.length := by omega
    have i5 : (k1 : Int) ≤ c := by omega
    have i6 : (m.length : Int) ≤ c := by omega
    have HK := Aside0.mk (show k + 1 = k1 ∧ k < m.length ∧ m.length ≤ c ∧ (atE m k).Item = x from ⟨hk1, h1, n3, h4⟩)
    have HRW := Aside0.mk hr
    have HI := Aside0.mk hI
    clear h hI h1 h2 h3 h4 hr n1 n3 hk1
    go_enter Try.func15, Try.ntmps15
    go_upto_region 4 with (go_at_call 24; refine HF.out.mono ?_; rintro e w1 ⟨rfl, hw⟩; subst hw)
    refine wp_region_tailH (S := fun W' => Below w1.heap.size w1 W' ∧ ∀ a : Addr, a.block < w1.heap.size → W'.cell? a = w1.cell? a) 17 (by kernel_rfl) (by kernel_rfl) (by kernel_rfl) (hl_start _) (fun hHeld => ?_)
    simp only [List.take_succ_cons, List.take_zero, List.drop_succ_cons, List.drop_zero]
    refine wpAnyH_take (i := 0) (oi := _) (v := ?_) (by simp only [List.getElem?_toArray, List.getElem?_cons_succ, List.getElem?_cons_zero]; rfl) (by kernel_rfl) (by kernel_rfl) (by kernel_rfl) (tail_hQ (by exact fun _ _ _ h => h)) (Or.inl ⟨by rfl, ?_⟩) (by assumption) ?_
    rotate_left
    focus (intro w hSw; (try dsimp only at hSw); go_simp; (try with_reducible rfl); done)
    (try simp only [Act.put, List.setIfInBounds_toArray, List.set_cons_zero, List.set_cons_succ])
    refine wpAnyH_take (i := 2) (oi := _) (v := ?_) (by simp only [List.getElem?_toArray, List.getElem?_cons_succ, List.getElem?_cons_zero]; rfl) (by kernel_rfl) (by kernel_rfl) (by kernel_rfl) (tail_hQ (by exact fun _ _ _ h => h)) (Or.inl ⟨by rfl, ?_⟩) (by assumption) ?_
    rotate_left
    focus (intro w hSw; (try dsimp only at hSw); go_simp; (try with_reducible rfl); done)
    (try simp only [Act.put, List.setIfInBounds_toArray, List.set_cons_zero, List.set_cons_succ])
    refine wpAnyH_take (i := 3) (oi := _) (v := ?_) (by simp only [List.getElem?_toArray, List.getElem?_cons_succ, List.getElem?_cons_zero]; rfl) (by kernel_rfl) (by kernel_rfl) (by kernel_rfl) (tail_hQ (by exact fun _ _ _ h => h)) (Or.inl ⟨by rfl, ?_⟩) (by assumption) ?_
    rotate_left
    focus (intro w hSw; (try dsimp only at hSw); go_simp; (try with_reducible rfl); done)
    (try simp only [Act.put, List.setIfInBounds_toArray, List.set_cons_zero, List.set_cons_succ])
    refine wpAnyH_take (i := 4) (oi := _) (v := ?_) (by simp only [List.getElem?_toArray, List.getElem?_cons_succ, List.getElem?_cons_zero]; rfl) (by kernel_rfl) (by kernel_rfl) (by kernel_rfl) (tail_hQ (by exact fun _ _ _ h => h)) (Or.inl ⟨by rfl, ?_⟩) (by assumption) ?_
    rotate_left
    focus (intro w hSw; (try dsimp only at hSw); go_simp; (try with_reducible rfl); done)
    (try simp only [Act.put, List.setIfInBounds_toArray, List.set_cons_zero, List.set_cons_succ])
    refine wpAnyH_take (i := 5) (oi := _) (v := ?_) (by simp only [List.getElem?_toArray, List.getElem?_cons_succ, List.getElem?_cons_zero]; rfl) (by kernel_rfl) (by kernel_rfl) (by kernel_rfl) (tail_hQ (by exact fun _ _ _ h => h)) (Or.inl ⟨by rfl, ?_⟩) (by assumption) ?_
    rotate_left
    focus (intro w hSw; (try dsimp only at hSw); go_simp; (try with_reducible rfl); done)
    (try simp only [Act.put, List.setIfInBounds_toArray, List.set_cons_zero, List.set_cons_succ])
    refine wpAnyH_take (i := 6) (oi := _) (v := ?_) (by simp only [List.getElem?_toArray, List.getElem?_cons_succ, List.getElem?_cons_zero]; rfl) (by kernel_rfl) (by kernel_rfl) (by kernel_rfl) (tail_hQ (by exact fun _ _ _ h => h)) (Or.inl ⟨by rfl, ?_⟩) (by assumption) ?_
    rotate_left
    focus (intro w hSw; (try dsimp only at hSw); go_simp; (try with_reducible rfl); done)
    (try simp only [Act.put, List.setIfInBounds_toArray, List.set_cons_zero, List.set_cons_succ])
    refine wpAnyH_take (i := 7) (oi := _) (v := ?_) (by simp only [List.getElem?_toArray, List.getElem?_cons_succ, List.getElem?_cons_zero]; rfl) (by kernel_rfl) (by kernel_rfl) (by kernel_rfl) (tail_hQ (by exact fun _ _ _ h => h)) (Or.inl ⟨by rfl, ?_⟩) (by assumption) ?_
    rotate_left
    focus (intro w hSw; (try dsimp only at hSw); go_simp; (try with_reducible rfl); done)
    (try simp only [Act.put, List.setIfInBounds_toArray, List.set_cons_zero, List.set_cons_succ])
    refine wpAnyH_take (i := 9) (oi := _) (v := ?_) (by simp only [List.getElem?_toArray, List.getElem?_cons_succ, List.getElem?_cons_zero]; rfl) (by kernel_rfl) (by kernel_rfl) (by kernel_rfl) (tail_hQ (by exact fun _ _ _ h => h)) (Or.inl ⟨by rfl, ?_⟩) (by assumption) ?_
    rotate_left
    focus (intro w hSw; (try dsimp only at hSw); go_simp; (try with_reducible rfl); done)
    (try simp only [Act.put, List.setIfInBounds_toArray, List.set_cons_zero, List.set_cons_succ])
    refine wpAnyH_take (i := 10) (oi := _) (v := ?_) (by simp only [List.getElem?_toArray, List.getElem?_cons_succ, List.getElem?_cons_zero]; rfl) (by kernel_rfl) (by kernel_rfl) (by kernel_rfl) (tail_hQ (by exact fun _ _ _ h => h)) (Or.inl ⟨by rfl, ?_⟩) (by assumption) ?_
    rotate_left
    focus (intro w hSw; (try dsimp only at hSw); go_simp; (try with_reducible rfl); done)
    (try simp only [Act.put, List.setIfInBounds_toArray, List.set_cons_zero, List.set_cons_succ])
    refine wpAnyH_take (i := 11) (oi := _) (v := ?_) (by simp only [List.getElem?_toArray, List.getElem?_cons_succ, List.getElem?_cons_zero]; rfl) (by kernel_rfl) (by kernel_rfl) (by kernel_rfl) (tail_hQ (by exact fun _ _ _ h => h)) (Or.inl ⟨by rfl, ?_⟩) (by assumption) ?_
    rotate_left
    focus (intro w hSw; (try dsimp only at hSw); go_simp; (try with_reducible rfl); done)
    (try simp only [Act.put, List.setIfInBounds_toArray, List.set_cons_zero, List.set_cons_succ])
    refine wpAnyH_take (i := 12) (oi := _) (v := ?_) (by simp only [List.getElem?_toArray, List.getElem?_cons_succ, List.getElem?_cons_zero]; rfl) (by kernel_rfl) (by kernel_rfl) (by kernel_rfl) (tail_hQ (by exact fun _ _ _ h => h)) (Or.inl ⟨by rfl, ?_⟩) (by assumption) ?_
    rotate_left
    focus (intro w hSw; (try dsimp only at hSw); go_simp; (try with_reducible rfl); done)
    (try simp only [Act.put, List.setIfInBounds_toArray, List.set_cons_zero, List.set_cons_succ])
    refine wpAnyH_take (i := 13) (oi := _) (v := ?_) (by simp only [List.getElem?_toArray, List.getElem?_cons_succ, List.getElem?_cons_zero]; rfl) (by kernel_rfl) (by kernel_rfl) (by kernel_rfl) (tail_hQ (by exact fun _ _ _ h => h)) (Or.inl ⟨by rfl, ?_⟩) (by assumption) ?_
    rotate_left
    focus (intro w hSw; (try dsimp only at hSw); go_simp; (try with_reducible rfl); done)
    (try simp only [Act.put, List.setIfInBounds_toArray, List.set_cons_zero, List.set_cons_succ])
    refine wpAnyH_take (i := 14) (oi := _) (v := ?_) (by simp only [List.getElem?_toArray, List.getElem?_cons_succ, List.getElem?_cons_zero]; rfl) (by kernel_rfl) (by kernel_rfl) (by kernel_rfl) (tail_hQ (by exact fun _ _ _ h => h)) (Or.inl ⟨by rfl, ?_⟩) (by assumption) ?_
    rotate_left
    focus (intro w hSw; (try dsimp only at hSw); go_simp; (try with_reducible rfl); done)
    (try simp only [Act.put, List.setIfInBounds_toArray, List.set_cons_zero, List.set_cons_succ])
    refine wpAnyH_take (i := 15) (oi := _) (v := ?_) (by simp only [List.getElem?_toArray, List.getElem?_cons_succ, List.getElem?_cons_zero]; rfl) (by kernel_rfl) (by kernel_rfl) (by kernel_rfl) (tail_hQ (by exact fun _ _ _ h => h)) (Or.inl ⟨by rfl, ?_⟩) (by assumption) ?_
    rotate_left
    focus (intro w hSw; (try dsimp only at hSw); go_simp; (try with_reducible rfl); done)
    (try simp only [Act.put, List.setIfInBounds_toArray, List.set_cons_zero, List.set_cons_succ])
    refine wpAnyH_ready (rs := [1]) (by kernel_rfl) (by simp) ?_
    refine AllReadyH.cons (o := _) (by simp only [List.getElem?_toArray, List.getElem?_cons_succ, List.getElem?_cons_zero]; rfl) (fun K hK => ?_) AllReadyH.nil
    go_simp
    skip
    clear hHeld
    refine hK.out _ _ (hl_of (by repeat (first | with_reducible exact Below.refl _ _ | with_reducible apply below_alloc | with_reducible apply below_drew | with_reducible apply pw_below_drewN | (with_reducible refine Below.setCell ?_ (by first | (simp; done) | (simp; omega) | (dsimp only; omega)) _) | (with_reducible refine below_to ?_ (by assumption))))) (fun hHeld => ?_)
    clear hK K
    (try simp only [Act.put, List.setIfInBounds_toArray, List.set_cons_zero, List.set_cons_succ])
    obtain ⟨v1, w2, v2, w3, hr1, hr2, hB2, hB3, ho3, hv2⟩ := drop_runs HRO.out HI.out HK.out
    refine wpAnyH_ready (rs := [8]) (by kernel_rfl) (by simp) ?_
    refine AllReadyH.cons (o := _) (by simp only [List.getElem?_toArray, List.getElem?_cons_succ, List.getElem?_cons_zero]; rfl) (fun K hK => ?_) AllReadyH.nil
    refine wp_append_run rfl rfl rfl hr1 ?_
    clear hHeld
    refine hK.out _ _ (hl_of hB2) (fun hHeld => ?_)
    clear hK K
    (try simp only [Act.put, List.setIfInBounds_toArray, List.set_cons_zero, List.set_cons_succ])
    refine wpAnyH_ready (rs := [16]) (by kernel_rfl) (by simp) ?_
    refine AllReadyH.cons (o := _) (by simp only [List.getElem?_toArray, List.getElem?_cons_succ, List.getElem?_cons_zero]; rfl) (fun K hK => ?_) AllReadyH.nil
    refine wp_append_run rfl rfl rfl hr2 ?_
    clear hHeld
    refine hK.out _ _ (hl_of hB3) (fun hHeld => ?_)
    clear hK K
    (try simp only [Act.put, List.setIfInBounds_toArray, List.set_cons_zero, List.set_cons_succ])
    clear hr1 hr2
    generalize (if c = k1 then (some (⟨g, 0, none⟩ : Addr)) else some ⟨g, k1 * 2, none⟩) = ao at *
    refine wpAnyH_tail (by kernel_rfl) ?_ _
    have box3 := blk_below HRO.out.box hB3
    have z0 := blk_cell box3 0
    have zf := blk_frozen box3 0
    simp only [List.getElem?_toArray, List.getElem?_cons_zero] at z0
    have HW := Aside0.mk (ROk.write ⟨_, box3⟩ ho3 rfl (by have := dropQ_le (m := m) (x := x); omega))
    have HTN : Aside0 (∀ v, Turn (RS rb (some g)) w1 (w3.setCell ⟨rb, 0, none⟩ v)) := ⟨fun v => ⟨hB3.os, hB3.tape, hB3.output, by simpa using hB3.size, fun k hk hS => by
      rw [Below.heap_setCell w3 ⟨rb, 0, none⟩ _ k (fun e => hS (.inl e))]
      exact hB3.block k hk⟩⟩
    have HV2 := Aside0.mk hv2
    have HO3 := Aside0.mk ho3.2
    clear hHeld hB2 hB3 ho3 hv2 box3
    rcases HO3.out with ⟨rfl, _⟩ | ⟨g3, cap3, cur3, rfl, _⟩
    all_goals
      refine wpList_plain rfl (fun K hK => ?_)
      go_simp
      refine hK _ _ ?_
      clear hK K
      (try simp only [Act.put, List.setIfInBounds_toArray, List.set_cons_zero, List.set_cons_succ])
      refine wpList_plain rfl (fun K hK => ?_)
      go_simp
      refine hK _ _ ?_
      clear hK K
      (try simp only [Act.put, List.setIfInBounds_toArray, List.set_cons_zero, List.set_cons_succ])
      refine wpList_plain rfl (fun K hK => ?_)
      go_simp
      refine hK _ _ ?_
      clear hK K
      (try simp only [Act.put, List.setIfInBounds_toArray, List.set_cons_zero, List.set_cons_succ])
      refine wpList_nil ?_
      go_wp2
      go_ret
      obtain ⟨gb', c', hq, hgb⟩ := HW.out
      have hh : gb' = some g ∨ gb' = none ∨ ∃ g, gb' = some g ∧ w1.heap.size ≤ g := by
        cases gb' with
        | none => exact .inr (.inl rfl)
        | some g' => exact .inr (.inr ⟨g', rfl, HV2.out g' (hgb g' rfl)⟩)
      exact ⟨rfl, ⟨gb', by first | exact ⟨c', hq, hh⟩ | exact ⟨⟨c', hq⟩, hh⟩⟩, HTN.out _⟩
end
end Go.Proofs.Ytiejegalokncgaa
