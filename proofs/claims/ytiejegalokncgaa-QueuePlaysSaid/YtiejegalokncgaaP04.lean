/- Heaps in plain words: what container/heap makes of a list, and a queue as a list in any order.
Conditions: none. -/
import Derived.Test.YtiejegalokncgaaKit
namespace Go.Proofs.Ytiejegalokncgaa
set_option linter.unusedVariables false
set_option linter.unusedSimpArgs false
/-- An item with its key. -/
structure QE where
  Item : Int
  Key : Int
deriving DecidableEq, Inhabited
def QE.lt (a b : QE) : Prop := a.Key < b.Key ∨ a.Key = b.Key ∧ a.Item < b.Item
instance (a b : QE) : Decidable (a.lt b) := by unfold QE.lt; infer_instance
theorem QE.lt_irrefl (a : QE) : ¬ a.lt a := by unfold QE.lt; omega
theorem QE.lt_trans {a b c : QE} (h : a.lt b) (h2 : b.lt c) : a.lt c := by unfold QE.lt at *; omega
theorem QE.not_trans {a b c : QE} (h : ¬ b.lt a) (h2 : ¬ c.lt b) : ¬ c.lt a := by unfold QE.lt at *; omega
theorem QE.not_of {a b : QE} (h : a.lt b) : ¬ b.lt a := by unfold QE.lt at *; omega
def atE (l : List QE) (i : Nat) : QE := l.getD i default
def swapE (l : List QE) (i j : Nat) : List QE := (l.set i (atE l j)).set j (atE l i)
theorem atE_get {l : List QE} {i : Nat} (h : i < l.length) : atE l i = l[i] := by
  unfold atE; rw [List.getD_eq_getElem?_getD, List.getElem?_eq_getElem h]; rfl
theorem swapE_len (l : List QE) (i j : Nat) : (swapE l i j).length = l.length := by simp [swapE]
theorem atE_set {l : List QE} {i : Nat} (h : i < l.length) (x : QE) (k : Nat) : atE (l.set i x) k = if k = i then x else atE l k := by
  unfold atE
  rw [List.getD_eq_getElem?_getD, List.getElem?_set]
  by_cases hk : k = i
  · subst hk; simp [h]
  · rw [if_neg (Ne.symm hk), if_neg hk, List.getD_eq_getElem?_getD]
theorem atE_swap {l : List QE} {i j : Nat} (hi : i < l.length) (hj : j < l.length) (k : Nat) : atE (swapE l i j) k = if k = j then atE l i else if k = i then atE l j else atE l k := by
  unfold swapE
  rw [atE_set (by simpa using hj)]
  split
  · rfl
  · rw [atE_set hi]
theorem count_swap {l : List QE} {i j : Nat} (hi : i < l.length) (hj : j < l.length) (x : QE) : (swapE l i j).count x = l.count x := by
  unfold swapE
  have hj' : j < (l.set i (atE l j)).length := by simpa using hj
  rw [List.count_set hj', List.count_set hi]
  have e1 : (l.set i (atE l j))[j] = if j = i then atE l j else atE l j := by
    rw [← atE_get hj', atE_set hi]
  rw [e1]
  have h1 : l[i] = atE l i := (atE_get hi).symm
  have h2 : l[j] = atE l j := (atE_get hj).symm
  have c1 : l[i] ∈ l := List.getElem_mem hi
  have k1 : 0 < l.count (atE l i) := List.count_pos_iff.2 (h1 ▸ c1)
  simp only [ite_self, h1]
  by_cases a : atE l i = x <;> by_cases b : atE l j = x <;> simp [a, b]
  all_goals (rw [a] at k1; omega)
theorem swap_perm {l : List QE} {i j : Nat} (hi : i < l.length) (hj : j < l.length) : (swapE l i j).Perm l :=
  List.perm_iff_count.2 fun x => count_swap hi hj x

/-! ### heaps -/
abbrev par (c : Nat) : Nat := (c - 1) / 2
/-- The first n are a heap. -/
def HeapN (l : List QE) (n : Nat) : Prop := ∀ c, 0 < c → c < n → ¬ (atE l c).lt (atE l (par c))
/-- The first n are a heap but for j and its parent. -/
def UpOk (l : List QE) (n j : Nat) : Prop := (∀ c, 0 < c → c < n → c ≠ j → ¬ (atE l c).lt (atE l (par c))) ∧ (∀ c, 0 < c → c < n → par c = j → 0 < j → ¬ (atE l c).lt (atE l (par j)))
theorem UpOk.stop {l : List QE} {n j : Nat} (h : UpOk l n j) (hs : j = 0 ∨ ¬ (atE l j).lt (atE l (par j))) : HeapN l n := by
  intro c c0 cn
  by_cases e : c = j
  · subst e
    rcases hs with hs | hs
    · omega
    · exact hs
  · exact h.1 c c0 cn e
theorem UpOk.step {l : List QE} {n j : Nat} (h : UpOk l n j) (hn : n ≤ l.length) (hj : j < n) (j0 : 0 < j) (hl : (atE l j).lt (atE l (par j))) : UpOk (swapE l (par j) j) n (par j) := by
  have hp : par j < j := by unfold par; omega
  have key := atE_swap (l := l) (i := par j) (j := j) (by omega) (by omega)
  refine ⟨fun c c0 cn cj => ?_, fun c c0 cn cp p0 => ?_⟩
  · rw [key c, key (par c)]
    by_cases e : c = j
    · subst e
      rw [if_pos rfl, if_neg (by omega), if_pos rfl]
      exact QE.not_of hl
    · rw [if_neg e, if_neg cj]
      by_cases e1 : par c = j
      · rw [if_pos e1]
        exact h.2 c c0 cn e1 j0
      · rw [if_neg e1]
        by_cases e2 : par c = par j
        · rw [if_pos e2]
          exact QE.not_trans (QE.not_of hl) (e2 ▸ h.1 c c0 cn e)
        · rw [if_neg e2]
          exact h.1 c c0 cn e
  · have hpp : par (par j) < par j := by unfold par at *; omega
    rw [key c, key (par (par j)), if_neg (show par (par j) ≠ j by omega), if_neg (show par (par j) ≠ par j by omega)]
    have h1 := h.1 (par j) p0 (by omega) (by omega)
    by_cases e : c = j
    · rw [if_pos e]
      exact h1
    · rw [if_neg e, if_neg (by unfold par at *; omega)]
      exact QE.not_trans h1 (cp ▸ h.1 c c0 cn e)
/-- The first n are a heap but for i and its children, and i and its parent while it hasn't moved. -/
def DownOk (l : List QE) (n i : Nat) (m : Prop) : Prop := (∀ c, 0 < c → c < n → c ≠ i → par c ≠ i → ¬ (atE l c).lt (atE l (par c))) ∧ (∀ c, 0 < c → c < n → par c = i → 0 < i → ¬ (atE l c).lt (atE l (par i))) ∧ (m → 0 < i → ¬ (atE l i).lt (atE l (par i)))
/-- No child of i is less. -/
def NoLess (l : List QE) (n i : Nat) : Prop := ∀ c, 0 < c → c < n → par c = i → ¬ (atE l c).lt (atE l i)
theorem DownOk.moved {l : List QE} {n i : Nat} {m : Prop} (h : DownOk l n i m) (hm : m) (hs : NoLess l n i) : HeapN l n := by
  intro c c0 cn
  by_cases e : c = i
  · subst e; exact h.2.2 hm c0
  · by_cases e1 : par c = i
    · rw [e1]; exact hs c c0 cn e1
    · exact h.1 c c0 cn e e1
theorem DownOk.stay {l : List QE} {n i : Nat} {m : Prop} (h : DownOk l n i m) (hs : NoLess l n i) : UpOk l n i := by
  refine ⟨fun c c0 cn ci => ?_, fun c c0 cn cp i0 => h.2.1 c c0 cn cp i0⟩
  by_cases e1 : par c = i
  · rw [e1]; exact hs c c0 cn e1
  · exact h.1 c c0 cn ci e1
theorem DownOk.step {l : List QE} {n i j : Nat} {m : Prop} (h : DownOk l n i m) (hn : n ≤ l.length) (hj : j < n) (j0 : 0 < j) (hp : par j = i) (hl : (atE l j).lt (atE l i)) (hb : ∀ c, 0 < c → c < n → par c = i → ¬ (atE l c).lt (atE l j)) : DownOk (swapE l i j) n j True := by
  have hij : i < j := by unfold par at hp; omega
  have key := atE_swap (l := l) (i := i) (j := j) (by omega) (by omega)
  refine ⟨fun c c0 cn cj cp => ?_, fun c c0 cn cp _ => ?_, fun _ _ => ?_⟩
  · rw [key c, key (par c), if_neg cj, if_neg cp]
    by_cases e : c = i
    · subst e
      rw [if_pos rfl, if_neg (show par c ≠ c by unfold par; omega)]
      exact h.2.1 j j0 hj hp c0
    · rw [if_neg e]
      by_cases e1 : par c = i
      · rw [if_pos e1]; exact hb c c0 cn e1
      · rw [if_neg e1]; exact h.1 c c0 cn e e1
  · have hc : c ≠ j := by unfold par at cp; omega
    have hci : c ≠ i := by unfold par at cp; omega
    rw [key c, key (par j), if_neg hc, if_neg hci, hp, if_neg (show i ≠ j by omega), if_pos rfl]
    have := h.1 c c0 cn hci (by omega)
    rwa [cp] at this
  · rw [key j, key (par j), if_pos rfl, hp, if_neg (show i ≠ j by omega), if_pos rfl]
    exact QE.not_of hl
/-- The first one is the least. -/
theorem HeapN.least {l : List QE} {n : Nat} (h : HeapN l n) : ∀ c, c < n → ¬ (atE l c).lt (atE l 0) := by
  intro c
  induction c using Nat.strongRecOn with
  | _ c ih =>
    intro cn
    by_cases c0 : c = 0
    · subst c0; exact QE.lt_irrefl _
    · exact QE.not_trans (ih (par c) (by unfold par; omega) (by unfold par; omega)) (h c (by omega) cn)

/-! ### what container/heap makes of a list -/
/-- Up from j. -/
def upS : Nat → List QE → Nat → List QE
  | 0, l, _ => l
  | k + 1, l, j => if 0 < j ∧ (atE l j).lt (atE l (par j)) then upS k (swapE l (par j) j) (par j) else l
/-- The child of i that is not greater than the other; n: none. -/
def kidS (l : List QE) (n i : Nat) : Nat := if 2 * i + 2 < n ∧ (atE l (2 * i + 2)).lt (atE l (2 * i + 1)) then 2 * i + 2 else 2 * i + 1
/-- Down from i: the list, and where it ends. -/
def downS : Nat → List QE → Nat → Nat → List QE × Nat
  | 0, l, i, _ => (l, i)
  | k + 1, l, i, n => if 2 * i + 1 < n ∧ (atE l (kidS l n i)).lt (atE l i) then downS k (swapE l i (kidS l n i)) (kidS l n i) n else (l, i)
theorem kid_lt {l : List QE} {n i : Nat} (h : 2 * i + 1 < n) : kidS l n i < n ∧ i < kidS l n i ∧ par (kidS l n i) = i := by
  unfold kidS par
  split <;> omega
theorem kid_best {l : List QE} {n i : Nat} (c : Nat) (c0 : 0 < c) (cn : c < n) (cp : par c = i) : ¬ (atE l c).lt (atE l (kidS l n i)) := by
  unfold kidS
  have : c = 2 * i + 1 ∨ c = 2 * i + 2 := by unfold par at cp; omega
  split
  · rename_i h
    rcases this with rfl | rfl
    · exact QE.not_of h.2
    · exact QE.lt_irrefl _
  · rename_i h
    rcases this with rfl | rfl
    · exact QE.lt_irrefl _
    · exact fun h2 => h ⟨cn, h2⟩
theorem upS_ok (n : Nat) : ∀ (k : Nat) (l : List QE) (j : Nat), UpOk l n j → n ≤ l.length → j < n → j ≤ k → HeapN (upS k l j) n ∧ (upS k l j).Perm l ∧ (∀ c, n ≤ c → atE (upS k l j) c = atE l c)
  | 0, l, j, h, _, _, hk => ⟨h.stop (.inl (by omega)), .refl _, fun _ _ => rfl⟩
  | k + 1, l, j, h, hn, hj, hk => by
    unfold upS
    split
    · rename_i h2
      have hp : par j < j := by unfold par; omega
      obtain ⟨h3, h4, h5⟩ := upS_ok n k _ _ (h.step hn hj h2.1 h2.2) (by rw [swapE_len]; exact hn) (by omega) (by omega)
      refine ⟨h3, h4.trans (swap_perm (by omega) (by omega)), fun c hc => ?_⟩
      rw [h5 c hc, atE_swap (by omega) (by omega), if_neg (by omega), if_neg (by omega)]
    · rename_i h2
      refine ⟨h.stop ?_, .refl _, fun _ _ => rfl⟩
      by_cases j0 : j = 0
      · exact .inl j0
      · exact .inr fun h3 => h2 ⟨by omega, h3⟩
theorem downS_len : ∀ (k : Nat) (l : List QE) (i n : Nat), (downS k l i n).1.length = l.length
  | 0, l, i, n => rfl
  | k + 1, l, i, n => by
    unfold downS
    split
    · rw [downS_len, swapE_len]
    · rfl
theorem upS_len : ∀ (k : Nat) (l : List QE) (j : Nat), (upS k l j).length = l.length
  | 0, l, i => rfl
  | k + 1, l, i => by
    unfold upS
    split
    · rw [upS_len, swapE_len]
    · rfl
theorem downS_ok (n : Nat) : ∀ (k : Nat) (l : List QE) (i : Nat) (m : Prop), DownOk l n i m → n ≤ l.length → i < n → n ≤ i + k → ∃ m', DownOk (downS k l i n).1 n (downS k l i n).2 m' ∧ NoLess (downS k l i n).1 n (downS k l i n).2 ∧ i ≤ (downS k l i n).2 ∧ (downS k l i n).2 < n ∧
      (m' = m ∧ (downS k l i n) = (l, i) ∨ m' = True ∧ i < (downS k l i n).2) ∧ (downS k l i n).1.Perm l ∧ (∀ c, n ≤ c → atE (downS k l i n).1 c = atE l c)
  | 0, l, i, m, h, _, _, hk => by omega
  | k + 1, l, i, m, h, hn, hi, hk => by
    unfold downS
    split
    · rename_i h2
      obtain ⟨k1, k2, k3⟩ := kid_lt (l := l) h2.1
      obtain ⟨m', h3, h4, h5, h6, h7, h8, h9⟩ := downS_ok n k _ _ True (h.step hn k1 (by omega) k3 h2.2 kid_best) (by rw [swapE_len]; exact hn) k1 (by omega)
      refine ⟨m', h3, h4, by omega, h6, .inr ⟨?_, by omega⟩, h8.trans (swap_perm (by omega) (by omega)), fun c hc => ?_⟩
      · rcases h7 with ⟨h7, -⟩ | ⟨h7, -⟩ <;> exact h7
      · rw [h9 c hc, atE_swap (by omega) (by omega), if_neg (by omega), if_neg (by omega)]
    · rename_i h2
      refine ⟨m, h, fun c c0 cn cp h3 => ?_, Nat.le_refl _, hi, .inl ⟨rfl, rfl⟩, .refl _, fun _ _ => rfl⟩
      have h4 : 2 * i + 1 < n := by unfold par at cp; omega
      have h5 : ¬ (atE l (kidS l n i)).lt (atE l i) := fun h5 => h2 ⟨h4, h5⟩
      exact QE.not_trans h5 (kid_best c c0 cn cp) h3
/-- heap.Fix within the first n. -/
def fixS (l : List QE) (i n : Nat) : List QE := if i < (downS n l i n).2 then (downS n l i n).1 else upS n (downS n l i n).1 i
theorem fixS_ok {l : List QE} {i n : Nat} (h : DownOk l n i False) (hn : n ≤ l.length) (hi : i < n) : HeapN (fixS l i n) n ∧ (fixS l i n).Perm l ∧ (∀ c, n ≤ c → atE (fixS l i n) c = atE l c) := by
  obtain ⟨m', h3, h4, h5, h6, h7, h8, h9⟩ := downS_ok n n l i False h hn hi (by omega)
  unfold fixS
  split
  · rename_i h2
    rcases h7 with ⟨-, h7⟩ | ⟨h7, -⟩
    · rw [h7] at h2; exact absurd h2 (Nat.lt_irrefl _)
    · exact ⟨h3.moved (h7 ▸ trivial) h4, h8, h9⟩
  · rename_i h2
    rcases h7 with ⟨-, h7⟩ | ⟨-, h7⟩
    · rw [h7] at h3 h4 ⊢
      exact upS_ok n n l i (h3.stay h4) hn hi (by omega)
    · exact absurd h7 h2
/-- A heap of which one entry was written over. -/
theorem DownOk.of_set {l : List QE} {n i : Nat} (h : HeapN l n) (hn : n ≤ l.length) (hi : i < n) (x : QE) : DownOk (l.set i x) n i False := by
  refine ⟨fun c c0 cn ci cp => ?_, fun c c0 cn cp i0 => ?_, fun h => h.elim⟩
  · rw [atE_set (by omega), atE_set (by omega), if_neg ci, if_neg cp]; exact h c c0 cn
  · rw [atE_set (by omega), atE_set (by omega), if_neg (by unfold par at cp; omega), if_neg (by unfold par; omega)]
    have h1 := h c c0 cn
    rw [cp] at h1
    exact QE.not_trans (h i i0 hi) h1
theorem HeapN.le {l : List QE} {n m : Nat} (h : HeapN l n) (hm : m ≤ n) : HeapN l m := fun c c0 cm => h c c0 (by omega)

/-! ### a queue's calls -/
def pushS (l : List QE) (e : QE) : List QE := upS (l.length + 1) (l ++ [e]) l.length
/-- The entry at i goes: it changes with the last one, that is set right, and the last one goes. -/
def removeS (l : List QE) (i : Nat) : List QE := (if i = l.length - 1 then l else fixS (swapE l i (l.length - 1)) i (l.length - 1)).dropLast
def popS (l : List QE) : List QE := (downS (l.length - 1) (swapE l 0 (l.length - 1)) 0 (l.length - 1)).1.dropLast
theorem atE_append {l : List QE} {e : QE} {c : Nat} (h : c < l.length) : atE (l ++ [e]) c = atE l c := by
  unfold atE; rw [List.getD_eq_getElem?_getD, List.getElem?_append_left h, List.getD_eq_getElem?_getD]
theorem push_ok {l : List QE} (h : HeapN l l.length) (e : QE) : HeapN (pushS l e) (pushS l e).length ∧ (pushS l e).Perm (e :: l) := by
  have hp : UpOk (l ++ [e]) (l.length + 1) l.length := by
    refine ⟨fun c c0 cn cj => ?_, fun c c0 cn cp _ => ?_⟩
    · rw [atE_append (by omega), atE_append (by unfold par; omega)]
      exact h c c0 (by omega)
    · unfold par at cp; omega
  obtain ⟨h1, h2, -⟩ := upS_ok (l.length + 1) (l.length + 1) _ _ hp (by simp) (by omega) (by omega)
  unfold pushS
  rw [upS_len]
  refine ⟨by simpa using h1, h2.trans ?_⟩
  exact List.perm_append_comm
theorem dropLast_perm {l : List QE} (h : 0 < l.length) : (atE l (l.length - 1) :: l.dropLast).Perm l := by
  have hne : l ≠ [] := by intro h2; subst h2; simp at h
  have e : l = l.dropLast ++ [atE l (l.length - 1)] := by
    rw [atE_get (by omega), ← List.getLast_eq_getElem hne, List.dropLast_concat_getLast]
  have h3 : (l.dropLast ++ [atE l (l.length - 1)]).Perm (atE l (l.length - 1) :: l.dropLast) := List.perm_append_comm
  exact (h3.symm.trans (by rw [← e]))
theorem heap_dropLast {l : List QE} (h : HeapN l (l.length - 1)) : HeapN l.dropLast l.dropLast.length := by
  have key : ∀ c, c < l.length - 1 → atE l.dropLast c = atE l c := fun c hc => by
    unfold atE
    rw [List.getD_eq_getElem?_getD, List.getElem?_dropLast, if_pos hc, List.getD_eq_getElem?_getD]
  intro c c0 cn
  rw [List.length_dropLast] at cn
  rw [key c cn, key (par c) (by unfold par; omega)]
  exact h c c0 cn
theorem DownOk.of_swap {l : List QE} {i : Nat} (h : HeapN l l.length) (hi : i < l.length - 1) : DownOk (swapE l i (l.length - 1)) (l.length - 1) i False := by
  have key := atE_swap (l := l) (i := i) (j := l.length - 1) (by omega) (by omega)
  refine ⟨fun c c0 cn ci cp => ?_, fun c c0 cn cp i0 => ?_, fun h => h.elim⟩
  · rw [key c, key (par c), if_neg (by omega), if_neg ci, if_neg (by unfold par; omega), if_neg cp]
    exact h c c0 (by omega)
  · rw [key c, key (par i), if_neg (by omega), if_neg (by unfold par at cp; omega), if_neg (by unfold par; omega), if_neg (by unfold par; omega)]
    have h1 := h c c0 (by omega)
    rw [cp] at h1
    exact QE.not_trans (h i i0 (by omega)) h1
theorem fixS_len (l : List QE) (i n : Nat) : (fixS l i n).length = l.length := by
  unfold fixS
  split
  · exact downS_len ..
  · rw [upS_len, downS_len]
theorem remove_ok {l : List QE} (h : HeapN l l.length) {i : Nat} (hi : i < l.length) : HeapN (removeS l i) (removeS l i).length ∧ (atE l i :: removeS l i).Perm l := by
  unfold removeS
  split
  · rename_i e
    subst e
    exact ⟨heap_dropLast (h.le (by omega)), dropLast_perm (by omega)⟩
  · rename_i e
    have hi' : i < l.length - 1 := by omega
    obtain ⟨h1, h2, h3⟩ := fixS_ok (DownOk.of_swap h hi') (by rw [swapE_len]; omega) hi'
    have hlen : (fixS (swapE l i (l.length - 1)) i (l.length - 1)).length = l.length := by rw [fixS_len, swapE_len]
    refine ⟨heap_dropLast (by rw [hlen]; exact h1), ?_⟩
    have h4 := dropLast_perm (l := fixS (swapE l i (l.length - 1)) i (l.length - 1)) (by omega)
    rw [hlen, h3 _ (Nat.le_refl _), atE_swap (by omega) (by omega), if_pos rfl] at h4
    exact h4.trans (h2.trans (swap_perm (by omega) (by omega)))
theorem pop_ok {l : List QE} (h : HeapN l l.length) (hi : 0 < l.length) : HeapN (popS l) (popS l).length ∧ (atE l 0 :: popS l).Perm l := by
  unfold popS
  by_cases h1 : l.length = 1
  · rw [show l.length - 1 = 0 by omega]
    show HeapN (swapE l 0 0).dropLast _ ∧ _
    have h2 := swap_perm (l := l) (i := 0) (j := 0) hi hi
    have hlen := swapE_len l 0 0
    have h4 := dropLast_perm (l := swapE l 0 0) (by omega)
    rw [hlen, show l.length - 1 = 0 by omega, atE_swap (by omega) (by omega), if_pos rfl] at h4
    refine ⟨fun c c0 cn => ?_, h4.trans h2⟩
    have : (downS 0 (swapE l 0 0) 0 0).1.length = l.length := by rw [downS_len, swapE_len]
    rw [List.length_dropLast] at cn
    have h5 : (swapE l 0 0).dropLast.length = l.length - 1 := by rw [List.length_dropLast, hlen]
    omega
  · obtain ⟨m', h3, h4, h5, h6, h7, h8, h9⟩ := downS_ok (l.length - 1) (l.length - 1) _ 0 True ⟨(DownOk.of_swap h (by omega)).1, fun _ _ _ _ h => absurd h (by omega), fun _ h => absurd h (by omega)⟩ (by rw [swapE_len]; omega) (by omega) (by omega)
    have hm : m' := by rcases h7 with ⟨h7, -⟩ | ⟨h7, -⟩ <;> exact h7 ▸ trivial
    have hlen : (downS (l.length - 1) (swapE l 0 (l.length - 1)) 0 (l.length - 1)).1.length = l.length := by rw [downS_len, swapE_len]
    refine ⟨heap_dropLast (by rw [hlen]; exact h3.moved hm h4), ?_⟩
    have h10 := dropLast_perm (l := (downS (l.length - 1) (swapE l 0 (l.length - 1)) 0 (l.length - 1)).1) (by omega)
    rw [hlen, h9 _ (Nat.le_refl _), atE_swap (by omega) (by omega), if_pos rfl] at h10
    exact h10.trans (h8.trans (swap_perm (by omega) (by omega)))
/-! ### in words of a list in any order -/
def ItemsOk (m : List QE) : Prop := (m.map (·.Item)).Nodup
def findQ (m : List QE) (x : Int) : Option QE := m.find? (fun e => decide (e.Item = x))
def lowerQ (m : List QE) (x k : Int) : List QE := m.map (fun e => if e.Item = x then ⟨x, k⟩ else e)
def dropQ (m : List QE) (x : Int) : List QE := m.filter (fun e => decide (e.Item ≠ x))
/-- l is a heap with the entries of m. -/
structure HeapOf (l m : List QE) : Prop where
  heap : HeapN l l.length
  perm : l.Perm m
  items : ItemsOk m
theorem ItemsOk.perm {l m : List QE} (h : ItemsOk m) (hp : l.Perm m) : ItemsOk l := (hp.map _).nodup_iff.2 h
theorem ItemsOk.inj {m : List QE} (h : ItemsOk m) {a b : QE} (ha : a ∈ m) (hb : b ∈ m) (e : a.Item = b.Item) : a = b := by
  induction m with
  | nil => cases ha
  | cons x m ih =>
    obtain ⟨h1, h2⟩ := List.nodup_cons.1 (show ((x :: m).map (·.Item)).Nodup from h)
    rcases List.mem_cons.1 ha with rfl | ha <;> rcases List.mem_cons.1 hb with rfl | hb
    · rfl
    · exact (h1 (List.mem_map.2 ⟨b, ‹b ∈ m›, e.symm⟩)).elim
    · exact (h1 (List.mem_map.2 ⟨a, ‹a ∈ m›, e⟩)).elim
    · exact ih h2 ha hb
theorem findQ_some {m : List QE} (h : ItemsOk m) {x : Int} {e : QE} : findQ m x = some e ↔ e ∈ m ∧ e.Item = x := by
  constructor
  · intro h1
    exact ⟨List.mem_of_find?_eq_some h1, by simpa using List.find?_some h1⟩
  · rintro ⟨h1, h2⟩
    cases h3 : findQ m x with
    | none =>
      have := List.find?_eq_none.1 h3 e h1
      simp [h2] at this
    | some a =>
      rw [h.inj (List.mem_of_find?_eq_some h3) h1 (by have := List.find?_some h3; simp at this; omega)]
theorem findQ_none {m : List QE} {x : Int} : findQ m x = none ↔ ∀ e ∈ m, e.Item ≠ x := by
  unfold findQ; rw [List.find?_eq_none]; simp
theorem HeapOf.put {l m : List QE} (h : HeapOf l m) {x k : Int} (hx : findQ m x = none) : HeapOf (pushS l ⟨x, k⟩) (m ++ [⟨x, k⟩]) := by
  obtain ⟨h1, h2⟩ := push_ok h.heap ⟨x, k⟩
  refine ⟨h1, h2.trans ((h.perm.cons _).trans ?_), ?_⟩
  · exact (List.perm_append_comm (l₁ := m) (l₂ := [⟨x, k⟩])).symm
  · unfold ItemsOk
    rw [List.map_append, List.nodup_append]
    refine ⟨h.items, by simp, ?_⟩
    intro a ha b hb
    obtain ⟨e, he, rfl⟩ := List.mem_map.1 ha
    simp at hb
    subst hb
    exact findQ_none.1 hx e he
theorem HeapOf.lower {l m : List QE} (h : HeapOf l m) {x k : Int} {i : Nat} (hi : i < l.length) (hx : (atE l i).Item = x) : HeapOf (fixS (l.set i ⟨x, k⟩) i l.length) (lowerQ m x k) := by
  obtain ⟨h1, h2, -⟩ := fixS_ok (DownOk.of_set h.heap (Nat.le_refl _) hi ⟨x, k⟩) (by simp) hi
  have hI := h.items.perm h.perm
  have e : l.set i ⟨x, k⟩ = lowerQ l x k := by
    apply List.ext_getElem
    · simp [lowerQ]
    · intro j h3 h4
      rw [List.getElem_set]
      have hj : j < l.length := by simpa using h3
      simp only [lowerQ, List.getElem_map]
      by_cases hij : i = j
      · subst hij
        have h5 : l[i].Item = x := by rw [← hx, atE_get hi]
        rw [if_pos rfl, if_pos h5]
      · rw [if_neg hij, if_neg]
        intro h5
        have h6 : l[i] = l[j] := hI.inj (List.getElem_mem hi) (List.getElem_mem hj) (by rw [h5, ← hx, atE_get hi])
        have h7 : (l.map (·.Item))[i]'(by simpa using hi) = (l.map (·.Item))[j]'(by simpa using hj) := by simp [h6]
        exact hij ((List.getElem_inj (show (l.map (·.Item)).Nodup from hI)).1 h7)
  refine ⟨?_, h2.trans (e ▸ h.perm.map _), ?_⟩
  · rw [fixS_len, List.length_set]; exact h1
  · unfold ItemsOk lowerQ
    rw [List.map_map]
    have : ((·.Item) ∘ fun e : QE => if e.Item = x then (⟨x, k⟩ : QE) else e) = (·.Item) := by
      funext e
      simp only [Function.comp]
      split
      · rename_i h; exact h.symm
      · rfl
    rw [this]
    exact h.items
theorem drop_perm {l l' m : List QE} (hI : ItemsOk m) (hp : l.Perm m) {e : QE} (h : (e :: l').Perm l) : l'.Perm (dropQ m e.Item) := by
  have h1 := (h.trans hp).filter (fun a => decide (a.Item ≠ e.Item))
  have hI2 := hI.perm (h.trans hp)
  obtain ⟨h2, -⟩ := List.nodup_cons.1 (show ((e :: l').map (·.Item)).Nodup from hI2)
  have h3 : (e :: l').filter (fun a => decide (a.Item ≠ e.Item)) = l' := by
    rw [List.filter_cons_of_neg (by simp), List.filter_eq_self]
    intro a ha
    simp only [decide_eq_true_eq]
    intro h4
    exact h2 (List.mem_map.2 ⟨a, ha, h4⟩)
  rw [h3] at h1
  exact h1
theorem ItemsOk.drop {m : List QE} (h : ItemsOk m) (x : Int) : ItemsOk (dropQ m x) := by
  unfold ItemsOk dropQ
  exact (List.filter_sublist.map _).nodup h
theorem HeapOf.drop {l m : List QE} (h : HeapOf l m) {i : Nat} (hi : i < l.length) : HeapOf (removeS l i) (dropQ m (atE l i).Item) := by
  obtain ⟨h1, h2⟩ := remove_ok h.heap hi
  exact ⟨h1, drop_perm h.items h.perm h2, h.items.drop _⟩
theorem HeapOf.take {l m : List QE} (h : HeapOf l m) (hi : 0 < l.length) : HeapOf (popS l) (dropQ m (atE l 0).Item) ∧ atE l 0 ∈ m ∧ ∀ e ∈ m, ¬ e.lt (atE l 0) := by
  obtain ⟨h1, h2⟩ := pop_ok h.heap hi
  refine ⟨⟨h1, drop_perm h.items h.perm h2, h.items.drop _⟩, h.perm.mem_iff.1 (by rw [atE_get hi]; exact List.getElem_mem hi), fun e he => ?_⟩
  obtain ⟨i, h3, h4⟩ := List.mem_iff_getElem.1 (h.perm.mem_iff.2 he)
  rw [← h4, ← atE_get h3]
  exact h.heap.least i h3
/-! ### the calls in words of a list -/
def bestQ (b : QE) : List QE → QE
  | [] => b
  | x :: r => bestQ (if x.lt b then x else b) r
def IsMin (m : List QE) (e : QE) : Prop := e ∈ m ∧ ∀ a ∈ m, ¬ a.lt e
theorem QE.eq_of {a b : QE} (h1 : ¬ a.lt b) (h2 : ¬ b.lt a) : a = b := by
  obtain ⟨ai, ak⟩ := a
  obtain ⟨bi, bk⟩ := b
  unfold QE.lt at h1 h2
  simp only [QE.mk.injEq]
  simp only [] at h1 h2
  omega
theorem IsMin.uniq {m : List QE} {a b : QE} (h1 : IsMin m a) (h2 : IsMin m b) : a = b := QE.eq_of (h2.2 a h1.1) (h1.2 b h2.1)
theorem bestQ_min : ∀ (r pre : List QE) (b : QE), IsMin pre b → IsMin (pre ++ r) (bestQ b r)
  | [], pre, b, h => by simpa [bestQ] using h
  | x :: r, pre, b, h => by
    have h1 : IsMin (pre ++ [x]) (if x.lt b then x else b) := by
      by_cases hx : x.lt b
      · rw [if_pos hx]
        refine ⟨by simp, fun a ha => ?_⟩
        rcases List.mem_append.1 ha with ha | ha
        · exact QE.not_trans (QE.not_of hx) (h.2 a ha)
        · simp at ha; subst ha; exact QE.lt_irrefl _
      · rw [if_neg hx]
        refine ⟨List.mem_append_left _ h.1, fun a ha => ?_⟩
        rcases List.mem_append.1 ha with ha | ha
        · exact h.2 a ha
        · simp at ha; subst ha; exact hx
    have h2 := bestQ_min r _ _ h1
    rw [List.append_assoc] at h2
    exact h2
def takeQ : List QE → Option QE
  | [] => none
  | x :: r => some (bestQ x r)
theorem takeQ_of {m : List QE} {e : QE} (h : IsMin m e) : takeQ m = some e := by
  cases m with
  | nil => exact absurd h.1 (by simp)
  | cons x r =>
    have h1 := bestQ_min r [x] x ⟨by simp, fun a ha => by simp at ha; subst ha; exact QE.lt_irrefl _⟩
    show some (bestQ x r) = some e
    rw [IsMin.uniq h1 h]
theorem takeQ_min {m : List QE} {e : QE} (h : takeQ m = some e) : IsMin m e := by
  cases m with
  | nil => cases h
  | cons x r =>
    obtain rfl : bestQ x r = e := Option.some.inj h
    exact bestQ_min r [x] x ⟨by simp, fun a ha => by simp at ha; subst ha; exact QE.lt_irrefl _⟩
theorem takeQ_nil {m : List QE} : takeQ m = none ↔ m = [] := by
  cases m <;> simp [takeQ]
def putQ (m : List QE) (x k : Int) : List QE × Bool :=
  match findQ m x with
  | none => if 4096 ≤ m.length then (m, false) else (m ++ [⟨x, k⟩], true)
  | some e => if e.Key ≤ k then (m, false) else (lowerQ m x k, true)
theorem lowerQ_len (m : List QE) (x k : Int) : (lowerQ m x k).length = m.length := by simp [lowerQ]
theorem putQ_len (m : List QE) (x k : Int) : m.length ≤ (putQ m x k).1.length ∧ (putQ m x k).1.length ≤ m.length + 1 ∧ ((putQ m x k).1.length ≤ 4096 ∨ (putQ m x k).1.length = m.length) := by
  unfold putQ
  split <;> split <;> simp [lowerQ_len]; omega
theorem dropQ_none {m : List QE} {x : Int} (h : findQ m x = none) : dropQ m x = m := by
  unfold dropQ
  rw [List.filter_eq_self]
  intro a ha
  simpa using findQ_none.1 h a ha
theorem dropQ_len {m : List QE} (hI : ItemsOk m) {e : QE} (he : e ∈ m) : (dropQ m e.Item).length + 1 = m.length := by
  obtain ⟨a, b, rfl⟩ := List.append_of_mem he
  have h1 : (e :: (a ++ b)).Perm (a ++ e :: b) := List.perm_middle.symm
  have h2 := (drop_perm hI (.refl _) h1).length_eq
  rw [← h2]
  simp; omega
theorem findQ_drop {m : List QE} {x y : Int} : findQ (dropQ m x) y = if y = x then none else findQ m y := by
  unfold findQ dropQ
  rw [List.find?_filter]
  split
  · rename_i h
    subst h
    rw [List.find?_eq_none]
    intro a _
    simp; 
  · rename_i h
    congr 1
    funext a
    by_cases h2 : a.Item = y
    · subst h2; simp [h]
    · simp [h2]
theorem findQ_put {m : List QE} (hI : ItemsOk m) {x k y : Int} (hm : m.length < 4096) : findQ (putQ m x k).1 y = if y = x then some ⟨x, match findQ m x with | none => k | some e => if e.Key ≤ k then e.Key else k⟩ else findQ m y := by
  cases hf : findQ m x with
  | none =>
    unfold putQ
    rw [hf]
    simp only []
    rw [if_neg (by omega)]
    simp only []
    unfold findQ at hf ⊢
    rw [List.find?_append]
    by_cases h : y = x
    · subst h; rw [hf]; simp
    · rw [if_neg h]
      cases List.find? (fun e => decide (e.Item = y)) m <;> simp [Ne.symm h]
  | some e =>
    obtain ⟨h1, h2⟩ := (findQ_some hI).1 hf
    unfold putQ
    rw [hf]
    simp only []
    by_cases hk : e.Key ≤ k
    · rw [if_pos hk, if_pos hk]
      by_cases h : y = x
      · subst h; rw [if_pos rfl, hf, ← h2]
      · rw [if_neg h]
    · rw [if_neg hk, if_neg hk]
      simp only []
      unfold findQ lowerQ
      rw [List.find?_map]
      by_cases h : y = x
      · subst h
        have : ((fun e : QE => decide (e.Item = y)) ∘ fun e : QE => if e.Item = y then (⟨y, k⟩ : QE) else e) = fun e => decide (e.Item = y) := by
          funext a
          simp only [Function.comp]
          by_cases h3 : a.Item = y <;> simp [h3]
        rw [if_pos rfl, this]
        show Option.map _ (findQ m y) = _
        rw [hf, Option.map_some, if_pos h2]
      · have : ((fun e : QE => decide (e.Item = y)) ∘ fun e : QE => if e.Item = x then (⟨x, k⟩ : QE) else e) = fun e => decide (e.Item = y) := by
          funext a
          simp only [Function.comp]
          by_cases h3 : a.Item = x
          · simp [h3]
          · simp [h3]
        rw [if_neg h, this]
        show Option.map _ (findQ m y) = findQ m y
        cases hy : findQ m y with
        | none => rfl
        | some b =>
          rw [Option.map_some, if_neg]
          intro h3
          exact h (((findQ_some hI).1 hy).2.symm.trans h3)
theorem ItemsOk.put {m : List QE} (h : ItemsOk m) (x k : Int) : ItemsOk (putQ m x k).1 := by
  unfold putQ
  cases hf : findQ m x with
  | none =>
    simp only []
    split
    · exact h
    · unfold ItemsOk
      rw [List.map_append, List.nodup_append]
      refine ⟨h, by simp, ?_⟩
      intro a ha b hb
      obtain ⟨e, he, rfl⟩ := List.mem_map.1 ha
      simp at hb
      subst hb
      exact findQ_none.1 hf e he
  | some e =>
    simp only []
    split
    · exact h
    · unfold ItemsOk lowerQ
      rw [List.map_map]
      have : ((·.Item) ∘ fun e : QE => if e.Item = x then (⟨x, k⟩ : QE) else e) = (·.Item) := by
        funext e
        simp only [Function.comp]
        split
        · rename_i h; exact h.symm
        · rfl
      rw [this]
      exact h
theorem ItemsOk.lower {m : List QE} (h : ItemsOk m) (x k : Int) : ItemsOk (lowerQ m x k) := by
  unfold ItemsOk lowerQ
  rw [List.map_map]
  have : ((·.Item) ∘ fun e : QE => if e.Item = x then (⟨x, k⟩ : QE) else e) = (·.Item) := by
    funext e
    simp only [Function.comp]
    split
    · rename_i h; exact h.symm
    · rfl
  rw [this]
  exact h
/-! ### QueueFull -/
def fullM (f k : Int) (i : Nat) : List QE := (List.range i).map (fun j : Nat => ⟨f + (j : Int), k⟩)
theorem fullM_len (f k : Int) (i : Nat) : (fullM f k i).length = i := by simp [fullM]
theorem fullM_mem {f k : Int} {i : Nat} {e : QE} : e ∈ fullM f k i ↔ f ≤ e.Item ∧ e.Item < f + i ∧ e.Key = k := by
  unfold fullM
  rw [List.mem_map]
  constructor
  · rintro ⟨j, h1, rfl⟩
    have := List.mem_range.1 h1
    exact ⟨by simp only []; omega, by simp only []; omega, rfl⟩
  · rintro ⟨h1, h2, h3⟩
    refine ⟨(e.Item - f).toNat, List.mem_range.2 (by omega), ?_⟩
    obtain ⟨a, b⟩ := e
    simp only [QE.mk.injEq] at *
    omega
theorem fullM_items (f k : Int) : ∀ i, ItemsOk (fullM f k i)
  | 0 => by simp [ItemsOk, fullM]
  | i + 1 => by
    have h := fullM_items f k i
    unfold ItemsOk fullM at *
    rw [List.range_succ, List.map_append, List.map_append, List.nodup_append]
    refine ⟨h, by simp, ?_⟩
    intro a ha b hb
    simp at ha hb
    obtain ⟨j, h1, rfl⟩ := ha
    omega
theorem fullM_put {f k : Int} {i : Nat} (hi : i < 4096) : putQ (fullM f k i) (f + i) k = (fullM f k (i + 1), true) := by
  have h : findQ (fullM f k i) (f + i) = none := findQ_none.2 fun e he h => by have := fullM_mem.1 he; omega
  unfold putQ
  rw [h]
  simp only []
  rw [fullM_len, if_neg (by omega)]
  unfold fullM
  rw [List.range_succ, List.map_append]
  rfl
theorem full_over {f k : Int} : putQ (fullM f k 4096) (f + 4096) 0 = (fullM f k 4096, false) := by
  have h : findQ (fullM f k 4096) (f + 4096) = none := findQ_none.2 fun e he h => by have := fullM_mem.1 he; omega
  unfold putQ
  rw [h]
  simp only []
  rw [fullM_len, if_pos (Nat.le_refl _)]
theorem full_lower {f k : Int} (hk : 0 < k) : putQ (fullM f k 4096) (f + 4095) 0 = (lowerQ (fullM f k 4096) (f + 4095) 0, true) := by
  have h : findQ (fullM f k 4096) (f + 4095) = some ⟨f + 4095, k⟩ := (findQ_some (fullM_items ..)).2 ⟨fullM_mem.2 ⟨by simp only []; omega, by simp only []; omega, rfl⟩, rfl⟩
  unfold putQ
  rw [h]
  simp only []
  rw [if_neg (by omega)]
theorem full_take {f k : Int} (hk : 0 < k) : takeQ (lowerQ (fullM f k 4096) (f + 4095) 0) = some ⟨f + 4095, 0⟩ := by
  apply takeQ_of
  unfold lowerQ
  refine ⟨List.mem_map.2 ⟨⟨f + 4095, k⟩, fullM_mem.2 ⟨by simp only []; omega, by simp only []; omega, rfl⟩, by simp⟩, fun a ha => ?_⟩
  obtain ⟨b, h1, rfl⟩ := List.mem_map.1 ha
  have h2 := fullM_mem.1 h1
  unfold QE.lt
  split
  · simp only []; omega
  · simp only []; omega
theorem full_again {f k : Int} (hk : 0 < k) : ∃ m, putQ (dropQ (lowerQ (fullM f k 4096) (f + 4095) 0) (f + 4095)) (f + 4096) 1 = (m, true) ∧ (putQ m (f + 5000) 1).2 = false := by
  have hI : ItemsOk (lowerQ (fullM f k 4096) (f + 4095) 0) := (fullM_items f k 4096).lower _ _
  have hmem : ∀ e ∈ dropQ (lowerQ (fullM f k 4096) (f + 4095) 0) (f + 4095), e.Item < f + 4095 := by
    intro e he
    unfold dropQ lowerQ at he
    obtain ⟨h1, h2⟩ := List.mem_filter.1 he
    obtain ⟨b, h3, rfl⟩ := List.mem_map.1 h1
    have h4 := fullM_mem.1 h3
    by_cases h5 : b.Item = f + 4095
    · rw [if_pos h5] at h2
      exact absurd rfl (of_decide_eq_true h2)
    · rw [if_neg h5]
      omega
  have hlen : (dropQ (lowerQ (fullM f k 4096) (f + 4095) 0) (f + 4095)).length = 4095 := by
    have := dropQ_len hI (takeQ_min (full_take hk)).1
    rw [lowerQ_len, fullM_len] at this
    simp only [] at this
    omega
  have h : findQ (dropQ (lowerQ (fullM f k 4096) (f + 4095) 0) (f + 4095)) (f + 4096) = none := findQ_none.2 fun e he h => by have := hmem e he; omega
  refine ⟨dropQ (lowerQ (fullM f k 4096) (f + 4095) 0) (f + 4095) ++ [⟨f + 4096, 1⟩], ?_, ?_⟩
  · unfold putQ
    rw [h]
    simp only []
    rw [if_neg (by omega)]
  · have h2 : findQ (dropQ (lowerQ (fullM f k 4096) (f + 4095) 0) (f + 4095) ++ [⟨f + 4096, 1⟩]) (f + 5000) = none := findQ_none.2 fun e he h => by
      rcases List.mem_append.1 he with he | he
      · have := hmem e he; omega
      · simp at he; subst he; simp only [] at h; omega
    unfold putQ
    rw [h2]
    simp only []
    rw [if_pos (by simp [hlen])]
/-! ### QueueSorts -/
/-- What the map of least keys holds. -/
def leastQ (D : List (Int × Int)) (x k : Int) : Prop := (x, k) ∈ D
theorem takeQ_lt {m : List QE} (hI : ItemsOk m) {e : QE} (h : takeQ m = some e) : ∀ a ∈ dropQ m e.Item, e.lt a := by
  intro a ha
  obtain ⟨h1, h2⟩ := List.mem_filter.1 ha
  have h3 := (takeQ_min h).2 a h1
  simp at h2
  unfold QE.lt at *
  omega
theorem mem_drop {m : List QE} {x : Int} {a : QE} (h : a ∈ dropQ m x) : a ∈ m ∧ a.Item ≠ x := by
  obtain ⟨h1, h2⟩ := List.mem_filter.1 h
  exact ⟨h1, by simpa using h2⟩
theorem findQ_perm {m m' : List QE} (hI : ItemsOk m) (h : m.Perm m') (x : Int) : findQ m x = findQ m' x := by
  cases h1 : findQ m x with
  | none =>
    exact (findQ_none.2 fun e he => findQ_none.1 h1 e (h.mem_iff.2 he)).symm
  | some e =>
    obtain ⟨h2, h3⟩ := (findQ_some hI).1 h1
    exact ((findQ_some (hI.perm h.symm)).2 ⟨h.mem_iff.1 h2, h3⟩).symm
/-- Lists of the same entries. -/
theorem perm_of_find {m m' : List QE} (hI : ItemsOk m) (hI' : ItemsOk m') (h : ∀ x, findQ m x = findQ m' x) : m.Perm m' := by
  have nd : ∀ {l : List QE}, ItemsOk l → l.Nodup := fun {l} h => (List.Pairwise.of_map (f := (·.Item)) (S := (· ≠ ·)) (R := (· ≠ ·)) (fun a b h1 h2 => h1 (by rw [h2])) h)
  rw [List.perm_ext_iff_of_nodup (nd hI) (nd hI')]
  intro a
  rw [show a ∈ m ↔ findQ m a.Item = some a from ⟨fun h => (findQ_some hI).2 ⟨h, rfl⟩, fun h => ((findQ_some hI).1 h).1⟩, h, show a ∈ m' ↔ findQ m' a.Item = some a from ⟨fun h => (findQ_some hI').2 ⟨h, rfl⟩, fun h => ((findQ_some hI').1 h).1⟩]
end Go.Proofs.Ytiejegalokncgaa
