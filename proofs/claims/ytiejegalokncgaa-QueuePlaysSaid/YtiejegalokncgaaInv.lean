/- A region that draws its order, by an invariant: its head (operations that make memory and whose values are told by what holds of them in every grown world) in any order, its tail one after the other.
Conditions: none. -/
import Derived.StillTail
import Derived.OrdersHeld
import Derived.Test.YtiejegalokncgaaKit2
namespace Go.Proofs.Ytiejegalokncgaa
open Go.RowKit Go.Proofs.YtiejegalokncgaaW.PrintWords Go.Proofs.YtiejegalokncgaaW.PrintLast Go.Proofs.YtiejegalokncgaaW.PrintMore
set_option linter.unusedVariables false
set_option linter.unusedSimpArgs false

section
variable {P : Program} {md : Region.Mode} {ops : Array Oper} {n : Nat} {Q : Exit → Act → World → Prop}

/-- The head's slots are filled in, in order. -/
def putAll : List Oper → (Nat → Value) → Nat → Act → Act
  | [], _, _, a => a
  | o :: l, u, i, a => putAll l u (i + 1) (a.put o.dst (u i))

/-- Each head operation has a slot of its own, no guard, and waits for earlier ones alone. -/
def headB (md : Region.Mode) (ops : Array Oper) (n : Nat) : Bool :=
  (List.range n).all fun i => match ops[i]? with
    | some o => o.guard.isNone && o.dst.isSome && o.after.all (fun e => decide (e.on < i)) && (List.range i).all (fun j => match ops[j]? with | some o' => o'.dst != o.dst | none => false)
    | none => false

structure HeadOp (ops : Array Oper) (i : Nat) (o : Oper) (d : Tmp) : Prop where
  at_ : ops[i]? = some o
  guard : o.guard = none
  dst : o.dst = some d
  back : ∀ e ∈ o.after, e.on < i

theorem headB_spec (h : headB md ops n = true) (i : Nat) (hi : i < n) : ∃ o d, HeadOp ops i o d ∧ ∀ j o', j < i → ops[j]? = some o' → o'.dst ≠ some d := by
  have h1 := List.all_eq_true.1 h i (List.mem_range.2 hi)
  cases ho : ops[i]? with
  | none => rw [ho] at h1; cases h1
  | some o =>
    rw [ho] at h1
    simp only [Bool.and_eq_true] at h1
    obtain ⟨⟨⟨g, d⟩, b⟩, ds⟩ := h1
    obtain ⟨t, ht⟩ := Option.isSome_iff_exists.1 d
    refine ⟨o, t, ⟨ho, Option.isNone_iff_eq_none.1 g, ht, fun e he => ?_⟩, fun j o' hj ho' => ?_⟩
    · have := Array.all_eq_true_iff_forall_mem.1 b e he
      simpa using this
    · have h2 := List.all_eq_true.1 ds j (List.mem_range.2 hj)
      rw [ho'] at h2
      simp only [bne_iff_ne, ne_eq] at h2
      rwa [ht] at h2

theorem head_inj (h : headB md ops n = true) {i j : Nat} (hi : i < n) (hj : j < n) {oi oj : Oper} {d : Tmp} (ei : ops[i]? = some oi) (ej : ops[j]? = some oj) (di : oi.dst = some d) (dj : oj.dst = some d) : i = j := by
  rcases Nat.lt_trichotomy i j with hlt | he | hgt
  · obtain ⟨o, t, ho, hd⟩ := headB_spec h j hj
    have : o = oj := Option.some.inj (ho.at_.symm.trans ej)
    subst this
    have : t = d := Option.some.inj (ho.dst.symm.trans dj)
    subst this
    exact absurd di (hd i oi hlt ei)
  · exact he
  · obtain ⟨o, t, ho, hd⟩ := headB_spec h i hi
    have : o = oi := Option.some.inj (ho.at_.symm.trans ei)
    subst this
    have : t = d := Option.some.inj (ho.dst.symm.trans di)
    subst this
    exact absurd dj (hd j oj hgt ej)

/-- What has come up so far is told by Φ; all other slots are as they were. -/
structure InvAt (ops : Array Oper) (n : Nat) (Φ : Nat → Value → World → Prop) (a0 : Act) (W : World) (listed : Array Bool) (a : Act) (w : World) : Prop where
  grown : Below W.heap.size W w
  defers : a.defers = a0.defers
  size : a.tmps.size = a0.tmps.size
  told : ∀ i o d, i < n → ops[i]? = some o → o.dst = some d → listed.getD i false = true → Φ i (a.tmps.getD d undef) w
  kept : ∀ k, (∀ i o, i < n → ops[i]? = some o → listed.getD i false = true → o.dst ≠ some k) → a.tmps.getD k undef = a0.tmps.getD k undef

theorem put_getD_same {a : Act} {d : Tmp} {v : Value} (h : d < a.tmps.size) : (a.put (some d) v).tmps.getD d undef = v := by simp [Act.put, h]
theorem put_getD_ne {a : Act} {d k : Tmp} {v : Value} (h : d ≠ k) : (a.put (some d) v).tmps.getD k undef = a.tmps.getD k undef := by
  simp only [Act.put, Array.getD_eq_getD_getElem?, Array.getElem?_setIfInBounds_ne h]

/-- One more has come up. -/
theorem InvAt.step {Φ : Nat → Value → World → Prop} {a0 a : Act} {W w w' : World} {listed : Array Bool} {i : Nat} {o : Oper} {d : Tmp} {v : Value} (hB : headB md ops n = true)
    (hst : ∀ j v w w', Below w.heap.size w w' → Φ j v w → Φ j v w') (h : InvAt ops n Φ a0 W listed a w) (hi : i < n) (ho : ops[i]? = some o) (hd : o.dst = some d) (hsz : d < a0.tmps.size) (hls : i < listed.size)
    (hb : Below w.heap.size w w') (hv : Φ i v w') : InvAt ops n Φ a0 W (listed.setIfInBounds i true) (a.put o.dst v) w' := by
  refine ⟨below_to h.grown hb, by rw [hd]; exact h.defers, by rw [hd]; simp [Act.put, h.size], fun j oj dj hj hoj hdj hl => ?_, fun k hk => ?_⟩
  · by_cases e : i = j
    · subst e
      have : o = oj := Option.some.inj (ho.symm.trans hoj)
      subst this
      have : d = dj := Option.some.inj (hd.symm.trans hdj)
      subst this
      rw [hd, put_getD_same (by rw [h.size]; exact hsz)]
      exact hv
    · rw [getD_set_ne false e] at hl
      have hne : d ≠ dj := by
        rintro rfl
        exact e (head_inj hB hi hj ho hoj hd hdj)
      rw [hd, put_getD_ne hne]
      exact hst j _ _ _ hb (h.told j oj dj hj hoj hdj hl)
  · have hdk : d ≠ k := by
      rintro rfl
      refine hk i o hi ho ?_ hd
      rw [Array.getD_eq_getD_getElem?, Array.getElem?_setIfInBounds_self_of_lt hls]
      rfl
    rw [hd, put_getD_ne hdk]
    refine h.kept k fun j oj hj hoj hl => hk j oj hj hoj ?_
    by_cases e : i = j
    · subst e
      rw [Array.getD_eq_getD_getElem?, Array.getElem?_setIfInBounds_self_of_lt hls]
      rfl
    · rw [getD_set_ne false e]
      exact hl

/-- How many of the head have not come up. -/
def unl (listed : Array Bool) : Nat → Nat
  | 0 => 0
  | n + 1 => unl listed n + (if listed.getD n false = true then 0 else 1)
theorem unl_set_ge {listed : Array Bool} {i : Nat} : ∀ m, m ≤ i → unl (listed.setIfInBounds i true) m = unl listed m
  | 0, _ => rfl
  | m + 1, h => by
    unfold unl
    rw [unl_set_ge m (by omega), getD_set_ne false (show i ≠ m by omega)]
theorem unl_set {listed : Array Bool} {i : Nat} (hs : i < listed.size) (hu : listed.getD i false = false) : ∀ m, i < m → unl (listed.setIfInBounds i true) m + 1 = unl listed m
  | 0, h => by omega
  | m + 1, h => by
    unfold unl
    by_cases e : i = m
    · subst e
      rw [unl_set_ge i (Nat.le_refl _), hu]
      have : (listed.setIfInBounds i true).getD i false = true := by
        rw [Array.getD_eq_getD_getElem?, Array.getElem?_setIfInBounds_self_of_lt hs]
        rfl
      rw [this]
      simp
    · rw [getD_set_ne false e]
      have := unl_set hs hu m (by omega)
      omega
theorem unl_zero {listed : Array Bool} : ∀ m, unl listed m = 0 → ∀ i, i < m → listed.getD i false = true
  | 0, _, i, h => by omega
  | m + 1, h, i, hi => by
    unfold unl at h
    by_cases e : i = m
    · subst e
      cases hl : listed.getD i false with
      | true => rfl
      | false => rw [hl] at h; simp at h
    · exact unl_zero m (by omega) i (by omega)
theorem unl_pos {listed : Array Bool} : ∀ m, 0 < unl listed m → ∃ i, i < m ∧ listed.getD i false = false ∧ ∀ j, j < i → listed.getD j false = true
  | 0, h => by simp [unl] at h
  | m + 1, h => by
    by_cases h0 : 0 < unl listed m
    · obtain ⟨i, hi, h1, h2⟩ := unl_pos m h0
      exact ⟨i, by omega, h1, h2⟩
    · have hz : unl listed m = 0 := by omega
      refine ⟨m, by omega, ?_, fun j hj => unl_zero m hz j hj⟩
      unfold unl at h
      cases hl : listed.getD m false with
      | false => rfl
      | true => rw [hz, hl] at h; simp at h

/-- One head operation, in whatever state it comes up. -/
def OpHolds (P : Program) (md : Region.Mode) (ops : Array Oper) (n : Nat) (Q : Exit → Act → World → Prop) (Φ : Nat → Value → World → Prop) (a0 : Act) (W : World) (i : Nat) (o : Oper) : Prop :=
  ∀ (a : Act) (w : World), Below W.heap.size W w → a.tmps.size = a0.tmps.size →
    (∀ k, (∀ j oj, j < n → ops[j]? = some oj → oj.dst ≠ some k) → a.tmps.getD k undef = a0.tmps.getD k undef) →
    (∀ j oj dj, j < n → ops[j]? = some oj → oj.dst = some dj → Region.waitsFor md ops i j = true → Φ j (a.tmps.getD dj undef) w) →
    o.wp P a w (fun a' w' => ∃ v, a' = a.put o.dst v ∧ Below w.heap.size w w' ∧ Φ i v w') Q

theorem waits_told {i j : Nat} {o : Oper} {listed : Array Bool} (ho : ops[i]? = some o) (hw : Region.waitsFor md ops i j = true) (hr : i ∈ Region.ready md ops listed) : listed.getD j false = true := by
  obtain ⟨oj, hoj, e, he, hb, hon⟩ := Region.waitsFor_spec hw
  obtain ⟨_, o', ho', hall⟩ := mem_ready.1 hr
  have : oj = o' := Option.some.inj (hoj.symm.trans ho')
  subst this
  have := hall e he hb
  rwa [hon] at this

theorem head_any {Φ : Nat → Value → World → Prop} {a0 : Act} {W : World} {g : Nat} (hB : headB md ops n = true) (hn : n ≤ ops.size)
    (hst : ∀ j v w w', Below w.heap.size w w' → Φ j v w → Φ j v w')
    (hdst : ∀ i o d, i < n → ops[i]? = some o → o.dst = some d → d < a0.tmps.size)
    (hwait : ∀ listed, HeadInv md ops n listed → (∃ i, i < n ∧ listed.getD i true = false) → ∀ t, n ≤ t → t ∉ Region.ready md ops listed)
    (hop : ∀ i o, i < n → ops[i]? = some o → OpHolds P md ops n Q Φ a0 W i o)
    (hend : ∀ listed a w, HeadInv md ops n listed → (∀ i, i < n → listed.getD i false = true) → InvAt ops n Φ a0 W listed a w → wpAny P md ops Q g listed a w) :
    ∀ (f : Nat) (listed : Array Bool) (a : Act) (w : World), HeadInv md ops n listed → unl listed n = f → InvAt ops n Φ a0 W listed a w → wpAny P md ops Q (f + g) listed a w
  | 0, listed, a, w, inv, hu, hI => by rw [Nat.zero_add]; exact hend listed a w inv (unl_zero n hu) hI
  | f + 1, listed, a, w, inv, hu, hI => by
    rw [show f + 1 + g = (f + g) + 1 by omega]
    obtain ⟨i0, hi0, hun0, hall0⟩ := unl_pos (listed := listed) n (by omega)
    have hls : listed.size = ops.size := inv.size
    have hr0 : i0 ∈ Region.ready md ops listed := by
      obtain ⟨o, d, ho, _⟩ := headB_spec hB i0 hi0
      exact mem_ready.2 ⟨getD_in (by omega) hun0, o, ho.at_, fun e he _ => hall0 _ (ho.back e he)⟩
    refine ⟨fun h => absurd hr0 (by rw [h]; simp), fun i hi => ?_⟩
    have hin : i < n := by
      rcases Nat.lt_or_ge i n with h | h
      · exact h
      · exact absurd hi (hwait listed inv ⟨i0, hi0, getD_in (by omega) hun0⟩ i h)
    obtain ⟨o, d, ho, _⟩ := headB_spec hB i hin
    have hisz : i < ops.size := by omega
    have hun := (mem_ready.1 hi).1
    have hop' := hop i o hin ho.at_ a w hI.grown hI.size (fun k hk => hI.kept k fun j oj hj hoj _ => hk j oj hj hoj) (fun j oj dj hj hoj hdj hw => hI.told j oj dj hj hoj hdj (waits_told ho.at_ hw hi))
    unfold wpOp
    simp only [ho.at_]
    have hwant : Region.wanted o (yielded ops a.tmps) = true := by simp [Region.wanted, ho.guard]
    rw [if_pos hwant]
    refine .inl (Oper.wp_mono ?_ hop')
    rintro a' w' ⟨v, rfl, hb, hv⟩
    refine head_any hB hn hst hdst hwait hop hend f _ _ _ (inv.set hi hin) ?_ (hI.step hB hst hin ho.at_ ho.dst (hdst i o d hin ho.at_ ho.dst) (by rw [hls]; exact hisz) hb hv)
    have := unl_set (show i < listed.size by rw [hls]; exact hisz) (getD_both hun) n hin
    omega

/-! ### the frame at the head's end -/
theorem putAll_size : ∀ (l : List Oper) (u : Nat → Value) (i : Nat) (a : Act), (putAll l u i a).tmps.size = a.tmps.size ∧ (putAll l u i a).defers = a.defers
  | [], _, _, _ => ⟨rfl, rfl⟩
  | o :: l, u, i, a => by
    obtain ⟨h1, h2⟩ := putAll_size l u (i + 1) (a.put o.dst (u i))
    rw [putAll, h1, h2]
    cases o.dst <;> simp [Act.put]
theorem putAll_out : ∀ (l : List Oper) (u : Nat → Value) (i : Nat) (a : Act) (k : Tmp), (∀ o ∈ l, o.dst ≠ some k) → (putAll l u i a).tmps.getD k undef = a.tmps.getD k undef
  | [], _, _, _, _, _ => rfl
  | o :: l, u, i, a, k, h => by
    rw [putAll, putAll_out l u (i + 1) _ k (fun o' ho' => h o' (List.mem_cons_of_mem _ ho'))]
    have := h o (List.mem_cons_self ..)
    cases hd : o.dst with
    | none => rfl
    | some d => exact put_getD_ne (fun e => this (by rw [hd, e]))
theorem putAll_in : ∀ (l : List Oper) (u : Nat → Value) (i : Nat) (a : Act) (k : Tmp) (j : Nat) (o : Oper), l[j]? = some o → o.dst = some k → (∀ j' o', j < j' → l[j']? = some o' → o'.dst ≠ some k) → k < a.tmps.size →
    (putAll l u i a).tmps.getD k undef = u (i + j)
  | [], _, _, _, _, j, _, hj, _, _, _ => by simp at hj
  | o :: l, u, i, a, k, 0, o0, hj, hd, hl, hk => by
    obtain rfl : o = o0 := by simpa using hj
    rw [putAll, putAll_out l u (i + 1) _ k (fun o' ho' => ?_), hd, put_getD_same hk]
    · rfl
    · obtain ⟨m, hm⟩ := List.getElem?_of_mem ho'
      exact hl (m + 1) o' (by omega) (by simpa using hm)
  | o :: l, u, i, a, k, j + 1, o0, hj, hd, hl, hk => by
    rw [putAll, putAll_in l u (i + 1) _ k j o0 (by simpa using hj) hd (fun j' o' hlt ho' => hl (j' + 1) o' (by omega) (by simpa using ho')) (by cases o.dst <;> simp [Act.put, hk])]
    congr 1
    omega
theorem act_ext {a b : Act} (hd : a.defers = b.defers) (hs : a.tmps.size = b.tmps.size) (h : ∀ k, k < a.tmps.size → a.tmps.getD k undef = b.tmps.getD k undef) : a = b := by
  obtain ⟨ta, da⟩ := a
  obtain ⟨tb, db⟩ := b
  have : ta = tb := by
    refine Array.ext hs fun k h1 h2 => ?_
    have := h k h1
    simpa [Array.getD_eq_getD_getElem?, Array.getElem?_eq_getElem h1, Array.getElem?_eq_getElem h2] using this
  subst this
  simp only at hd
  subst hd
  rfl

/-- The tail comes up one after the other behind the whole head. -/
def tailB (md : Region.Mode) (ops : Array Oper) (n : Nat) : Bool :=
  decide (n ≤ ops.size) && (decide (n = ops.size) || (Region.sinkB md ops n && Region.chainB md ops n)) && Region.seqB md ops (ops.size - n) n ((Array.range ops.size).map fun i => decide (i < n))

theorem wp_region_inv {id : Nat} {a0 : Act} {w : World} {l : List Oper} (n : Nat) (Φ : Nat → Value → World → Prop) (hm : P.follows .mixedOrders = true) (hH : headB .any l.toArray n = true) (hT : tailB .any l.toArray n = true)
    (hd : (List.range n).all (fun i => match l.toArray[i]? with | some o => (match o.dst with | some d => decide (d < a0.tmps.size) | none => true) | none => true) = true)
    (hst : ∀ j v w w', Below w.heap.size w w' → Φ j v w → Φ j v w')
    (hop : ∀ i o, i < n → l.toArray[i]? = some o → OpHolds P .any l.toArray n Q Φ a0 w i o)
    (hrest : ∀ (u : Nat → Value) (w' : World), Below w.heap.size w w' → (∀ i, i < n → Φ i (u i) w') → wpList P l.toArray Q (l.drop n) (putAll (l.take n) u 0 a0) w') :
    (Code.region id l.toArray true).wp P Q a0 w := by
  simp only [tailB, Bool.and_eq_true, decide_eq_true_eq, Bool.or_eq_true] at hT
  obtain ⟨⟨hn, hsc⟩, hseq⟩ := hT
  have hdst : ∀ i o d, i < n → l.toArray[i]? = some o → o.dst = some d → d < a0.tmps.size := by
    intro i o d hi ho hod
    have h1 := List.all_eq_true.1 hd i (List.mem_range.2 hi)
    rw [ho] at h1
    simp only [hod, decide_eq_true_eq] at h1
    exact h1
  refine wp_region_any hm ?_
  have inv0 : HeadInv .any l.toArray n (Array.replicate l.toArray.size false) :=
    ⟨by simp, fun j oj _ hl => (by rw [getD_replicate_false] at hl; cases hl), fun t _ ht => getD_in (by simpa using ht) (getD_replicate_false _ _)⟩
  have hunl : ∀ m, unl (Array.replicate l.toArray.size false) m = m := by
    intro m
    induction m with
    | zero => rfl
    | succ m ih => rw [unl, ih, getD_replicate_false]; rfl
  have hwait : ∀ listed, HeadInv .any l.toArray n listed → (∃ i, i < n ∧ listed.getD i true = false) → ∀ t, n ≤ t → t ∉ Region.ready .any l.toArray listed := by
    intro listed inv ⟨i, hi, hun⟩ t ht hr
    rcases hsc with hsc | ⟨hs, hc⟩
    · obtain ⟨_, o, ho, _⟩ := mem_ready.1 hr
      have := (Array.getElem?_eq_some_iff.1 ho).1
      omega
    · have hlt : n < l.toArray.size := by
        obtain ⟨_, o, ho, _⟩ := mem_ready.1 hr
        have := (Array.getElem?_eq_some_iff.1 ho).1
        omega
      exact tail_waits hs hc hlt inv _ i rfl hi hun t ht hr
  have hW : Below w.heap.size w { w with drawn := w.drawn + 1 } := ⟨rfl, rfl, rfl, Nat.le_refl _, fun _ _ => rfl⟩
  have H := head_any (P := P) (Q := Q) (md := .any) (ops := l.toArray) (n := n) (Φ := Φ) (a0 := a0) (W := w) (g := l.toArray.size - n) hH hn hst hdst hwait hop ?_ n (Array.replicate l.toArray.size false) a0 { w with drawn := w.drawn + 1 } inv0 (hunl n)
    ⟨hW, rfl, rfl, fun i o d _ _ _ hl => (by rw [getD_replicate_false] at hl; cases hl), fun _ _ => rfl⟩
  · rwa [show n + (l.toArray.size - n) = l.toArray.size by omega] at H
  · intro listed a w' inv hall hI
    have hls : listed = (Array.range l.toArray.size).map fun i => decide (i < n) := by
      refine Array.ext (by simp [inv.size]) fun k h1 h2 => ?_
      simp only [Array.getElem_map, Array.getElem_range]
      by_cases hk : k < n
      · have := hall k hk
        simp [h1] at this
        simp [hk, this]
      · have := inv.tail k (by omega) (by rw [← inv.size]; exact h1)
        simp [h1] at this
        simp [hk, this]
    let u : Nat → Value := fun i => match l.toArray[i]? with | some o => (match o.dst with | some d => a.tmps.getD d undef | none => undef) | none => undef
    have hu : ∀ i o d, l.toArray[i]? = some o → o.dst = some d → u i = a.tmps.getD d undef := by
      intro i o d ho hod
      simp only [u, ho, hod]
    have ha : a = putAll (l.take n) u 0 a0 := by
      obtain ⟨s1, s2⟩ := putAll_size (l.take n) u 0 a0
      refine act_ext (by rw [s2, hI.defers]) (by rw [s1, hI.size]) fun k hk => ?_
      by_cases hex : ∃ i o, i < n ∧ l.toArray[i]? = some o ∧ o.dst = some k
      · obtain ⟨i, o, hi, ho, hok⟩ := hex
        have hil : (l.take n)[i]? = some o := by
          rw [List.getElem?_take, if_pos hi]
          simpa using ho
        rw [putAll_in (l.take n) u 0 a0 k i o hil hok (fun j' o' hlt ho' hd' => ?_) (by rw [← hI.size]; exact hk), Nat.zero_add, hu i o k ho hok]
        rw [List.getElem?_take] at ho'
        split at ho'
        · rename_i hj'
          have := head_inj hH hi hj' ho (by simpa using ho') hok hd'
          omega
        · cases ho'
      · rw [putAll_out (l.take n) u 0 a0 k (fun o ho hd' => ?_)]
        · refine hI.kept k fun i o hi ho _ hd' => hex ⟨i, o, hi, ho, hd'⟩
        · obtain ⟨i, hi⟩ := List.getElem?_of_mem ho
          rw [List.getElem?_take] at hi
          split at hi
          · rename_i hin
            exact hex ⟨i, o, hin, by simpa using hi, hd'⟩
          · cases hi
    have hr := hrest u w' hI.grown (fun i hi => ?_)
    · rw [← ha] at hr
      have := wpAny_of_seq (P := P) (md := .any) (ops := l.toArray) (Q' := Q) (l.drop n) n listed a w' (fun j => by simp [List.getElem?_drop]) (by rw [show (l.drop n).length = l.toArray.size - n by simp, hls]; exact hseq) hr
      rwa [show (l.drop n).length = l.toArray.size - n by simp] at this
    · obtain ⟨o, d, ho, _⟩ := headB_spec hH i hi
      rw [hu i o d ho.at_ ho.dst]
      exact hI.told i o d hi ho.at_ ho.dst (hall i hi)
end
end Go.Proofs.Ytiejegalokncgaa
