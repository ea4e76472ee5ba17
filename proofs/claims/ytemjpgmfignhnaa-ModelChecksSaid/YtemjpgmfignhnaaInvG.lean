/- A region that draws its order, by an invariant over what has come up: stores among them.
Conditions: none. -/
import Derived.Test.YtemjpgmfignhnaaCopyKit
namespace Go.Proofs.Ytemjpgmfignhnaa
open Go.RowKit Go.Proofs.YtemjpgmfignhnaaW.PrintWords Go.Proofs.YtemjpgmfignhnaaW.PrintLast Go.Proofs.YtemjpgmfignhnaaW.PrintMore
set_option linter.unusedVariables false
set_option linter.unusedSimpArgs false
section
variable {P : Program} {md : Region.Mode} {ops : Array Oper} {Q : Exit → Act → World → Prop}
/-- No guards; each waits for earlier ones alone; slots of their own. -/
def freeB (ops : Array Oper) : Bool :=
  (List.range ops.size).all fun i => match ops[i]? with
    | some o => o.guard.isNone && o.after.all (fun e => !Region.binds .any e || decide (e.on < i)) && (List.range i).all (fun j => match ops[j]? with | some o' => o.dst.isNone || o'.dst != o.dst | none => false)
    | none => false
theorem freeB_spec (h : freeB ops = true) (i : Nat) (o : Oper) (ho : ops[i]? = some o) : o.guard = none ∧ (∀ e ∈ o.after, Region.binds .any e = true → e.on < i) ∧ ∀ j o' d, j < i → ops[j]? = some o' → o.dst = some d → o'.dst ≠ some d := by
  have hi := (Array.getElem?_eq_some_iff.1 ho).1
  have h1 := List.all_eq_true.1 h i (List.mem_range.2 hi)
  rw [ho] at h1
  simp only [Bool.and_eq_true] at h1
  obtain ⟨⟨g, b⟩, ds⟩ := h1
  refine ⟨Option.isNone_iff_eq_none.1 g, fun e he hb => ?_, fun j o' d hj ho' hd => ?_⟩
  · have := Array.all_eq_true_iff_forall_mem.1 b e he
    rw [hb] at this
    simpa using this
  · have h2 := List.all_eq_true.1 ds j (List.mem_range.2 hj)
    rw [ho', hd] at h2
    simpa using h2
/-- What has come up is closed under the edges. -/
structure Open (md : Region.Mode) (ops : Array Oper) (listed : Array Bool) : Prop where
  size : listed.size = ops.size
  closed : ∀ j oj, ops[j]? = some oj → listed.getD j false = true → ∀ e ∈ oj.after, Region.binds md e = true → listed.getD e.on false = true
theorem Open.set {i : Nat} {listed : Array Bool} (inv : Open md ops listed) (hi : i ∈ Region.ready md ops listed) : Open md ops (listed.setIfInBounds i true) := by
  obtain ⟨_, oi, hoi, hall⟩ := mem_ready.1 hi
  refine ⟨by simp [inv.size], fun j oj hj hl e he hb => ?_⟩
  by_cases hij : i = j
  · subst hij
    have : oj = oi := Option.some.inj (hj.symm.trans hoi)
    subst this
    exact getD_set_true (hall e he hb)
  · rw [getD_set_ne false hij] at hl
    exact getD_set_true (inv.closed j oj hj hl e he hb)
/-- Who waits for one that has not come up has not come up. -/
theorem Open.later {i s : Nat} {listed : Array Bool} (inv : Open md ops listed) (hi : listed.getD i false = false) (hw : Region.waitsFor md ops s i = true) : listed.getD s false = false := by
  obtain ⟨os, hos, e, he, hb, hon⟩ := Region.waitsFor_spec hw
  cases hl : listed.getD s false with
  | false => rfl
  | true =>
    have := inv.closed s os hos hl e he hb
    rw [hon, hi] at this
    cases this
theorem any_J (hB : freeB ops = true) (J : Array Bool → Act → World → Prop)
    (hstep : ∀ listed a w i o, Open .any ops listed → J listed a w → i ∈ Region.ready .any ops listed → ops[i]? = some o → o.wp P a w (fun a' w' => J (listed.setIfInBounds i true) a' w') Q)
    (hend : ∀ listed a w, J listed a w → (∀ i, i < ops.size → listed.getD i false = true) → Q .normal a w) :
    ∀ (f : Nat) (listed : Array Bool) (a : Act) (w : World), Open .any ops listed → unl listed ops.size = f → J listed a w → wpAny P .any ops Q f listed a w
  | 0, listed, a, w, inv, hu, hJ => by
    have hall := unl_zero ops.size hu
    refine ⟨?_, hend listed a w hJ hall⟩
    rw [List.eq_nil_iff_forall_not_mem]
    intro i hi
    obtain ⟨h0, o, ho, _⟩ := mem_ready.1 hi
    have hlt := (Array.getElem?_eq_some_iff.1 ho).1
    have h1 := hall i hlt
    rw [getD_both h0] at h1
    cases h1
  | f + 1, listed, a, w, inv, hu, hJ => by
    obtain ⟨i0, hi0, hun0, hall0⟩ := unl_pos (listed := listed) ops.size (by omega)
    have hr0 : i0 ∈ Region.ready .any ops listed := by
      refine mem_ready.2 ⟨getD_in (by rw [inv.size]; exact hi0) hun0, ops[i0], Array.getElem?_eq_getElem hi0, fun e he hb => hall0 _ ?_⟩
      exact (freeB_spec hB i0 _ (Array.getElem?_eq_getElem hi0)).2.1 e he hb
    refine ⟨fun h => absurd hr0 (by rw [h]; simp), fun i hi => ?_⟩
    obtain ⟨hun, o, ho, _⟩ := mem_ready.1 hi
    have hlt := (Array.getElem?_eq_some_iff.1 ho).1
    have hw := hstep listed a w i o inv hJ hi ho
    unfold wpOp
    simp only [ho]
    have hwant : Region.wanted o (yielded ops a.tmps) = true := by simp [Region.wanted, (freeB_spec hB i o ho).1]
    rw [if_pos hwant]
    refine .inl (Oper.wp_mono (fun a' w' hJ' => ?_) hw)
    refine any_J hB J hstep hend f _ _ _ (inv.set hi) ?_ hJ'
    have := unl_set (show i < listed.size by rw [inv.size]; exact hlt) (getD_both hun) ops.size hlt
    omega
theorem wp_region_J {id : Nat} {a0 : Act} {w : World} {l : List Oper} (J : Array Bool → Act → World → Prop) (hm : P.follows .mixedOrders = true) (hB : freeB l.toArray = true)
    (h0 : J (Array.replicate l.toArray.size false) a0 { w with drawn := w.drawn + 1 })
    (hstep : ∀ listed a w i o, Open .any l.toArray listed → J listed a w → i ∈ Region.ready .any l.toArray listed → l.toArray[i]? = some o → o.wp P a w (fun a' w' => J (listed.setIfInBounds i true) a' w') Q)
    (hend : ∀ listed a w, J listed a w → (∀ i, i < l.toArray.size → listed.getD i false = true) → Q .normal a w) : (Code.region id l.toArray true).wp P Q a0 w := by
  refine wp_region_any hm ?_
  have hunl : ∀ m, unl (Array.replicate l.toArray.size false) m = m := by
    intro m
    induction m with
    | zero => rfl
    | succ m ih => rw [unl, ih, getD_replicate_false]; rfl
  exact any_J hB J hstep hend _ _ _ _ ⟨by simp, fun j oj _ hl => (by rw [getD_replicate_false] at hl; cases hl)⟩ (hunl _) h0

/-! ### frames told by what holds of their slots -/
variable {Φ : Nat → Value → World → Prop} {G : World → World → Prop} {V : Array Bool → Act → World → Prop} {a0 : Act} {W : World}
structure InvG (ops : Array Oper) (Φ : Nat → Value → World → Prop) (G : World → World → Prop) (V : Array Bool → Act → World → Prop) (a0 : Act) (W : World) (listed : Array Bool) (a : Act) (w : World) : Prop where
  grown : G W w
  defers : a.defers = a0.defers
  size : a.tmps.size = a0.tmps.size
  told : ∀ i o d, ops[i]? = some o → o.dst = some d → listed.getD i false = true → Φ i (a.tmps.getD d undef) w
  kept : ∀ k, (∀ i o, ops[i]? = some o → listed.getD i false = true → o.dst ≠ some k) → a.tmps.getD k undef = a0.tmps.getD k undef
  side : V listed a w
theorem free_inj (h : freeB ops = true) {i j : Nat} {oi oj : Oper} {d : Tmp} (ei : ops[i]? = some oi) (ej : ops[j]? = some oj) (di : oi.dst = some d) (dj : oj.dst = some d) : i = j := by
  rcases Nat.lt_trichotomy i j with hlt | he | hgt
  · exact absurd di ((freeB_spec h j oj ej).2.2 i oi d hlt ei dj)
  · exact he
  · exact absurd dj ((freeB_spec h i oi ei).2.2 j oj d hgt ej di)
theorem InvG.step {a : Act} {w w' : World} {listed : Array Bool} {i : Nat} {o : Oper} {v : Value} (hB : freeB ops = true) (htr : ∀ a b c, G a b → G b c → G a c)
    (hst : ∀ j v w w', G w w' → Φ j v w → Φ j v w') (h : InvG ops Φ G V a0 W listed a w) (ho : ops[i]? = some o) (hsz : ∀ d, o.dst = some d → d < a0.tmps.size) (hls : i < listed.size)
    (hb : G w w') (hv : ∀ d, o.dst = some d → Φ i v w') (hV : V (listed.setIfInBounds i true) (a.put o.dst v) w') : InvG ops Φ G V a0 W (listed.setIfInBounds i true) (a.put o.dst v) w' := by
  have hset : (listed.setIfInBounds i true).getD i false = true := by
    rw [Array.getD_eq_getD_getElem?, Array.getElem?_setIfInBounds_self_of_lt hls]
    rfl
  cases hd : o.dst with
  | none =>
    rw [hd] at hV
    refine ⟨htr _ _ _ h.grown hb, h.defers, h.size, fun j oj dj hoj hdj hl => ?_, fun k hk => h.kept k fun j oj hoj hl => hk j oj hoj ?_, hV⟩
    · by_cases e : i = j
      · subst e
        have : o = oj := Option.some.inj (ho.symm.trans hoj)
        subst this
        rw [hd] at hdj
        cases hdj
      · rw [getD_set_ne false e] at hl
        exact hst j _ _ _ hb (h.told j oj dj hoj hdj hl)
    · by_cases e : i = j
      · subst e; exact hset
      · rw [getD_set_ne false e]; exact hl
  | some d =>
    rw [hd] at hV
    refine ⟨htr _ _ _ h.grown hb, h.defers, by simp [Act.put, h.size], fun j oj dj hoj hdj hl => ?_, fun k hk => ?_, hV⟩
    · by_cases e : i = j
      · subst e
        have : o = oj := Option.some.inj (ho.symm.trans hoj)
        subst this
        have : d = dj := Option.some.inj (hd.symm.trans hdj)
        subst this
        rw [put_getD_same (by rw [h.size]; exact hsz d hd)]
        exact hv d hd
      · rw [getD_set_ne false e] at hl
        have hne : d ≠ dj := by
          rintro rfl
          exact e (free_inj hB ho hoj hd hdj)
        rw [put_getD_ne hne]
        exact hst j _ _ _ hb (h.told j oj dj hoj hdj hl)
    · have hdk : d ≠ k := by
        rintro rfl
        exact hk i o ho hset hd
      rw [put_getD_ne hdk]
      refine h.kept k fun j oj hoj hl => hk j oj hoj ?_
      by_cases e : i = j
      · subst e; exact hset
      · rw [getD_set_ne false e]; exact hl
/-- One operation, in whatever state it comes up: what it waits for has come up, and who waits for it has not. -/
def OpG (P : Program) (md : Region.Mode) (ops : Array Oper) (Q : Exit → Act → World → Prop) (Φ : Nat → Value → World → Prop) (G : World → World → Prop) (V : Array Bool → Act → World → Prop) (a0 : Act) (W : World) (i : Nat) (o : Oper) : Prop :=
  ∀ (listed : Array Bool) (a : Act) (w : World), InvG ops Φ G V a0 W listed a w → (∀ j, Region.waitsFor md ops i j = true → listed.getD j false = true) → (∀ s, s = i ∨ Region.waitsFor md ops s i = true → listed.getD s false = false) → i < listed.size →
    o.wp P a w (fun a' w' => ∃ v, a' = a.put o.dst v ∧ G w w' ∧ (∀ d, o.dst = some d → Φ i v w') ∧ V (listed.setIfInBounds i true) a' w') Q
theorem wp_region_G {id : Nat} {w : World} {l : List Oper} (Φ : Nat → Value → World → Prop) (G : World → World → Prop) (V : Array Bool → Act → World → Prop) (hm : P.follows .mixedOrders = true) (hB : freeB l.toArray = true)
    (hd : l.all (fun o => match o.dst with | some d => decide (d < a0.tmps.size) | none => true) = true)
    (htr : ∀ a b c, G a b → G b c → G a c) (hst : ∀ j v w w', G w w' → Φ j v w → Φ j v w')
    (hdraw : G w { w with drawn := w.drawn + 1 }) (hV0 : V (Array.replicate l.toArray.size false) a0 { w with drawn := w.drawn + 1 })
    (hop : ∀ i o, l.toArray[i]? = some o → OpG P .any l.toArray Q Φ G V a0 w i o)
    (hrest : ∀ (u : Nat → Value) (w' : World), G w w' → (∀ i o d, l[i]? = some o → o.dst = some d → Φ i (u i) w') → (∃ listed, (∀ i, i < l.toArray.size → listed.getD i false = true) ∧ V listed (putAll l u 0 a0) w') → Q .normal (putAll l u 0 a0) w') :
    (Code.region id l.toArray true).wp P Q a0 w := by
  refine wp_region_J (InvG l.toArray Φ G V a0 w) hm hB ⟨hdraw, rfl, rfl, fun i o d _ _ hl => (by rw [getD_replicate_false] at hl; cases hl), fun _ _ => rfl, hV0⟩ ?_ ?_
  · intro listed a w1 i o inv hI hr ho
    have hun := (mem_ready.1 hr).1
    have hlt := (Array.getElem?_eq_some_iff.1 ho).1
    have hls : i < listed.size := by rw [inv.size]; exact hlt
    refine Oper.wp_mono ?_ (hop i o ho listed a w1 hI (fun j hj => waits_told ho hj hr) (fun s hs => ?_) hls)
    · rintro a' w' ⟨v, rfl, hb, hv, hV⟩
      refine hI.step hB htr hst ho (fun d hdd => ?_) hls hb hv hV
      have h1 := List.all_eq_true.1 hd o (List.mem_of_getElem? (i := i) (by simpa using ho))
      rw [hdd] at h1
      simpa using h1
    · rcases hs with rfl | hs
      · exact getD_both hun
      · exact inv.later (getD_both hun) hs
  · intro listed a w' hI hall
    let u : Nat → Value := fun i => match l.toArray[i]? with | some o => (match o.dst with | some d => a.tmps.getD d undef | none => undef) | none => undef
    have hu : ∀ i o d, l.toArray[i]? = some o → o.dst = some d → u i = a.tmps.getD d undef := by
      intro i o d ho hod
      simp only [u, ho, hod]
    have ha : a = putAll l u 0 a0 := by
      obtain ⟨s1, s2⟩ := putAll_size l u 0 a0
      refine act_ext (by rw [s2, hI.defers]) (by rw [s1, hI.size]) fun k hk => ?_
      by_cases hex : ∃ (i : Nat) (o : Oper), l.toArray[i]? = some o ∧ o.dst = some k
      · obtain ⟨i, o, ho, hok⟩ := hex
        rw [putAll_in l u 0 a0 k i o (by simpa using ho) hok (fun j' o' hlt ho' hd' => ?_) (by rw [← hI.size]; exact hk), Nat.zero_add, hu i o k ho hok]
        have := free_inj hB ho (show l.toArray[j']? = some o' by simpa using ho') hok hd'
        omega
      · rw [putAll_out l u 0 a0 k (fun o ho hd' => ?_)]
        · exact hI.kept k fun i o ho _ hd' => hex ⟨i, o, ho, hd'⟩
        · obtain ⟨i, hi⟩ := List.getElem?_of_mem ho
          exact hex ⟨i, o, by simpa using hi, hd'⟩
    have hr := hrest u w' hI.grown (fun i o d ho hod => ?_) ⟨listed, hall, ha ▸ hI.side⟩
    · rwa [← ha] at hr
    · have ho' : l.toArray[i]? = some o := by simpa using ho
      rw [hu i o d ho' hod]
      exact hI.told i o d ho' hod (hall i (Array.getElem?_eq_some_iff.1 ho').1)
end
end Go.Proofs.Ytemjpgmfignhnaa
