/- A region that copies rows and stores them into the cells of one block, in whatever order.
Conditions: none. -/
import Derived.Test.YtemjpgmfignhnaaInvG
namespace Go.Proofs.Ytemjpgmfignhnaa
open Go.RowKit Go.Proofs.YtemjpgmfignhnaaW.PrintWords Go.Proofs.YtemjpgmfignhnaaW.PrintLast Go.Proofs.YtemjpgmfignhnaaW.PrintMore
set_option linter.unusedVariables false
set_option linter.unusedSimpArgs false
theorem kept_of {ops : Array Oper} {k : Tmp} (h : ops.all (fun o => o.dst != some k) = true) {listed : Array Bool} : ∀ j oj, ops[j]? = some oj → listed.getD j false = true → oj.dst ≠ some k := by
  intro j oj hoj _
  have := Array.all_eq_true_iff_forall_mem.1 h oj (Array.mem_of_getElem? hoj)
  simpa using this
/-- All blocks but bp are as they were. -/
structure KeepP (bp : Nat) (w w' : World) : Prop where
  os : w'.os = w.os
  tape : w'.tape = w.tape
  output : w'.output = w.output
  size : w.heap.size ≤ w'.heap.size
  block : ∀ k, k < w.heap.size → k ≠ bp → w'.heap[k]? = w.heap[k]?
theorem KeepP.trans {bp : Nat} {a b c : World} (h : KeepP bp a b) (k : KeepP bp b c) : KeepP bp a c :=
  ⟨k.os.trans h.os, k.tape.trans h.tape, k.output.trans h.output, Nat.le_trans h.size k.size, fun i hi hne => (k.block i (Nat.lt_of_lt_of_le hi h.size) hne).trans (h.block i hi hne)⟩
theorem KeepP.of_below {bp : Nat} {a b : World} (h : Below a.heap.size a b) : KeepP bp a b := ⟨h.os, h.tape, h.output, h.size, fun i hi _ => h.block i hi⟩
theorem KeepP.set {bp : Nat} {a : World} (j : Nat) (v : Value) : KeepP bp a (a.setCell ⟨bp, j, none⟩ v) := ⟨rfl, rfl, rfl, by simp [World.setCell], fun i hi hne => Below.heap_setCell a _ v i hne⟩
theorem KeepP.below {bp n : Nat} {a b : World} (h : KeepP bp a b) (hn : n ≤ bp) (hs : n ≤ a.heap.size) : Below n a b := ⟨h.os, h.tape, h.output, h.size, fun i hi => h.block i (by omega) (by omega)⟩
theorem KeepP.over {bp : Nat} {w W w1 : World} (h : KeepP bp W w1) (hb : Below w.heap.size w W) (hn : w.heap.size ≤ bp) : Below w.heap.size w w1 :=
  ⟨h.os.trans hb.os, h.tape.trans hb.tape, h.output.trans hb.output, Nat.le_trans hb.size h.size, fun i hi => (h.block i (Nat.lt_of_lt_of_le hi hb.size) (by omega)).trans (hb.block i hi)⟩
theorem KeepP.skip {bp bq : Nat} {a b c : World} (h : KeepP bp a b) (k : KeepP bq b c) (hq : a.heap.size ≤ bq) : KeepP bp a c :=
  ⟨k.os.trans h.os, k.tape.trans h.tape, k.output.trans h.output, Nat.le_trans h.size k.size, fun i hi hne => (k.block i (Nat.lt_of_lt_of_le hi h.size) (by omega)).trans (h.block i hi hne)⟩
theorem EmptyRow.keep {bp e base : Nat} {v : Value} {W W1 : World} (h : EmptyRow e base v W) (hk : KeepP bp W W1) (hb : bp < base) : EmptyRow e base v W1 := by
  obtain ⟨g, h1, h2, h3⟩ := h
  exact ⟨g, h1, h2, (hk.block g (blk_lt h3) (by omega)).trans h3⟩
theorem Copied.keep {α : Type} {d : Kd α} {xs : List α} {ok : Nat → Prop} {bp e base : Nat} {v : Value} {W W1 : World} (h : Copied d e base ok xs v W) (hk : KeepP bp W W1) (hb : bp < base) (hok : ∀ k, ok k → k ≠ bp) : Copied d e base ok xs v W1 := by
  obtain ⟨g, c, h1, h2, h3, h4⟩ := h
  exact ⟨g, c, h1, h2, h3, h4.step (hk.block g h4.lt (by omega)) (fun k ho hlt => hk.block k hlt (hok k ho))⟩
theorem getD_set_far {t : Array Value} {d k : Nat} {v : Value} (h : d ≠ k) : (t.setIfInBounds d v).getD k undef = t.getD k undef := by
  rw [Array.getD_eq_getD_getElem?, Array.getElem?_setIfInBounds_ne h, Array.getD_eq_getD_getElem?]
section
variable {P : Program} {Q : Exit → Act → World → Prop}
/-- What the block holds while stores (slot, slot of the value) come up: ce tells a store's cell. -/
def SideV (bp e : Nat) (cur0 : Array Value) (L : List (Nat × Nat)) (ce : Nat → Nat) (listed : Array Bool) (a : Act) (w : World) : Prop :=
  ∃ cur, w.heap[bp]? = some (.cells cur e (0, 0)) ∧ cur.size = cur0.size ∧ (∀ i, (∀ x ∈ L, ce x.1 ≠ i) → cur[i]? = cur0[i]?) ∧
    ∀ x ∈ L, cur[ce x.1]? = if listed.getD x.1 false then some (a.tmps.getD x.2 undef) else cur0[ce x.1]?
/-- The value's slot comes up ahead of its store. -/
def waitB (ops : Array Oper) (L : List (Nat × Nat)) : Bool :=
  L.all fun x => decide (x.1 < ops.size) && (List.range ops.size).all fun i => match ops[i]? with
    | some o => o.dst != some x.2 || Region.waitsFor .any ops x.1 i
    | none => true
theorem waitB_spec {ops : Array Oper} {L : List (Nat × Nat)} (h : waitB ops L = true) {x : Nat × Nat} (hx : x ∈ L) {i : Nat} {o : Oper} (ho : ops[i]? = some o) (hd : o.dst = some x.2) : Region.waitsFor .any ops x.1 i = true := by
  have h0 := List.all_eq_true.1 h x hx
  rw [Bool.and_eq_true] at h0
  have h1 := List.all_eq_true.1 h0.2 i (List.mem_range.2 (Array.getElem?_eq_some_iff.1 ho).1)
  simp only [ho] at h1
  simpa [hd] using h1
theorem waitB_lt {ops : Array Oper} {L : List (Nat × Nat)} (h : waitB ops L = true) {x : Nat × Nat} (hx : x ∈ L) : x.1 < ops.size := by
  have h0 := List.all_eq_true.1 h x hx
  rw [Bool.and_eq_true] at h0
  exact of_decide_eq_true h0.1
variable {bp e : Nat} {cur0 : Array Value} {L : List (Nat × Nat)} {ce : Nat → Nat} {Φ : Nat → Value → World → Prop} {a0 : Act} {W : World}
theorem SideV.cell {listed : Array Bool} {a : Act} {w : World} (h : SideV bp e cur0 L ce listed a w) (x : Nat × Nat) (hx : x ∈ L) (hl : listed.getD x.1 false = false) : w.cell? ⟨bp, ce x.1, none⟩ = cur0[ce x.1]? := by
  obtain ⟨cur, hc, _, _, h4⟩ := h
  rw [blk_cell hc, h4 x hx, hl]
  rfl
theorem SideV.other {listed : Array Bool} {a : Act} {w : World} (h : SideV bp e cur0 L ce listed a w) (i : Nat) (hi : ∀ x ∈ L, ce x.1 ≠ i) : w.cell? ⟨bp, i, none⟩ = cur0[i]? := by
  obtain ⟨cur, hc, _, h3, _⟩ := h
  rw [blk_cell hc, h3 i hi]
theorem SideV.frozen {listed : Array Bool} {a : Act} {w : World} (h : SideV bp e cur0 L ce listed a w) (i : Nat) : w.frozen? ⟨bp, i, none⟩ = false := by
  obtain ⟨cur, hc, _⟩ := h
  exact blk_frozen hc i
theorem SideV.lt {listed : Array Bool} {a : Act} {w : World} (h : SideV bp e cur0 L ce listed a w) : bp < w.heap.size := by
  obtain ⟨cur, hc, _⟩ := h
  exact blk_lt hc
theorem fold_get (f : Nat × Nat → Value) (ce : Nat → Nat) (i : Nat) : ∀ (L : List (Nat × Nat)) (c : Array Value), (∀ x ∈ L, ce x.1 ≠ i) → (L.foldl (fun c x => c.setIfInBounds (ce x.1) (f x)) c)[i]? = c[i]?
  | [], c, _ => rfl
  | x :: L, c, h => by
    rw [List.foldl_cons, fold_get f ce i L _ (fun y hy => h y (.tail _ hy)), Array.getElem?_setIfInBounds_ne (h x (.head _))]
theorem fold_same (ce : Nat → Nat) (f g : Nat × Nat → Value) : ∀ (L : List (Nat × Nat)) (c : Array Value), (∀ x ∈ L, f x = g x) → L.foldl (fun c x => c.setIfInBounds (ce x.1) (f x)) c = L.foldl (fun c x => c.setIfInBounds (ce x.1) (g x)) c
  | [], c, _ => rfl
  | x :: L, c, h => by
    rw [List.foldl_cons, List.foldl_cons, h x (.head _)]
    exact fold_same ce f g L _ (fun y hy => h y (.tail _ hy))
theorem fold_size (f : Nat × Nat → Value) (ce : Nat → Nat) : ∀ (L : List (Nat × Nat)) (c : Array Value), (L.foldl (fun c x => c.setIfInBounds (ce x.1) (f x)) c).size = c.size
  | [], c => rfl
  | x :: L, c => by rw [List.foldl_cons, fold_size f ce L, Array.size_setIfInBounds]
theorem fold_in (f : Nat × Nat → Value) (ce : Nat → Nat) : ∀ (L : List (Nat × Nat)) (c : Array Value) (x : Nat × Nat), x ∈ L → (∀ x ∈ L, ce x.1 < c.size) → (∀ x ∈ L, ∀ y ∈ L, ce x.1 = ce y.1 → x = y) → (L.foldl (fun c x => c.setIfInBounds (ce x.1) (f x)) c)[ce x.1]? = some (f x)
  | [], c, x, hx, _, _ => by cases hx
  | y :: L, c, x, hx, hin, hd => by
    rw [List.foldl_cons]
    by_cases hxL : x ∈ L
    · exact fold_in f ce L _ x hxL (fun z hz => by rw [Array.size_setIfInBounds]; exact hin z (.tail _ hz)) (fun z hz z' hz' => hd z (.tail _ hz) z' (.tail _ hz'))
    · have e : x = y := by
        rcases List.mem_cons.1 hx with h | h
        · exact h
        · exact absurd h hxL
      subst e
      rw [fold_get f ce _ L _ (fun z hz he => hxL (hd z (.tail _ hz) x (.head _) he ▸ hz)), Array.getElem?_setIfInBounds_self_of_lt (hin x (.head _))]
/-- What is told of a slot. -/
inductive Tell where
  | any
  | is (v : Value)
  | row (e base : Nat)
  | sat (p : Value → World → Prop)
def Tell.says (bp : Nat) : Tell → Value → World → Prop
  | .any, _, _ => True
  | .is x, v, _ => v = x
  | .row e base, v, w => EmptyRow e base v w ∧ bp < base
  | .sat p, v, w => p v w
def Tell.Keeps (bp : Nat) : Tell → Prop
  | .sat p => ∀ v w w', KeepP bp w w' → p v w → p v w'
  | _ => True
theorem Tell.keep {bp : Nat} {t : Tell} (h : t.Keeps bp) {v : Value} {w w' : World} (hk : KeepP bp w w') (hs : t.says bp v w) : t.says bp v w' := by
  cases t with
  | any => trivial
  | is x => exact hs
  | row e base => exact ⟨hs.1.keep hk hs.2, hs.2⟩
  | sat p => exact h v w w' hk hs
def tells (bp : Nat) (l : List Tell) (i : Nat) (v : Value) (w : World) : Prop := (l.getD i .any).says bp v w
theorem tells_keep {bp : Nat} {l : List Tell} (h : ∀ t ∈ l, t.Keeps bp) (j : Nat) (v : Value) (w w' : World) (hk : KeepP bp w w') (hs : tells bp l j v w) : tells bp l j v w' := by
  refine Tell.keep ?_ hk hs
  by_cases hj : j < l.length
  · rw [List.getD_eq_getElem?_getD, List.getElem?_eq_getElem hj]; exact h _ (List.getElem_mem hj)
  · rw [List.getD_eq_getElem?_getD, List.getElem?_eq_none (by omega)]; trivial
/-- The state in which an operation comes up. -/
structure AtS (ops : Array Oper) (Φ : Nat → Value → World → Prop) (bp e : Nat) (cur0 : Array Value) (L : List (Nat × Nat)) (ce : Nat → Nat) (base : List (Nat × Value)) (W : World) (listed : Array Bool) (a : Act) (w : World) : Prop where
  grown : KeepP bp W w
  told : ∀ i o d, ops[i]? = some o → o.dst = some d → listed.getD i false = true → Φ i (a.tmps.getD d undef) w
  base : ∀ x ∈ base, a.tmps.getD x.1 undef = x.2
  side : SideV bp e cur0 L ce listed a w
/-- What one operation owes: either a value and new blocks alone, or the store. -/
def OpS (P : Program) (ops : Array Oper) (Φ : Nat → Value → World → Prop) (bp e : Nat) (cur0 : Array Value) (L : List (Nat × Nat)) (ce : Nat → Nat) (base : List (Nat × Value)) (W : World) (i : Nat) (o : Oper) : Prop :=
  ∀ (Q : Exit → Act → World → Prop) (K : Act → World → Prop) (listed : Array Bool) (a : Act) (w : World), AtS ops Φ bp e cur0 L ce base W listed a w →
    (∀ j, Region.waitsFor .any ops i j = true → listed.getD j false = true) → (∀ s, s = i ∨ Region.waitsFor .any ops s i = true → listed.getD s false = false) →
    ((∀ x ∈ L, x.1 ≠ i) → ∀ v w', Below w.heap.size w w' → (∀ d, o.dst = some d → Φ i v w') → K (a.put o.dst v) w') →
    (∀ x ∈ L, x.1 = i → o.dst = none → K a (w.setCell ⟨bp, ce i, none⟩ (a.tmps.getD x.2 undef))) → o.wp P a w K Q
def freeOf (ops : Array Oper) (base : List (Nat × Value)) : Bool := base.all fun x => ops.all fun o => o.dst != some x.1
theorem wp_region_S {id : Nat} {w : World} {l : List Oper} (Φ : Nat → Value → World → Prop) (bp e : Nat) (cur0 : Array Value) (L : List (Nat × Nat)) (ce : Nat → Nat) (us : Nat → Nat) (base : List (Nat × Value)) (hm : P.follows .mixedOrders = true) (hB : freeB l.toArray = true)
    (hd : l.all (fun o => match o.dst with | some d => decide (d < a0.tmps.size) | none => true) = true) (hw : waitB l.toArray L = true) (hus : L.all (fun x => match l[us x.2]? with | some o => o.dst == some x.2 | none => false) = true)
    (hbp : w.heap[bp]? = some (.cells cur0 e (0, 0))) (hin : ∀ x ∈ L, ce x.1 < cur0.size) (hdi : ∀ x ∈ L, ∀ y ∈ L, ce x.1 = ce y.1 → x = y) (hdi' : ∀ x ∈ L, ∀ y ∈ L, x.1 = y.1 → x = y)
    (ks : List Nat) (hks : base.map Prod.fst = ks) (hbt : ks.all (fun k => l.toArray.all fun o => o.dst != some k) = true) (hbv : ∀ x ∈ base, a0.tmps.getD x.1 undef = x.2)
    (hst : ∀ j v w w', KeepP bp w w' → Φ j v w → Φ j v w')
    (hop : ∀ i o, l.toArray[i]? = some o → OpS P l.toArray Φ bp e cur0 L ce base w i o)
    (hrest : ∀ (u : Nat → Value) (w' : World), KeepP bp w w' → (∀ i o d, l[i]? = some o → o.dst = some d → Φ i (u i) w') →
      w'.heap[bp]? = some (.cells (L.foldl (fun c x => c.setIfInBounds (ce x.1) (u (us x.2))) cur0) e (0, 0)) → Q .normal (putAll l u 0 a0) w') :
    (Code.region id l.toArray true).wp P Q a0 w := by
  refine wp_region_G Φ (KeepP bp) (SideV bp e cur0 L ce) hm hB hd (fun _ _ _ => KeepP.trans) hst (KeepP.of_below ⟨rfl, rfl, rfl, Nat.le_refl _, fun _ _ => rfl⟩) ?_ ?_ ?_
  · refine ⟨cur0, hbp, rfl, fun _ _ => rfl, fun x _ => ?_⟩
    rw [getD_replicate_false]
    rfl
  · intro i o ho listed a w1 hI hdep hun hls
    refine hop i o ho Q _ listed a w1 ⟨hI.grown, hI.told, fun x hx => (hI.kept x.1 (kept_of (List.all_eq_true.1 hbt _ (hks ▸ List.mem_map.2 ⟨x, hx, rfl⟩)))).trans (hbv x hx), hI.side⟩ hdep hun ?_ ?_
    · intro hne v w' hb hv
      refine ⟨v, rfl, KeepP.of_below hb, hv, ?_⟩
      obtain ⟨cur, h1, h2, h3, h4⟩ := hI.side
      refine ⟨cur, (hb.block bp hI.side.lt).trans h1, h2, h3, fun x hx => ?_⟩
      rw [getD_set_ne false (fun h => hne x hx h.symm), h4 x hx]
      by_cases hl : listed.getD x.1 false = true
      · rw [if_pos hl, if_pos hl]
        cases hod : o.dst with
        | none => rfl
        | some d =>
          congr 1
          refine (put_getD_ne ?_).symm
          rintro rfl
          rw [hun x.1 (.inr (waitB_spec hw hx ho hod))] at hl
          cases hl
      · rw [if_neg hl, if_neg hl]
    · rintro x hx rfl hno
      refine ⟨undef, by rw [hno]; rfl, KeepP.set _ _, fun d h => (by rw [hno] at h; cases h), ?_⟩
      obtain ⟨cur, h1, h2, h3, h4⟩ := hI.side
      refine ⟨cur.setIfInBounds (ce x.1) (a.tmps.getD x.2 undef), blk_set h1 _ _, by rw [Array.size_setIfInBounds, h2], fun i hi => ?_, fun y hy => ?_⟩
      · rw [Array.getElem?_setIfInBounds_ne (hi x hx), h3 i hi]
      · by_cases hxy : x.1 = y.1
        · have : x = y := hdi' x hx y hy hxy
          subst this
          rw [Array.getElem?_setIfInBounds_self_of_lt (by rw [h2]; exact hin x hx), if_pos]
          rw [Array.getD_eq_getD_getElem?, Array.getElem?_setIfInBounds_self_of_lt hls]
          rfl
        · rw [Array.getElem?_setIfInBounds_ne (fun h => hxy (by rw [hdi x hx y hy h])), getD_set_ne false hxy]
          exact h4 y hy
  · intro u w1 hk hΦ ⟨listed, hall, cur, h1, h2, h3, h4⟩
    refine hrest u w1 hk hΦ ?_
    rw [h1]
    congr 2
    have hf : ∀ x ∈ L, u (us x.2) = (putAll l u 0 a0).tmps.getD x.2 undef := by
      intro x hx
      have h5 := List.all_eq_true.1 hus x hx
      cases ho : l[us x.2]? with
      | none => rw [ho] at h5; cases h5
      | some o =>
        rw [ho] at h5
        have hod : o.dst = some x.2 := by simpa using h5
        have hdd := List.all_eq_true.1 hd o (List.mem_of_getElem? ho)
        rw [hod] at hdd
        rw [putAll_in l u 0 a0 x.2 (us x.2) o ho hod (fun j' o' hlt ho' hd' => ?_) (by simpa using hdd), Nat.zero_add]
        have := free_inj hB (show l.toArray[us x.2]? = some o by simpa using ho) (show l.toArray[j']? = some o' by simpa using ho') hod hd'
        omega
    have hL := fold_same ce (fun x => u (us x.2)) (fun x => (putAll l u 0 a0).tmps.getD x.2 undef) L cur0 hf
    rw [hL]
    refine Array.ext_getElem? fun i => ?_
    by_cases hi : ∃ x ∈ L, ce x.1 = i
    · obtain ⟨x, hx, rfl⟩ := hi
      rw [fold_in (fun x => (putAll l u 0 a0).tmps.getD x.2 undef) ce L cur0 x hx hin hdi, h4 x hx, if_pos]
      exact hall x.1 (waitB_lt hw hx)
    · have hi' : ∀ x ∈ L, ce x.1 ≠ i := fun x hx h => hi ⟨x, hx, h⟩
      rw [fold_get (fun x => (putAll l u 0 a0).tmps.getD x.2 undef) ce i L cur0 hi', h3 i hi']
end
section
variable {α : Type} {d : Kd α} {e g : Nat} {W W1 : World} {ok ok' : Nat → Nat → Prop} {xs : List α}
/-- Block g holds the elements xs, each on blocks of its own ok. -/
def RowIx (d : Kd α) (e : Nat) (W : World) (ok : Nat → Nat → Prop) (g : Nat) (xs : List α) : Prop :=
  ∃ cur, W.heap[g]? = some (.cells cur e (0, 0)) ∧ xs.length * d.sz ≤ cur.size ∧ ∀ j x, xs[j]? = some x → Kd.FK d W (ok j) x ((cur.toList.drop (j * d.sz)).take d.sz)
theorem RowAt.ix {ok : Nat → Prop} (h : RowAt d e W ok g xs) : RowIx d e W (fun _ => ok) g xs := by
  obtain ⟨cur, inner, hc, ht, hr⟩ := h
  refine ⟨cur, hc, ?_, fun j x hj => ?_⟩
  · have h1 : (cur.toList.take (xs.length * d.sz)).length = xs.length * d.sz := by rw [ht]; exact hr.1
    have h2 : (cur.toList.take (xs.length * d.sz)).length ≤ cur.toList.length := List.length_take_le' _ _
    rw [h1, Array.length_toList] at h2
    exact h2
  · have := hr.2 j x hj
    rw [← ht] at this
    have hjl := (List.getElem?_eq_some_iff.1 hj).1
    have hm : j * d.sz + d.sz ≤ xs.length * d.sz := by rw [← Nat.succ_mul]; exact Nat.mul_le_mul_right _ hjl
    rwa [List.drop_take, List.take_take, Nat.min_eq_left (by omega)] at this
theorem RowIx.at_ {o : Nat → Prop} (h : RowIx d e W ok g xs) (ho : ∀ j k, j < xs.length → ok j k → o k) : RowAt d e W o g xs := by
  obtain ⟨cur, hc, hs, hr⟩ := h
  refine ⟨cur, cur.toList.take (xs.length * d.sz), hc, rfl, ?_, fun j x hj => ?_⟩
  · rw [List.length_take]
    have h2 : cur.toList.length = cur.size := Array.length_toList
    omega
  · have hjl := (List.getElem?_eq_some_iff.1 hj).1
    have hm : j * d.sz + d.sz ≤ xs.length * d.sz := by rw [← Nat.succ_mul]; exact Nat.mul_le_mul_right _ hjl
    rw [List.drop_take, List.take_take, Nat.min_eq_left (by omega)]
    exact Kd.FK_mono (hr j x hj) (fun k => ho j k hjl)
theorem RowAt.ne {β : Type} {d' : Kd β} {e' g' : Nat} {ok ok' : Nat → Prop} {ys : List β} (h : RowAt d e W ok g xs) (h' : RowAt d' e' W ok' g' ys) (he : e ≠ e') : g ≠ g' := by
  rintro rfl
  obtain ⟨cur, inner, hc, _⟩ := h
  obtain ⟨cur', inner', hc', _⟩ := h'
  rw [hc] at hc'
  simp only [Option.some.injEq, Obj.cells.injEq] at hc'
  exact he hc'.2.1
theorem RowIx.lt (h : RowIx d e W ok g xs) : g < W.heap.size := by
  obtain ⟨cur, hc, _⟩ := h
  exact blk_lt hc
theorem RowIx.mono (h : RowIx d e W ok g xs) (ho : ∀ j k, j < xs.length → ok j k → ok' j k) : RowIx d e W ok' g xs := by
  obtain ⟨cur, hc, hs, hr⟩ := h
  exact ⟨cur, hc, hs, fun j x hj => Kd.FK_mono (hr j x hj) (fun k => ho j k (List.getElem?_eq_some_iff.1 hj).1)⟩
theorem RowIx.step (h : RowIx d e W ok g xs) (hg : W1.heap[g]? = W.heap[g]?) (hm : ∀ j k, ok j k → k < W.heap.size → W1.heap[k]? = W.heap[k]?) : RowIx d e W1 ok g xs := by
  obtain ⟨cur, hc, hs, hr⟩ := h
  exact ⟨cur, hg.trans hc, hs, fun j x hj => Kd.FK_step (hr j x hj) (fun k => hm j k)⟩
theorem RowIx.reads (h : RowIx d e W ok g xs) (hn : xs.length ≤ 4611686018427387904) : d.C W (some ⟨g, 0, none⟩) xs.length xs :=
  (h.at_ (o := fun k => ∃ j, ok j k) (fun j k _ hk => ⟨j, hk⟩)).reads hn
/-- One element taken out, its cells written over, and put back. -/
theorem RowIx.lens (h : RowIx d e W ok g xs) (hg : ∀ m, ¬ ok m g) (j : Nat) (x : α) (hj : xs[j]? = some x) :
    ∃ cur cs, W.heap[g]? = some (.cells cur e (0, 0)) ∧ cs.length = d.sz ∧ Kd.FK d W (ok j) x cs ∧ j * d.sz + d.sz ≤ cur.size ∧ (∀ i u, cs[i]? = some u → cur[j * d.sz + i]? = some u) ∧
      ∀ W1 cur' cs' (o : Nat → Prop), W1.heap[g]? = some (.cells cur' e (0, 0)) → cur'.size = cur.size → (∀ m, (m < j * d.sz ∨ j * d.sz + d.sz ≤ m) → cur'[m]? = cur[m]?) → cs'.length = d.sz →
        (∀ i u, cs'[i]? = some u → cur'[j * d.sz + i]? = some u) → (∀ k, k ≠ g → k < W.heap.size → W1.heap[k]? = W.heap[k]?) → Kd.FK d W1 o x cs' → RowIx d e W1 (fun m => if m = j then o else ok m) g xs := by
  obtain ⟨cur, hc, hs, hr⟩ := h
  have hjl := (List.getElem?_eq_some_iff.1 hj).1
  have hm : j * d.sz + d.sz ≤ xs.length * d.sz := by rw [← Nat.succ_mul]; exact Nat.mul_le_mul_right _ hjl
  have hfk := hr j x hj
  refine ⟨cur, _, hc, d.K_len (Kd.FK_now hfk), hfk, by omega, fun i u hu => ?_, ?_⟩
  · rw [List.getElem?_take] at hu
    split at hu
    · rw [List.getElem?_drop] at hu
      simpa using hu
    · cases hu
  · intro W1 cur' cs' o h1 h2 h3 h4 h5 h6 h7
    refine ⟨cur', h1, by omega, fun m y hy => ?_⟩
    have hml := (List.getElem?_eq_some_iff.1 hy).1
    have hmm : m * d.sz + d.sz ≤ xs.length * d.sz := by rw [← Nat.succ_mul]; exact Nat.mul_le_mul_right _ hml
    by_cases e1 : m = j
    · subst e1
      simp only [if_pos]
      have : y = x := Option.some.inj (hy.symm.trans hj)
      subst this
      have : (cur'.toList.drop (m * d.sz)).take d.sz = cs' := by
        refine List.ext_getElem? fun i => ?_
        rw [List.getElem?_take, List.getElem?_drop]
        by_cases hi : i < d.sz
        · rw [if_pos hi]
          have := h5 i (cs'[i]'(by omega)) (List.getElem?_eq_getElem _)
          rw [List.getElem?_eq_getElem (show i < cs'.length by omega)]
          simpa using this
        · rw [if_neg hi, List.getElem?_eq_none (by omega)]
      rw [this]
      exact h7
    · simp only [if_neg e1]
      have : (cur'.toList.drop (m * d.sz)).take d.sz = (cur.toList.drop (m * d.sz)).take d.sz := by
        refine List.ext_getElem? fun i => ?_
        rw [List.getElem?_take, List.getElem?_drop, List.getElem?_take, List.getElem?_drop]
        by_cases hi : i < d.sz
        · rw [if_pos hi, if_pos hi]
          have := h3 (m * d.sz + i) (by
            rcases Nat.lt_or_gt_of_ne e1 with hlt | hgt
            · left
              have : m * d.sz + d.sz ≤ j * d.sz := by rw [← Nat.succ_mul]; exact Nat.mul_le_mul_right _ hlt
              omega
            · right
              have : j * d.sz + d.sz ≤ m * d.sz := by rw [← Nat.succ_mul]; exact Nat.mul_le_mul_right _ hgt
              omega)
          simpa using this
        · rw [if_neg hi, if_neg hi]
      rw [this]
      exact Kd.FK_step (hr m y hy) (fun k hk hlt => h6 k (by rintro rfl; exact hg m hk) hlt)
end
end Go.Proofs.Ytemjpgmfignhnaa
