/- Maps from ints.
Conditions: none. -/
import Derived.Test.YtiejegalokncgaaKit
import Derived.MapKept
namespace Go.Proofs.Ytiejegalokncgaa
open Go.MapKept (IsKey)
set_option linter.unusedVariables false
set_option linter.unusedSimpArgs false
/-- An entry of a map keyed by ints: its key, what it holds, its stamp. -/
structure IE (α : Type) where
  k : Int
  v : α
  born : Nat
def ieV {α : Type} (enc : α → Value) (e : IE α) : MapEntry := ⟨.int .i64 e.k, enc e.v, e.born⟩
structure IOk {α : Type} (D : List (IE α)) (clock : Nat) : Prop where
  lt : ∀ e ∈ D, e.born < clock
  borns : (D.map (·.born)).Nodup
  keys : (D.map (·.k)).Nodup
/-- Block b is a map from ints. -/
def IMapAt {α : Type} (enc : α → Value) (W : World) (b : Nat) (D : List (IE α)) : Prop :=
  ∃ clock, W.heap[b]? = some (.map (D.map (ieV enc)).toArray clock) ∧ IOk D clock
def getI {α : Type} (D : List (IE α)) (x : Int) : Option α := (D.find? (fun e => decide (e.k = x))).map (·.v)
def setI {α : Type} (D : List (IE α)) (x : Int) (v : α) : List (IE α) := D.map (fun e => if e.k = x then ⟨e.k, v, e.born⟩ else e)
def delI {α : Type} (D : List (IE α)) (x : Int) : List (IE α) := D.filter (fun e => decide (e.k ≠ x))
section
variable {α : Type} {enc : α → Value} {P : Program} {T kt et : TypeId} {W : World} {b : Nat} {D : List (IE α)}
theorem findNow_int (x : Int) : ∀ (D : List (IE α)) (i : Nat), (getI D x = none ∧ Instr.findNow (.int .i64) (.int .i64 x) (D.map (ieV enc)) i = some none) ∨ ∃ pre e post, D = pre ++ e :: post ∧ e.k = x ∧ (∀ a ∈ pre, a.k ≠ x) ∧ getI D x = some e.v ∧ Instr.findNow (.int .i64) (.int .i64 x) (D.map (ieV enc)) i = some (some (i + pre.length, enc e.v))
  | [], i => .inl ⟨rfl, rfl⟩
  | a :: D, i => by
    by_cases h : a.k = x
    · right
      refine ⟨[], a, D, rfl, h, by simp, by simp [getI, h], ?_⟩
      simp [Instr.findNow, Instr.sameNow, ieV, h]
    · rcases findNow_int x D (i + 1) with ⟨h1, h2⟩ | ⟨pre, e, post, h1, h2, h3, h4, h5⟩
      · left
        refine ⟨by simpa [getI, h] using h1, ?_⟩
        rw [List.map_cons, Instr.findNow]
        simp only [Instr.sameNow, ieV, if_true, beq_eq_false_iff_ne.2 (Ne.symm h)]
        exact h2
      · right
        refine ⟨a :: pre, e, post, by rw [h1]; rfl, h2, by simpa [h] using h3, by simpa [getI, h] using h4, ?_⟩
        have : i + (a :: pre).length = i + 1 + pre.length := by rw [List.length_cons]; omega
        rw [this]
        rw [List.map_cons, Instr.findNow]
        simp only [Instr.sameNow, ieV, if_true, beq_eq_false_iff_ne.2 (Ne.symm h)]
        exact h5
theorem IMapAt.keep (h : IMapAt enc W b D) {W' : World} (hb : W'.heap[b]? = W.heap[b]?) : IMapAt enc W' b D := by
  obtain ⟨clock, h1, h2⟩ := h
  exact ⟨clock, hb.trans h1, h2⟩
theorem IMapAt.lt (h : IMapAt enc W b D) : b < W.heap.size := by
  obtain ⟨clock, h1, h2⟩ := h
  exact (Array.getElem?_eq_some_iff.1 h1).1
theorem IMapAt.new (W : World) : IMapAt enc (W.alloc (.map #[] 0)) W.heap.size [] := ⟨0, (MapKept.heap_alloc W _).1, ⟨by simp, by simp, by simp⟩⟩
theorem isKeyI (x : Int) : IsKey (.int .i64) (.int .i64 x) := rfl
theorem IMapAt.lookup (hT : P.underlying T = some (.map kt et)) (hk : P.underlying kt = some (.int .i64)) {z : Value} (hz : ∀ w, (zeroValue et).run P w = .ok z w) (h : IMapAt enc W b D) (x : Int) (ok : Bool) :
    (Instr.lookup T (.map (some b)) (.int .i64 x) ok).run P W = .ok (match getI D x with | some v => if ok then .tuple #[enc v, .bool true] else enc v | none => if ok then .tuple #[z, .bool false] else z) W := by
  obtain ⟨clock, h1, h2⟩ := h
  simp only [Instr.lookup, Sem.run_bind, run_underlying hT, Result.andThen_ok, MapKept.run_getObj_map h1, Sem.run_pure, MapKept.run_checkKey hk (isKeyI x)]
  rcases findNow_int (enc := enc) x D 0 with ⟨h3, h4⟩ | ⟨pre, e, post, h3, h4, h5, h6, h7⟩
  · rw [MapKept.run_findKey hk (by simpa using h4), h3]
    simp [hz]
  · rw [MapKept.run_findKey hk (by simpa using h7), h6]
    simp
theorem getI_append {pre post : List (IE α)} {e : IE α} {x : Int} (h : ∀ a ∈ pre, a.k ≠ x) (he : e.k = x) : getI (pre ++ e :: post) x = some e.v := by
  unfold getI
  rw [List.find?_append, List.find?_eq_none.2 (fun a ha => by simpa using h a ha)]
  simp [he]
theorem setI_split {pre post : List (IE α)} {e : IE α} {x : Int} {v : α} (hk : ((pre ++ e :: post).map (·.k)).Nodup) (he : e.k = x) : setI (pre ++ e :: post) x v = pre ++ ⟨e.k, v, e.born⟩ :: post := by
  rw [List.map_append, List.map_cons, List.nodup_append] at hk
  obtain ⟨h1, h2, h3⟩ := hk
  obtain ⟨h4, h5⟩ := List.nodup_cons.1 h2
  unfold setI
  rw [List.map_append, List.map_cons, if_pos he]
  congr 1
  · conv => rhs; rw [← List.map_id pre]
    apply List.map_congr_left
    intro a ha
    rw [if_neg]
    · rfl
    · intro h
      exact h3 a.k (List.mem_map_of_mem ha) e.k (by simp) (by omega)
  · congr 1
    conv => rhs; rw [← List.map_id post]
    apply List.map_congr_left
    intro a ha
    rw [if_neg]
    · rfl
    · intro h
      exact h4 (List.mem_map.2 ⟨a, ha, by omega⟩)
theorem setI_ok {clock : Nat} (h : IOk D clock) (x : Int) (v : α) : IOk (setI D x v) clock := by
  obtain ⟨h1, h2, h3⟩ := h
  refine ⟨?_, ?_, ?_⟩
  · intro e he
    unfold setI at he
    obtain ⟨a, ha, rfl⟩ := List.mem_map.1 he
    split
    · exact h1 a ha
    · exact h1 a ha
  · unfold setI
    rw [List.map_map, show ((fun e : IE α => e.born) ∘ fun e : IE α => if e.k = x then (⟨e.k, v, e.born⟩ : IE α) else e) = (fun e => e.born) by funext e; simp only [Function.comp]; split <;> rfl]
    exact h2
  · unfold setI
    rw [List.map_map, show ((fun e : IE α => e.k) ∘ fun e : IE α => if e.k = x then (⟨e.k, v, e.born⟩ : IE α) else e) = (fun e => e.k) by funext e; simp only [Function.comp]; split <;> rfl]
    exact h3
theorem modify_split (pre post : List MapEntry) (e : MapEntry) (f : MapEntry → MapEntry) : (pre ++ e :: post).toArray.modify pre.length f = (pre ++ f e :: post).toArray := by
  apply Array.ext'
  rw [Array.toList_modify]
  induction pre with
  | nil => rfl
  | cons a pre ih => simpa [List.modify_succ_cons] using ih
theorem setI_len (D : List (IE α)) (x : Int) (v : α) : (setI D x v).length = D.length := by simp [setI]
theorem getI_set {x y : Int} {v : α} : getI (setI D x v) y = if y = x then (getI D x).map (fun _ => v) else getI D y := by
  unfold getI setI
  rw [List.find?_map]
  have e1 : ((fun e : IE α => decide (e.k = y)) ∘ fun e : IE α => if e.k = x then (⟨e.k, v, e.born⟩ : IE α) else e) = fun e => decide (e.k = y) := by
    funext e; simp only [Function.comp]; split <;> rfl
  rw [e1]
  by_cases h : y = x
  · subst h
    rw [if_pos rfl]
    cases hf : D.find? (fun e => decide (e.k = y)) with
    | none => rfl
    | some a =>
      have := List.find?_some hf
      simp at this
      simp [this]
  · rw [if_neg h]
    cases hf : D.find? (fun e => decide (e.k = y)) with
    | none => rfl
    | some a =>
      have := List.find?_some hf
      simp at this
      simp [show a.k ≠ x by omega]
theorem getI_del {x y : Int} : getI (delI D x) y = if y = x then none else getI D y := by
  unfold getI delI
  rw [List.find?_filter]
  by_cases h : y = x
  · subst h
    rw [if_pos rfl, List.find?_eq_none.2]
    · rfl
    · intro a _; simp
  · rw [if_neg h]
    congr 2
    funext a
    by_cases h2 : a.k = y
    · subst h2; simp [h]
    · simp [h2]
theorem getI_push {x y : Int} {v : α} {c : Nat} (h : getI D x = none) : getI (D ++ [⟨x, v, c⟩]) y = if y = x then some v else getI D y := by
  unfold getI at *
  rw [List.find?_append]
  by_cases h2 : y = x
  · subst h2
    rw [if_pos rfl]
    rw [Option.map_eq_none_iff] at h
    rw [h]
    simp
  · rw [if_neg h2]
    cases List.find? (fun e => decide (e.k = y)) D <;> simp [Ne.symm h2]
theorem getI_none {x : Int} : getI D x = none ↔ ∀ e ∈ D, e.k ≠ x := by
  unfold getI
  rw [Option.map_eq_none_iff, List.find?_eq_none]
  simp
/-- What a store into a map leaves. -/
theorem IMapAt.update (hT : P.underlying T = some (.map kt et)) (hk : P.underlying kt = some (.int .i64)) (h : IMapAt enc W b D) (x : Int) (v : α) :
    ∃ W' D', (Instr.mapUpdate T (.map (some b)) (.int .i64 x) (enc v)).run P W = .ok () W' ∧ IMapAt enc W' b D' ∧ (∀ y, getI D' y = if y = x then some v else getI D y) ∧ D'.length = (if (getI D x).isSome then D.length else D.length + 1) ∧ W'.heap.size = W.heap.size ∧ (∀ k, k ≠ b → W'.heap[k]? = W.heap[k]?) ∧ W'.os = W.os ∧ W'.tape = W.tape ∧ W'.output = W.output := by
  obtain ⟨clock, h1, h2⟩ := h
  have hb := (Array.getElem?_eq_some_iff.1 h1).1
  rcases findNow_int (enc := enc) x D 0 with ⟨h3, h4⟩ | ⟨pre, e, post, h3, h4, h5, h6, h7⟩
  · refine ⟨{ W with heap := W.heap.setIfInBounds b (.map ((D.map (ieV enc)).toArray.push (ieV enc ⟨x, v, clock⟩)) (clock + 1)) }, D ++ [⟨x, v, clock⟩], ?_, ⟨clock + 1, ?_, ?_⟩, fun y => getI_push h3, by simp [h3], by simp, fun k hkb => by simp [Array.getElem?_setIfInBounds_ne (Ne.symm hkb)], rfl, rfl, rfl⟩
    · simp only [Instr.mapUpdate, Sem.run_bind, run_underlying hT, Result.andThen_ok, MapKept.run_getObj_map h1, MapKept.run_checkKey hk (isKeyI x)]
      rw [MapKept.run_findKey hk (by simpa using h4)]
      simp only [Result.andThen_ok, MapKept.run_setObj_map _ h1]
      rfl
    · rw [Array.getElem?_setIfInBounds_self_of_lt hb]
      simp [List.push_toArray]
    · refine ⟨?_, ?_, ?_⟩
      · intro a ha
        rcases List.mem_append.1 ha with ha | ha
        · exact Nat.lt_succ_of_lt (h2.lt a ha)
        · simp at ha; subst ha; exact Nat.lt_succ_self _
      · rw [List.map_append, List.nodup_append]
        refine ⟨h2.borns, by simp, ?_⟩
        intro a ha c hc
        simp at hc
        subst hc
        obtain ⟨z, hz, rfl⟩ := List.mem_map.1 ha
        exact Nat.ne_of_lt (h2.lt z hz)
      · rw [List.map_append, List.nodup_append]
        refine ⟨h2.keys, by simp, ?_⟩
        intro a ha c hc
        simp at hc
        subst hc
        obtain ⟨z, hz, rfl⟩ := List.mem_map.1 ha
        exact getI_none.1 h3 z hz
  · refine ⟨{ W with heap := W.heap.setIfInBounds b (.map ((setI D x v).map (ieV enc)).toArray clock) }, setI D x v, ?_, ⟨clock, ?_, setI_ok h2 x v⟩, fun y => ?_, by rw [setI_len, h6]; rfl, by simp, fun k hkb => by simp [Array.getElem?_setIfInBounds_ne (Ne.symm hkb)], rfl, rfl, rfl⟩
    · simp only [Instr.mapUpdate, Sem.run_bind, run_underlying hT, Result.andThen_ok, MapKept.run_getObj_map h1, MapKept.run_checkKey hk (isKeyI x)]
      rw [MapKept.run_findKey hk (by simpa using h7)]
      have hi : ((D.map (ieV enc)).toArray[pre.length]?) = some (ieV enc e) := by simp [h3]
      simp only [Result.andThen_ok]
      rw [hi]
      simp only [Option.map_some, Option.getD_some]
      rw [show (ieV enc e).key = .int .i64 x by rw [← h4]; rfl]
      simp only [Sem.run_bind, MapKept.run_keyThatStays (isKeyI x), Result.andThen_ok, MapKept.run_setObj_map _ h1]
      subst h3
      rw [setI_split h2.keys h4]
      simp only [List.map_append, List.map_cons]
      rw [show pre.length = (pre.map (ieV enc)).length by simp, modify_split]
      simp [ieV, h4]
    · rw [Array.getElem?_setIfInBounds_self_of_lt hb]
    · rw [getI_set]
      split
      · rw [h6]; rfl
      · rfl
/-- The stamp of the entry at x. -/
def StampI (D : List (IE α)) (x : Int) (s : Nat) : Prop := ∃ e ∈ D, e.k = x ∧ e.born = s
theorem StampI.set {x y : Int} {s : Nat} (h : StampI D x s) (v : α) : StampI (setI D y v) x s := by
  obtain ⟨e, h1, h2, h3⟩ := h
  exact ⟨if e.k = y then ⟨e.k, v, e.born⟩ else e, List.mem_map_of_mem h1, by split <;> exact h2, by split <;> exact h3⟩
/-- The entry of a key that is there: nothing is written. -/
theorem IMapAt.entry (hT : P.underlying T = some (.map kt et)) (hk : P.underlying kt = some (.int .i64)) (h : IMapAt enc W b D) {x : Int} {v : α} (hx : getI D x = some v) :
    ∃ s, StampI D x s ∧ (Instr.mapEntry T (.map (some b)) (.int .i64 x)).run P W = .ok (.tuple #[enc v, goInt s]) W := by
  obtain ⟨clock, h1, h2⟩ := h
  have hb := (Array.getElem?_eq_some_iff.1 h1).1
  rcases findNow_int (enc := enc) x D 0 with ⟨h3, h4⟩ | ⟨pre, e, post, h3, h4, h5, h6, h7⟩
  · rw [h3] at hx; cases hx
  · obtain rfl := Option.some.inj (h6.symm.trans hx)
    refine ⟨e.born, ⟨e, by rw [h3]; simp, h4, rfl⟩, ?_⟩
    simp only [Instr.mapEntry, Sem.run_bind, run_underlying hT, Result.andThen_ok, MapKept.run_getObj_map h1, MapKept.run_checkKey hk (isKeyI x)]
    rw [MapKept.run_findKey hk (by simpa using h7)]
    have hi : ((D.map (ieV enc)).toArray[pre.length]?) = some (ieV enc e) := by simp [h3]
    simp only [Result.andThen_ok]
    rw [hi]
    simp only [Option.map_some, Option.getD_some]
    rw [show (ieV enc e).key = .int .i64 x by rw [← h4]; rfl]
    simp only [Sem.run_bind, MapKept.run_keyThatStays (isKeyI x), Result.andThen_ok, MapKept.run_setObj_map _ h1]
    have hm : (D.map (ieV enc)).toArray.modify pre.length (fun e => { e with key := .int .i64 x }) = (D.map (ieV enc)).toArray := by
      subst h3
      simp only [List.map_append, List.map_cons]
      rw [show pre.length = (pre.map (ieV enc)).length by simp, modify_split]
      simp [ieV, h4]
    rw [hm]
    have hs : W.heap.setIfInBounds b (.map (D.map (ieV enc)).toArray clock) = W.heap := by
      apply Array.ext_getElem?
      intro j
      by_cases hj : b = j
      · subst hj
        rw [Array.getElem?_setIfInBounds_self_of_lt hb, h1]
      · rw [Array.getElem?_setIfInBounds_ne hj]
    rw [hs]
    rfl
theorem IMapAt.store (h : IMapAt enc W b D) {x : Int} {s : Nat} (hs : StampI D x s) (v : α) :
    ∃ W', (Instr.entryStore T (.map (some b)) (goInt s) (enc v)).run P W = .ok () W' ∧ IMapAt enc W' b (setI D x v) ∧ W'.heap.size = W.heap.size ∧ (∀ k, k ≠ b → W'.heap[k]? = W.heap[k]?) ∧ W'.os = W.os ∧ W'.tape = W.tape ∧ W'.output = W.output := by
  obtain ⟨clock, h1, h2⟩ := h
  have hb := (Array.getElem?_eq_some_iff.1 h1).1
  obtain ⟨e, h3, h4, h5⟩ := hs
  obtain ⟨pre, post, h6⟩ := List.append_of_mem h3
  refine ⟨{ W with heap := W.heap.setIfInBounds b (.map ((setI D x v).map (ieV enc)).toArray clock) }, ?_, ⟨clock, ?_, setI_ok h2 x v⟩, by simp, fun k hkb => by simp [Array.getElem?_setIfInBounds_ne (Ne.symm hkb)], rfl, rfl, rfl⟩
  · have hf : (D.map (ieV enc)).toArray.findIdx? (fun e => (e.born : Int) == (s : Int)) = some pre.length := by
      subst h6
      have hn := h2.borns
      rw [List.map_append, List.map_cons, List.nodup_append] at hn
      simp only [List.findIdx?_toArray, List.map_append, List.map_cons, List.findIdx?_append]
      rw [List.findIdx?_eq_none_iff.2]
      · simp [List.findIdx?_cons, ieV, h5]
      · intro a ha
        obtain ⟨c, hc, rfl⟩ := List.mem_map.1 ha
        have := hn.2.2 c.born (List.mem_map_of_mem hc) e.born (by simp)
        simp only [ieV]
        rw [beq_eq_false_iff_ne]
        omega
    simp only [Instr.entryStore, Sem.run_bind, MapKept.run_getObj_map h1, Result.andThen_ok, Sem.run_pure]
    rw [show (asInt (goInt s)).run P W = .ok (s : Int) W from rfl]
    simp only [Result.andThen_ok, hf, MapKept.run_setObj_map _ h1]
    subst h6
    rw [setI_split h2.keys h4]
    simp only [List.map_append, List.map_cons]
    rw [show pre.length = (pre.map (ieV enc)).length by simp, modify_split]
    rfl
  · rw [Array.getElem?_setIfInBounds_self_of_lt hb]
theorem delI_split {pre post : List (IE α)} {e : IE α} {x : Int} (hk : ((pre ++ e :: post).map (·.k)).Nodup) (he : e.k = x) : delI (pre ++ e :: post) x = pre ++ post := by
  rw [List.map_append, List.map_cons, List.nodup_append] at hk
  obtain ⟨h1, h2, h3⟩ := hk
  obtain ⟨h4, h5⟩ := List.nodup_cons.1 h2
  unfold delI
  rw [List.filter_append, List.filter_cons_of_neg (by simp [he])]
  rw [List.filter_eq_self.2, List.filter_eq_self.2]
  · intro a ha
    simp only [decide_eq_true_eq]
    intro h
    exact h4 (List.mem_map.2 ⟨a, ha, by omega⟩)
  · intro a ha
    simp only [decide_eq_true_eq]
    intro h
    exact h3 a.k (List.mem_map_of_mem ha) e.k (by simp) (by omega)
theorem delI_none {x : Int} (h : getI D x = none) : delI D x = D := by
  unfold delI
  rw [List.filter_eq_self]
  intro a ha
  simpa using getI_none.1 h a ha
theorem IMapAt.del (hT : P.underlying T = some (.map kt et)) (hk : P.underlying kt = some (.int .i64)) (h : IMapAt enc W b D) (x : Int) (t2 ty : TypeId) :
    ∃ W', (Builtin.delete_ #[T, t2] ty #[.map (some b), .int .i64 x]).run P W = .ok (.tuple #[]) W' ∧ IMapAt enc W' b (delI D x) ∧ W'.heap.size = W.heap.size ∧ (∀ k, k ≠ b → W'.heap[k]? = W.heap[k]?) ∧ W'.os = W.os ∧ W'.tape = W.tape ∧ W'.output = W.output := by
  obtain ⟨clock, h1, h2⟩ := h
  have hb := (Array.getElem?_eq_some_iff.1 h1).1
  have hd : IOk (delI D x) clock := by
    refine ⟨fun e he => h2.lt e (List.mem_filter.1 he).1, ?_, ?_⟩
    · exact (List.filter_sublist.map _).nodup h2.borns
    · exact (List.filter_sublist.map _).nodup h2.keys
  refine ⟨{ W with heap := W.heap.setIfInBounds b (.map ((delI D x).map (ieV enc)).toArray clock) }, ?_, ⟨clock, ?_, hd⟩, by simp, fun k hkb => by simp [Array.getElem?_setIfInBounds_ne (Ne.symm hkb)], rfl, rfl, rfl⟩
  · simp only [Builtin.delete_, List.getElem?_toArray, List.getElem?_cons_zero, List.getElem?_cons_succ, Sem.run_bind, run_underlying hT, Result.andThen_ok, MapKept.run_getObj_map h1, MapKept.run_checkKey hk (isKeyI x)]
    rcases findNow_int (enc := enc) x D 0 with ⟨h3, h4⟩ | ⟨pre, e, post, h3, h4, h5, h6, h7⟩
    · rw [MapKept.run_findKey hk (by simpa using h4), delI_none h3]
      simp only [Result.andThen_ok, Sem.run_bind, MapKept.run_setObj_map _ h1]
      rfl
    · rw [MapKept.run_findKey hk (by simpa using h7)]
      simp only [Result.andThen_ok, Sem.run_bind, MapKept.run_setObj_map _ h1]
      subst h3
      rw [delI_split h2.keys h4]
      have he : ((pre ++ e :: post).map (ieV enc)).toArray.eraseIdxIfInBounds pre.length = ((pre ++ post).map (ieV enc)).toArray := by
        apply Array.ext'
        rw [Array.eraseIdxIfInBounds]
        rw [dif_pos (by simp)]
        simp [List.eraseIdx_append_of_length_le]
      rw [he]
      rfl
  · rw [Array.getElem?_setIfInBounds_self_of_lt hb]
end
end Go.Proofs.Ytiejegalokncgaa
