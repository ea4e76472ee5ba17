/- Words that the walks use: what stays as it was where memory has only grown, and a problem as it comes in.
Conditions: none. -/
import Derived.Test.YtemjpgmfignhnaaTy
import Derived.StillTail
import Derived.OrdersHeld
import Derived.ArgAppend
import Derived.Deep.Upon
import Derived.Deep.RegionHeld3
import Derived.Deep.CutRange
import Derived.Deep.RegionHeld
import Derived.WalkKit
import Derived.KernelRfl
namespace Go.Proofs.Ytemjpgmfignhnaa
open Go.RowKit Go.Proofs.YtemjpgmfignhnaaW.PrintWords Go.Proofs.YtemjpgmfignhnaaW.PrintLast Go.Proofs.YtemjpgmfignhnaaW.PrintMore
set_option linter.unusedVariables false
set_option linter.unusedSimpArgs false
theorem alloc_cell {w : World} {a : Addr} {v : Value} (h : w.cell? a = some v) (o : Obj) : (w.alloc o).cell? a = some v := pw_cell_below (below_alloc (Below.refl _ _) o) h
theorem bcell {W w1 : World} (hb : Below W.heap.size W w1) : (∀ b o, b < W.heap.size → w1.cell? ⟨b, o, none⟩ = W.cell? ⟨b, o, none⟩) ∧ (∀ b o, b < W.heap.size → w1.frozen? ⟨b, o, none⟩ = W.frozen? ⟨b, o, none⟩) :=
 ⟨fun b o h => hb.cell (p := ⟨b, o, none⟩) h, fun b o h => hb.frozen (p := ⟨b, o, none⟩) h⟩
theorem below_to {w W w1 : World} (h : Below w.heap.size w W) (hb : Below W.heap.size W w1) : Below w.heap.size w w1 := below_then h h.size hb

/-- A cell that stays. -/
theorem stays {w : World} {a : Addr} {v : Value} (h : w.cell? a = some v) : Aside0 (∀ W, Below w.heap.size w W → W.cell? a = some v) := ⟨fun _ hb => pw_cell_below hb h⟩
/-! ### A region that draws its order, whose callees may make memory -/
/-- What a cell of a later world holds, where the elder one held nothing. -/
def laterCell (w' : World) (a : Addr) : Option Value := w'.cell? a
theorem grow_cell {W w' : World} (h : Below W.heap.size W w') (a : Addr) : w'.cell? a = (W.cell? a).or (laterCell w' a) := by
 cases hc : W.cell? a with
 | none => rfl
 | some v => rw [pw_cell_below h hc]; rfl
/-- A world that W has grown into: any at all, by the choice of x. -/
noncomputable def growBy (W x : World) : World := by
 classical exact if Below W.heap.size W x then x else W
theorem growBy_of {W x : World} (h : Below W.heap.size W x) : growBy W x = x := by
 unfold growBy
 rw [if_pos h]
theorem growBy_below (W x : World) : Below W.heap.size W (growBy W x) := by
 unfold growBy
 split
 ·assumption
 ·exact Below.refl _ _
theorem cell_growBy (W x : World) (a : Addr) : (growBy W x).cell? a = (W.cell? a).or (laterCell (growBy W x) a) := grow_cell (growBy_below W x) a
theorem growBy_draw (w : World) : ∃ x, { w with drawn := w.drawn + 1 } = growBy w x := ⟨{ w with drawn := w.drawn + 1 }, (growBy_of (W := w) (x := { w with drawn := w.drawn + 1 }) ⟨rfl, rfl, rfl, Nat.le_refl _, fun _ _ => rfl⟩).symm⟩
theorem wp_region_grow {P : Program} {l : List Oper} {id : Nat} {Q : Exit → Act → World → Prop} {a : Act} {w : World} (hm : P.follows .mixedOrders = true) (hB : Region.lexB .any l.toArray = true)
  (h : wpQuiet P l.toArray (fun w' => ∃ x, w' = growBy w x) (fun a' => ∀ w', (∃ x, w' = growBy w x) → Q .normal a' w') l a) : (Code.region id l.toArray true).wp P Q a w :=
 wp_region_quiet (C := fun w' => ∃ x, w' = growBy w x) hm hB (growBy_draw w) (by simpa using h)
/-- A callee that only makes memory, met in a grown world. -/
theorem grow_of {P : Program} {f : FuncId} {args : Array Value} {W x : World} {v : Value}
  (h : Calls P f args (growBy W x) fun e w'' => e = .returned v ∧ Below (growBy W x).heap.size (growBy W x) w'') : Calls P f args (growBy W x) fun e w'' => e = .returned v ∧ ∃ x', w'' = growBy W x' :=
 h.mono fun _ w'' ⟨he, hb⟩ => ⟨he, w'', (growBy_of (below_to (growBy_below W x) hb)).symm⟩
/-! ### A row that lies in a block known whole -/
theorem C_block {α : Type} {d : Kd α} {W : World} {g t : Nat} {cs : Array Value} (h : W.heap[g]? = some (.cells cs t (0, 0))) (xs : List α) (hr : Reps (d.K W) d.sz xs cs.toList) (hn : xs.length ≤ 4611686018427387904) :
  d.C W (some ⟨g, 0, none⟩) xs.length xs := by
 refine ⟨rfl, by omega, fun _ => ⟨_, rfl, fun j p hj => ⟨(cs.toList.drop (j * d.sz)).take d.sz, ?_, hr.2 j p hj, fun i u hu => ?_⟩⟩⟩
 ·have hjl := (List.getElem?_eq_some_iff.1 hj).1
  have h1 : j * d.sz + d.sz ≤ cs.toList.length := by rw [hr.1, ← Nat.succ_mul]; exact Nat.mul_le_mul_right _ hjl
  rw [List.length_take, List.length_drop]
  omega
 ·rw [add_plain, blk_cell h]
  rw [List.getElem?_take] at hu
  split at hu
  ·rw [List.getElem?_drop] at hu
   simpa using hu
  ·cases hu
theorem C_one {α : Type} {d : Kd α} {W : World} {g t : Nat} {cs : List Value} (x : α) (h : W.heap[g]? = some (.cells cs.toArray t (0, 0))) (hk : d.K W x cs) : d.C W (some ⟨g, 0, none⟩) 1 [x] :=
 C_block h [x] ⟨by simp [d.K_len hk], fun j p hj => by
  cases j with
  | zero =>
   obtain rfl : x = p := by simpa using hj
   have : cs.take d.sz = cs := by rw [← d.K_len hk, List.take_length]
   simpa [this] using hk
  | succ j => simp at hj⟩ (by simp)
/-! ### A problem that comes in -/
/-- Where a problem's lists lie. -/
structure PV where
 a1 : Option Addr
 c1 : Nat
 a2 : Option Addr
 c2 : Nat
 a3 : Option Addr
 c3 : Nat
 a4 : Option Addr
 c4 : Nat
 a5 : Option Addr
 c5 : Nat
abbrev PV.val (q : PV) (p : TProblem) : Value := .agg #[.int .i64 p.Dims, .int .i64 p.Time.N, .slice q.a1 p.Time.Cells.length q.c1, .int .i64 p.Dist.N, .slice q.a2 p.Dist.Cells.length q.c2, .slice q.a3 p.Vehicles.length q.c3, .slice q.a4 p.Jobs.length q.c4, .slice q.a5 p.Shipments.length q.c5]
/-- It reads as p in w. -/
structure PV.Ok (q : PV) (p : TProblem) (w : World) : Prop where
 l1 : p.Time.Cells.length ≤ q.c1
 l2 : p.Dist.Cells.length ≤ q.c2
 l3 : p.Vehicles.length ≤ q.c3
 l4 : p.Jobs.length ≤ q.c4
 l5 : p.Shipments.length ≤ q.c5
 h1 : Kd.C (Kd.int .i64) w q.a1 p.Time.Cells.length p.Time.Cells
 h2 : Kd.C (Kd.int .i64) w q.a2 p.Dist.Cells.length p.Dist.Cells
 h3 : Kd.C kVehicle w q.a3 p.Vehicles.length p.Vehicles
 h4 : Kd.C kJob w q.a4 p.Jobs.length p.Jobs
 h5 : Kd.C kShipment w q.a5 p.Shipments.length p.Shipments
theorem PV.Ok.below {q : PV} {p : TProblem} {w w1 : World} (h : q.Ok p w) (hb : Below w.heap.size w w1) : q.Ok p w1 :=
 ⟨h.l1, h.l2, h.l3, h.l4, h.l5, Kd.C_below h.h1 hb, Kd.C_below h.h2 hb, Kd.C_below h.h3 hb, Kd.C_below h.h4 hb, Kd.C_below h.h5 hb⟩
/-- Its lists are no longer than memory allows. -/
structure Lens (p : TProblem) : Prop where
 n1 : p.Time.Cells.length ≤ 4611686018427387904
 n2 : p.Dist.Cells.length ≤ 4611686018427387904
 n3 : p.Vehicles.length ≤ 4611686018427387904
 n4 : p.Jobs.length ≤ 4611686018427387904
 n5 : p.Shipments.length ≤ 4611686018427387904
end Go.Proofs.Ytemjpgmfignhnaa
/- More words for the walks.
Conditions: none. -/
namespace Go.Proofs.Ytemjpgmfignhnaa
open Go.RowKit Go.Proofs.YtemjpgmfignhnaaW.PrintWords Go.Proofs.YtemjpgmfignhnaaW.PrintLast Go.Proofs.YtemjpgmfignhnaaW.PrintMore
set_option linter.unusedVariables false
theorem grow_end {W w' : World} (h : ∃ x, w' = growBy W x) : Below W.heap.size W w' := by
 obtain ⟨x, rfl⟩ := h
 exact growBy_below W x
end Go.Proofs.Ytemjpgmfignhnaa

/- A region that draws its order, by an invariant: its head (operations that make memory and whose values are told by what holds of them in every grown world) in any order, its tail one after the other.
Conditions: none. -/
namespace Go.Proofs.Ytemjpgmfignhnaa
open Go.RowKit Go.Proofs.YtemjpgmfignhnaaW.PrintWords Go.Proofs.YtemjpgmfignhnaaW.PrintLast Go.Proofs.YtemjpgmfignhnaaW.PrintMore
set_option linter.unusedVariables false
set_option linter.unusedSimpArgs false

section
variable {P : Program} {md : Region.Mode} {ops : Array Oper} {n : Nat} {Q : Exit → Act → World → Prop}

/-- The head's slots are filled in, in order. -/
def putAll : List Oper → (Nat → Value) → Nat → Act → Act
 | [], _, _, a => a
 | o :: l, u, i, a => putAll l u (i + 1) (a.put o.dst (u i))

/-- Each head operation has a slot of its own, no guard, and waits for earlier ones alone. -/
def headB (md : Region.Mode) (ops : Array Oper) (n : Nat) : Bool :=
 (List.range n).all fun i => match ops[i]? with
  | some o => o.guard.isNone && o.dst.isSome && o.after.all (fun e => decide (e.on < i)) && (List.range i).all (fun j => match ops[j]? with | some o' => o'.dst != o.dst | none => false)
  | none => false

structure HeadOp (ops : Array Oper) (i : Nat) (o : Oper) (d : Tmp) : Prop where
 at_ : ops[i]? = some o
 guard : o.guard = none
 dst : o.dst = some d
 back : ∀ e ∈ o.after, e.on < i

theorem headB_spec (h : headB md ops n = true) (i : Nat) (hi : i < n) : ∃ o d, HeadOp ops i o d ∧ ∀ j o', j < i → ops[j]? = some o' → o'.dst ≠ some d := by
 have h1 := List.all_eq_true.1 h i (List.mem_range.2 hi)
 cases ho : ops[i]? with
 | none => rw [ho] at h1; cases h1
 | some o =>
  rw [ho] at h1
  simp only [Bool.and_eq_true] at h1
  obtain ⟨⟨⟨g, d⟩, b⟩, ds⟩ := h1
  obtain ⟨t, ht⟩ := Option.isSome_iff_exists.1 d
  refine ⟨o, t, ⟨ho, Option.isNone_iff_eq_none.1 g, ht, fun e he => ?_⟩, fun j o' hj ho' => ?_⟩
  ·have := Array.all_eq_true_iff_forall_mem.1 b e he
   simpa using this
  ·have h2 := List.all_eq_true.1 ds j (List.mem_range.2 hj)
   rw [ho'] at h2
   simp only [bne_iff_ne, ne_eq] at h2
   rwa [ht] at h2

theorem head_inj (h : headB md ops n = true) {i j : Nat} (hi : i < n) (hj : j < n) {oi oj : Oper} {d : Tmp} (ei : ops[i]? = some oi) (ej : ops[j]? = some oj) (di : oi.dst = some d) (dj : oj.dst = some d) : i = j := by
 rcases Nat.lt_trichotomy i j with hlt | he | hgt
 ·obtain ⟨o, t, ho, hd⟩ := headB_spec h j hj
  have : o = oj := Option.some.inj (ho.at_.symm.trans ej)
  subst this
  have : t = d := Option.some.inj (ho.dst.symm.trans dj)
  subst this
  exact absurd di (hd i oi hlt ei)
 ·exact he
 ·obtain ⟨o, t, ho, hd⟩ := headB_spec h i hi
  have : o = oi := Option.some.inj (ho.at_.symm.trans ei)
  subst this
  have : t = d := Option.some.inj (ho.dst.symm.trans di)
  subst this
  exact absurd dj (hd j oj hgt ej)

/-- What has come up so far is told by Φ; all other slots are as they were. -/
structure InvAt (ops : Array Oper) (n : Nat) (Φ : Nat → Value → World → Prop) (a0 : Act) (W : World) (listed : Array Bool) (a : Act) (w : World) : Prop where
 grown : Below W.heap.size W w
 defers : a.defers = a0.defers
 size : a.tmps.size = a0.tmps.size
 told : ∀ i o d, i < n → ops[i]? = some o → o.dst = some d → listed.getD i false = true → Φ i (a.tmps.getD d undef) w
 kept : ∀ k, (∀ i o, i < n → ops[i]? = some o → listed.getD i false = true → o.dst ≠ some k) → a.tmps.getD k undef = a0.tmps.getD k undef

theorem put_getD_same {a : Act} {d : Tmp} {v : Value} (h : d < a.tmps.size) : (a.put (some d) v).tmps.getD d undef = v := by simp [Act.put, h]
theorem put_getD_ne {a : Act} {d k : Tmp} {v : Value} (h : d ≠ k) : (a.put (some d) v).tmps.getD k undef = a.tmps.getD k undef := by
 simp only [Act.put, Array.getD_eq_getD_getElem?, Array.getElem?_setIfInBounds_ne h]

/-- One more has come up. -/
theorem InvAt.step {Φ : Nat → Value → World → Prop} {a0 a : Act} {W w w' : World} {listed : Array Bool} {i : Nat} {o : Oper} {d : Tmp} {v : Value} (hB : headB md ops n = true)
  (hst : ∀ j v w w', Below w.heap.size w w' → Φ j v w → Φ j v w') (h : InvAt ops n Φ a0 W listed a w) (hi : i < n) (ho : ops[i]? = some o) (hd : o.dst = some d) (hsz : d < a0.tmps.size) (hls : i < listed.size)
  (hb : Below w.heap.size w w') (hv : Φ i v w') : InvAt ops n Φ a0 W (listed.setIfInBounds i true) (a.put o.dst v) w' := by
 refine ⟨below_to h.grown hb, by rw [hd]; exact h.defers, by rw [hd]; simp [Act.put, h.size], fun j oj dj hj hoj hdj hl => ?_, fun k hk => ?_⟩
 ·by_cases e : i = j
  ·subst e
   have : o = oj := Option.some.inj (ho.symm.trans hoj)
   subst this
   have : d = dj := Option.some.inj (hd.symm.trans hdj)
   subst this
   rw [hd, put_getD_same (by rw [h.size]; exact hsz)]
   exact hv
  ·rw [getD_set_ne false e] at hl
   have hne : d ≠ dj := by
    rintro rfl
    exact e (head_inj hB hi hj ho hoj hd hdj)
   rw [hd, put_getD_ne hne]
   exact hst j _ _ _ hb (h.told j oj dj hj hoj hdj hl)
 ·have hdk : d ≠ k := by
   rintro rfl
   refine hk i o hi ho ?_ hd
   rw [Array.getD_eq_getD_getElem?, Array.getElem?_setIfInBounds_self_of_lt hls]
   rfl
  rw [hd, put_getD_ne hdk]
  refine h.kept k fun j oj hj hoj hl => hk j oj hj hoj ?_
  by_cases e : i = j
  ·subst e
   rw [Array.getD_eq_getD_getElem?, Array.getElem?_setIfInBounds_self_of_lt hls]
   rfl
  ·rw [getD_set_ne false e]
   exact hl

/-- How many of the head have not come up. -/
def unl (listed : Array Bool) : Nat → Nat
 | 0 => 0
 | n + 1 => unl listed n + (if listed.getD n false = true then 0 else 1)
theorem unl_set_ge {listed : Array Bool} {i : Nat} : ∀ m, m ≤ i → unl (listed.setIfInBounds i true) m = unl listed m
 | 0, _ => rfl
 | m + 1, h => by
  unfold unl
  rw [unl_set_ge m (by omega), getD_set_ne false (show i ≠ m by omega)]
theorem unl_set {listed : Array Bool} {i : Nat} (hs : i < listed.size) (hu : listed.getD i false = false) : ∀ m, i < m → unl (listed.setIfInBounds i true) m + 1 = unl listed m
 | 0, h => by omega
 | m + 1, h => by
  unfold unl
  by_cases e : i = m
  ·subst e
   rw [unl_set_ge i (Nat.le_refl _), hu]
   have : (listed.setIfInBounds i true).getD i false = true := by
    rw [Array.getD_eq_getD_getElem?, Array.getElem?_setIfInBounds_self_of_lt hs]
    rfl
   rw [this]
   simp
  ·rw [getD_set_ne false e]
   have := unl_set hs hu m (by omega)
   omega
theorem unl_zero {listed : Array Bool} : ∀ m, unl listed m = 0 → ∀ i, i < m → listed.getD i false = true
 | 0, _, i, h => by omega
 | m + 1, h, i, hi => by
  unfold unl at h
  by_cases e : i = m
  ·subst e
   cases hl : listed.getD i false with
   | true => rfl
   | false => rw [hl] at h; simp at h
  ·exact unl_zero m (by omega) i (by omega)
theorem unl_pos {listed : Array Bool} : ∀ m, 0 < unl listed m → ∃ i, i < m ∧ listed.getD i false = false ∧ ∀ j, j < i → listed.getD j false = true
 | 0, h => by simp [unl] at h
 | m + 1, h => by
  by_cases h0 : 0 < unl listed m
  ·obtain ⟨i, hi, h1, h2⟩ := unl_pos m h0
   exact ⟨i, by omega, h1, h2⟩
  ·have hz : unl listed m = 0 := by omega
   refine ⟨m, by omega, ?_, fun j hj => unl_zero m hz j hj⟩
   unfold unl at h
   cases hl : listed.getD m false with
   | false => rfl
   | true => rw [hz, hl] at h; simp at h

theorem waits_told {i j : Nat} {o : Oper} {listed : Array Bool} (ho : ops[i]? = some o) (hw : Region.waitsFor md ops i j = true) (hr : i ∈ Region.ready md ops listed) : listed.getD j false = true := by
 obtain ⟨oj, hoj, e, he, hb, hon⟩ := Region.waitsFor_spec hw
 obtain ⟨_, o', ho', hall⟩ := mem_ready.1 hr
 have : oj = o' := Option.some.inj (hoj.symm.trans ho')
 subst this
 have := hall e he hb
 rwa [hon] at this

/-! ### the frame at the head's end -/
theorem putAll_size : ∀ (l : List Oper) (u : Nat → Value) (i : Nat) (a : Act), (putAll l u i a).tmps.size = a.tmps.size ∧ (putAll l u i a).defers = a.defers
 | [], _, _, _ => ⟨rfl, rfl⟩
 | o :: l, u, i, a => by
  obtain ⟨h1, h2⟩ := putAll_size l u (i + 1) (a.put o.dst (u i))
  rw [putAll, h1, h2]
  cases o.dst <;> simp [Act.put]
theorem putAll_out : ∀ (l : List Oper) (u : Nat → Value) (i : Nat) (a : Act) (k : Tmp), (∀ o ∈ l, o.dst ≠ some k) → (putAll l u i a).tmps.getD k undef = a.tmps.getD k undef
 | [], _, _, _, _, _ => rfl
 | o :: l, u, i, a, k, h => by
  rw [putAll, putAll_out l u (i + 1) _ k (fun o' ho' => h o' (List.mem_cons_of_mem _ ho'))]
  have := h o (List.mem_cons_self ..)
  cases hd : o.dst with
  | none => rfl
  | some d => exact put_getD_ne (fun e => this (by rw [hd, e]))
theorem putAll_in : ∀ (l : List Oper) (u : Nat → Value) (i : Nat) (a : Act) (k : Tmp) (j : Nat) (o : Oper), l[j]? = some o → o.dst = some k → (∀ j' o', j < j' → l[j']? = some o' → o'.dst ≠ some k) → k < a.tmps.size →
  (putAll l u i a).tmps.getD k undef = u (i + j)
 | [], _, _, _, _, j, _, hj, _, _, _ => by simp at hj
 | o :: l, u, i, a, k, 0, o0, hj, hd, hl, hk => by
  obtain rfl : o = o0 := by simpa using hj
  rw [putAll, putAll_out l u (i + 1) _ k (fun o' ho' => ?_), hd, put_getD_same hk]
  ·rfl
  ·obtain ⟨m, hm⟩ := List.getElem?_of_mem ho'
   exact hl (m + 1) o' (by omega) (by simpa using hm)
 | o :: l, u, i, a, k, j + 1, o0, hj, hd, hl, hk => by
  rw [putAll, putAll_in l u (i + 1) _ k j o0 (by simpa using hj) hd (fun j' o' hlt ho' => hl (j' + 1) o' (by omega) (by simpa using ho')) (by cases o.dst <;> simp [Act.put, hk])]
  congr 1
  omega
theorem act_ext {a b : Act} (hd : a.defers = b.defers) (hs : a.tmps.size = b.tmps.size) (h : ∀ k, k < a.tmps.size → a.tmps.getD k undef = b.tmps.getD k undef) : a = b := by
 obtain ⟨ta, da⟩ := a
 obtain ⟨tb, db⟩ := b
 have : ta = tb := by
  refine Array.ext hs fun k h1 h2 => ?_
  have := h k h1
  simpa [Array.getD_eq_getD_getElem?, Array.getElem?_eq_getElem h1, Array.getElem?_eq_getElem h2] using this
 subst this
 simp only at hd
 subst hd
 rfl

/-- The tail comes up one after the other behind the whole head. -/
def tailB (md : Region.Mode) (ops : Array Oper) (n : Nat) : Bool :=
 decide (n ≤ ops.size) && (decide (n = ops.size) || (Region.sinkB md ops n && Region.chainB md ops n)) && Region.seqB md ops (ops.size - n) n ((Array.range ops.size).map fun i => decide (i < n))

end
end Go.Proofs.Ytemjpgmfignhnaa

/- A row copied by append([]T{}, xs...), and its elements written over: what the new block holds, and on which blocks that hangs.
Conditions: none. -/
namespace Go.Proofs.Ytemjpgmfignhnaa
open Go.RowKit Go.Proofs.YtemjpgmfignhnaaW.PrintWords Go.Proofs.YtemjpgmfignhnaaW.PrintLast Go.Proofs.YtemjpgmfignhnaaW.PrintMore
set_option linter.unusedVariables false
set_option linter.unusedSimpArgs false
theorem heap_window : Kd.Heap kWindow := Kd.heap_iso _ (Kd.heap_pair (Kd.heap_int _) (Kd.heap_int _))
theorem heap_break : Kd.Heap kBreak := Kd.heap_iso _ (Kd.heap_pair (Kd.heap_slice _ heap_window) (Kd.heap_int _))
theorem heap_stop : Kd.Heap kStop := Kd.heap_iso _ (Kd.heap_pair (Kd.heap_int _) (Kd.heap_pair (Kd.heap_int _) (Kd.heap_slice _ heap_window)))
theorem heap_vehicle : Kd.Heap kVehicle := by
 unfold kVehicle
 refine Kd.heap_iso _ ?_
 repeat (first | exact Kd.heap_int _ | exact heap_window | exact Kd.heap_slice _ (Kd.heap_int _) | exact Kd.heap_slice _ heap_break | refine Kd.heap_pair ?_ ?_)
theorem heap_job : Kd.Heap kJob := by
 unfold kJob
 refine Kd.heap_iso _ ?_
 repeat (first | exact Kd.heap_int _ | exact heap_stop | exact Kd.heap_slice _ (Kd.heap_int _) | refine Kd.heap_pair ?_ ?_)
theorem heap_shipment : Kd.Heap kShipment := by
 unfold kShipment
 refine Kd.heap_iso _ ?_
 repeat (first | exact Kd.heap_int _ | exact heap_stop | exact Kd.heap_slice _ (Kd.heap_int _) | refine Kd.heap_pair ?_ ?_)
section
variable {α : Type} {d : Kd α} {e g : Nat} {W W1 : World} {ok ok' : Nat → Prop} {xs : List α}
theorem FK_of_K (hd : Kd.Heap d) {x : α} {cs : List Value} (h : d.K W x cs) : Kd.FK d W (fun k => k < W.heap.size) x cs := fun W' hW => hd.K (fun k hk => hW k hk hk) h
/-- Block g holds the elements xs (type e), and what they lead to lies in blocks of ok. -/
def RowAt (d : Kd α) (e : Nat) (W : World) (ok : Nat → Prop) (g : Nat) (xs : List α) : Prop :=
 ∃ cur inner, W.heap[g]? = some (.cells cur e (0, 0)) ∧ cur.toList.take (xs.length * d.sz) = inner ∧ Reps (Kd.FK d W ok) d.sz xs inner
theorem RowAt.lt (h : RowAt d e W ok g xs) : g < W.heap.size := by
 obtain ⟨cur, inner, hc, _⟩ := h
 exact blk_lt hc
theorem RowAt.step (h : RowAt d e W ok g xs) (hg : W1.heap[g]? = W.heap[g]?) (hm : ∀ k, ok k → k < W.heap.size → W1.heap[k]? = W.heap[k]?) : RowAt d e W1 ok g xs := by
 obtain ⟨cur, inner, hc, ht, hr⟩ := h
 exact ⟨cur, inner, hg.trans hc, ht, hr.imp_ (fun _ _ hk => Kd.FK_step hk hm)⟩
theorem RowAt.below (h : RowAt d e W ok g xs) (hb : Below W.heap.size W W1) : RowAt d e W1 ok g xs := h.step (hb.block g h.lt) (fun k _ hk => hb.block k hk)
theorem RowAt.far (h : RowAt d e W ok g xs) {p : Addr} (hg : g ≠ p.block) (hok : ∀ k, ok k → k ≠ p.block) (u : Value) : RowAt d e (W.setCell p u) ok g xs :=
 h.step (Below.heap_setCell W p u g hg) (fun k hk _ => Below.heap_setCell W p u k (hok k hk))
theorem RowAt.mono (h : RowAt d e W ok g xs) (hok : ∀ k, ok k → ok' k) : RowAt d e W ok' g xs := by
 obtain ⟨cur, inner, hc, ht, hr⟩ := h
 exact ⟨cur, inner, hc, ht, hr.imp_ (fun _ _ hk => Kd.FK_mono hk hok)⟩
theorem RowAt.cell (h : RowAt d e W ok g xs) (j : Nat) (x : α) (hj : xs[j]? = some x) : ∃ cs, cs.length = d.sz ∧ Kd.FK d W ok x cs ∧ ∀ i u, cs[i]? = some u → W.cell? ⟨g, j * d.sz + i, none⟩ = some u := by
 obtain ⟨cur, inner, hc, ht, hr⟩ := h
 have hjl := (List.getElem?_eq_some_iff.1 hj).1
 have hm : j * d.sz + d.sz ≤ xs.length * d.sz := by rw [← Nat.succ_mul]; exact Nat.mul_le_mul_right _ hjl
 have hfk := hr.2 j x hj
 refine ⟨_, d.K_len (Kd.FK_now hfk), hfk, fun i u hu => ?_⟩
 rw [blk_cell hc]
 rw [List.getElem?_take] at hu
 split at hu
 ·rename_i hi
  rw [List.getElem?_drop, ← ht, List.getElem?_take, if_pos (by omega)] at hu
  simpa using hu
 ·cases hu
theorem RowAt.reads (h : RowAt d e W ok g xs) (hn : xs.length ≤ 4611686018427387904) : d.C W (some ⟨g, 0, none⟩) xs.length xs := by
 refine ⟨rfl, by omega, fun _ => ⟨_, rfl, fun j x hj => ?_⟩⟩
 obtain ⟨cs, h1, h2, h3⟩ := h.cell j x hj
 exact ⟨cs, h1, Kd.FK_now h2, fun i u hu => by rw [add_plain]; exact h3 i u hu⟩
theorem RowAt.frozen (h : RowAt d e W ok g xs) (i : Nat) : W.frozen? ⟨g, i, none⟩ = false := by
 obtain ⟨cur, inner, hc, _⟩ := h
 exact blk_frozen hc i
/-- What the row is good for as a slice that is handed on. -/
theorem RowAt.F (h : RowAt d e W ok g xs) (hn : xs.length ≤ 4611686018427387904) : Kd.F d W (fun k => ok k ∨ k = g) (some ⟨g, 0, none⟩) xs.length xs := fun W' hW =>
 (h.step (W1 := W') (hW g (.inr rfl) h.lt) (fun k hk hlt => hW k (.inl hk) hlt)).reads hn

theorem seg_set {l : List Value} {b i s : Nat} {v : Value} (hi : i < s) : ((l.set (b + i) v).drop b).take s = ((l.drop b).take s).set i v := by
 refine List.ext_getElem? fun m => ?_
 rw [List.getElem?_take, List.getElem?_set, List.getElem?_drop, List.getElem?_set, List.getElem?_take, List.getElem?_drop, List.length_take, List.length_drop]
 by_cases hm : m < s
 ·rw [if_pos hm, if_pos hm]
  by_cases e : i = m
  ·subst e
   rw [if_pos rfl, if_pos rfl]
   by_cases hb : b + i < l.length
   ·rw [if_pos hb, if_pos (by omega)]
   ·rw [if_neg hb, if_neg (by omega)]
  ·rw [if_neg (by omega), if_neg e]
 ·rw [if_neg hm, if_neg hm]
  by_cases e : i = m
  ·omega
  ·rw [if_neg e]
theorem seg_other {l : List Value} {b i s b' : Nat} {v : Value} (h : b + i < b' ∨ b' + s ≤ b + i) : ((l.set (b + i) v).drop b').take s = (l.drop b').take s := by
 refine List.ext_getElem? fun m => ?_
 rw [List.getElem?_take, List.getElem?_take, List.getElem?_drop, List.getElem?_set, List.getElem?_drop]
 by_cases hm : m < s
 ·rw [if_pos hm, if_pos hm, if_neg (by omega)]
 ·rw [if_neg hm, if_neg hm]
/-- One cell of an element is written over. -/
theorem RowAt.set (h : RowAt d e W ok g xs) (hg : ¬ ok g) (j : Nat) (x x' : α) (hj : xs[j]? = some x) (i : Nat) (v : Value) (hi : i < d.sz) (hk : ∀ cs, Kd.FK d W ok x cs → Kd.FK d W ok x' (cs.set i v)) :
  RowAt d e (W.setCell ⟨g, j * d.sz + i, none⟩ v) ok g (xs.set j x') := by
 obtain ⟨cur, inner, hc, ht, hr⟩ := h
 have hjl := (List.getElem?_eq_some_iff.1 hj).1
 have hm : j * d.sz + d.sz ≤ xs.length * d.sz := by rw [← Nat.succ_mul]; exact Nat.mul_le_mul_right _ hjl
 refine ⟨cur.setIfInBounds (j * d.sz + i) v, inner.set (j * d.sz + i) v, blk_set hc _ _, ?_, by simp [hr.1], fun m y hy => ?_⟩
 ·rw [List.length_set, ← ht, Array.toList_setIfInBounds, List.take_set]
 ·have hstep : ∀ y cs, Kd.FK d W ok y cs → Kd.FK d (W.setCell ⟨g, j * d.sz + i, none⟩ v) ok y cs := fun y cs hf => Kd.FK_step hf (fun k hk _ => Below.heap_setCell W _ v k (by rintro rfl; exact hg hk))
  by_cases ejm : j = m
  ·subst ejm
   have : y = x' := by
    rw [List.getElem?_set_self hjl] at hy
    exact (Option.some.inj hy).symm
   subst this
   rw [seg_set hi]
   exact hstep _ _ (hk _ (hr.2 j x hj))
  ·rw [List.getElem?_set_ne ejm] at hy
   rw [seg_other]
   ·exact hstep _ _ (hr.2 m y hy)
   ·rcases Nat.lt_or_gt_of_ne ejm with hlt | hgt
    ·left
     have : j * d.sz + d.sz ≤ m * d.sz := by rw [← Nat.succ_mul]; exact Nat.mul_le_mul_right _ hlt
     omega
    ·right
     have : m * d.sz + d.sz ≤ j * d.sz := by rw [← Nat.succ_mul]; exact Nat.mul_le_mul_right _ hgt
     omega
/-- What append([]T{}, xs...) hands back. -/
def Copied (d : Kd α) (e : Nat) (base : Nat) (ok : Nat → Prop) (xs : List α) (v : Value) (w : World) : Prop :=
 ∃ g c, v = .slice (some ⟨g, 0, none⟩) xs.length c ∧ xs.length ≤ c ∧ base ≤ g ∧ RowAt d e w ok g xs
theorem Copied.below {base : Nat} {v : Value} (h : Copied d e base ok xs v W) (hb : Below W.heap.size W W1) : Copied d e base ok xs v W1 := by
 obtain ⟨g, c, h1, h2, h3, h4⟩ := h
 exact ⟨g, c, h1, h2, h3, h4.below hb⟩
/-- An empty slice of the call's own. -/
def EmptyRow (e : Nat) (base : Nat) (v : Value) (w : World) : Prop := ∃ g, v = .slice (some ⟨g, 0, none⟩) 0 0 ∧ base ≤ g ∧ w.heap[g]? = some (.cells #[] e (0, 0))
theorem EmptyRow.below {base : Nat} {v : Value} (h : EmptyRow e base v W) (hb : Below W.heap.size W W1) : EmptyRow e base v W1 := by
 obtain ⟨g, h1, h2, h3⟩ := h
 exact ⟨g, h1, h2, blk_below h3 hb⟩
theorem wp_copy {P : Program} {o : Oper} {a : Act} {w W0 : World} {K : Act → World → Prop} {Q : Exit → Act → World → Prop} (s x : Operand) (t e : TypeId) (z : Value) (bytes : Nat)
  (ho : o.op = .call { callee := .builtin .append, args := #[s, x], argTypes := #[t, t] }) (ht : P.underlying t = some (.slice e))
  (hinfo : (P.info? e).map (fun i => (i.zero, i.size, i.bytes)) = some (some z, d.sz, bytes)) (hzs : z.cells.size = d.sz) (hsz : 0 < d.sz)
  (hd : Kd.Heap d) (base : Nat) (hbase : base ≤ w.heap.size) (hs : EmptyRow e base (a.eval s) w) (A : Option Addr) (c : Nat) (hx : a.eval x = .slice A xs.length c) (hC : d.C W0 A xs.length xs) (hb : Below W0.heap.size W0 w)
  (hbytes : xs.length * bytes ≤ 140737488355328) (h63 : xs.length ≤ maxLen)
  (hK : ∀ v w', Copied d e base (fun k => k < W0.heap.size) xs v w' → Below w.heap.size w w' → K (a.put o.dst v) w') : o.wp P a w K Q := by
 obtain ⟨i, hi, hz0, hz1, hz2⟩ := info_parts hinfo
 obtain ⟨g, hsv, hgb, hgc⟩ := hs
 unfold Oper.wp execOp
 simp only [ho, resolve, invoke, builtin, Sem.run_bind, Sem.run_pure, Result.andThen_ok, List.map_toArray, List.map_cons, List.map_nil, hsv, hx]
 rcases Nat.eq_zero_or_pos xs.length with h0 | h0
 ·have hnil : xs = [] := List.eq_nil_of_length_eq_zero h0
  subst hnil
  have hsrc : Src P i.size t (.slice A ([] : List α).length c) 0 [] w := by
   cases A with
   | none => exact Src.ofNil w ht c
   | some ad => exact Src.ofSlice w ht ad 0 c [] (by simp) (by simp) (by simp)
  rw [run_append_nothing w t t o.type e i ht hi (some ⟨g, 0, none⟩) 0 0 (Nat.le_refl _) _ hsrc]
  exact hK _ _ ⟨g, 0, rfl, Nat.le_refl _, hgb, #[], [], hgc, by simp, Reps.none _ _⟩ (Below.refl _ _)
 ·obtain ⟨ad, rfl, _⟩ := hC.2.2 h0
  obtain ⟨inner, hr, hcell⟩ := ReadsRow.inner_ hC
  have h1 : ∀ u ∈ inner, u.oneCell' = true := by
   intro u hu
   obtain ⟨m, hm⟩ := List.getElem?_of_mem hu
   have hml : m < xs.length * d.sz := by rw [← hr.1]; exact (List.getElem?_eq_some_iff.1 hm).1
   have hj : m / d.sz < xs.length := (Nat.div_lt_iff_lt_mul hsz).2 hml
   have hk := hr.2 (m / d.sz) _ (List.getElem?_eq_getElem hj)
   refine d.K_one hk u (List.mem_of_getElem? (i := m % d.sz) ?_)
   rw [List.getElem?_take, if_pos (Nat.mod_lt _ hsz), List.getElem?_drop, Nat.mul_comm, Nat.div_add_mod]
   exact hm
  obtain ⟨v', w', hrun, hown, hgr⟩ := run_append_arg_grows (P := P) w t o.type e i z d.sz bytes ht hi hz0 hz1 hz2 hzs hsz ⟨g, 0, none⟩ 0 0 [] (by simp) (by simp) ad xs.length c inner hr.1 (fun j u hu => pw_cell_below hb (hcell j u hu)) (by omega) (by simpa using h63) (by simpa using hbytes)
  rw [hrun]
  have hbw : Below w.heap.size w w' := ⟨hgr.os, hgr.tape, hgr.output, hgr.size, fun k hk => hgr.block k hk (by simp)⟩
  rcases hown.2 with ⟨_, hz⟩ | ⟨g', cap, cur, hv, hg', hh, hle, _, _, htk⟩
  ·omega
  ·rw [Nat.zero_add] at hv hle htk
   subst hv
   refine hK _ _ ⟨g', cap, rfl, hle, by omega, cur, inner, hh, by simpa using htk, hr.imp_ (fun y cs hk => ?_)⟩ hbw
   exact Kd.FK_step (FK_of_K hd hk) (fun k hk' _ => (hbw.block k (Nat.lt_of_lt_of_le hk' hb.size)).trans (hb.block k hk'))
end
end Go.Proofs.Ytemjpgmfignhnaa

/- A region that draws its order, by an invariant over what has come up: stores among them.
Conditions: none. -/
namespace Go.Proofs.Ytemjpgmfignhnaa
open Go.RowKit Go.Proofs.YtemjpgmfignhnaaW.PrintWords Go.Proofs.YtemjpgmfignhnaaW.PrintLast Go.Proofs.YtemjpgmfignhnaaW.PrintMore
set_option linter.unusedVariables false
set_option linter.unusedSimpArgs false
section
variable {P : Program} {md : Region.Mode} {ops : Array Oper} {Q : Exit → Act → World → Prop}
/-- No guards; each waits for earlier ones alone; slots of their own. -/
def freeB (ops : Array Oper) : Bool :=
 (List.range ops.size).all fun i => match ops[i]? with
  | some o => o.guard.isNone && o.after.all (fun e => !Region.binds .any e || decide (e.on < i)) && (List.range i).all (fun j => match ops[j]? with | some o' => o.dst.isNone || o'.dst != o.dst | none => false)
  | none => false
theorem freeB_spec (h : freeB ops = true) (i : Nat) (o : Oper) (ho : ops[i]? = some o) : o.guard = none ∧ (∀ e ∈ o.after, Region.binds .any e = true → e.on < i) ∧ ∀ j o' d, j < i → ops[j]? = some o' → o.dst = some d → o'.dst ≠ some d := by
 have hi := (Array.getElem?_eq_some_iff.1 ho).1
 have h1 := List.all_eq_true.1 h i (List.mem_range.2 hi)
 rw [ho] at h1
 simp only [Bool.and_eq_true] at h1
 obtain ⟨⟨g, b⟩, ds⟩ := h1
 refine ⟨Option.isNone_iff_eq_none.1 g, fun e he hb => ?_, fun j o' d hj ho' hd => ?_⟩
 ·have := Array.all_eq_true_iff_forall_mem.1 b e he
  rw [hb] at this
  simpa using this
 ·have h2 := List.all_eq_true.1 ds j (List.mem_range.2 hj)
  rw [ho', hd] at h2
  simpa using h2
/-- What has come up is closed under the edges. -/
structure Open (md : Region.Mode) (ops : Array Oper) (listed : Array Bool) : Prop where
 size : listed.size = ops.size
 closed : ∀ j oj, ops[j]? = some oj → listed.getD j false = true → ∀ e ∈ oj.after, Region.binds md e = true → listed.getD e.on false = true
theorem Open.set {i : Nat} {listed : Array Bool} (inv : Open md ops listed) (hi : i ∈ Region.ready md ops listed) : Open md ops (listed.setIfInBounds i true) := by
 obtain ⟨_, oi, hoi, hall⟩ := mem_ready.1 hi
 refine ⟨by simp [inv.size], fun j oj hj hl e he hb => ?_⟩
 by_cases hij : i = j
 ·subst hij
  have : oj = oi := Option.some.inj (hj.symm.trans hoi)
  subst this
  exact getD_set_true (hall e he hb)
 ·rw [getD_set_ne false hij] at hl
  exact getD_set_true (inv.closed j oj hj hl e he hb)
/-- Who waits for one that has not come up has not come up. -/
theorem Open.later {i s : Nat} {listed : Array Bool} (inv : Open md ops listed) (hi : listed.getD i false = false) (hw : Region.waitsFor md ops s i = true) : listed.getD s false = false := by
 obtain ⟨os, hos, e, he, hb, hon⟩ := Region.waitsFor_spec hw
 cases hl : listed.getD s false with
 | false => rfl
 | true =>
  have := inv.closed s os hos hl e he hb
  rw [hon, hi] at this
  cases this
theorem any_J (hB : freeB ops = true) (J : Array Bool → Act → World → Prop)
  (hstep : ∀ listed a w i o, Open .any ops listed → J listed a w → i ∈ Region.ready .any ops listed → ops[i]? = some o → o.wp P a w (fun a' w' => J (listed.setIfInBounds i true) a' w') Q)
  (hend : ∀ listed a w, J listed a w → (∀ i, i < ops.size → listed.getD i false = true) → Q .normal a w) :
  ∀ (f : Nat) (listed : Array Bool) (a : Act) (w : World), Open .any ops listed → unl listed ops.size = f → J listed a w → wpAny P .any ops Q f listed a w
 | 0, listed, a, w, inv, hu, hJ => by
  have hall := unl_zero ops.size hu
  refine ⟨?_, hend listed a w hJ hall⟩
  rw [List.eq_nil_iff_forall_not_mem]
  intro i hi
  obtain ⟨h0, o, ho, _⟩ := mem_ready.1 hi
  have hlt := (Array.getElem?_eq_some_iff.1 ho).1
  have h1 := hall i hlt
  rw [getD_both h0] at h1
  cases h1
 | f + 1, listed, a, w, inv, hu, hJ => by
  obtain ⟨i0, hi0, hun0, hall0⟩ := unl_pos (listed := listed) ops.size (by omega)
  have hr0 : i0 ∈ Region.ready .any ops listed := by
   refine mem_ready.2 ⟨getD_in (by rw [inv.size]; exact hi0) hun0, ops[i0], Array.getElem?_eq_getElem hi0, fun e he hb => hall0 _ ?_⟩
   exact (freeB_spec hB i0 _ (Array.getElem?_eq_getElem hi0)).2.1 e he hb
  refine ⟨fun h => absurd hr0 (by rw [h]; simp), fun i hi => ?_⟩
  obtain ⟨hun, o, ho, _⟩ := mem_ready.1 hi
  have hlt := (Array.getElem?_eq_some_iff.1 ho).1
  have hw := hstep listed a w i o inv hJ hi ho
  unfold wpOp
  simp only [ho]
  have hwant : Region.wanted o (yielded ops a.tmps) = true := by simp [Region.wanted, (freeB_spec hB i o ho).1]
  rw [if_pos hwant]
  refine .inl (Oper.wp_mono (fun a' w' hJ' => ?_) hw)
  refine any_J hB J hstep hend f _ _ _ (inv.set hi) ?_ hJ'
  have := unl_set (show i < listed.size by rw [inv.size]; exact hlt) (getD_both hun) ops.size hlt
  omega
theorem wp_region_J {id : Nat} {a0 : Act} {w : World} {l : List Oper} (J : Array Bool → Act → World → Prop) (hm : P.follows .mixedOrders = true) (hB : freeB l.toArray = true)
  (h0 : J (Array.replicate l.toArray.size false) a0 { w with drawn := w.drawn + 1 })
  (hstep : ∀ listed a w i o, Open .any l.toArray listed → J listed a w → i ∈ Region.ready .any l.toArray listed → l.toArray[i]? = some o → o.wp P a w (fun a' w' => J (listed.setIfInBounds i true) a' w') Q)
  (hend : ∀ listed a w, J listed a w → (∀ i, i < l.toArray.size → listed.getD i false = true) → Q .normal a w) : (Code.region id l.toArray true).wp P Q a0 w := by
 refine wp_region_any hm ?_
 have hunl : ∀ m, unl (Array.replicate l.toArray.size false) m = m := by
  intro m
  induction m with
  | zero => rfl
  | succ m ih => rw [unl, ih, getD_replicate_false]; rfl
 exact any_J hB J hstep hend _ _ _ _ ⟨by simp, fun j oj _ hl => (by rw [getD_replicate_false] at hl; cases hl)⟩ (hunl _) h0

/-! ### frames told by what holds of their slots -/
variable {Φ : Nat → Value → World → Prop} {G : World → World → Prop} {V : Array Bool → Act → World → Prop} {a0 : Act} {W : World}
structure InvG (ops : Array Oper) (Φ : Nat → Value → World → Prop) (G : World → World → Prop) (V : Array Bool → Act → World → Prop) (a0 : Act) (W : World) (listed : Array Bool) (a : Act) (w : World) : Prop where
 grown : G W w
 defers : a.defers = a0.defers
 size : a.tmps.size = a0.tmps.size
 told : ∀ i o d, ops[i]? = some o → o.dst = some d → listed.getD i false = true → Φ i (a.tmps.getD d undef) w
 kept : ∀ k, (∀ i o, ops[i]? = some o → listed.getD i false = true → o.dst ≠ some k) → a.tmps.getD k undef = a0.tmps.getD k undef
 side : V listed a w
theorem free_inj (h : freeB ops = true) {i j : Nat} {oi oj : Oper} {d : Tmp} (ei : ops[i]? = some oi) (ej : ops[j]? = some oj) (di : oi.dst = some d) (dj : oj.dst = some d) : i = j := by
 rcases Nat.lt_trichotomy i j with hlt | he | hgt
 ·exact absurd di ((freeB_spec h j oj ej).2.2 i oi d hlt ei dj)
 ·exact he
 ·exact absurd dj ((freeB_spec h i oi ei).2.2 j oj d hgt ej di)
theorem InvG.step {a : Act} {w w' : World} {listed : Array Bool} {i : Nat} {o : Oper} {v : Value} (hB : freeB ops = true) (htr : ∀ a b c, G a b → G b c → G a c)
  (hst : ∀ j v w w', G w w' → Φ j v w → Φ j v w') (h : InvG ops Φ G V a0 W listed a w) (ho : ops[i]? = some o) (hsz : ∀ d, o.dst = some d → d < a0.tmps.size) (hls : i < listed.size)
  (hb : G w w') (hv : ∀ d, o.dst = some d → Φ i v w') (hV : V (listed.setIfInBounds i true) (a.put o.dst v) w') : InvG ops Φ G V a0 W (listed.setIfInBounds i true) (a.put o.dst v) w' := by
 have hset : (listed.setIfInBounds i true).getD i false = true := by
  rw [Array.getD_eq_getD_getElem?, Array.getElem?_setIfInBounds_self_of_lt hls]
  rfl
 cases hd : o.dst with
 | none =>
  rw [hd] at hV
  refine ⟨htr _ _ _ h.grown hb, h.defers, h.size, fun j oj dj hoj hdj hl => ?_, fun k hk => h.kept k fun j oj hoj hl => hk j oj hoj ?_, hV⟩
  ·by_cases e : i = j
   ·subst e
    have : o = oj := Option.some.inj (ho.symm.trans hoj)
    subst this
    rw [hd] at hdj
    cases hdj
   ·rw [getD_set_ne false e] at hl
    exact hst j _ _ _ hb (h.told j oj dj hoj hdj hl)
  ·by_cases e : i = j
   ·subst e; exact hset
   ·rw [getD_set_ne false e]; exact hl
 | some d =>
  rw [hd] at hV
  refine ⟨htr _ _ _ h.grown hb, h.defers, by simp [Act.put, h.size], fun j oj dj hoj hdj hl => ?_, fun k hk => ?_, hV⟩
  ·by_cases e : i = j
   ·subst e
    have : o = oj := Option.some.inj (ho.symm.trans hoj)
    subst this
    have : d = dj := Option.some.inj (hd.symm.trans hdj)
    subst this
    rw [put_getD_same (by rw [h.size]; exact hsz d hd)]
    exact hv d hd
   ·rw [getD_set_ne false e] at hl
    have hne : d ≠ dj := by
     rintro rfl
     exact e (free_inj hB ho hoj hd hdj)
    rw [put_getD_ne hne]
    exact hst j _ _ _ hb (h.told j oj dj hoj hdj hl)
  ·have hdk : d ≠ k := by
    rintro rfl
    exact hk i o ho hset hd
   rw [put_getD_ne hdk]
   refine h.kept k fun j oj hoj hl => hk j oj hoj ?_
   by_cases e : i = j
   ·subst e; exact hset
   ·rw [getD_set_ne false e]; exact hl
/-- One operation, in whatever state it comes up: what it waits for has come up, and who waits for it has not. -/
def OpG (P : Program) (md : Region.Mode) (ops : Array Oper) (Q : Exit → Act → World → Prop) (Φ : Nat → Value → World → Prop) (G : World → World → Prop) (V : Array Bool → Act → World → Prop) (a0 : Act) (W : World) (i : Nat) (o : Oper) : Prop :=
 ∀ (listed : Array Bool) (a : Act) (w : World), InvG ops Φ G V a0 W listed a w → (∀ j, Region.waitsFor md ops i j = true → listed.getD j false = true) → (∀ s, s = i ∨ Region.waitsFor md ops s i = true → listed.getD s false = false) → i < listed.size →
  o.wp P a w (fun a' w' => ∃ v, a' = a.put o.dst v ∧ G w w' ∧ (∀ d, o.dst = some d → Φ i v w') ∧ V (listed.setIfInBounds i true) a' w') Q
theorem wp_region_G {id : Nat} {w : World} {l : List Oper} (Φ : Nat → Value → World → Prop) (G : World → World → Prop) (V : Array Bool → Act → World → Prop) (hm : P.follows .mixedOrders = true) (hB : freeB l.toArray = true)
  (hd : l.all (fun o => match o.dst with | some d => decide (d < a0.tmps.size) | none => true) = true)
  (htr : ∀ a b c, G a b → G b c → G a c) (hst : ∀ j v w w', G w w' → Φ j v w → Φ j v w')
  (hdraw : G w { w with drawn := w.drawn + 1 }) (hV0 : V (Array.replicate l.toArray.size false) a0 { w with drawn := w.drawn + 1 })
  (hop : ∀ i o, l.toArray[i]? = some o → OpG P .any l.toArray Q Φ G V a0 w i o)
  (hrest : ∀ (u : Nat → Value) (w' : World), G w w' → (∀ i o d, l[i]? = some o → o.dst = some d → Φ i (u i) w') → (∃ listed, (∀ i, i < l.toArray.size → listed.getD i false = true) ∧ V listed (putAll l u 0 a0) w') → Q .normal (putAll l u 0 a0) w') :
  (Code.region id l.toArray true).wp P Q a0 w := by
 refine wp_region_J (InvG l.toArray Φ G V a0 w) hm hB ⟨hdraw, rfl, rfl, fun i o d _ _ hl => (by rw [getD_replicate_false] at hl; cases hl), fun _ _ => rfl, hV0⟩ ?_ ?_
 ·intro listed a w1 i o inv hI hr ho
  have hun := (mem_ready.1 hr).1
  have hlt := (Array.getElem?_eq_some_iff.1 ho).1
  have hls : i < listed.size := by rw [inv.size]; exact hlt
  refine Oper.wp_mono ?_ (hop i o ho listed a w1 hI (fun j hj => waits_told ho hj hr) (fun s hs => ?_) hls)
  ·rintro a' w' ⟨v, rfl, hb, hv, hV⟩
   refine hI.step hB htr hst ho (fun d hdd => ?_) hls hb hv hV
   have h1 := List.all_eq_true.1 hd o (List.mem_of_getElem? (i := i) (by simpa using ho))
   rw [hdd] at h1
   simpa using h1
  ·rcases hs with rfl | hs
   ·exact getD_both hun
   ·exact inv.later (getD_both hun) hs
 ·intro listed a w' hI hall
  let u : Nat → Value := fun i => match l.toArray[i]? with | some o => (match o.dst with | some d => a.tmps.getD d undef | none => undef) | none => undef
  have hu : ∀ i o d, l.toArray[i]? = some o → o.dst = some d → u i = a.tmps.getD d undef := by
   intro i o d ho hod
   simp only [u, ho, hod]
  have ha : a = putAll l u 0 a0 := by
   obtain ⟨s1, s2⟩ := putAll_size l u 0 a0
   refine act_ext (by rw [s2, hI.defers]) (by rw [s1, hI.size]) fun k hk => ?_
   by_cases hex : ∃ (i : Nat) (o : Oper), l.toArray[i]? = some o ∧ o.dst = some k
   ·obtain ⟨i, o, ho, hok⟩ := hex
    rw [putAll_in l u 0 a0 k i o (by simpa using ho) hok (fun j' o' hlt ho' hd' => ?_) (by rw [← hI.size]; exact hk), Nat.zero_add, hu i o k ho hok]
    have := free_inj hB ho (show l.toArray[j']? = some o' by simpa using ho') hok hd'
    omega
   ·rw [putAll_out l u 0 a0 k (fun o ho hd' => ?_)]
    ·exact hI.kept k fun i o ho _ hd' => hex ⟨i, o, ho, hd'⟩
    ·obtain ⟨i, hi⟩ := List.getElem?_of_mem ho
     exact hex ⟨i, o, by simpa using hi, hd'⟩
  have hr := hrest u w' hI.grown (fun i o d ho hod => ?_) ⟨listed, hall, ha ▸ hI.side⟩
  ·rwa [← ha] at hr
  ·have ho' : l.toArray[i]? = some o := by simpa using ho
   rw [hu i o d ho' hod]
   exact hI.told i o d ho' hod (hall i (Array.getElem?_eq_some_iff.1 ho').1)
end
end Go.Proofs.Ytemjpgmfignhnaa

/- A region that copies rows and stores them into the cells of one block, in whatever order.
Conditions: none. -/
namespace Go.Proofs.Ytemjpgmfignhnaa
open Go.RowKit Go.Proofs.YtemjpgmfignhnaaW.PrintWords Go.Proofs.YtemjpgmfignhnaaW.PrintLast Go.Proofs.YtemjpgmfignhnaaW.PrintMore
set_option linter.unusedVariables false
set_option linter.unusedSimpArgs false
theorem kept_of {ops : Array Oper} {k : Tmp} (h : ops.all (fun o => o.dst != some k) = true) {listed : Array Bool} : ∀ j oj, ops[j]? = some oj → listed.getD j false = true → oj.dst ≠ some k := by
 intro j oj hoj _
 have := Array.all_eq_true_iff_forall_mem.1 h oj (Array.mem_of_getElem? hoj)
 simpa using this
/-- All blocks but bp are as they were. -/
structure KeepP (bp : Nat) (w w' : World) : Prop where
 os : w'.os = w.os
 tape : w'.tape = w.tape
 output : w'.output = w.output
 size : w.heap.size ≤ w'.heap.size
 block : ∀ k, k < w.heap.size → k ≠ bp → w'.heap[k]? = w.heap[k]?
theorem KeepP.trans {bp : Nat} {a b c : World} (h : KeepP bp a b) (k : KeepP bp b c) : KeepP bp a c :=
 ⟨k.os.trans h.os, k.tape.trans h.tape, k.output.trans h.output, Nat.le_trans h.size k.size, fun i hi hne => (k.block i (Nat.lt_of_lt_of_le hi h.size) hne).trans (h.block i hi hne)⟩
theorem KeepP.of_below {bp : Nat} {a b : World} (h : Below a.heap.size a b) : KeepP bp a b := ⟨h.os, h.tape, h.output, h.size, fun i hi _ => h.block i hi⟩
theorem KeepP.set {bp : Nat} {a : World} (j : Nat) (v : Value) : KeepP bp a (a.setCell ⟨bp, j, none⟩ v) := ⟨rfl, rfl, rfl, by simp [World.setCell], fun i hi hne => Below.heap_setCell a _ v i hne⟩
theorem KeepP.below {bp n : Nat} {a b : World} (h : KeepP bp a b) (hn : n ≤ bp) (hs : n ≤ a.heap.size) : Below n a b := ⟨h.os, h.tape, h.output, h.size, fun i hi => h.block i (by omega) (by omega)⟩
theorem KeepP.over {bp : Nat} {w W w1 : World} (h : KeepP bp W w1) (hb : Below w.heap.size w W) (hn : w.heap.size ≤ bp) : Below w.heap.size w w1 :=
 ⟨h.os.trans hb.os, h.tape.trans hb.tape, h.output.trans hb.output, Nat.le_trans hb.size h.size, fun i hi => (h.block i (Nat.lt_of_lt_of_le hi hb.size) (by omega)).trans (hb.block i hi)⟩
theorem KeepP.skip {bp bq : Nat} {a b c : World} (h : KeepP bp a b) (k : KeepP bq b c) (hq : a.heap.size ≤ bq) : KeepP bp a c :=
 ⟨k.os.trans h.os, k.tape.trans h.tape, k.output.trans h.output, Nat.le_trans h.size k.size, fun i hi hne => (k.block i (Nat.lt_of_lt_of_le hi h.size) (by omega)).trans (h.block i hi hne)⟩
theorem EmptyRow.keep {bp e base : Nat} {v : Value} {W W1 : World} (h : EmptyRow e base v W) (hk : KeepP bp W W1) (hb : bp < base) : EmptyRow e base v W1 := by
 obtain ⟨g, h1, h2, h3⟩ := h
 exact ⟨g, h1, h2, (hk.block g (blk_lt h3) (by omega)).trans h3⟩
theorem Copied.keep {α : Type} {d : Kd α} {xs : List α} {ok : Nat → Prop} {bp e base : Nat} {v : Value} {W W1 : World} (h : Copied d e base ok xs v W) (hk : KeepP bp W W1) (hb : bp < base) (hok : ∀ k, ok k → k ≠ bp) : Copied d e base ok xs v W1 := by
 obtain ⟨g, c, h1, h2, h3, h4⟩ := h
 exact ⟨g, c, h1, h2, h3, h4.step (hk.block g h4.lt (by omega)) (fun k ho hlt => hk.block k hlt (hok k ho))⟩
section
variable {P : Program} {Q : Exit → Act → World → Prop}
/-- What the block holds while stores (slot, slot of the value) come up: ce tells a store's cell. -/
def SideV (bp e : Nat) (cur0 : Array Value) (L : List (Nat × Nat)) (ce : Nat → Nat) (listed : Array Bool) (a : Act) (w : World) : Prop :=
 ∃ cur, w.heap[bp]? = some (.cells cur e (0, 0)) ∧ cur.size = cur0.size ∧ (∀ i, (∀ x ∈ L, ce x.1 ≠ i) → cur[i]? = cur0[i]?) ∧
  ∀ x ∈ L, cur[ce x.1]? = if listed.getD x.1 false then some (a.tmps.getD x.2 undef) else cur0[ce x.1]?
/-- The value's slot comes up ahead of its store. -/
def waitB (ops : Array Oper) (L : List (Nat × Nat)) : Bool :=
 L.all fun x => decide (x.1 < ops.size) && (List.range ops.size).all fun i => match ops[i]? with
  | some o => o.dst != some x.2 || Region.waitsFor .any ops x.1 i
  | none => true
theorem waitB_spec {ops : Array Oper} {L : List (Nat × Nat)} (h : waitB ops L = true) {x : Nat × Nat} (hx : x ∈ L) {i : Nat} {o : Oper} (ho : ops[i]? = some o) (hd : o.dst = some x.2) : Region.waitsFor .any ops x.1 i = true := by
 have h0 := List.all_eq_true.1 h x hx
 rw [Bool.and_eq_true] at h0
 have h1 := List.all_eq_true.1 h0.2 i (List.mem_range.2 (Array.getElem?_eq_some_iff.1 ho).1)
 simp only [ho] at h1
 simpa [hd] using h1
theorem waitB_lt {ops : Array Oper} {L : List (Nat × Nat)} (h : waitB ops L = true) {x : Nat × Nat} (hx : x ∈ L) : x.1 < ops.size := by
 have h0 := List.all_eq_true.1 h x hx
 rw [Bool.and_eq_true] at h0
 exact of_decide_eq_true h0.1
variable {bp e : Nat} {cur0 : Array Value} {L : List (Nat × Nat)} {ce : Nat → Nat} {Φ : Nat → Value → World → Prop} {a0 : Act} {W : World}
theorem SideV.cell {listed : Array Bool} {a : Act} {w : World} (h : SideV bp e cur0 L ce listed a w) (x : Nat × Nat) (hx : x ∈ L) (hl : listed.getD x.1 false = false) : w.cell? ⟨bp, ce x.1, none⟩ = cur0[ce x.1]? := by
 obtain ⟨cur, hc, _, _, h4⟩ := h
 rw [blk_cell hc, h4 x hx, hl]
 rfl
theorem SideV.other {listed : Array Bool} {a : Act} {w : World} (h : SideV bp e cur0 L ce listed a w) (i : Nat) (hi : ∀ x ∈ L, ce x.1 ≠ i) : w.cell? ⟨bp, i, none⟩ = cur0[i]? := by
 obtain ⟨cur, hc, _, h3, _⟩ := h
 rw [blk_cell hc, h3 i hi]
theorem SideV.frozen {listed : Array Bool} {a : Act} {w : World} (h : SideV bp e cur0 L ce listed a w) (i : Nat) : w.frozen? ⟨bp, i, none⟩ = false := by
 obtain ⟨cur, hc, _⟩ := h
 exact blk_frozen hc i
theorem SideV.lt {listed : Array Bool} {a : Act} {w : World} (h : SideV bp e cur0 L ce listed a w) : bp < w.heap.size := by
 obtain ⟨cur, hc, _⟩ := h
 exact blk_lt hc
theorem fold_get (f : Nat × Nat → Value) (ce : Nat → Nat) (i : Nat) : ∀ (L : List (Nat × Nat)) (c : Array Value), (∀ x ∈ L, ce x.1 ≠ i) → (L.foldl (fun c x => c.setIfInBounds (ce x.1) (f x)) c)[i]? = c[i]?
 | [], c, _ => rfl
 | x :: L, c, h => by
  rw [List.foldl_cons, fold_get f ce i L _ (fun y hy => h y (.tail _ hy)), Array.getElem?_setIfInBounds_ne (h x (.head _))]
theorem fold_same (ce : Nat → Nat) (f g : Nat × Nat → Value) : ∀ (L : List (Nat × Nat)) (c : Array Value), (∀ x ∈ L, f x = g x) → L.foldl (fun c x => c.setIfInBounds (ce x.1) (f x)) c = L.foldl (fun c x => c.setIfInBounds (ce x.1) (g x)) c
 | [], c, _ => rfl
 | x :: L, c, h => by
  rw [List.foldl_cons, List.foldl_cons, h x (.head _)]
  exact fold_same ce f g L _ (fun y hy => h y (.tail _ hy))
theorem fold_in (f : Nat × Nat → Value) (ce : Nat → Nat) : ∀ (L : List (Nat × Nat)) (c : Array Value) (x : Nat × Nat), x ∈ L → (∀ x ∈ L, ce x.1 < c.size) → (∀ x ∈ L, ∀ y ∈ L, ce x.1 = ce y.1 → x = y) → (L.foldl (fun c x => c.setIfInBounds (ce x.1) (f x)) c)[ce x.1]? = some (f x)
 | [], c, x, hx, _, _ => by cases hx
 | y :: L, c, x, hx, hin, hd => by
  rw [List.foldl_cons]
  by_cases hxL : x ∈ L
  ·exact fold_in f ce L _ x hxL (fun z hz => by rw [Array.size_setIfInBounds]; exact hin z (.tail _ hz)) (fun z hz z' hz' => hd z (.tail _ hz) z' (.tail _ hz'))
  ·have e : x = y := by
    rcases List.mem_cons.1 hx with h | h
    ·exact h
    ·exact absurd h hxL
   subst e
   rw [fold_get f ce _ L _ (fun z hz he => hxL (hd z (.tail _ hz) x (.head _) he ▸ hz)), Array.getElem?_setIfInBounds_self_of_lt (hin x (.head _))]
/-- What is told of a slot. -/
inductive Tell where
 | any
 | is (v : Value)
 | row (e base : Nat)
 | sat (p : Value → World → Prop)
def Tell.says (bp : Nat) : Tell → Value → World → Prop
 | .any, _, _ => True
 | .is x, v, _ => v = x
 | .row e base, v, w => EmptyRow e base v w ∧ bp < base
 | .sat p, v, w => p v w
def Tell.Keeps (bp : Nat) : Tell → Prop
 | .sat p => ∀ v w w', KeepP bp w w' → p v w → p v w'
 | _ => True
theorem Tell.keep {bp : Nat} {t : Tell} (h : t.Keeps bp) {v : Value} {w w' : World} (hk : KeepP bp w w') (hs : t.says bp v w) : t.says bp v w' := by
 cases t with
 | any => trivial
 | is x => exact hs
 | row e base => exact ⟨hs.1.keep hk hs.2, hs.2⟩
 | sat p => exact h v w w' hk hs
def tells (bp : Nat) (l : List Tell) (i : Nat) (v : Value) (w : World) : Prop := (l.getD i .any).says bp v w
theorem tells_keep {bp : Nat} {l : List Tell} (h : ∀ t ∈ l, t.Keeps bp) (j : Nat) (v : Value) (w w' : World) (hk : KeepP bp w w') (hs : tells bp l j v w) : tells bp l j v w' := by
 refine Tell.keep ?_ hk hs
 by_cases hj : j < l.length
 ·rw [List.getD_eq_getElem?_getD, List.getElem?_eq_getElem hj]; exact h _ (List.getElem_mem hj)
 ·rw [List.getD_eq_getElem?_getD, List.getElem?_eq_none (by omega)]; trivial
/-- The state in which an operation comes up. -/
structure AtS (ops : Array Oper) (Φ : Nat → Value → World → Prop) (bp e : Nat) (cur0 : Array Value) (L : List (Nat × Nat)) (ce : Nat → Nat) (base : List (Nat × Value)) (W : World) (listed : Array Bool) (a : Act) (w : World) : Prop where
 grown : KeepP bp W w
 told : ∀ i o d, ops[i]? = some o → o.dst = some d → listed.getD i false = true → Φ i (a.tmps.getD d undef) w
 base : ∀ x ∈ base, a.tmps.getD x.1 undef = x.2
 side : SideV bp e cur0 L ce listed a w
/-- What one operation owes: either a value and new blocks alone, or the store. -/
def OpS (P : Program) (ops : Array Oper) (Φ : Nat → Value → World → Prop) (bp e : Nat) (cur0 : Array Value) (L : List (Nat × Nat)) (ce : Nat → Nat) (base : List (Nat × Value)) (W : World) (i : Nat) (o : Oper) : Prop :=
 ∀ (Q : Exit → Act → World → Prop) (K : Act → World → Prop) (listed : Array Bool) (a : Act) (w : World), AtS ops Φ bp e cur0 L ce base W listed a w →
  (∀ j, Region.waitsFor .any ops i j = true → listed.getD j false = true) → (∀ s, s = i ∨ Region.waitsFor .any ops s i = true → listed.getD s false = false) →
  ((∀ x ∈ L, x.1 ≠ i) → ∀ v w', Below w.heap.size w w' → (∀ d, o.dst = some d → Φ i v w') → K (a.put o.dst v) w') →
  (∀ x ∈ L, x.1 = i → o.dst = none → K a (w.setCell ⟨bp, ce i, none⟩ (a.tmps.getD x.2 undef))) → o.wp P a w K Q
theorem wp_region_S {id : Nat} {w : World} {l : List Oper} (Φ : Nat → Value → World → Prop) (bp e : Nat) (cur0 : Array Value) (L : List (Nat × Nat)) (ce : Nat → Nat) (us : Nat → Nat) (base : List (Nat × Value)) (hm : P.follows .mixedOrders = true) (hB : freeB l.toArray = true)
  (hd : l.all (fun o => match o.dst with | some d => decide (d < a0.tmps.size) | none => true) = true) (hw : waitB l.toArray L = true) (hus : L.all (fun x => match l[us x.2]? with | some o => o.dst == some x.2 | none => false) = true)
  (hbp : w.heap[bp]? = some (.cells cur0 e (0, 0))) (hin : ∀ x ∈ L, ce x.1 < cur0.size) (hdi : ∀ x ∈ L, ∀ y ∈ L, ce x.1 = ce y.1 → x = y) (hdi' : ∀ x ∈ L, ∀ y ∈ L, x.1 = y.1 → x = y)
  (ks : List Nat) (hks : base.map Prod.fst = ks) (hbt : ks.all (fun k => l.toArray.all fun o => o.dst != some k) = true) (hbv : ∀ x ∈ base, a0.tmps.getD x.1 undef = x.2)
  (hst : ∀ j v w w', KeepP bp w w' → Φ j v w → Φ j v w')
  (hop : ∀ i o, l.toArray[i]? = some o → OpS P l.toArray Φ bp e cur0 L ce base w i o)
  (hrest : ∀ (u : Nat → Value) (w' : World), KeepP bp w w' → (∀ i o d, l[i]? = some o → o.dst = some d → Φ i (u i) w') →
   w'.heap[bp]? = some (.cells (L.foldl (fun c x => c.setIfInBounds (ce x.1) (u (us x.2))) cur0) e (0, 0)) → Q .normal (putAll l u 0 a0) w') :
  (Code.region id l.toArray true).wp P Q a0 w := by
 refine wp_region_G Φ (KeepP bp) (SideV bp e cur0 L ce) hm hB hd (fun _ _ _ => KeepP.trans) hst (KeepP.of_below ⟨rfl, rfl, rfl, Nat.le_refl _, fun _ _ => rfl⟩) ?_ ?_ ?_
 ·refine ⟨cur0, hbp, rfl, fun _ _ => rfl, fun x _ => ?_⟩
  rw [getD_replicate_false]
  rfl
 ·intro i o ho listed a w1 hI hdep hun hls
  refine hop i o ho Q _ listed a w1 ⟨hI.grown, hI.told, fun x hx => (hI.kept x.1 (kept_of (List.all_eq_true.1 hbt _ (hks ▸ List.mem_map.2 ⟨x, hx, rfl⟩)))).trans (hbv x hx), hI.side⟩ hdep hun ?_ ?_
  ·intro hne v w' hb hv
   refine ⟨v, rfl, KeepP.of_below hb, hv, ?_⟩
   obtain ⟨cur, h1, h2, h3, h4⟩ := hI.side
   refine ⟨cur, (hb.block bp hI.side.lt).trans h1, h2, h3, fun x hx => ?_⟩
   rw [getD_set_ne false (fun h => hne x hx h.symm), h4 x hx]
   by_cases hl : listed.getD x.1 false = true
   ·rw [if_pos hl, if_pos hl]
    cases hod : o.dst with
    | none => rfl
    | some d =>
     congr 1
     refine (put_getD_ne ?_).symm
     rintro rfl
     rw [hun x.1 (.inr (waitB_spec hw hx ho hod))] at hl
     cases hl
   ·rw [if_neg hl, if_neg hl]
  ·rintro x hx rfl hno
   refine ⟨undef, by rw [hno]; rfl, KeepP.set _ _, fun d h => (by rw [hno] at h; cases h), ?_⟩
   obtain ⟨cur, h1, h2, h3, h4⟩ := hI.side
   refine ⟨cur.setIfInBounds (ce x.1) (a.tmps.getD x.2 undef), blk_set h1 _ _, by rw [Array.size_setIfInBounds, h2], fun i hi => ?_, fun y hy => ?_⟩
   ·rw [Array.getElem?_setIfInBounds_ne (hi x hx), h3 i hi]
   ·by_cases hxy : x.1 = y.1
    ·have : x = y := hdi' x hx y hy hxy
     subst this
     rw [Array.getElem?_setIfInBounds_self_of_lt (by rw [h2]; exact hin x hx), if_pos]
     rw [Array.getD_eq_getD_getElem?, Array.getElem?_setIfInBounds_self_of_lt hls]
     rfl
    ·rw [Array.getElem?_setIfInBounds_ne (fun h => hxy (by rw [hdi x hx y hy h])), getD_set_ne false hxy]
     exact h4 y hy
 ·intro u w1 hk hΦ ⟨listed, hall, cur, h1, h2, h3, h4⟩
  refine hrest u w1 hk hΦ ?_
  rw [h1]
  congr 2
  have hf : ∀ x ∈ L, u (us x.2) = (putAll l u 0 a0).tmps.getD x.2 undef := by
   intro x hx
   have h5 := List.all_eq_true.1 hus x hx
   cases ho : l[us x.2]? with
   | none => rw [ho] at h5; cases h5
   | some o =>
    rw [ho] at h5
    have hod : o.dst = some x.2 := by simpa using h5
    have hdd := List.all_eq_true.1 hd o (List.mem_of_getElem? ho)
    rw [hod] at hdd
    rw [putAll_in l u 0 a0 x.2 (us x.2) o ho hod (fun j' o' hlt ho' hd' => ?_) (by simpa using hdd), Nat.zero_add]
    have := free_inj hB (show l.toArray[us x.2]? = some o by simpa using ho) (show l.toArray[j']? = some o' by simpa using ho') hod hd'
    omega
  have hL := fold_same ce (fun x => u (us x.2)) (fun x => (putAll l u 0 a0).tmps.getD x.2 undef) L cur0 hf
  rw [hL]
  refine Array.ext_getElem? fun i => ?_
  by_cases hi : ∃ x ∈ L, ce x.1 = i
  ·obtain ⟨x, hx, rfl⟩ := hi
   rw [fold_in (fun x => (putAll l u 0 a0).tmps.getD x.2 undef) ce L cur0 x hx hin hdi, h4 x hx, if_pos]
   exact hall x.1 (waitB_lt hw hx)
  ·have hi' : ∀ x ∈ L, ce x.1 ≠ i := fun x hx h => hi ⟨x, hx, h⟩
   rw [fold_get (fun x => (putAll l u 0 a0).tmps.getD x.2 undef) ce i L cur0 hi', h3 i hi']
end
section
variable {α : Type} {d : Kd α} {e g : Nat} {W W1 : World} {ok ok' : Nat → Nat → Prop} {xs : List α}
/-- Block g holds the elements xs, each on blocks of its own ok. -/
def RowIx (d : Kd α) (e : Nat) (W : World) (ok : Nat → Nat → Prop) (g : Nat) (xs : List α) : Prop :=
 ∃ cur, W.heap[g]? = some (.cells cur e (0, 0)) ∧ xs.length * d.sz ≤ cur.size ∧ ∀ j x, xs[j]? = some x → Kd.FK d W (ok j) x ((cur.toList.drop (j * d.sz)).take d.sz)
theorem RowAt.ix {ok : Nat → Prop} (h : RowAt d e W ok g xs) : RowIx d e W (fun _ => ok) g xs := by
 obtain ⟨cur, inner, hc, ht, hr⟩ := h
 refine ⟨cur, hc, ?_, fun j x hj => ?_⟩
 ·have h1 : (cur.toList.take (xs.length * d.sz)).length = xs.length * d.sz := by rw [ht]; exact hr.1
  have h2 : (cur.toList.take (xs.length * d.sz)).length ≤ cur.toList.length := List.length_take_le' _ _
  rw [h1, Array.length_toList] at h2
  exact h2
 ·have := hr.2 j x hj
  rw [← ht] at this
  have hjl := (List.getElem?_eq_some_iff.1 hj).1
  have hm : j * d.sz + d.sz ≤ xs.length * d.sz := by rw [← Nat.succ_mul]; exact Nat.mul_le_mul_right _ hjl
  rwa [List.drop_take, List.take_take, Nat.min_eq_left (by omega)] at this
theorem RowIx.at_ {o : Nat → Prop} (h : RowIx d e W ok g xs) (ho : ∀ j k, j < xs.length → ok j k → o k) : RowAt d e W o g xs := by
 obtain ⟨cur, hc, hs, hr⟩ := h
 refine ⟨cur, cur.toList.take (xs.length * d.sz), hc, rfl, ?_, fun j x hj => ?_⟩
 ·rw [List.length_take]
  have h2 : cur.toList.length = cur.size := Array.length_toList
  omega
 ·have hjl := (List.getElem?_eq_some_iff.1 hj).1
  have hm : j * d.sz + d.sz ≤ xs.length * d.sz := by rw [← Nat.succ_mul]; exact Nat.mul_le_mul_right _ hjl
  rw [List.drop_take, List.take_take, Nat.min_eq_left (by omega)]
  exact Kd.FK_mono (hr j x hj) (fun k => ho j k hjl)
theorem RowAt.ne {β : Type} {d' : Kd β} {e' g' : Nat} {ok ok' : Nat → Prop} {ys : List β} (h : RowAt d e W ok g xs) (h' : RowAt d' e' W ok' g' ys) (he : e ≠ e') : g ≠ g' := by
 rintro rfl
 obtain ⟨cur, inner, hc, _⟩ := h
 obtain ⟨cur', inner', hc', _⟩ := h'
 rw [hc] at hc'
 simp only [Option.some.injEq, Obj.cells.injEq] at hc'
 exact he hc'.2.1
theorem RowIx.lt (h : RowIx d e W ok g xs) : g < W.heap.size := by
 obtain ⟨cur, hc, _⟩ := h
 exact blk_lt hc
theorem RowIx.mono (h : RowIx d e W ok g xs) (ho : ∀ j k, j < xs.length → ok j k → ok' j k) : RowIx d e W ok' g xs := by
 obtain ⟨cur, hc, hs, hr⟩ := h
 exact ⟨cur, hc, hs, fun j x hj => Kd.FK_mono (hr j x hj) (fun k => ho j k (List.getElem?_eq_some_iff.1 hj).1)⟩
theorem RowIx.step (h : RowIx d e W ok g xs) (hg : W1.heap[g]? = W.heap[g]?) (hm : ∀ j k, ok j k → k < W.heap.size → W1.heap[k]? = W.heap[k]?) : RowIx d e W1 ok g xs := by
 obtain ⟨cur, hc, hs, hr⟩ := h
 exact ⟨cur, hg.trans hc, hs, fun j x hj => Kd.FK_step (hr j x hj) (fun k => hm j k)⟩
theorem RowIx.reads (h : RowIx d e W ok g xs) (hn : xs.length ≤ 4611686018427387904) : d.C W (some ⟨g, 0, none⟩) xs.length xs :=
 (h.at_ (o := fun k => ∃ j, ok j k) (fun j k _ hk => ⟨j, hk⟩)).reads hn
/-- One element taken out, its cells written over, and put back. -/
theorem RowIx.lens (h : RowIx d e W ok g xs) (hg : ∀ m, ¬ ok m g) (j : Nat) (x : α) (hj : xs[j]? = some x) :
  ∃ cur cs, W.heap[g]? = some (.cells cur e (0, 0)) ∧ cs.length = d.sz ∧ Kd.FK d W (ok j) x cs ∧ j * d.sz + d.sz ≤ cur.size ∧ (∀ i u, cs[i]? = some u → cur[j * d.sz + i]? = some u) ∧
   ∀ W1 cur' cs' (o : Nat → Prop), W1.heap[g]? = some (.cells cur' e (0, 0)) → cur'.size = cur.size → (∀ m, (m < j * d.sz ∨ j * d.sz + d.sz ≤ m) → cur'[m]? = cur[m]?) → cs'.length = d.sz →
    (∀ i u, cs'[i]? = some u → cur'[j * d.sz + i]? = some u) → (∀ k, k ≠ g → k < W.heap.size → W1.heap[k]? = W.heap[k]?) → Kd.FK d W1 o x cs' → RowIx d e W1 (fun m => if m = j then o else ok m) g xs := by
 obtain ⟨cur, hc, hs, hr⟩ := h
 have hjl := (List.getElem?_eq_some_iff.1 hj).1
 have hm : j * d.sz + d.sz ≤ xs.length * d.sz := by rw [← Nat.succ_mul]; exact Nat.mul_le_mul_right _ hjl
 have hfk := hr j x hj
 refine ⟨cur, _, hc, d.K_len (Kd.FK_now hfk), hfk, by omega, fun i u hu => ?_, ?_⟩
 ·rw [List.getElem?_take] at hu
  split at hu
  ·rw [List.getElem?_drop] at hu
   simpa using hu
  ·cases hu
 ·intro W1 cur' cs' o h1 h2 h3 h4 h5 h6 h7
  refine ⟨cur', h1, by omega, fun m y hy => ?_⟩
  have hml := (List.getElem?_eq_some_iff.1 hy).1
  have hmm : m * d.sz + d.sz ≤ xs.length * d.sz := by rw [← Nat.succ_mul]; exact Nat.mul_le_mul_right _ hml
  by_cases e1 : m = j
  ·subst e1
   simp only [if_pos]
   have : y = x := Option.some.inj (hy.symm.trans hj)
   subst this
   have : (cur'.toList.drop (m * d.sz)).take d.sz = cs' := by
    refine List.ext_getElem? fun i => ?_
    rw [List.getElem?_take, List.getElem?_drop]
    by_cases hi : i < d.sz
    ·rw [if_pos hi]
     have := h5 i (cs'[i]'(by omega)) (List.getElem?_eq_getElem _)
     rw [List.getElem?_eq_getElem (show i < cs'.length by omega)]
     simpa using this
    ·rw [if_neg hi, List.getElem?_eq_none (by omega)]
   rw [this]
   exact h7
  ·simp only [if_neg e1]
   have : (cur'.toList.drop (m * d.sz)).take d.sz = (cur.toList.drop (m * d.sz)).take d.sz := by
    refine List.ext_getElem? fun i => ?_
    rw [List.getElem?_take, List.getElem?_drop, List.getElem?_take, List.getElem?_drop]
    by_cases hi : i < d.sz
    ·rw [if_pos hi, if_pos hi]
     have := h3 (m * d.sz + i) (by
      rcases Nat.lt_or_gt_of_ne e1 with hlt | hgt
      ·left
       have : m * d.sz + d.sz ≤ j * d.sz := by rw [← Nat.succ_mul]; exact Nat.mul_le_mul_right _ hlt
       omega
      ·right
       have : j * d.sz + d.sz ≤ m * d.sz := by rw [← Nat.succ_mul]; exact Nat.mul_le_mul_right _ hgt
       omega)
     simpa using this
    ·rw [if_neg hi, if_neg hi]
   rw [this]
   exact Kd.FK_step (hr m y hy) (fun k hk hlt => h6 k (by rintro rfl; exact hg m hk) hlt)
end
end Go.Proofs.Ytemjpgmfignhnaa

/- Words for a region that draws its order, holds loads and calls that make memory: the world of its start, and what stays as there.
Conditions: none. -/
namespace Go.Proofs.Ytemjpgmfignhnaa
open Go.RowKit Go.Proofs.YtemjpgmfignhnaaW.PrintWords Go.Proofs.YtemjpgmfignhnaaW.PrintLast Go.Proofs.YtemjpgmfignhnaaW.PrintMore
set_option linter.unusedVariables false
theorem gen_world {P : Program} {c : Code} {Q : Exit → Act → World → Prop} {a : Act} {W : World} (h : ∀ WS, (∀ b o, WS.cell? ⟨b, o, none⟩ = W.cell? ⟨b, o, none⟩) → WS.heap.size = W.heap.size → Aside0 (WS = W) → c.wp P Q a WS) : c.wp P Q a W := h W (fun _ _ => rfl) rfl ⟨rfl⟩
end Go.Proofs.Ytemjpgmfignhnaa

/- Words for a region that draws its order and holds loads at any address, calls and blocks of its own: what stays as at its start.
Conditions: none. -/
namespace Go.Proofs.Ytemjpgmfignhnaa
open Go.RowKit Go.Proofs.YtemjpgmfignhnaaW.PrintWords Go.Proofs.YtemjpgmfignhnaaW.PrintLast Go.Proofs.YtemjpgmfignhnaaW.PrintMore
set_option linter.unusedVariables false
theorem hl_start (w1 : World) : Below w1.heap.size w1 w1.drew ∧ ∀ a : Addr, a.block < w1.heap.size → w1.drew.cell? a = w1.cell? a := ⟨below_drew (Below.refl _ _), fun _ _ => rfl⟩
theorem hl_of {w1 W : World} (h : Below w1.heap.size w1 W) : Below w1.heap.size w1 W ∧ ∀ a : Addr, a.block < w1.heap.size → W.cell? a = w1.cell? a := ⟨h, fun _ ha => h.cell ha⟩
/-! ### but for one cell and the row v that grows -/
end Go.Proofs.Ytemjpgmfignhnaa

/- Short words for what stands in many walks alike.
Conditions: none. -/
namespace Go.Proofs.Ytemjpgmfignhnaa
open Go.RowKit Go.Proofs.YtemjpgmfignhnaaW.PrintWords Go.Proofs.YtemjpgmfignhnaaW.PrintLast Go.Proofs.YtemjpgmfignhnaaW.PrintMore
set_option linter.unusedVariables false
set_option linter.unusedSimpArgs false
/-- What is below stays below, over blocks, draws, cells of one's own. -/
theorem chn {n : Nat} {w W : World} (h : Below n w W := by repeat (first | with_reducible exact Below.refl _ _ | with_reducible apply below_alloc | with_reducible apply below_drew | with_reducible apply pw_below_drewN | (with_reducible refine Below.setCell ?_ (by first | (simp; done) | (simp; omega) | (dsimp only; omega)) _) | (with_reducible refine below_to ?_ (by assumption)))) : Below n w W := h
theorem chm {n : Nat} {w W : World} (h : Below n w W := by repeat (first | exact Below.refl _ _ | apply below_alloc | apply below_drew | apply pw_below_drewN | (refine Below.setCell ?_ (by first | (simp; done) | (simp; omega) | (dsimp only; omega)) _) | (refine below_to ?_ (by assumption)))) : Below n w W := h
theorem clb {n : Nat} {w W : World} (h : Below n w W := by repeat (first | exact Below.refl _ _ | apply below_alloc | apply pw_below_drewN | apply below_drew1 | apply below_drew | (refine Below.setCell ?_ (by (try simp); (try omega)) _) | (refine below_to ?_ HB6.out) | (refine below_to ?_ HB5.out) | (refine below_to ?_ HB4.out) | (refine below_to ?_ HB3.out) | (refine below_to ?_ HB2.out) | (refine below_to ?_ HB1.out))) : Below n w W := h
section
variable {P : Program} {ops : Array Oper} {Q : Exit → Act → World → Prop} {md : Region.Mode} {S : World → Prop}
theorem tk (i : Nat) {oi : Oper} {v : Value} {fuel : Nat} {listed l' : Array Bool} {a a' : Act} {w : World} (hi : ops[i]? = some oi := by simp only [List.getElem?_toArray, List.getElem?_cons_succ, List.getElem?_cons_zero]; rfl)
  (hs : Region.noSelect ops = true := by kernel_rfl) (hf : Region.free md ops listed i = true := by kernel_rfl) (hr : (Region.ready md ops listed).contains i = true := by kernel_rfl)
  (hQ : ∀ c a w, Q (.panic c) (a.put oi.dst v) w → Q (.panic c) a w := by exact fun _ _ _ h => h)
  (hy : YieldsIf P ops S oi v a := by refine Or.inl ⟨by rfl, ?_⟩; (intro w hSw; (try dsimp only at hSw); go_simp; (try with_reducible rfl); done)) (hS : S w := by assumption)
  (hl : listed.setIfInBounds i true = l' := by first | (simp only [List.setIfInBounds_toArray, List.set_cons_zero, List.set_cons_succ]; rfl) | rfl)
  (ha : a.put oi.dst v = a' := by first | (simp only [Act.put, List.setIfInBounds_toArray, List.set_cons_zero, List.set_cons_succ]; rfl) | rfl)
  (h : wpAnyH P md ops Q S fuel l' a' w) : wpAnyH P md ops Q S (fuel + 1) listed a w :=
 wpAnyH_take hi hs hf hr hQ hy hS (by rw [hl, ha]; exact h)
theorem hko {K : Act → World → Prop} {fuel i : Nat} {listed l' : Array Bool} (hK : Shut (∀ a w, S w → (S w → wpAnyH P md ops Q S fuel (listed.setIfInBounds i true) a w) → K a w)) (a a' : Act) (w : World) (hS : S w)
  (h : S w → wpAnyH P md ops Q S fuel l' a' w) (hl : listed.setIfInBounds i true = l' := by first | (simp only [List.setIfInBounds_toArray, List.set_cons_zero, List.set_cons_succ]; rfl) | rfl)
  (ha : a = a' := by first | (simp only [Act.put, List.setIfInBounds_toArray, List.set_cons_zero, List.set_cons_succ]; rfl) | rfl) : K a w := hK.out a w hS (fun hw => by rw [hl, ha]; exact h hw)
theorem rcn {fuel : Nat} {listed : Array Bool} {a : Act} {w : World} {i : Nat} {o : Oper} {rs : List Nat}
  (h : ∀ K' : Act → World → Prop, Shut (∀ a w, S w → (S w → wpAnyH P md ops Q S fuel (listed.setIfInBounds i true) a w) → K' a w) → if Region.wanted o (yielded ops a.tmps) = true then Oper.wp P o a w K' Q else K' (a.put o.dst undef) w)
  (hs : AllReadyH P md ops Q S fuel listed a w rs) (ho : ops[i]? = some o := by simp only [List.getElem?_toArray, List.getElem?_cons_succ, List.getElem?_cons_zero]; rfl) : AllReadyH P md ops Q S fuel listed a w (i :: rs) := AllReadyH.cons ho h hs
end
section
variable {W : World} {g t : Nat} {c0 c1 c2 c3 c4 c5 c6 c7 c8 c9 c10 : Value}
theorem cells7 (h : W.heap[g]? = some (.cells #[c0, c1, c2, c3, c4, c5, c6] t (0, 0))) : W.cell? ⟨g, 0, none⟩ = some c0 ∧ W.cell? ⟨g, 1, none⟩ = some c1 ∧ W.cell? ⟨g, 2, none⟩ = some c2 ∧ W.cell? ⟨g, 3, none⟩ = some c3 ∧ W.cell? ⟨g, 4, none⟩ = some c4 ∧ W.cell? ⟨g, 5, none⟩ = some c5 ∧ W.cell? ⟨g, 6, none⟩ = some c6 := ⟨blk_cell h 0, blk_cell h 1, blk_cell h 2, blk_cell h 3, blk_cell h 4, blk_cell h 5, blk_cell h 6⟩
theorem cells8 (h : W.heap[g]? = some (.cells #[c0, c1, c2, c3, c4, c5, c6, c7] t (0, 0))) : W.cell? ⟨g, 0, none⟩ = some c0 ∧ W.cell? ⟨g, 1, none⟩ = some c1 ∧ W.cell? ⟨g, 2, none⟩ = some c2 ∧ W.cell? ⟨g, 3, none⟩ = some c3 ∧ W.cell? ⟨g, 4, none⟩ = some c4 ∧ W.cell? ⟨g, 5, none⟩ = some c5 ∧ W.cell? ⟨g, 6, none⟩ = some c6 ∧ W.cell? ⟨g, 7, none⟩ = some c7 := ⟨blk_cell h 0, blk_cell h 1, blk_cell h 2, blk_cell h 3, blk_cell h 4, blk_cell h 5, blk_cell h 6, blk_cell h 7⟩
theorem cells11 (h : W.heap[g]? = some (.cells #[c0, c1, c2, c3, c4, c5, c6, c7, c8, c9, c10] t (0, 0))) : W.cell? ⟨g, 0, none⟩ = some c0 ∧ W.cell? ⟨g, 1, none⟩ = some c1 ∧ W.cell? ⟨g, 2, none⟩ = some c2 ∧ W.cell? ⟨g, 3, none⟩ = some c3 ∧ W.cell? ⟨g, 4, none⟩ = some c4 ∧ W.cell? ⟨g, 5, none⟩ = some c5 ∧ W.cell? ⟨g, 6, none⟩ = some c6 ∧ W.cell? ⟨g, 7, none⟩ = some c7 ∧ W.cell? ⟨g, 8, none⟩ = some c8 ∧ W.cell? ⟨g, 9, none⟩ = some c9 ∧ W.cell? ⟨g, 10, none⟩ = some c10 := ⟨blk_cell h 0, blk_cell h 1, blk_cell h 2, blk_cell h 3, blk_cell h 4, blk_cell h 5, blk_cell h 6, blk_cell h 7, blk_cell h 8, blk_cell h 9, blk_cell h 10⟩
end
end Go.Proofs.Ytemjpgmfignhnaa
