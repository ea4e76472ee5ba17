/- Words that the walks use: what stays as it was where memory has only grown, and a problem as it comes in.
Conditions: none. -/
import Derived.Test.YtiejegalokncgaaTy
namespace Go.Proofs.Ytiejegalokncgaa
open Go.RowKit Go.Proofs.YtiejegalokncgaaW.PrintWords Go.Proofs.YtiejegalokncgaaW.PrintLast Go.Proofs.YtiejegalokncgaaW.PrintMore
set_option linter.unusedVariables false
set_option linter.unusedSimpArgs false
theorem alloc_cell {w : World} {a : Addr} {v : Value} (h : w.cell? a = some v) (o : Obj) : (w.alloc o).cell? a = some v := pw_cell_below (below_alloc (Below.refl _ _) o) h
theorem bcell {W w1 : World} (hb : Below W.heap.size W w1) : (∀ b o, b < W.heap.size → w1.cell? ⟨b, o, none⟩ = W.cell? ⟨b, o, none⟩) ∧ (∀ b o, b < W.heap.size → w1.frozen? ⟨b, o, none⟩ = W.frozen? ⟨b, o, none⟩) :=
  ⟨fun b o h => hb.cell (p := ⟨b, o, none⟩) h, fun b o h => hb.frozen (p := ⟨b, o, none⟩) h⟩
theorem below_to {w W w1 : World} (h : Below w.heap.size w W) (hb : Below W.heap.size W w1) : Below w.heap.size w w1 := below_then h h.size hb

/-- A cell that stays. -/
theorem stays {w : World} {a : Addr} {v : Value} (h : w.cell? a = some v) : Aside0 (∀ W, Below w.heap.size w W → W.cell? a = some v) := ⟨fun _ hb => pw_cell_below hb h⟩
/-! ### A region that draws its order, whose callees may make memory -/
/-- What a cell of a later world holds, where the elder one held nothing. -/
def laterCell (w' : World) (a : Addr) : Option Value := w'.cell? a
theorem grow_cell {W w' : World} (h : Below W.heap.size W w') (a : Addr) : w'.cell? a = (W.cell? a).or (laterCell w' a) := by
  cases hc : W.cell? a with
  | none => rfl
  | some v => rw [pw_cell_below h hc]; rfl
/-- A world that W has grown into: any at all, by the choice of x. -/
noncomputable def growBy (W x : World) : World := by
  classical exact if Below W.heap.size W x then x else W
theorem growBy_of {W x : World} (h : Below W.heap.size W x) : growBy W x = x := by
  unfold growBy
  rw [if_pos h]
theorem growBy_below (W x : World) : Below W.heap.size W (growBy W x) := by
  unfold growBy
  split
  · assumption
  · exact Below.refl _ _
def laterFrozen (w' : World) (a : Addr) : Bool := w'.frozen? a
theorem cell_growBy (W x : World) (a : Addr) : (growBy W x).cell? a = (W.cell? a).or (laterCell (growBy W x) a) := grow_cell (growBy_below W x) a
theorem growBy_draw (w : World) : ∃ x, { w with drawn := w.drawn + 1 } = growBy w x := ⟨{ w with drawn := w.drawn + 1 }, (growBy_of (W := w) (x := { w with drawn := w.drawn + 1 }) ⟨rfl, rfl, rfl, Nat.le_refl _, fun _ _ => rfl⟩).symm⟩
theorem wp_region_grow {P : Program} {l : List Oper} {id : Nat} {Q : Exit → Act → World → Prop} {a : Act} {w : World} (hm : P.follows .mixedOrders = true) (hB : Region.lexB .any l.toArray = true)
    (h : wpQuiet P l.toArray (fun w' => ∃ x, w' = growBy w x) (fun a' => ∀ w', (∃ x, w' = growBy w x) → Q .normal a' w') l a) : (Code.region id l.toArray true).wp P Q a w :=
  wp_region_quiet (C := fun w' => ∃ x, w' = growBy w x) hm hB (growBy_draw w) (by simpa using h)
/-- A callee that only makes memory, met in a grown world. -/
theorem grow_of {P : Program} {f : FuncId} {args : Array Value} {W x : World} {v : Value}
    (h : Calls P f args (growBy W x) fun e w'' => e = .returned v ∧ Below (growBy W x).heap.size (growBy W x) w'') : Calls P f args (growBy W x) fun e w'' => e = .returned v ∧ ∃ x', w'' = growBy W x' :=
  h.mono fun _ w'' ⟨he, hb⟩ => ⟨he, w'', (growBy_of (below_to (growBy_below W x) hb)).symm⟩
theorem grow_same {P : Program} {f : FuncId} {args : Array Value} {W x : World} {v : Value}
    (h : Calls P f args (growBy W x) fun e w'' => e = .returned v ∧ growBy W x = w'') : Calls P f args (growBy W x) fun e w'' => e = .returned v ∧ ∃ x', w'' = growBy W x' :=
  h.mono fun _ w'' ⟨he, hb⟩ => ⟨he, x, hb.symm⟩

/-! ### A row that lies in a block known whole -/
theorem C_block {α : Type} {d : Kd α} {W : World} {g t : Nat} {cs : Array Value} (h : W.heap[g]? = some (.cells cs t (0, 0))) (xs : List α) (hr : Reps (d.K W) d.sz xs cs.toList) (hn : xs.length ≤ 4611686018427387904) :
    d.C W (some ⟨g, 0, none⟩) xs.length xs := by
  refine ⟨rfl, by omega, fun _ => ⟨_, rfl, fun j p hj => ⟨(cs.toList.drop (j * d.sz)).take d.sz, ?_, hr.2 j p hj, fun i u hu => ?_⟩⟩⟩
  · have hjl := (List.getElem?_eq_some_iff.1 hj).1
    have h1 : j * d.sz + d.sz ≤ cs.toList.length := by rw [hr.1, ← Nat.succ_mul]; exact Nat.mul_le_mul_right _ hjl
    rw [List.length_take, List.length_drop]
    omega
  · rw [add_plain, blk_cell h]
    rw [List.getElem?_take] at hu
    split at hu
    · rw [List.getElem?_drop] at hu
      simpa using hu
    · cases hu
theorem C_one {α : Type} {d : Kd α} {W : World} {g t : Nat} {cs : List Value} (x : α) (h : W.heap[g]? = some (.cells cs.toArray t (0, 0))) (hk : d.K W x cs) : d.C W (some ⟨g, 0, none⟩) 1 [x] :=
  C_block h [x] ⟨by simp [d.K_len hk], fun j p hj => by
    cases j with
    | zero =>
      obtain rfl : x = p := by simpa using hj
      have : cs.take d.sz = cs := by rw [← d.K_len hk, List.take_length]
      simpa [this] using hk
    | succ j => simp at hj⟩ (by simp)
/-! ### Worlds -/
theorem gen_wp {P : Program} {c : Code} {Q : Exit → Act → World → Prop} {a : Act} {W : World} (R : World → Prop) (hR : R W) (h : ∀ WF, Aside0 (R WF) → c.wp P Q a WF) : c.wp P Q a W := h W ⟨hR⟩
/-- What a call turns: the blocks of S alone; beyond that it makes memory. -/
structure Turn (S : Nat → Prop) (w w' : World) : Prop where
  os : w'.os = w.os
  tape : w'.tape = w.tape
  output : w'.output = w.output
  size : w.heap.size ≤ w'.heap.size
  block : ∀ k, k < w.heap.size → ¬ S k → w'.heap[k]? = w.heap[k]?
theorem Turn.refl (S : Nat → Prop) (w : World) : Turn S w w := ⟨rfl, rfl, rfl, Nat.le_refl _, fun _ _ _ => rfl⟩
theorem Turn.trans {S S' : Nat → Prop} {a b c : World} (h : Turn S a b) (h2 : Turn S' b c) (hs : ∀ k, k < a.heap.size → S' k → S k) : Turn S a c :=
  ⟨h2.os.trans h.os, h2.tape.trans h.tape, h2.output.trans h.output, Nat.le_trans h.size h2.size, fun k hk hn => (h2.block k (Nat.lt_of_lt_of_le hk h.size) (fun h3 => hn (hs k hk h3))).trans (h.block k hk hn)⟩
theorem Turn.of_below {S : Nat → Prop} {w w' : World} (h : Below w.heap.size w w') : Turn S w w' := ⟨h.os, h.tape, h.output, h.size, fun k hk _ => h.block k hk⟩
theorem Turn.below {S : Nat → Prop} {n : Nat} {w w' : World} (h : Turn S w w') (hn : n ≤ w.heap.size) (hs : ∀ k, k < n → ¬ S k) : Below n w w' := ⟨h.os, h.tape, h.output, h.size, fun k hk => h.block k (Nat.lt_of_lt_of_le hk hn) (hs k hk)⟩
theorem Turn.cell {S : Nat → Prop} {w w' : World} (h : Turn S w w') {a : Addr} (ha : a.block < w.heap.size) (hn : ¬ S a.block) : w'.cell? a = w.cell? a := World.cell?_of_block (h.block _ ha hn)
end Go.Proofs.Ytiejegalokncgaa
