/- Words that the walks use: what stays as it was where memory has only grown, and a problem as it comes in.
Conditions: none. -/
import Derived.Test.YtemjpgmfignhnaaTy
namespace Go.Proofs.Ytemjpgmfignhnaa
open Go.RowKit Go.Proofs.YtemjpgmfignhnaaW.PrintWords Go.Proofs.YtemjpgmfignhnaaW.PrintLast Go.Proofs.YtemjpgmfignhnaaW.PrintMore
set_option linter.unusedVariables false
set_option linter.unusedSimpArgs false
theorem alloc_cell {w : World} {a : Addr} {v : Value} (h : w.cell? a = some v) (o : Obj) : (w.alloc o).cell? a = some v := pw_cell_below (below_alloc (Below.refl _ _) o) h
theorem bcell {W w1 : World} (hb : Below W.heap.size W w1) : (∀ b o, b < W.heap.size → w1.cell? ⟨b, o, none⟩ = W.cell? ⟨b, o, none⟩) ∧ (∀ b o, b < W.heap.size → w1.frozen? ⟨b, o, none⟩ = W.frozen? ⟨b, o, none⟩) :=
  ⟨fun b o h => hb.cell (p := ⟨b, o, none⟩) h, fun b o h => hb.frozen (p := ⟨b, o, none⟩) h⟩
theorem below_to {w W w1 : World} (h : Below w.heap.size w W) (hb : Below W.heap.size W w1) : Below w.heap.size w w1 := below_then h h.size hb

/-- A cell that stays. -/
theorem stays {w : World} {a : Addr} {v : Value} (h : w.cell? a = some v) : Aside0 (∀ W, Below w.heap.size w W → W.cell? a = some v) := ⟨fun _ hb => pw_cell_below hb h⟩
/-! ### A region that draws its order, whose callees may make memory -/
/-- What a cell of a later world holds, where the elder one held nothing. -/
def laterCell (w' : World) (a : Addr) : Option Value := w'.cell? a
theorem grow_cell {W w' : World} (h : Below W.heap.size W w') (a : Addr) : w'.cell? a = (W.cell? a).or (laterCell w' a) := by
  cases hc : W.cell? a with
  | none => rfl
  | some v => rw [pw_cell_below h hc]; rfl
/-- A world that W has grown into: any at all, by the choice of x. -/
noncomputable def growBy (W x : World) : World := by
  classical exact if Below W.heap.size W x then x else W
theorem growBy_of {W x : World} (h : Below W.heap.size W x) : growBy W x = x := by
  unfold growBy
  rw [if_pos h]
theorem growBy_below (W x : World) : Below W.heap.size W (growBy W x) := by
  unfold growBy
  split
  · assumption
  · exact Below.refl _ _
def laterFrozen (w' : World) (a : Addr) : Bool := w'.frozen? a
theorem cell_growBy (W x : World) (a : Addr) : (growBy W x).cell? a = (W.cell? a).or (laterCell (growBy W x) a) := grow_cell (growBy_below W x) a
theorem growBy_draw (w : World) : ∃ x, { w with drawn := w.drawn + 1 } = growBy w x := ⟨{ w with drawn := w.drawn + 1 }, (growBy_of (W := w) (x := { w with drawn := w.drawn + 1 }) ⟨rfl, rfl, rfl, Nat.le_refl _, fun _ _ => rfl⟩).symm⟩
theorem wp_region_grow {P : Program} {l : List Oper} {id : Nat} {Q : Exit → Act → World → Prop} {a : Act} {w : World} (hm : P.follows .mixedOrders = true) (hB : Region.lexB .any l.toArray = true)
    (h : wpQuiet P l.toArray (fun w' => ∃ x, w' = growBy w x) (fun a' => ∀ w', (∃ x, w' = growBy w x) → Q .normal a' w') l a) : (Code.region id l.toArray true).wp P Q a w :=
  wp_region_quiet (C := fun w' => ∃ x, w' = growBy w x) hm hB (growBy_draw w) (by simpa using h)
/-- A callee that only makes memory, met in a grown world. -/
theorem grow_of {P : Program} {f : FuncId} {args : Array Value} {W x : World} {v : Value}
    (h : Calls P f args (growBy W x) fun e w'' => e = .returned v ∧ Below (growBy W x).heap.size (growBy W x) w'') : Calls P f args (growBy W x) fun e w'' => e = .returned v ∧ ∃ x', w'' = growBy W x' :=
  h.mono fun _ w'' ⟨he, hb⟩ => ⟨he, w'', (growBy_of (below_to (growBy_below W x) hb)).symm⟩
theorem grow_same {P : Program} {f : FuncId} {args : Array Value} {W x : World} {v : Value}
    (h : Calls P f args (growBy W x) fun e w'' => e = .returned v ∧ growBy W x = w'') : Calls P f args (growBy W x) fun e w'' => e = .returned v ∧ ∃ x', w'' = growBy W x' :=
  h.mono fun _ w'' ⟨he, hb⟩ => ⟨he, x, hb.symm⟩

/-! ### A row that lies in a block known whole -/
theorem C_block {α : Type} {d : Kd α} {W : World} {g t : Nat} {cs : Array Value} (h : W.heap[g]? = some (.cells cs t (0, 0))) (xs : List α) (hr : Reps (d.K W) d.sz xs cs.toList) (hn : xs.length ≤ 4611686018427387904) :
    d.C W (some ⟨g, 0, none⟩) xs.length xs := by
  refine ⟨rfl, by omega, fun _ => ⟨_, rfl, fun j p hj => ⟨(cs.toList.drop (j * d.sz)).take d.sz, ?_, hr.2 j p hj, fun i u hu => ?_⟩⟩⟩
  · have hjl := (List.getElem?_eq_some_iff.1 hj).1
    have h1 : j * d.sz + d.sz ≤ cs.toList.length := by rw [hr.1, ← Nat.succ_mul]; exact Nat.mul_le_mul_right _ hjl
    rw [List.length_take, List.length_drop]
    omega
  · rw [add_plain, blk_cell h]
    rw [List.getElem?_take] at hu
    split at hu
    · rw [List.getElem?_drop] at hu
      simpa using hu
    · cases hu
theorem C_one {α : Type} {d : Kd α} {W : World} {g t : Nat} {cs : List Value} (x : α) (h : W.heap[g]? = some (.cells cs.toArray t (0, 0))) (hk : d.K W x cs) : d.C W (some ⟨g, 0, none⟩) 1 [x] :=
  C_block h [x] ⟨by simp [d.K_len hk], fun j p hj => by
    cases j with
    | zero =>
      obtain rfl : x = p := by simpa using hj
      have : cs.take d.sz = cs := by rw [← d.K_len hk, List.take_length]
      simpa [this] using hk
    | succ j => simp at hj⟩ (by simp)
/-! ### A problem that comes in -/
/-- Where a problem's lists lie. -/
structure PV where
  a1 : Option Addr
  c1 : Nat
  a2 : Option Addr
  c2 : Nat
  a3 : Option Addr
  c3 : Nat
  a4 : Option Addr
  c4 : Nat
  a5 : Option Addr
  c5 : Nat
abbrev PV.val (q : PV) (p : TProblem) : Value := .agg #[.int .i64 p.Dims, .int .i64 p.Time.N, .slice q.a1 p.Time.Cells.length q.c1, .int .i64 p.Dist.N, .slice q.a2 p.Dist.Cells.length q.c2, .slice q.a3 p.Vehicles.length q.c3, .slice q.a4 p.Jobs.length q.c4, .slice q.a5 p.Shipments.length q.c5]
/-- It reads as p in w. -/
structure PV.Ok (q : PV) (p : TProblem) (w : World) : Prop where
  l1 : p.Time.Cells.length ≤ q.c1
  l2 : p.Dist.Cells.length ≤ q.c2
  l3 : p.Vehicles.length ≤ q.c3
  l4 : p.Jobs.length ≤ q.c4
  l5 : p.Shipments.length ≤ q.c5
  h1 : Kd.C (Kd.int .i64) w q.a1 p.Time.Cells.length p.Time.Cells
  h2 : Kd.C (Kd.int .i64) w q.a2 p.Dist.Cells.length p.Dist.Cells
  h3 : Kd.C kVehicle w q.a3 p.Vehicles.length p.Vehicles
  h4 : Kd.C kJob w q.a4 p.Jobs.length p.Jobs
  h5 : Kd.C kShipment w q.a5 p.Shipments.length p.Shipments
theorem PV.Ok.below {q : PV} {p : TProblem} {w w1 : World} (h : q.Ok p w) (hb : Below w.heap.size w w1) : q.Ok p w1 :=
  ⟨h.l1, h.l2, h.l3, h.l4, h.l5, Kd.C_below h.h1 hb, Kd.C_below h.h2 hb, Kd.C_below h.h3 hb, Kd.C_below h.h4 hb, Kd.C_below h.h5 hb⟩
/-- Its lists are no longer than memory allows. -/
structure Lens (p : TProblem) : Prop where
  n1 : p.Time.Cells.length ≤ 4611686018427387904
  n2 : p.Dist.Cells.length ≤ 4611686018427387904
  n3 : p.Vehicles.length ≤ 4611686018427387904
  n4 : p.Jobs.length ≤ 4611686018427387904
  n5 : p.Shipments.length ≤ 4611686018427387904
end Go.Proofs.Ytemjpgmfignhnaa
