/- Contracts: the order by which Tasks sorts.
Conditions: lists no longer than memory allows; priorities from 0 to 100. -/
import Derived.Test.YtemjpgmfignhnaaM0
import Derived.Test.YtemjpgmfignhnaaM1
import Derived.RegionTactic
import Derived.BigRegion
import Derived.ChangeAlike
import Derived.Test.YtemjpgmfignhnaaM2
namespace Go.Proofs.Ytemjpgmfignhnaa
open Go.RowKit Go.Proofs.YtemjpgmfignhnaaW.PrintWords Go.Proofs.YtemjpgmfignhnaaW.PrintLast Go.Proofs.YtemjpgmfignhnaaW.PrintMore
set_option linter.unusedVariables false
set_option linter.unusedSimpArgs false
attribute [local go_sem] cell_growBy Option.some_or
/-! ### insertion sort -/
/-- Block g begins with these tasks. -/
def TB (W : World) (g : Nat) (ts : List TTask) : Prop :=
 ∃ cur, W.heap[g]? = some (.cells cur 48 (0, 0)) ∧ ∀ i, i < ts.length → cur[i * 2]? = some (.bool (ts.getD i zTask).Ship) ∧ cur[i * 2 + 1]? = some (.int .i64 (ts.getD i zTask).Item)
theorem TB.cells {W : World} {g : Nat} {ts : List TTask} (h : TB W g ts) (i : Nat) (hi : i < ts.length) : W.cell? ⟨g, i * 2, none⟩ = some (.bool (ts.getD i zTask).Ship) ∧ W.cell? ⟨g, i * 2 + 1, none⟩ = some (.int .i64 (ts.getD i zTask).Item) := by
 obtain ⟨cur, hc, h⟩ := h
 rw [blk_cell hc, blk_cell hc]
 exact h i hi
theorem TB.frozen {W : World} {g : Nat} {ts : List TTask} (h : TB W g ts) (i : Nat) : W.frozen? ⟨g, i, none⟩ = false := by
 obtain ⟨cur, hc, h⟩ := h
 exact blk_frozen hc i
theorem TB.below {W W' : World} {g : Nat} {ts : List TTask} (h : TB W g ts) (hb : Below W.heap.size W W') : TB W' g ts := by
 obtain ⟨cur, hc, h⟩ := h
 exact ⟨cur, blk_below hc hb, h⟩
theorem TB.lt {W : World} {g : Nat} {ts : List TTask} (h : TB W g ts) : g < W.heap.size := by
 obtain ⟨cur, hc, h⟩ := h
 exact blk_lt hc
theorem TB.put {W : World} {g : Nat} {ts : List TTask} (h : TB W g ts) (i : Nat) (hi : i < ts.length) (x : TTask) :
  TB ((W.setCell ⟨g, i * 2, none⟩ (.bool x.Ship)).setCell ⟨g, i * 2 + 1, none⟩ (.int .i64 x.Item)) g (ts.set i x) := by
 obtain ⟨cur, hc, h⟩ := h
 refine ⟨_, blk_set (blk_set hc _ _) _ _, fun j hj => ?_⟩
 rw [List.length_set] at hj
 have hs := h i hi
 have s1 : i * 2 + 1 < cur.size := (Array.getElem?_eq_some_iff.1 hs.2).1
 by_cases e : i = j
 ·subst e
  have e2 : (ts.set i x).getD i zTask = x := by simp [hi]
  rw [e2]
  constructor
  ·rw [Array.getElem?_setIfInBounds_ne (by omega), Array.getElem?_setIfInBounds_self_of_lt (by omega)]
  ·rw [Array.getElem?_setIfInBounds_self_of_lt (by rw [Array.size_setIfInBounds]; omega)]
 ·have e2 : (ts.set i x).getD j zTask = ts.getD j zTask := by simp [List.getElem?_set_ne e]
  rw [e2, Array.getElem?_setIfInBounds_ne (by omega), Array.getElem?_setIfInBounds_ne (by omega), Array.getElem?_setIfInBounds_ne (by omega), Array.getElem?_setIfInBounds_ne (by omega)]
  exact h j hj
end Go.Proofs.Ytemjpgmfignhnaa
/- Contract: insertion sort of tasks, by the order of Tasks.
Conditions: at most a thousand tasks, in a row of the caller's own. -/
namespace Go.Proofs.Ytemjpgmfignhnaa
open Go.RowKit Go.Proofs.YtemjpgmfignhnaaW.PrintWords Go.Proofs.YtemjpgmfignhnaaW.PrintLast Go.Proofs.YtemjpgmfignhnaaW.PrintMore
set_option linter.unusedVariables false
set_option linter.unusedSimpArgs false
attribute [local go_sem] cell_growBy Option.some_or
end Go.Proofs.Ytemjpgmfignhnaa

/- Contract: the stable sort of at most twelve tasks.
Conditions: they lie in a row of the caller's own. -/
namespace Go.Proofs.Ytemjpgmfignhnaa
open Go.RowKit Go.Proofs.YtemjpgmfignhnaaW.PrintWords Go.Proofs.YtemjpgmfignhnaaW.PrintLast Go.Proofs.YtemjpgmfignhnaaW.PrintMore
set_option linter.unusedVariables false
set_option linter.unusedSimpArgs false
attribute [local go_sem] cell_growBy Option.some_or
end Go.Proofs.Ytemjpgmfignhnaa

/- Contract: all tasks of a problem, by falling priority.
Conditions: at most twelve tasks, priorities from 0 to 100. -/
namespace Go.Proofs.Ytemjpgmfignhnaa
open Go.RowKit Go.Proofs.YtemjpgmfignhnaaW.PrintWords Go.Proofs.YtemjpgmfignhnaaW.PrintLast Go.Proofs.YtemjpgmfignhnaaW.PrintMore
set_option linter.unusedVariables false
set_option linter.unusedSimpArgs false
attribute [local go_sem] cell_growBy Option.some_or
theorem TB.reads {w : World} {g : Nat} {ts : List TTask} (h : TB w g ts) (hn : ts.length ≤ 1000) : Kd.C kTask w (some ⟨g, 0, none⟩) ts.length ts := by
 refine ⟨rfl, by omega, fun _ => ⟨_, rfl, fun j x hj => ⟨[.bool x.Ship, .int .i64 x.Item], rfl, kTask_mk _ _, fun i u hu => ?_⟩⟩⟩
 have hjl := (List.getElem?_eq_some_iff.1 hj).1
 have hx : ts.getD j zTask = x := by rw [List.getD_eq_getElem?_getD, hj]; rfl
 obtain ⟨c0, c1⟩ := h.cells j hjl
 rw [hx] at c0 c1
 rw [add_plain]
 match i, hu with
 | 0, hu => obtain rfl := Option.some.inj hu; exact c0
 | 1, hu => obtain rfl := Option.some.inj hu; exact c1
end Go.Proofs.Ytemjpgmfignhnaa

/- Contract: the problem Line of the fixed facts.
Conditions: none. -/
namespace Go.Proofs.Ytemjpgmfignhnaa
open Go.RowKit Go.Proofs.YtemjpgmfignhnaaW.PrintWords Go.Proofs.YtemjpgmfignhnaaW.PrintLast Go.Proofs.YtemjpgmfignhnaaW.PrintMore
set_option linter.unusedVariables false
set_option linter.unusedSimpArgs false
def lineM : TMatrix := ⟨2, [0, 10, 10, 0]⟩
def lineV : TVehicle := ⟨0, 0, [], 0, ⟨0, 1000000⟩, 0, 1, 0, 12, []⟩
def lineP : TProblem := ⟨0, lineM, lineM, [lineV], [⟨⟨1, 5, [⟨0, 1000000⟩]⟩, [], [], 0, 1⟩, ⟨⟨1, 0, [⟨0, 1000000⟩]⟩, [], [], 0, 5⟩], []⟩
def linePV (gc gv gj : Nat) : PV := ⟨some ⟨gc, 0, none⟩, 4, some ⟨gc, 0, none⟩, 4, some ⟨gv, 0, none⟩, 1, some ⟨gj, 0, none⟩, 2, none, 0⟩
structure LineIn (gc gw gv gj : Nat) (w w' : World) : Prop where
 lc : w.heap.size ≤ gc
 lw : w.heap.size ≤ gw
 lv : w.heap.size ≤ gv
 lj : w.heap.size ≤ gj
 hc : w'.heap[gc]? = some (.cells #[.int .i64 0, .int .i64 10, .int .i64 10, .int .i64 0] 3 (0, 0))
 hw : w'.heap[gw]? = some (.cells #[.int .i64 0, .int .i64 1000000] 40 (0, 0))
 hv : w'.heap[gv]? = some (.cells #[.int .i64 0, .int .i64 0, .slice none 0 0, .int .u64 0, .int .i64 0, .int .i64 1000000, .int .i64 0, .int .i64 1, .int .i64 0, .int .i64 12, .slice none 0 0] 89 (0, 0))
 hj : w'.heap[gj]? = some (.cells #[.int .i64 1, .int .i64 5, .slice (some ⟨gw, 0, none⟩) 1 1, .slice none 0 0, .slice none 0 0, .int .u64 0, .int .i64 1, .int .i64 1, .int .i64 0, .slice (some ⟨gw, 0, none⟩) 1 1, .slice none 0 0, .slice none 0 0, .int .u64 0, .int .i64 5] 46 (0, 0))
 below : Below w.heap.size w w'
def LinePost (w : World) (e : Ending) (w' : World) : Prop := ∃ gc gw gv gj : Nat, e = .returned ((linePV gc gv gj).val lineP) ∧ LineIn gc gw gv gj w w'
theorem blk_at {W : World} {o : Obj} {n : Nat} (h : W.heap.size = n) : (W.alloc o).heap[n]? = some o := h ▸ blk_new W o
set_option maxHeartbeats 8000000 in
set_option maxRecDepth 100000 in
theorem line_any (w : World) : Calls Try.prog 80 #[] w (LinePost w) := by
 go_enter Try.func80, Try.ntmps80
 go_wp2
 go_region
 all_goals
  go_wp2
  first
   | (refine bodyPost_ret (v := .agg #[.int .i64 0, .int .i64 2, .slice (some ⟨w.heap.size + 1, 0, none⟩) 4 4, .int .i64 2, .slice (some ⟨w.heap.size + 1, 0, none⟩) 4 4, .slice (some ⟨w.heap.size + 1 + 1 + 1 + 1, 0, none⟩) 1 1, .slice (some ⟨w.heap.size + 1 + 1 + 1 + 1+ 1, 0, none⟩) 2 2, .slice none 0 0]) ?_ rfl ⟨w.heap.size + 1, w.heap.size + 1 + 1 + 1, w.heap.size + 1 + 1 + 1 + 1, w.heap.size + 1 + 1 + 1 + 1+ 1, rfl, ⟨by omega, by omega, by omega, by omega, ?_, ?_, ?_, ?_, clb⟩⟩; focus (simp [results, Try.results80, go_sem]; done)); all_goals (refine blk_drew ?_; repeat (first | (focus (refine blk_at ?_; simp; done)) | apply blk_alloc))
   | (refine bodyPost_ret (v := .agg #[.int .i64 0, .int .i64 2, .slice (some ⟨w.heap.size + 1, 0, none⟩) 4 4, .int .i64 2, .slice (some ⟨w.heap.size + 1, 0, none⟩) 4 4, .slice (some ⟨w.heap.size + 1 + 1 + 1 + 1+ 1, 0, none⟩) 1 1, .slice (some ⟨w.heap.size + 1 + 1 + 1 + 1, 0, none⟩) 2 2, .slice none 0 0]) ?_ rfl ⟨w.heap.size + 1, w.heap.size + 1 + 1 + 1, w.heap.size + 1 + 1 + 1 + 1+ 1, w.heap.size + 1 + 1 + 1 + 1, rfl, ⟨by omega, by omega, by omega, by omega, ?_, ?_, ?_, ?_, clb⟩⟩; focus (simp [results, Try.results80, go_sem]; done)); all_goals (refine blk_drew ?_; repeat (first | (focus (refine blk_at ?_; simp; done)) | apply blk_alloc))
/-- Line, as it reads. -/
theorem LineIn.ok {gc gw gv gj : Nat} {w w' : World} (h : LineIn gc gw gv gj w w') : (linePV gc gv gj).Ok lineP w' := by
 have hw := C_one (d := kWindow) (W := w') (g := gw) (⟨0, 1000000⟩ : TWindow) h.hw (kWindow_mk _ _)
 refine ⟨Nat.le_refl _, Nat.le_refl _, Nat.le_refl _, Nat.le_refl _, Nat.le_refl _, ?_, ?_, ?_, ?_, ?_⟩
 ·refine C_block h.hc [0, 10, 10, 0] ⟨rfl, fun j x hj => ?_⟩ (by decide)
  match j, hj with
  | 0, hj => obtain rfl := Option.some.inj hj; rfl
  | 1, hj => obtain rfl := Option.some.inj hj; rfl
  | 2, hj => obtain rfl := Option.some.inj hj; rfl
  | 3, hj => obtain rfl := Option.some.inj hj; rfl
 ·refine C_block h.hc [0, 10, 10, 0] ⟨rfl, fun j x hj => ?_⟩ (by decide)
  match j, hj with
  | 0, hj => obtain rfl := Option.some.inj hj; rfl
  | 1, hj => obtain rfl := Option.some.inj hj; rfl
  | 2, hj => obtain rfl := Option.some.inj hj; rfl
  | 3, hj => obtain rfl := Option.some.inj hj; rfl
 ·exact C_one (d := kVehicle) lineV h.hv (kVehicle_mk _ _ none 0 (Nat.le_refl _) (Kd.C_nil _ _) none 0 (Nat.le_refl _) (Kd.C_nil _ _))
 ·refine C_block h.hj lineP.Jobs ⟨rfl, fun j x hj => ?_⟩ (by decide)
  match j, hj with
  | 0, hj => obtain rfl := Option.some.inj hj; exact kJob_mk _ _ _ 1 (Nat.le_refl _) hw none 0 (Nat.le_refl _) (Kd.C_nil _ _) none 0 (Nat.le_refl _) (Kd.C_nil _ _)
  | 1, hj => obtain rfl := Option.some.inj hj; exact kJob_mk _ _ _ 1 (Nat.le_refl _) hw none 0 (Nat.le_refl _) (Kd.C_nil _ _) none 0 (Nat.le_refl _) (Kd.C_nil _ _)
 ·exact Kd.C_nil _ _
end Go.Proofs.Ytemjpgmfignhnaa

/- What a lawful problem's check tells, in plain words.
Conditions: none. -/
namespace Go.Proofs.Ytemjpgmfignhnaa
open Go.RowKit Go.Proofs.YtemjpgmfignhnaaW.PrintWords Go.Proofs.YtemjpgmfignhnaaW.PrintLast Go.Proofs.YtemjpgmfignhnaaW.PrintMore
set_option linter.unusedVariables false
set_option linter.unusedSimpArgs false
structure Law (p : TProblem) : Prop where
 d0 : 0 ≤ p.Dims
 d1 : p.Dims ≤ 3
 mt : matrixB p.Time p.Time.N = true
 md : matrixB p.Dist p.Time.N = true
 n0 : 1 ≤ p.Time.N
 n1 : p.Time.N ≤ 32
 nv : p.Vehicles.length ≤ 4
 nt : p.Jobs.length + p.Shipments.length ≤ 12
 gv : ∀ v ∈ p.Vehicles, vehicleB v p.Dims p.Time.N = true
 gj : ∀ j ∈ p.Jobs, jobB j p.Dims p.Time.N = true
 gs : ∀ s ∈ p.Shipments, shipB s p.Dims p.Time.N = true
theorem law_of {p : TProblem} (h : checkS p = 0) : Law p := by
 unfold checkS at h
 split at h
 ·cases h
 ·rename_i hb
  rw [Bool.not_eq_false] at hb
  simp only [Bool.and_eq_true, decide_eq_true_eq] at hb
  obtain ⟨h1, h2, h3, h4, h5⟩ := hb
  split at h
  ·cases h
  ·rename_i hc
   unfold vehsS at h
   split at h
   ·rename_i hv
    unfold jobsS at h
    split at h
    ·rename_i hj
     unfold shipsS at h
     split at h
     ·rename_i hs
      rw [List.all_eq_true] at hv hj hs
      exact ⟨(upB_true h1).1, (upB_true h1).2, h4, h5, h2, h3, by omega, by omega, hv, hj, hs⟩
     ·cases h
    ·cases h
   ·cases h
theorem matOk_of {m : TMatrix} {n : Int} (h : matrixB m n = true) (h0 : 1 ≤ n) (h1 : n ≤ 32) : MatOk m := by
 simp only [matrixB, Bool.and_eq_true, decide_eq_true_eq] at h
 obtain ⟨⟨a, b⟩, _⟩ := h
 exact ⟨by omega, by omega, by rw [a]; exact b⟩
theorem rdJob_mem (l : List TJob) (i : Int) (h0 : 0 ≤ i) (h1 : i < l.length) : rdJob l i ∈ l := by
 have : rdJob l i = l[i.toNat]'(by omega) := by simp [rdJob, List.getElem?_eq_getElem (show i.toNat < l.length by omega)]
 rw [this]
 exact List.getElem_mem _
theorem rdShip_mem (l : List TShipment) (i : Int) (h0 : 0 ≤ i) (h1 : i < l.length) : rdShipment l i ∈ l := by
 have : rdShipment l i = l[i.toNat]'(by omega) := by simp [rdShipment, List.getElem?_eq_getElem (show i.toNat < l.length by omega)]
 rw [this]
 exact List.getElem_mem _
end Go.Proofs.Ytemjpgmfignhnaa

/- Contracts: a task's visits; two lists that are the same.
Conditions: lists no longer than memory allows. -/
namespace Go.Proofs.Ytemjpgmfignhnaa
open Go.RowKit Go.Proofs.YtemjpgmfignhnaaW.PrintWords Go.Proofs.YtemjpgmfignhnaaW.PrintLast Go.Proofs.YtemjpgmfignhnaaW.PrintMore
set_option linter.unusedVariables false
set_option linter.unusedSimpArgs false
attribute [local go_sem] cell_growBy Option.some_or
theorem blk_is {W : World} {o : Obj} {n : Nat} (h : W.heap.size = n) : (W.alloc o).heap[n]? = some o := h ▸ blk_new W o
/-- A list is handed back. -/
def ListPost {α : Type} (d : Kd α) (l : List α) (w : World) (e : Ending) (w' : World) : Prop :=
 ∃ A c, e = .returned (.slice A l.length c) ∧ l.length ≤ c ∧ Kd.C d w' A l.length l ∧ Below w.heap.size w w'
end Go.Proofs.Ytemjpgmfignhnaa

/- Contracts: slices.Clone of windows, and the program's Stop.
Conditions: lists no longer than memory allows. -/
namespace Go.Proofs.Ytemjpgmfignhnaa
open Go.RowKit Go.Proofs.YtemjpgmfignhnaaW.PrintWords Go.Proofs.YtemjpgmfignhnaaW.PrintLast Go.Proofs.YtemjpgmfignhnaaW.PrintMore
set_option linter.unusedVariables false
set_option linter.unusedSimpArgs false
attribute [local go_sem] cell_growBy Option.some_or
theorem wpl_copy {α : Type} {d : Kd α} {P : Program} {ops : Array Oper} {rest : List Oper} {o : Oper} {a : Act} {w W0 : World} {xs : List α} {Q : Exit → Act → World → Prop} (hgd : o.guard = none) (s x : Operand) (t e : TypeId) (z : Value) (bytes : Nat)
  (ho : o.op = .call { callee := .builtin .append, args := #[s, x], argTypes := #[t, t] }) (ht : P.underlying t = some (.slice e))
  (hinfo : (P.info? e).map (fun i => (i.zero, i.size, i.bytes)) = some (some z, d.sz, bytes)) (hzs : z.cells.size = d.sz) (hsz : 0 < d.sz)
  (hd : Kd.Heap d) (base : Nat) (hbase : base ≤ w.heap.size) (hs : EmptyRow e base (a.eval s) w) (A : Option Addr) (c : Nat) (hx : a.eval x = .slice A xs.length c) (hC : d.C W0 A xs.length xs) (hb : Below W0.heap.size W0 w)
  (hbytes : xs.length * bytes ≤ 140737488355328) (h63 : xs.length ≤ maxLen)
  (hK : ∀ v w', Copied d e base (fun k => k < W0.heap.size) xs v w' → Below w.heap.size w w' → wpList P ops Q rest (a.put o.dst v) w') : wpList P ops Q (o :: rest) a w := by
 refine wpList_plain hgd fun K hk => ?_
 exact wp_copy s x t e z bytes ho ht hinfo hzs hsz hd base hbase hs A c hx hC hb hbytes h63 (fun v w' hc hb' => hk _ _ (hK v w' hc hb'))
def ClonePost {α : Type} (d : Kd α) (e : Nat) (l : List α) (W0 w : World) (en : Ending) (w' : World) : Prop :=
 ∃ v, en = .returned v ∧ Below w.heap.size w w' ∧ ((l = [] ∧ v = .slice none 0 0) ∨ Copied d e w.heap.size (fun k => k < W0.heap.size) l v w')
set_option maxHeartbeats 8000000 in
set_option maxRecDepth 100000 in
theorem cloneW_any (l : List TWindow) (A : Option Addr) (c : Nat) (W0 w : World) (hr : Kd.C kWindow W0 A l.length l) (hb0 : Below W0.heap.size W0 w) (hb : l.length * 16 ≤ 140737488355328) (hm : l.length ≤ maxLen) :
  Calls Try.prog 94 #[.slice A l.length c] w (ClonePost kWindow 40 l W0 w) := by
 have HR := Aside0.mk hr
 have HB0 := Aside0.mk hb0
 clear hb0
 have HL := Aside0.mk (show _ ∧ _ from ⟨hb, hm⟩)
 clear hb hm
 cases A with
 | none =>
  have h0 : l = [] := by
   cases l with
   | nil => rfl
   | cons x l =>
    obtain ⟨ad, e, _⟩ := hr.2.2 (by simp)
    cases e
  subst h0
  have hq : ∀ W, (binOp .eql 41 (.slice none 0 c) (.slice none 0 0)).run Try.prog W = .ok (.bool true) W := fun W => by rfl
  go_enter Try.func94, Try.ntmps94
  go_wp2
  go_ret
  exact ⟨_, rfl, Below.refl _ _, .inl ⟨rfl, rfl⟩⟩
 | some ad =>
  have hq : ∀ W, (binOp .eql 41 (.slice (some ad) l.length c) (.slice none 0 0)).run Try.prog W = .ok (.bool false) W := fun W => by rfl
  clear hr
  go_enter Try.func94, Try.ntmps94
  go_wp2_with (at_builtin; refine wpl_copy (d := kWindow) (W0 := W0) (xs := l) rfl (.tmp 5) (.tmp 6) 41 40 (.agg #[.int .i64 0, .int .i64 0]) 16 rfl Try.underlying41 infoWindow rfl (by decide) heap_window w.heap.size (by simp) ⟨w.heap.size, rfl, Nat.le_refl _, blk_new _ _⟩ _ c rfl HR.out (below_alloc HB0.out _) HL.out.1 HL.out.2 ?_; intro v w1 hc hb; have HC := Aside0.mk hc; have hb' := Aside0.mk (below_to (below_alloc (Below.refl _ _) _) hb); clear hc hb)
  go_ret
  exact ⟨_, rfl, hb'.out, .inr HC.out⟩
def ModStopPost (s : TStop × Bool) (w : World) (e : Ending) (w' : World) : Prop :=
 ∃ A c, e = .returned (.tuple #[.agg #[.int .i64 s.1.Place, .int .i64 s.1.Service, .slice A s.1.Windows.length c], .bool s.2]) ∧ s.1.Windows.length ≤ c ∧ Below w.heap.size w w' ∧
  ((s.1.Windows = [] ∧ A = none) ∨ ∃ g, A = some ⟨g, 0, none⟩ ∧ w.heap.size ≤ g ∧ RowAt kWindow 40 w' (fun k => k < w.heap.size) g s.1.Windows)
set_option maxHeartbeats 8000000 in
set_option maxRecDepth 100000 in
theorem modStop_any (q : PV) (p : TProblem) (v : TVisit) (w : World) (hl : Lens p) (hq : q.Ok p w) (hwl : (stopS p v).2 = true → (stopS p v).1.Windows.length * 16 ≤ 140737488355328 ∧ (stopS p v).1.Windows.length ≤ maxLen) :
  Calls Try.prog 36 #[q.val p, .agg #[.int .i64 v.Kind, .int .i64 v.Item]] w (ModStopPost (stopS p v) w) := by
 have HL := Aside0.mk hl
 have HQ := Aside0.mk hq
 clear hl hq
 cases hb : (taskOf v).2 && thereB p (taskOf v).1 with
 | false =>
  have es : stopS p v = (zStop, false) := by simp [stopS, hb]
  rw [es]
  clear hwl
  obtain ⟨k, item⟩ := v
  unfold PV.val
  cases ht : (taskOf ⟨k, item⟩).2 with
  | false =>
   have E := Aside0.mk ht
   clear ht hb es
   go_enter Try.func36, Try.ntmps36
   go_wp2_with (go_at_call 41; refine (of_any ⟨k, item⟩ _).mono ?_; rw [E.out]; rintro e w1 ⟨rfl, hb⟩; have HB1 := Aside0.mk hb; obtain ⟨qc1, qf1⟩ := bcell hb; have hs1 := hb.size; (try simp at hs1); (try have z01 : w.heap.size < w1.heap.size := (by omega)); (try have z11 : w.heap.size + 1 < w1.heap.size := (by omega)); (try have z21 : w.heap.size + 1 + 1 < w1.heap.size := (by omega)); (try have z31 : w.heap.size + 1 + 1 + 1 < w1.heap.size := (by omega)); (try have z41 : w.heap.size + 1 + 1 + 1 + 1 < w1.heap.size := (by omega)); clear hs1 hb; skip)
   exact bodyPost_ret (v := .tuple #[.agg #[.int .i64 0, .int .i64 0, .slice none 0 0], .bool false]) (by simp [results, Try.results36, go_sem, *]) rfl ⟨none, 0, rfl, Nat.le_refl _, clb, .inl ⟨rfl, rfl⟩⟩
  | true =>
   have E := Aside0.mk ht
   have E2 : Aside0 (thereB p (taskOf ⟨k, item⟩).1 = false) := ⟨by simpa [ht] using hb⟩
   clear ht hb es
   go_enter Try.func36, Try.ntmps36
   go_wp2_with (first
    | (go_at_call 41; refine (of_any ⟨k, item⟩ _).mono ?_; rw [E.out]; rintro e w1 ⟨rfl, hb⟩; have HB1 := Aside0.mk hb; obtain ⟨qc1, qf1⟩ := bcell hb; have hs1 := hb.size; (try simp at hs1); (try have z01 : w.heap.size < w1.heap.size := (by omega)); (try have z11 : w.heap.size + 1 < w1.heap.size := (by omega)); (try have z21 : w.heap.size + 1 + 1 < w1.heap.size := (by omega)); (try have z31 : w.heap.size + 1 + 1 + 1 < w1.heap.size := (by omega)); (try have z41 : w.heap.size + 1 + 1 + 1 + 1 < w1.heap.size := (by omega)); clear hs1 hb; skip)
    | (go_at_call 33; refine (there_any q p (taskOf ⟨k, item⟩).1 _ HL.out).mono ?_; rw [E2.out]; rintro e w2 ⟨rfl, hb⟩; have HB2 := Aside0.mk hb; obtain ⟨qc2, qf2⟩ := bcell hb; have hs2 := hb.size; (try simp at hs2); (try have z02 : w.heap.size < w2.heap.size := (by omega)); (try have z12 : w.heap.size + 1 < w2.heap.size := (by omega)); (try have z22 : w.heap.size + 1 + 1 < w2.heap.size := (by omega)); (try have z32 : w.heap.size + 1 + 1 + 1 < w2.heap.size := (by omega)); (try have z42 : w.heap.size + 1 + 1 + 1 + 1 < w2.heap.size := (by omega)); clear hs2 hb; skip))
   exact bodyPost_ret (v := .tuple #[.agg #[.int .i64 0, .int .i64 0, .slice none 0 0], .bool false]) (by simp [results, Try.results36, go_sem, *]) rfl ⟨none, 0, rfl, Nat.le_refl _, clb, .inl ⟨rfl, rfl⟩⟩
 | true =>
  obtain ⟨k, item⟩ := v
  simp only [Bool.and_eq_true] at hb
  obtain ⟨ht, hth⟩ := hb
  obtain ⟨a1, c1, a2, c2, a3, c3, a4, c4, a5, c5⟩ := q
  by_cases h1 : k = 1
  ·subst h1
   have e1 : taskOf ⟨1, item⟩ = (⟨false, item⟩, true) := by simp [taskOf]
   have es : stopS p ⟨1, item⟩ = ((rdJob p.Jobs item).Stop, true) := by simp [stopS, ht, hth]
   rw [es]
   have hr : 0 ≤ item ∧ item < p.Jobs.length := by
    rw [e1] at hth
    have := upB_true (show upB item ((p.Jobs.length : Int) - 1) = true from hth)
    omega
   obtain ⟨ad, A2, c2_, A3, c3_, A4, c4_, ea, y0, y1, y2, -, -, -, -, l2, g2, -, -, -, -⟩ := atJob HQ.out.h4 item hr.1 hr.2
   have ea' : a4 = some ad := ea
   subst ea'
   have X0 := stays y0
   have X1 := stays y1
   have X2 := stays y2
   have T : Aside0 (thereB p ⟨false, item⟩ = true) := ⟨by rw [e1] at hth; exact hth⟩
   have r1 := hr.1
   have r2 := hr.2
   have E := Aside0.mk e1
   have HWL := Aside0.mk (hwl (by rw [es]))
   rw [es] at HWL
   have HE := Aside0.mk (show _ ∧ _ from ⟨l2, g2⟩)
   clear y0 y1 y2 l2 g2 hr hth ht es e1 ea hwl
   unfold PV.val
   go_enter Try.func36, Try.ntmps36
   go_wp2_with (first
    | (go_at_call 41; refine (of_any ⟨1, item⟩ _).mono ?_; rw [E.out]; rintro e w1 ⟨rfl, hb⟩; have HB1 := Aside0.mk hb; obtain ⟨qc1, qf1⟩ := bcell hb; have hs1 := hb.size; (try simp at hs1); (try have z01 : w.heap.size < w1.heap.size := (by omega)); (try have z11 : w.heap.size + 1 < w1.heap.size := (by omega)); (try have z21 : w.heap.size + 1 + 1 < w1.heap.size := (by omega)); (try have z31 : w.heap.size + 1 + 1 + 1 < w1.heap.size := (by omega)); (try have z41 : w.heap.size + 1 + 1 + 1 + 1 < w1.heap.size := (by omega)); clear hs1 hb; skip)
    | (go_at_call 33; refine (there_any ⟨a1, c1, a2, c2, a3, c3, some ad, c4, a5, c5⟩ p ⟨false, item⟩ _ HL.out).mono ?_; rw [T.out]; rintro e w2 ⟨rfl, hb⟩; have HB2 := Aside0.mk hb; obtain ⟨qc2, qf2⟩ := bcell hb; have hs2 := hb.size; (try simp at hs2); (try have z02 : w.heap.size < w2.heap.size := (by omega)); (try have z12 : w.heap.size + 1 < w2.heap.size := (by omega)); (try have z22 : w.heap.size + 1 + 1 < w2.heap.size := (by omega)); (try have z32 : w.heap.size + 1 + 1 + 1 < w2.heap.size := (by omega)); (try have z42 : w.heap.size + 1 + 1 + 1 + 1 < w2.heap.size := (by omega)); clear hs2 hb; have g0 := alloc_cell (X0.out w2 clb); have g1 := alloc_cell (X1.out w2 clb); have g2 := alloc_cell (X2.out w2 clb)))
   have zz : w.heap.size + 1 + 1 < (w2.alloc (.cells #[.int .i64 ((rdJob p.Jobs item).Stop).Place, .int .i64 ((rdJob p.Jobs item).Stop).Service, .slice A2 ((rdJob p.Jobs item).Stop).Windows.length c2_] 43)).heap.size := by simp; omega
   refine (cloneW_any ((rdJob p.Jobs item).Stop).Windows A2 c2_ w _ HE.out.2 clb HWL.out.1 HWL.out.2).mono ?_
   rintro e w3 ⟨vv, rfl, hb, hc⟩
   have z43 : w2.heap.size < w3.heap.size := by
    have := hb.size
    simp at this
    omega
   have HB3 := Aside0.mk hb; obtain ⟨qc3, qf3⟩ := bcell hb; have hs3 := hb.size; (try simp at hs3); (try have z03 : w.heap.size < w3.heap.size := (by omega)); (try have z13 : w.heap.size + 1 < w3.heap.size := (by omega)); (try have z23 : w.heap.size + 1 + 1 < w3.heap.size := (by omega)); (try have z33 : w.heap.size + 1 + 1 + 1 < w3.heap.size := (by omega)); (try have z43 : w.heap.size + 1 + 1 + 1 + 1 < w3.heap.size := (by omega)); clear hs3 hb
   have z53 : w.heap.size + 1 + 1 < w3.heap.size := by omega
   rcases hc with ⟨h0, rfl⟩ | ⟨g, cc, rfl, hcc, hg, hrow⟩
   ·have HR := Aside0.mk h0
    clear h0 g0 g1 g2
    go_wp2
    refine bodyPost_ret (v := .tuple #[.agg #[.int .i64 ((rdJob p.Jobs item).Stop).Place, .int .i64 ((rdJob p.Jobs item).Stop).Service, .slice none 0 0], .bool true]) (by simp [results, Try.results36, go_sem, *]) rfl ⟨none, 0, by rw [HR.out]; rfl, by rw [HR.out]; exact Nat.le_refl _, clb, .inl ⟨HR.out, rfl⟩⟩
   ·have HR := Aside0.mk hrow
    have hg' : w2.heap.size + 1 ≤ g := by simpa using hg
    clear hrow hg g0 g1 g2
    go_wp2
    refine bodyPost_ret (v := .tuple #[.agg #[.int .i64 ((rdJob p.Jobs item).Stop).Place, .int .i64 ((rdJob p.Jobs item).Stop).Service, .slice (some ⟨g, 0, none⟩) ((rdJob p.Jobs item).Stop).Windows.length cc], .bool true]) (by simp [results, Try.results36, go_sem, *]) rfl ⟨some ⟨g, 0, none⟩, cc, rfl, hcc, clb, .inr ⟨g, rfl, by omega, ?_⟩⟩
    repeat (first | exact HR.out | refine RowAt.far ?_ (by dsimp only; omega) (fun k hk => by dsimp only; omega) _)
  by_cases h2 : k = 2
  ·subst h2
   have e1 : taskOf ⟨2, item⟩ = (⟨true, item⟩, true) := by simp [taskOf]
   have es : stopS p ⟨2, item⟩ = ((rdShipment p.Shipments item).Pickup, true) := by simp [stopS, ht, hth]
   rw [es]
   have hr : 0 ≤ item ∧ item < p.Shipments.length := by
    rw [e1] at hth
    have := upB_true (show upB item ((p.Shipments.length : Int) - 1) = true from hth)
    omega
   obtain ⟨ad, A2, c2_, A3, c3_, A4, c4_, ea, y0, y1, y2, -, -, -, -, -, -, l2, g2, -, -, -, -⟩ := atShipment HQ.out.h5 item hr.1 hr.2
   have ea' : a5 = some ad := ea
   subst ea'
   have X0 := stays y0
   have X1 := stays y1
   have X2 := stays y2
   have T : Aside0 (thereB p ⟨true, item⟩ = true) := ⟨by rw [e1] at hth; exact hth⟩
   have r1 := hr.1
   have r2 := hr.2
   have E := Aside0.mk e1
   have HWL := Aside0.mk (hwl (by rw [es]))
   rw [es] at HWL
   have HE := Aside0.mk (show _ ∧ _ from ⟨l2, g2⟩)
   clear y0 y1 y2 l2 g2 hr hth ht es e1 ea hwl
   unfold PV.val
   go_enter Try.func36, Try.ntmps36
   go_wp2_with (first
    | (go_at_call 41; refine (of_any ⟨2, item⟩ _).mono ?_; rw [E.out]; rintro e w1 ⟨rfl, hb⟩; have HB1 := Aside0.mk hb; obtain ⟨qc1, qf1⟩ := bcell hb; have hs1 := hb.size; (try simp at hs1); (try have z01 : w.heap.size < w1.heap.size := (by omega)); (try have z11 : w.heap.size + 1 < w1.heap.size := (by omega)); (try have z21 : w.heap.size + 1 + 1 < w1.heap.size := (by omega)); (try have z31 : w.heap.size + 1 + 1 + 1 < w1.heap.size := (by omega)); (try have z41 : w.heap.size + 1 + 1 + 1 + 1 < w1.heap.size := (by omega)); clear hs1 hb; skip)
    | (go_at_call 33; refine (there_any ⟨a1, c1, a2, c2, a3, c3, a4, c4, some ad, c5⟩ p ⟨true, item⟩ _ HL.out).mono ?_; rw [T.out]; rintro e w2 ⟨rfl, hb⟩; have HB2 := Aside0.mk hb; obtain ⟨qc2, qf2⟩ := bcell hb; have hs2 := hb.size; (try simp at hs2); (try have z02 : w.heap.size < w2.heap.size := (by omega)); (try have z12 : w.heap.size + 1 < w2.heap.size := (by omega)); (try have z22 : w.heap.size + 1 + 1 < w2.heap.size := (by omega)); (try have z32 : w.heap.size + 1 + 1 + 1 < w2.heap.size := (by omega)); (try have z42 : w.heap.size + 1 + 1 + 1 + 1 < w2.heap.size := (by omega)); clear hs2 hb; have g0 := alloc_cell (X0.out w2 clb); have g1 := alloc_cell (X1.out w2 clb); have g2 := alloc_cell (X2.out w2 clb)))
   have zz : w.heap.size + 1 + 1 < (w2.alloc (.cells #[.int .i64 ((rdShipment p.Shipments item).Pickup).Place, .int .i64 ((rdShipment p.Shipments item).Pickup).Service, .slice A2 ((rdShipment p.Shipments item).Pickup).Windows.length c2_] 43)).heap.size := by simp; omega
   refine (cloneW_any ((rdShipment p.Shipments item).Pickup).Windows A2 c2_ w _ HE.out.2 clb HWL.out.1 HWL.out.2).mono ?_
   rintro e w3 ⟨vv, rfl, hb, hc⟩
   have z43 : w2.heap.size < w3.heap.size := by
    have := hb.size
    simp at this
    omega
   have HB3 := Aside0.mk hb; obtain ⟨qc3, qf3⟩ := bcell hb; have hs3 := hb.size; (try simp at hs3); (try have z03 : w.heap.size < w3.heap.size := (by omega)); (try have z13 : w.heap.size + 1 < w3.heap.size := (by omega)); (try have z23 : w.heap.size + 1 + 1 < w3.heap.size := (by omega)); (try have z33 : w.heap.size + 1 + 1 + 1 < w3.heap.size := (by omega)); (try have z43 : w.heap.size + 1 + 1 + 1 + 1 < w3.heap.size := (by omega)); clear hs3 hb
   have z53 : w.heap.size + 1 + 1 < w3.heap.size := by omega
   rcases hc with ⟨h0, rfl⟩ | ⟨g, cc, rfl, hcc, hg, hrow⟩
   ·have HR := Aside0.mk h0
    clear h0 g0 g1 g2
    go_wp2
    refine bodyPost_ret (v := .tuple #[.agg #[.int .i64 ((rdShipment p.Shipments item).Pickup).Place, .int .i64 ((rdShipment p.Shipments item).Pickup).Service, .slice none 0 0], .bool true]) (by simp [results, Try.results36, go_sem, *]) rfl ⟨none, 0, by rw [HR.out]; rfl, by rw [HR.out]; exact Nat.le_refl _, clb, .inl ⟨HR.out, rfl⟩⟩
   ·have HR := Aside0.mk hrow
    have hg' : w2.heap.size + 1 ≤ g := by simpa using hg
    clear hrow hg g0 g1 g2
    go_wp2
    refine bodyPost_ret (v := .tuple #[.agg #[.int .i64 ((rdShipment p.Shipments item).Pickup).Place, .int .i64 ((rdShipment p.Shipments item).Pickup).Service, .slice (some ⟨g, 0, none⟩) ((rdShipment p.Shipments item).Pickup).Windows.length cc], .bool true]) (by simp [results, Try.results36, go_sem, *]) rfl ⟨some ⟨g, 0, none⟩, cc, rfl, hcc, clb, .inr ⟨g, rfl, by omega, ?_⟩⟩
    repeat (first | exact HR.out | refine RowAt.far ?_ (by dsimp only; omega) (fun k hk => by dsimp only; omega) _)
  by_cases h3 : k = 3
  ·subst h3
   have e1 : taskOf ⟨3, item⟩ = (⟨true, item⟩, true) := by simp [taskOf]
   have es : stopS p ⟨3, item⟩ = ((rdShipment p.Shipments item).Delivery, true) := by simp [stopS, ht, hth]
   rw [es]
   have hr : 0 ≤ item ∧ item < p.Shipments.length := by
    rw [e1] at hth
    have := upB_true (show upB item ((p.Shipments.length : Int) - 1) = true from hth)
    omega
   obtain ⟨ad, A0, c0_, A2, c2_, A4, c4_, ea, -, -, -, y0, y1, y2, -, -, -, -, -, l2, g2, -, -⟩ := atShipment HQ.out.h5 item hr.1 hr.2
   have ea' : a5 = some ad := ea
   subst ea'
   have X0 := stays y0
   have X1 := stays y1
   have X2 := stays y2
   have T : Aside0 (thereB p ⟨true, item⟩ = true) := ⟨by rw [e1] at hth; exact hth⟩
   have r1 := hr.1
   have r2 := hr.2
   have E := Aside0.mk e1
   have HWL := Aside0.mk (hwl (by rw [es]))
   rw [es] at HWL
   have HE := Aside0.mk (show _ ∧ _ from ⟨l2, g2⟩)
   clear y0 y1 y2 l2 g2 hr hth ht es e1 ea hwl
   unfold PV.val
   go_enter Try.func36, Try.ntmps36
   go_wp2_with (first
    | (go_at_call 41; refine (of_any ⟨3, item⟩ _).mono ?_; rw [E.out]; rintro e w1 ⟨rfl, hb⟩; have HB1 := Aside0.mk hb; obtain ⟨qc1, qf1⟩ := bcell hb; have hs1 := hb.size; (try simp at hs1); (try have z01 : w.heap.size < w1.heap.size := (by omega)); (try have z11 : w.heap.size + 1 < w1.heap.size := (by omega)); (try have z21 : w.heap.size + 1 + 1 < w1.heap.size := (by omega)); (try have z31 : w.heap.size + 1 + 1 + 1 < w1.heap.size := (by omega)); (try have z41 : w.heap.size + 1 + 1 + 1 + 1 < w1.heap.size := (by omega)); clear hs1 hb; skip)
    | (go_at_call 33; refine (there_any ⟨a1, c1, a2, c2, a3, c3, a4, c4, some ad, c5⟩ p ⟨true, item⟩ _ HL.out).mono ?_; rw [T.out]; rintro e w2 ⟨rfl, hb⟩; have HB2 := Aside0.mk hb; obtain ⟨qc2, qf2⟩ := bcell hb; have hs2 := hb.size; (try simp at hs2); (try have z02 : w.heap.size < w2.heap.size := (by omega)); (try have z12 : w.heap.size + 1 < w2.heap.size := (by omega)); (try have z22 : w.heap.size + 1 + 1 < w2.heap.size := (by omega)); (try have z32 : w.heap.size + 1 + 1 + 1 < w2.heap.size := (by omega)); (try have z42 : w.heap.size + 1 + 1 + 1 + 1 < w2.heap.size := (by omega)); clear hs2 hb; have g0 := alloc_cell (X0.out w2 clb); have g1 := alloc_cell (X1.out w2 clb); have g2 := alloc_cell (X2.out w2 clb)))
   have zz : w.heap.size + 1 + 1 < (w2.alloc (.cells #[.int .i64 ((rdShipment p.Shipments item).Delivery).Place, .int .i64 ((rdShipment p.Shipments item).Delivery).Service, .slice A2 ((rdShipment p.Shipments item).Delivery).Windows.length c2_] 43)).heap.size := by simp; omega
   refine (cloneW_any ((rdShipment p.Shipments item).Delivery).Windows A2 c2_ w _ HE.out.2 clb HWL.out.1 HWL.out.2).mono ?_
   rintro e w3 ⟨vv, rfl, hb, hc⟩
   have z43 : w2.heap.size < w3.heap.size := by
    have := hb.size
    simp at this
    omega
   have HB3 := Aside0.mk hb; obtain ⟨qc3, qf3⟩ := bcell hb; have hs3 := hb.size; (try simp at hs3); (try have z03 : w.heap.size < w3.heap.size := (by omega)); (try have z13 : w.heap.size + 1 < w3.heap.size := (by omega)); (try have z23 : w.heap.size + 1 + 1 < w3.heap.size := (by omega)); (try have z33 : w.heap.size + 1 + 1 + 1 < w3.heap.size := (by omega)); (try have z43 : w.heap.size + 1 + 1 + 1 + 1 < w3.heap.size := (by omega)); clear hs3 hb
   have z53 : w.heap.size + 1 + 1 < w3.heap.size := by omega
   rcases hc with ⟨h0, rfl⟩ | ⟨g, cc, rfl, hcc, hg, hrow⟩
   ·have HR := Aside0.mk h0
    clear h0 g0 g1 g2
    go_wp2
    refine bodyPost_ret (v := .tuple #[.agg #[.int .i64 ((rdShipment p.Shipments item).Delivery).Place, .int .i64 ((rdShipment p.Shipments item).Delivery).Service, .slice none 0 0], .bool true]) (by simp [results, Try.results36, go_sem, *]) rfl ⟨none, 0, by rw [HR.out]; rfl, by rw [HR.out]; exact Nat.le_refl _, clb, .inl ⟨HR.out, rfl⟩⟩
   ·have HR := Aside0.mk hrow
    have hg' : w2.heap.size + 1 ≤ g := by simpa using hg
    clear hrow hg g0 g1 g2
    go_wp2
    refine bodyPost_ret (v := .tuple #[.agg #[.int .i64 ((rdShipment p.Shipments item).Delivery).Place, .int .i64 ((rdShipment p.Shipments item).Delivery).Service, .slice (some ⟨g, 0, none⟩) ((rdShipment p.Shipments item).Delivery).Windows.length cc], .bool true]) (by simp [results, Try.results36, go_sem, *]) rfl ⟨some ⟨g, 0, none⟩, cc, rfl, hcc, clb, .inr ⟨g, rfl, by omega, ?_⟩⟩
    repeat (first | exact HR.out | refine RowAt.far ?_ (by dsimp only; omega) (fun k hk => by dsimp only; omega) _)
  rw [taskOf_none h1 h2 h3] at ht
  cases ht
end Go.Proofs.Ytemjpgmfignhnaa
