/- Contracts: the order by which Tasks sorts.
Conditions: lists no longer than memory allows; priorities from 0 to 100. -/
import Derived.Test.YtemjpgmfignhnaaC12c
import Derived.Test.YtemjpgmfignhnaaKit2
namespace Go.Proofs.Ytemjpgmfignhnaa
open Go.RowKit Go.Proofs.YtemjpgmfignhnaaW.PrintWords Go.Proofs.YtemjpgmfignhnaaW.PrintLast Go.Proofs.YtemjpgmfignhnaaW.PrintMore
set_option linter.unusedVariables false
set_option linter.unusedSimpArgs false
attribute [local go_sem] cell_growBy Option.some_or
def prioS (p : TProblem) (t : TTask) : Int := (factsS p t).1
abbrev taskVal (t : TTask) : Value := .agg #[.bool t.Ship, .int .i64 t.Item]
set_option maxHeartbeats 4000000 in
set_option maxRecDepth 100000 in
theorem cmpT_any (q : PV) (p : TProblem) (x y : TTask) (pa : Nat) (w : World) (hl : Lens p) (hq : q.Ok p w) (hp : ∀ t, 0 ≤ prioS p t ∧ prioS p t ≤ 100)
    (hb : w.heap[pa]? = some (.cells #[.int .i64 p.Dims, .int .i64 p.Time.N, .slice q.a1 p.Time.Cells.length q.c1, .int .i64 p.Dist.N, .slice q.a2 p.Dist.Cells.length q.c2, .slice q.a3 p.Vehicles.length q.c3, .slice q.a4 p.Jobs.length q.c4, .slice q.a5 p.Shipments.length q.c5] 29 (0, 0))) :
    Calls Try.prog 93 #[taskVal x, taskVal y, .pointer (some ⟨pa, 0, none⟩)] w fun e w' => e = .returned (.int .i64 (prioS p y - prioS p x)) ∧ Below w.heap.size w w' := by
  have hc := fun i => blk_cell hb i
  have hlt := blk_lt hb
  have HL := Aside0.mk hl
  have HQ := Aside0.mk hq
  obtain ⟨hx0, hx1⟩ := hp x
  obtain ⟨hy0, hy1⟩ := hp y
  clear hl hq hp hb
  obtain ⟨xs, xi⟩ := x
  obtain ⟨ys, yi⟩ := y
  have HC := Aside0.mk (fun (t : TTask) (W : World) (hw : Below w.heap.size w W) => priority_any q p t W HL.out (HQ.out.below hw))
  unfold prioS at hx0 hx1 hy0 hy1 ⊢
  go_enter Try.func93, Try.ntmps93
  go_wp2
  refine wp_region_grow (by kernel_rfl) (by kernel_rfl) ?_
  repeat (go_big_quiet_step ((go_at_call 32; exact grow_of (HC.out ⟨_, _⟩ _ (below_to (by repeat (first | exact Below.refl _ _ | apply below_alloc | apply pw_below_drewN | apply below_drew1 | apply below_drew | (refine Below.setCell ?_ (by (try simp); (try omega)) _) | (refine below_to ?_ HB6.out) | (refine below_to ?_ HB5.out) | (refine below_to ?_ HB4.out) | (refine below_to ?_ HB3.out) | (refine below_to ?_ HB2.out) | (refine below_to ?_ HB1.out))) (growBy_below _ _))))))
  refine wpQuiet_nil ?_
  intro w1 hw'
  have hb := grow_end hw'
  clear hw'
  have HB1 := Aside0.mk hb; obtain ⟨qc1, qf1⟩ := bcell hb; have hs1 := hb.size; (try simp at hs1); (try have z01 : w.heap.size < w1.heap.size := (by omega)); (try have z11 : w.heap.size + 1 < w1.heap.size := (by omega)); (try have z21 : w.heap.size + 1 + 1 < w1.heap.size := (by omega)); (try have z31 : w.heap.size + 1 + 1 + 1 < w1.heap.size := (by omega)); (try have z41 : w.heap.size + 1 + 1 + 1 + 1 < w1.heap.size := (by omega)); clear hs1 hb
  go_wp2
  go_ret
  exact ⟨rfl, (by repeat (first | exact Below.refl _ _ | apply below_alloc | apply pw_below_drewN | apply below_drew1 | apply below_drew | (refine Below.setCell ?_ (by (try simp); (try omega)) _) | (refine below_to ?_ HB6.out) | (refine below_to ?_ HB5.out) | (refine below_to ?_ HB4.out) | (refine below_to ?_ HB3.out) | (refine below_to ?_ HB2.out) | (refine below_to ?_ HB1.out)))⟩
/-! ### insertion sort -/
def swpAt (l : List TTask) (j : Nat) : List TTask := (l.set (j + 1) (l.getD j zTask)).set j (l.getD (j + 1) zTask)
def insIn (pr : TTask → Int) : Nat → List TTask → List TTask
  | 0, l => l
  | j + 1, l => if pr (l.getD j zTask) < pr (l.getD (j + 1) zTask) then insIn pr j (swpAt l j) else l
def insOut (pr : TTask → Int) : Nat → Nat → List TTask → List TTask
  | 0, _, l => l
  | m + 1, i, l => insOut pr m (i + 1) (insIn pr i l)
def sortS (pr : TTask → Int) (l : List TTask) : List TTask := insOut pr (l.length - 1) 1 l
/-- Block g begins with these tasks. -/
def TB (W : World) (g : Nat) (ts : List TTask) : Prop :=
  ∃ cur, W.heap[g]? = some (.cells cur 48 (0, 0)) ∧ ∀ i, i < ts.length → cur[i * 2]? = some (.bool (ts.getD i zTask).Ship) ∧ cur[i * 2 + 1]? = some (.int .i64 (ts.getD i zTask).Item)
theorem TB.cells {W : World} {g : Nat} {ts : List TTask} (h : TB W g ts) (i : Nat) (hi : i < ts.length) : W.cell? ⟨g, i * 2, none⟩ = some (.bool (ts.getD i zTask).Ship) ∧ W.cell? ⟨g, i * 2 + 1, none⟩ = some (.int .i64 (ts.getD i zTask).Item) := by
  obtain ⟨cur, hc, h⟩ := h
  rw [blk_cell hc, blk_cell hc]
  exact h i hi
theorem TB.frozen {W : World} {g : Nat} {ts : List TTask} (h : TB W g ts) (i : Nat) : W.frozen? ⟨g, i, none⟩ = false := by
  obtain ⟨cur, hc, h⟩ := h
  exact blk_frozen hc i
theorem TB.below {W W' : World} {g : Nat} {ts : List TTask} (h : TB W g ts) (hb : Below W.heap.size W W') : TB W' g ts := by
  obtain ⟨cur, hc, h⟩ := h
  exact ⟨cur, blk_below hc hb, h⟩
theorem TB.lt {W : World} {g : Nat} {ts : List TTask} (h : TB W g ts) : g < W.heap.size := by
  obtain ⟨cur, hc, h⟩ := h
  exact blk_lt hc
theorem TB.put {W : World} {g : Nat} {ts : List TTask} (h : TB W g ts) (i : Nat) (hi : i < ts.length) (x : TTask) :
    TB ((W.setCell ⟨g, i * 2, none⟩ (.bool x.Ship)).setCell ⟨g, i * 2 + 1, none⟩ (.int .i64 x.Item)) g (ts.set i x) := by
  obtain ⟨cur, hc, h⟩ := h
  refine ⟨_, blk_set (blk_set hc _ _) _ _, fun j hj => ?_⟩
  rw [List.length_set] at hj
  have hs := h i hi
  have s1 : i * 2 + 1 < cur.size := (Array.getElem?_eq_some_iff.1 hs.2).1
  by_cases e : i = j
  · subst e
    have e2 : (ts.set i x).getD i zTask = x := by simp [hi]
    rw [e2]
    constructor
    · rw [Array.getElem?_setIfInBounds_ne (by omega), Array.getElem?_setIfInBounds_self_of_lt (by omega)]
    · rw [Array.getElem?_setIfInBounds_self_of_lt (by rw [Array.size_setIfInBounds]; omega)]
  · have e2 : (ts.set i x).getD j zTask = ts.getD j zTask := by simp [List.getElem?_set_ne e]
    rw [e2, Array.getElem?_setIfInBounds_ne (by omega), Array.getElem?_setIfInBounds_ne (by omega), Array.getElem?_setIfInBounds_ne (by omega), Array.getElem?_setIfInBounds_ne (by omega)]
    exact h j hj
end Go.Proofs.Ytemjpgmfignhnaa
