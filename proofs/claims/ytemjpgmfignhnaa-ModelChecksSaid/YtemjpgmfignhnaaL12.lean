/- Contract: the problem Line of the fixed facts.
Conditions: none. -/
import Derived.Test.YtemjpgmfignhnaaC12j
import Derived.RegionTactic
import Derived.BigRegion
import Derived.ChangeAlike
namespace Go.Proofs.Ytemjpgmfignhnaa
open Go.RowKit Go.Proofs.YtemjpgmfignhnaaW.PrintWords Go.Proofs.YtemjpgmfignhnaaW.PrintLast Go.Proofs.YtemjpgmfignhnaaW.PrintMore
set_option linter.unusedVariables false
set_option linter.unusedSimpArgs false
def lineM : TMatrix := ⟨2, [0, 10, 10, 0]⟩
def lineV : TVehicle := ⟨0, 0, [], 0, ⟨0, 1000000⟩, 0, 1, 0, 12, []⟩
def lineP : TProblem := ⟨0, lineM, lineM, [lineV], [⟨⟨1, 5, [⟨0, 1000000⟩]⟩, [], [], 0, 1⟩, ⟨⟨1, 0, [⟨0, 1000000⟩]⟩, [], [], 0, 5⟩], []⟩
def linePV (gc gv gj : Nat) : PV := ⟨some ⟨gc, 0, none⟩, 4, some ⟨gc, 0, none⟩, 4, some ⟨gv, 0, none⟩, 1, some ⟨gj, 0, none⟩, 2, none, 0⟩
structure LineIn (gc gw gv gj : Nat) (w w' : World) : Prop where
  lc : w.heap.size ≤ gc
  lw : w.heap.size ≤ gw
  lv : w.heap.size ≤ gv
  lj : w.heap.size ≤ gj
  hc : w'.heap[gc]? = some (.cells #[.int .i64 0, .int .i64 10, .int .i64 10, .int .i64 0] 3 (0, 0))
  hw : w'.heap[gw]? = some (.cells #[.int .i64 0, .int .i64 1000000] 40 (0, 0))
  hv : w'.heap[gv]? = some (.cells #[.int .i64 0, .int .i64 0, .slice none 0 0, .int .u64 0, .int .i64 0, .int .i64 1000000, .int .i64 0, .int .i64 1, .int .i64 0, .int .i64 12, .slice none 0 0] 89 (0, 0))
  hj : w'.heap[gj]? = some (.cells #[.int .i64 1, .int .i64 5, .slice (some ⟨gw, 0, none⟩) 1 1, .slice none 0 0, .slice none 0 0, .int .u64 0, .int .i64 1, .int .i64 1, .int .i64 0, .slice (some ⟨gw, 0, none⟩) 1 1, .slice none 0 0, .slice none 0 0, .int .u64 0, .int .i64 5] 46 (0, 0))
  below : Below w.heap.size w w'
def LinePost (w : World) (e : Ending) (w' : World) : Prop := ∃ gc gw gv gj : Nat, e = .returned ((linePV gc gv gj).val lineP) ∧ LineIn gc gw gv gj w w'
theorem blk_at {W : World} {o : Obj} {n : Nat} (h : W.heap.size = n) : (W.alloc o).heap[n]? = some o := h ▸ blk_new W o
set_option maxHeartbeats 8000000 in
set_option maxRecDepth 100000 in
theorem line_any (w : World) : Calls Try.prog 80 #[] w (LinePost w) := by
  go_enter Try.func80, Try.ntmps80
  go_wp2
  go_region
  all_goals
    go_wp2
    first
      | (refine bodyPost_ret (v := .agg #[.int .i64 0, .int .i64 2, .slice (some ⟨w.heap.size + 1, 0, none⟩) 4 4, .int .i64 2, .slice (some ⟨w.heap.size + 1, 0, none⟩) 4 4, .slice (some ⟨w.heap.size + 1 + 1 + 1 + 1, 0, none⟩) 1 1, .slice (some ⟨w.heap.size + 1 + 1 + 1 + 1+ 1, 0, none⟩) 2 2, .slice none 0 0]) ?_ rfl ⟨w.heap.size + 1, w.heap.size + 1 + 1 + 1, w.heap.size + 1 + 1 + 1 + 1, w.heap.size + 1 + 1 + 1 + 1+ 1, rfl, ⟨by omega, by omega, by omega, by omega, ?_, ?_, ?_, ?_, (by repeat (first | exact Below.refl _ _ | apply below_alloc | apply pw_below_drewN | apply below_drew1 | apply below_drew | (refine Below.setCell ?_ (by (try simp); (try omega)) _) | (refine below_to ?_ HB6.out) | (refine below_to ?_ HB5.out) | (refine below_to ?_ HB4.out) | (refine below_to ?_ HB3.out) | (refine below_to ?_ HB2.out) | (refine below_to ?_ HB1.out)))⟩⟩; focus (simp [results, Try.results80, go_sem]; done)); all_goals (refine blk_drew ?_; repeat (first | (focus (refine blk_at ?_; simp; done)) | apply blk_alloc))
      | (refine bodyPost_ret (v := .agg #[.int .i64 0, .int .i64 2, .slice (some ⟨w.heap.size + 1, 0, none⟩) 4 4, .int .i64 2, .slice (some ⟨w.heap.size + 1, 0, none⟩) 4 4, .slice (some ⟨w.heap.size + 1 + 1 + 1 + 1+ 1, 0, none⟩) 1 1, .slice (some ⟨w.heap.size + 1 + 1 + 1 + 1, 0, none⟩) 2 2, .slice none 0 0]) ?_ rfl ⟨w.heap.size + 1, w.heap.size + 1 + 1 + 1, w.heap.size + 1 + 1 + 1 + 1+ 1, w.heap.size + 1 + 1 + 1 + 1, rfl, ⟨by omega, by omega, by omega, by omega, ?_, ?_, ?_, ?_, (by repeat (first | exact Below.refl _ _ | apply below_alloc | apply pw_below_drewN | apply below_drew1 | apply below_drew | (refine Below.setCell ?_ (by (try simp); (try omega)) _) | (refine below_to ?_ HB6.out) | (refine below_to ?_ HB5.out) | (refine below_to ?_ HB4.out) | (refine below_to ?_ HB3.out) | (refine below_to ?_ HB2.out) | (refine below_to ?_ HB1.out)))⟩⟩; focus (simp [results, Try.results80, go_sem]; done)); all_goals (refine blk_drew ?_; repeat (first | (focus (refine blk_at ?_; simp; done)) | apply blk_alloc))
/-- Line, as it reads. -/
theorem LineIn.ok {gc gw gv gj : Nat} {w w' : World} (h : LineIn gc gw gv gj w w') : (linePV gc gv gj).Ok lineP w' := by
  have hw := C_one (d := kWindow) (W := w') (g := gw) (⟨0, 1000000⟩ : TWindow) h.hw (kWindow_mk _ _)
  refine ⟨Nat.le_refl _, Nat.le_refl _, Nat.le_refl _, Nat.le_refl _, Nat.le_refl _, ?_, ?_, ?_, ?_, ?_⟩
  · refine C_block h.hc [0, 10, 10, 0] ⟨rfl, fun j x hj => ?_⟩ (by decide)
    match j, hj with
    | 0, hj => obtain rfl := Option.some.inj hj; rfl
    | 1, hj => obtain rfl := Option.some.inj hj; rfl
    | 2, hj => obtain rfl := Option.some.inj hj; rfl
    | 3, hj => obtain rfl := Option.some.inj hj; rfl
  · refine C_block h.hc [0, 10, 10, 0] ⟨rfl, fun j x hj => ?_⟩ (by decide)
    match j, hj with
    | 0, hj => obtain rfl := Option.some.inj hj; rfl
    | 1, hj => obtain rfl := Option.some.inj hj; rfl
    | 2, hj => obtain rfl := Option.some.inj hj; rfl
    | 3, hj => obtain rfl := Option.some.inj hj; rfl
  · exact C_one (d := kVehicle) lineV h.hv (kVehicle_mk _ _ none 0 (Nat.le_refl _) (Kd.C_nil _ _) none 0 (Nat.le_refl _) (Kd.C_nil _ _))
  · refine C_block h.hj lineP.Jobs ⟨rfl, fun j x hj => ?_⟩ (by decide)
    match j, hj with
    | 0, hj => obtain rfl := Option.some.inj hj; exact kJob_mk _ _ _ 1 (Nat.le_refl _) hw none 0 (Nat.le_refl _) (Kd.C_nil _ _) none 0 (Nat.le_refl _) (Kd.C_nil _ _)
    | 1, hj => obtain rfl := Option.some.inj hj; exact kJob_mk _ _ _ 1 (Nat.le_refl _) hw none 0 (Nat.le_refl _) (Kd.C_nil _ _) none 0 (Nat.le_refl _) (Kd.C_nil _ _)
  · exact Kd.C_nil _ _
end Go.Proofs.Ytemjpgmfignhnaa
