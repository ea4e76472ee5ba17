/- How the document's Of hands back its plan out of the box of its result.
Conditions: none. -/
import Derived.Test.YtemjpgmfignhnaaPlanAt
namespace Go.Proofs.Ytemjpgmfignhnaa
open Go.RowKit Go.Proofs.YtemjpgmfignhnaaW.PrintWords Go.Proofs.YtemjpgmfignhnaaW.PrintLast Go.Proofs.YtemjpgmfignhnaaW.PrintMore
set_option linter.unusedVariables false
set_option linter.unusedSimpArgs false
/-- A plan is handed back, and an error's number. -/
def PlanPost (r : TPlan × Int) (w : World) (e : Ending) (w' : World) : Prop :=
  ∃ A c, e = .returned (.tuple #[.agg #[.int .i64 r.1.Vehicle, .slice A r.1.Steps.length c, .int .i64 r.1.Time, .int .i64 r.1.Dist, .int .i64 r.1.Wait, .int .i64 r.1.Service, .int .i64 r.1.Cost], .int .i64 r.2]) ∧ r.1.Steps.length ≤ c ∧ Kd.F kStep w' (fun k => w.heap.size ≤ k) A r.1.Steps.length r.1.Steps ∧ Below w.heap.size w w'
theorem ret_plan (r : TPlan × Int) (w WF : World) (a : Act) (g : Nat) (A : Option Addr) (c : Nat)
    (hz : WF.heap[g]? = some (.cells #[.int .i64 r.1.Vehicle, .slice A r.1.Steps.length c, .int .i64 r.1.Time, .int .i64 r.1.Dist, .int .i64 r.1.Wait, .int .i64 r.1.Service, .int .i64 r.1.Cost] 74 (0, 0)))
    (h6 : a.tmps[6]? = some (.pointer (some ⟨g, 0, none⟩))) (h7 : a.tmps[7]? = some (.int .i64 r.2)) (hd : a.defers = []) (hl : r.1.Steps.length ≤ c) (hC : Kd.F kStep WF (fun k => w.heap.size ≤ k) A r.1.Steps.length r.1.Steps) (hb : Below w.heap.size w WF) :
    bodyPost Try.prog Try.f51 (PlanPost r w) .ret a WF := by
  have f0 := blk_cell hz 0
  have f1 := blk_cell hz 1
  have f2 := blk_cell hz 2
  have f3 := blk_cell hz 3
  have f4 := blk_cell hz 4
  have f5 := blk_cell hz 5
  have f6 := blk_cell hz 6
  simp only [List.getElem?_toArray, List.getElem?_cons_succ, List.getElem?_cons_zero] at f0 f1 f2 f3 f4 f5 f6
  refine bodyPost_ret (v := .tuple #[.agg #[.int .i64 r.1.Vehicle, .slice A r.1.Steps.length c, .int .i64 r.1.Time, .int .i64 r.1.Dist, .int .i64 r.1.Wait, .int .i64 r.1.Service, .int .i64 r.1.Cost], .int .i64 r.2]) ?_ hd ⟨A, c, rfl, hl, hC, hb⟩
  simp only [results, Try.results51]
  simp [h6, h7, go_sem, f0, f1, f2, f3, f4, f5, f6]
theorem ret_plan' (r : TPlan × Int) (w WF : World) (a : Act) (g : Nat) (A : Option Addr) (c n : Nat) (cost : Int) (hn : n = r.1.Steps.length) (hc : cost = r.1.Cost)
    (hz : WF.heap[g]? = some (.cells #[.int .i64 r.1.Vehicle, .slice A n c, .int .i64 r.1.Time, .int .i64 r.1.Dist, .int .i64 r.1.Wait, .int .i64 r.1.Service, .int .i64 cost] 74 (0, 0)))
    (h6 : a.tmps[6]? = some (.pointer (some ⟨g, 0, none⟩))) (h7 : a.tmps[7]? = some (.int .i64 r.2)) (hd : a.defers = []) (hl : r.1.Steps.length ≤ c) (hC : Kd.F kStep WF (fun k => w.heap.size ≤ k) A r.1.Steps.length r.1.Steps) (hb : Below w.heap.size w WF) :
    bodyPost Try.prog Try.f51 (PlanPost r w) .ret a WF := by
  subst hn hc
  exact ret_plan r w WF a g A c hz h6 h7 hd hl hC hb
/-- The same of any function whose results lie there. -/
theorem ret_planG {fn : Func} (hf : fn.results = #[.cell 6 74, .tmp 7]) (r : TPlan × Int) (w WF : World) (a : Act) (g : Nat) (A : Option Addr) (c : Nat)
    (hz : WF.heap[g]? = some (.cells #[.int .i64 r.1.Vehicle, .slice A r.1.Steps.length c, .int .i64 r.1.Time, .int .i64 r.1.Dist, .int .i64 r.1.Wait, .int .i64 r.1.Service, .int .i64 r.1.Cost] 74 (0, 0)))
    (h6 : a.tmps[6]? = some (.pointer (some ⟨g, 0, none⟩))) (h7 : a.tmps[7]? = some (.int .i64 r.2)) (hd : a.defers = []) (hl : r.1.Steps.length ≤ c) (hC : Kd.F kStep WF (fun k => w.heap.size ≤ k) A r.1.Steps.length r.1.Steps) (hb : Below w.heap.size w WF) :
    bodyPost Try.prog fn (PlanPost r w) .ret a WF := by
  have f0 := blk_cell hz 0
  have f1 := blk_cell hz 1
  have f2 := blk_cell hz 2
  have f3 := blk_cell hz 3
  have f4 := blk_cell hz 4
  have f5 := blk_cell hz 5
  have f6 := blk_cell hz 6
  simp only [List.getElem?_toArray, List.getElem?_cons_succ, List.getElem?_cons_zero] at f0 f1 f2 f3 f4 f5 f6
  refine bodyPost_ret (v := .tuple #[.agg #[.int .i64 r.1.Vehicle, .slice A r.1.Steps.length c, .int .i64 r.1.Time, .int .i64 r.1.Dist, .int .i64 r.1.Wait, .int .i64 r.1.Service, .int .i64 r.1.Cost], .int .i64 r.2]) ?_ hd ⟨A, c, rfl, hl, hC, hb⟩
  simp only [results, hf]
  simp [h6, h7, go_sem, f0, f1, f2, f3, f4, f5, f6]
theorem F_set7 {α : Type} {d : Kd α} {W : World} {ok : Nat → Prop} {A : Option Addr} {n g : Nat} {xs : List α} (h : Kd.F d W ok A n xs) (hok : ∀ k, ok k → k ≠ g) (u0 u1 u2 u3 u4 u5 u6 : Value) :
    Kd.F d (((((((W.setCell ⟨g, 0, none⟩ u0).setCell ⟨g, 1, none⟩ u1).setCell ⟨g, 2, none⟩ u2).setCell ⟨g, 3, none⟩ u3).setCell ⟨g, 4, none⟩ u4).setCell ⟨g, 5, none⟩ u5).setCell ⟨g, 6, none⟩ u6) ok A n xs :=
  Kd.F_far (Kd.F_far (Kd.F_far (Kd.F_far (Kd.F_far (Kd.F_far (Kd.F_far h hok u0) hok u1) hok u2) hok u3) hok u4) hok u5) hok u6
/-- A plan is stored into the box of the result, and handed back. -/
theorem ret_store {fn : Func} (hf : fn.results = #[.cell 6 74, .tmp 7]) (r : TPlan × Int) (w W : World) (a : Act) (g : Nat) (A : Option Addr) (c : Nat) {c0 c1 c2 c3 c4 c5 c6 : Value} {ok : Nat → Prop}
    (hz : W.heap[g]? = some (.cells #[c0, c1, c2, c3, c4, c5, c6] 74 (0, 0))) (h6 : a.tmps[6]? = some (.pointer (some ⟨g, 0, none⟩))) (h7 : a.tmps[7]? = some (.int .i64 r.2)) (hd : a.defers = []) (hg : w.heap.size ≤ g) (hok : ∀ k, ok k → g < k)
    (hl : r.1.Steps.length ≤ c) (hC : Kd.F kStep W ok A r.1.Steps.length r.1.Steps) (hb : Below w.heap.size w W) :
    bodyPost Try.prog fn (PlanPost r w) .ret a (((((((W.setCell ⟨g, 0, none⟩ (.int .i64 r.1.Vehicle)).setCell ⟨g, 1, none⟩ (.slice A r.1.Steps.length c)).setCell ⟨g, 2, none⟩ (.int .i64 r.1.Time)).setCell ⟨g, 3, none⟩ (.int .i64 r.1.Dist)).setCell ⟨g, 4, none⟩ (.int .i64 r.1.Wait)).setCell ⟨g, 5, none⟩ (.int .i64 r.1.Service)).setCell ⟨g, 6, none⟩ (.int .i64 r.1.Cost)) :=
  ret_planG hf r w _ a g A c (blk_set7 hz _ _ _ _ _ _ _) h6 h7 hd hl (Kd.F_mono (F_set7 hC (fun k hk => by have := hok k hk; omega) _ _ _ _ _ _ _) (fun k hk => by have := hok k hk; omega)) (below_set7 hb hg _ _ _ _ _ _ _)
theorem wp_store7 {o : Oper} {a : Act} {w : World} {K : Act → World → Prop} {Q : Exit → Act → World → Prop} {pa pv : Operand} {g : Nat} {d0 d1 d2 d3 d4 d5 d6 : Value} {x0 x2 x3 x4 x5 x6 : Int} {A : Option Addr} {n c tt : Nat}
    (ho : o.op = .store 74 pa pv) (hpa : a.eval pa = .pointer (some ⟨g, 0, none⟩)) (hpv : a.eval pv = .agg #[.int .i64 x0, .slice A n c, .int .i64 x2, .int .i64 x3, .int .i64 x4, .int .i64 x5, .int .i64 x6])
    (hb : w.heap[g]? = some (.cells #[d0, d1, d2, d3, d4, d5, d6] tt (0, 0)))
    (h : K (a.put o.dst undef) (((((((w.setCell ⟨g, 0, none⟩ (.int .i64 x0)).setCell ⟨g, 1, none⟩ (.slice A n c)).setCell ⟨g, 2, none⟩ (.int .i64 x2)).setCell ⟨g, 3, none⟩ (.int .i64 x3)).setCell ⟨g, 4, none⟩ (.int .i64 x4)).setCell ⟨g, 5, none⟩ (.int .i64 x5)).setCell ⟨g, 6, none⟩ (.int .i64 x6))) :
    Oper.wp Try.prog o a w K Q := by
  have z0 := blk_cell hb 0
  have z1 := blk_cell hb 1
  have z2 := blk_cell hb 2
  have z3 := blk_cell hb 3
  have z4 := blk_cell hb 4
  have z5 := blk_cell hb 5
  have z6 := blk_cell hb 6
  have zz := fun i => blk_frozen hb i
  simp only [List.getElem?_toArray, List.getElem?_cons_succ, List.getElem?_cons_zero] at z0 z1 z2 z3 z4 z5 z6
  unfold Oper.wp execOp
  simp only [ho, hpa, hpv]
  go_simp
  exact h
end Go.Proofs.Ytemjpgmfignhnaa
