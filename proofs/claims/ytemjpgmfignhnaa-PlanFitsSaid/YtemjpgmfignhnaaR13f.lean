/- Contract: the plan of a list of visits. The document's answer.
Conditions: a lawful problem, at most 200 visits. -/
import Derived.Test.YtemjpgmfignhnaaM0
import Derived.Test.YtemjpgmfignhnaaM6
import Derived.Test.YtemjpgmfignhnaaM10
import Derived.Test.YtemjpgmfignhnaaM8
namespace Go.Proofs.Ytemjpgmfignhnaa
open Go.RowKit Go.Proofs.YtemjpgmfignhnaaW.PrintWords Go.Proofs.YtemjpgmfignhnaaW.PrintLast Go.Proofs.YtemjpgmfignhnaaW.PrintMore
set_option linter.unusedVariables false
set_option linter.unusedSimpArgs false
attribute [local go_sem] cell_growBy Option.some_or
theorem mul_in {a b : Int} (h0 : -1000 ≤ a) (h1 : a ≤ 10000000000) (h2 : 0 ≤ b) (h3 : b ≤ 1000000) : -1000000000 ≤ a * b ∧ a * b ≤ 10000000000000000 := by
 have k1 := Int.mul_le_mul_of_nonneg_right h1 h2
 have k2 := Int.mul_le_mul_of_nonneg_right h0 h2
 omega
theorem build_first {ev : Operand → Value} {o : Oper} {w : World} {pl ar : Int} {A : Option Addr} {n c : Nat} (ho : o.op = .build 91 #[(0, .tmp 56), (1, .tmp 57), (2, .tmp 58), (5, .tmp 61)])
  (h0 : ev (.tmp 56) = .agg #[.int .i64 5, .int .i64 0]) (h1 : ev (.tmp 57) = .int .i64 pl) (h2 : ev (.tmp 58) = .int .i64 ar) (h3 : ev (.tmp 61) = .slice A n c) :
  Sem.run Try.prog (execOp ev o) w = .ok (Next.value (.agg #[.int .i64 5, .int .i64 0, .int .i64 pl, .int .i64 ar, .int .i64 0, .int .i64 0, .slice A n c, .int .i64 0, .int .i64 0])) w := by
 unfold execOp
 simp only [ho]
 go_simp
theorem build_mid {ev : Operand → Value} {o : Oper} {w : World} {k i pl ar wt se ti di : Int} {A : Option Addr} {n c : Nat} (ho : o.op = .build 91 #[(0, .tmp 161), (1, .tmp 163), (2, .tmp 164), (3, .tmp 167), (4, .tmp 169), (5, .tmp 174), (6, .tmp 176), (7, .tmp 178)])
  (h0 : ev (.tmp 161) = .agg #[.int .i64 k, .int .i64 i]) (h1 : ev (.tmp 163) = .int .i64 pl) (h2 : ev (.tmp 164) = .int .i64 ar) (h3 : ev (.tmp 167) = .int .i64 wt) (h4 : ev (.tmp 169) = .int .i64 se) (h5 : ev (.tmp 174) = .slice A n c) (h6 : ev (.tmp 176) = .int .i64 ti) (h7 : ev (.tmp 178) = .int .i64 di) :
  Sem.run Try.prog (execOp ev o) w = .ok (Next.value (.agg #[.int .i64 k, .int .i64 i, .int .i64 pl, .int .i64 ar, .int .i64 wt, .int .i64 se, .slice A n c, .int .i64 ti, .int .i64 di])) w := by
 unfold execOp
 simp only [ho]
 go_simp
theorem build_last {ev : Operand → Value} {o : Oper} {w : World} {pl ar ti di : Int} {A : Option Addr} {n c : Nat} (ho : o.op = .build 91 #[(0, .tmp 225), (1, .tmp 227), (2, .tmp 228), (5, .tmp 233), (6, .tmp 235), (7, .tmp 237)])
  (h0 : ev (.tmp 225) = .agg #[.int .i64 6, .int .i64 0]) (h1 : ev (.tmp 227) = .int .i64 pl) (h2 : ev (.tmp 228) = .int .i64 ar) (h5 : ev (.tmp 233) = .slice A n c) (h6 : ev (.tmp 235) = .int .i64 ti) (h7 : ev (.tmp 237) = .int .i64 di) :
  Sem.run Try.prog (execOp ev o) w = .ok (Next.value (.agg #[.int .i64 6, .int .i64 0, .int .i64 pl, .int .i64 ar, .int .i64 0, .int .i64 0, .slice A n c, .int .i64 ti, .int .i64 di])) w := by
 unfold execOp
 simp only [ho]
 go_simp
theorem wp_sliceStep {o : Oper} {a : Act} {w : World} {K : Act → World → Prop} {Q : Exit → Act → World → Prop} {t : Nat} {y0 y1 y2 y3 y4 y5 y7 y8 : Int} {A : Option Addr} {n c : Nat}
  (ho : o.op = .buildSlice 72 1 #[(0, .tmp t)]) (ht : a.tmps[t]? = some (.agg #[.int .i64 y0, .int .i64 y1, .int .i64 y2, .int .i64 y3, .int .i64 y4, .int .i64 y5, .slice A n c, .int .i64 y7, .int .i64 y8]))
  (h : K (a.put o.dst (.slice (some ⟨w.heap.size, 0, none⟩) 1 1)) (w.alloc (.cells #[.int .i64 y0, .int .i64 y1, .int .i64 y2, .int .i64 y3, .int .i64 y4, .int .i64 y5, .slice A n c, .int .i64 y7, .int .i64 y8] 91))) :
  Oper.wp Try.prog o a w K Q := by
 unfold Oper.wp execOp
 simp only [ho]
 go_simp
 exact h
theorem wpList_store7 {o : Oper} {rest : List Oper} {ops : Array Oper} {a : Act} {w : World} {Q : Exit → Act → World → Prop} {pa pv : Operand} {g : Nat} {d0 d1 d2 d3 d4 d5 d6 : Value} {x0 x2 x3 x4 x5 x6 : Int} {A : Option Addr} {n c tt : Nat}
  (hgd : o.guard = none) (ho : o.op = .store 74 pa pv) (hpa : a.eval pa = .pointer (some ⟨g, 0, none⟩)) (hpv : a.eval pv = .agg #[.int .i64 x0, .slice A n c, .int .i64 x2, .int .i64 x3, .int .i64 x4, .int .i64 x5, .int .i64 x6])
  (hb : w.heap[g]? = some (.cells #[d0, d1, d2, d3, d4, d5, d6] tt (0, 0)))
  (h : wpList Try.prog ops Q rest (a.put o.dst undef) (((((((w.setCell ⟨g, 0, none⟩ (.int .i64 x0)).setCell ⟨g, 1, none⟩ (.slice A n c)).setCell ⟨g, 2, none⟩ (.int .i64 x2)).setCell ⟨g, 3, none⟩ (.int .i64 x3)).setCell ⟨g, 4, none⟩ (.int .i64 x4)).setCell ⟨g, 5, none⟩ (.int .i64 x5)).setCell ⟨g, 6, none⟩ (.int .i64 x6))) :
  wpList Try.prog ops Q (o :: rest) a w := by
 unfold wpList
 rw [if_pos (by simp [Region.wanted, hgd])]
 exact .inl (wp_store7 ho hpa hpv hb h)
set_option maxHeartbeats 400000000 in
set_option maxRecDepth 100000 in
theorem refOf_any' (q : PV) (p : TProblem) (vehicle : Int) (l : List TVisit) (A : Option Addr) (c : Nat) (w : World) (hlp : Good p) (law : Law p) (hq : q.Ok p w) (hr : Kd.C kVisit w A l.length l) (hl : l.length ≤ 200) :
  Calls Try.prog 51 #[q.val p, .int .i64 vehicle, .slice A l.length c] w (PlanPost (ofS p vehicle l) w) := by
 have hnv := law.nv
 have HR := Aside0.mk hr
 have HQ := Aside0.mk hq
 by_cases hv0 : vehicle < 0
 ·have e : ofS p vehicle l = (zPlan, 160) := by unfold ofS; rw [if_pos (.inl hv0)]
  rw [e]
  have d1 : decide (vehicle < 0) = true := decide_eq_true hv0
  clear e hr hq hlp law hv0
  unfold PV.val
  go_enter Try.func51, Try.ntmps51
  go_wp2
  exact bodyPost_ret (v := .tuple #[.agg #[.int .i64 0, .slice none 0 0, .int .i64 0, .int .i64 0, .int .i64 0, .int .i64 0, .int .i64 0], .int .i64 160]) (by simp [results, Try.results51, go_sem, *]) rfl ⟨none, 0, rfl, Nat.le_refl _, Kd.F_nil _ _ _, clb⟩
 by_cases hv1 : (p.Vehicles.length : Int) ≤ vehicle
 ·have e : ofS p vehicle l = (zPlan, 160) := by unfold ofS; rw [if_pos (.inr hv1)]
  rw [e]
  have d0 : decide (vehicle < 0) = false := decide_eq_false hv0
  have d1 : decide ((p.Vehicles.length : Int) ≤ vehicle) = true := decide_eq_true hv1
  clear e hr hq hlp law hv0 hv1
  unfold PV.val
  go_enter Try.func51, Try.ntmps51
  go_wp2
  exact bodyPost_ret (v := .tuple #[.agg #[.int .i64 0, .slice none 0 0, .int .i64 0, .int .i64 0, .int .i64 0, .int .i64 0, .int .i64 0], .int .i64 160]) (by simp [results, Try.results51, go_sem, *]) rfl ⟨none, 0, rfl, Nat.le_refl _, Kd.F_nil _ _ _, clb⟩
 have d0 : decide (vehicle < 0) = false := decide_eq_false hv0
 have d1 : decide ((p.Vehicles.length : Int) ≤ vehicle) = false := decide_eq_false hv1
 have eof : ofS p vehicle l = if firstS p (rdVehicle p.Vehicles vehicle) l ≠ 0 then (zPlan, firstS p (rdVehicle p.Vehicles vehicle) l) else
   runS p (rdVehicle p.Vehicles vehicle) vehicle l (goS p (rdVehicle p.Vehicles vehicle) (loadsS p l) l 0 (beginTS (rdVehicle p.Vehicles vehicle) (loadsS p l))) := by
  unfold ofS
  rw [if_neg (fun h => h.elim hv0 hv1)]
 have hvm := rdVeh_mem p.Vehicles vehicle (by omega) (by omega)
 have VOK := Aside0.mk (law.veh _ hvm)
 have hi0 : 0 ≤ vehicle := by omega
 have hi1 : vehicle < (p.Vehicles.length : Int) := by omega
 obtain ⟨av, AC, cC, AB, cB, eav, v0, v1, v2, v3, v4, v5, v6, v7, v8, v9, v10, lC, gC, lB, gB⟩ := atVehicle hq.h3 vehicle (by omega) (by omega)
 generalize rdVehicle p.Vehicles vehicle = v at *
 have HVB := Aside0.mk (show _ ∧ _ ∧ _ ∧ _ from ⟨lC, gC, lB, gB⟩)
 have HFI := Aside0.mk (fun W (hb : Below w.heap.size w W) => refFirst_any q p v AC AB cC cB l A c W hlp law (hq.below hb) (Kd.C_below hr hb) hl (Kd.C_below gC hb) (by have := VOK.out.brl; omega))
 have HLO := Aside0.mk (fun W (hb : Below w.heap.size w W) => refLoads_own q p l A c W hlp.toLens law (hq.below hb) (Kd.C_below hr hb) hl)
 have HST := Aside0.mk (fun (x : TVisit) W (hb : Below w.heap.size w W) => refStop_at q p x w W hlp.toLens hq hb)
 have hM1 := Aside0.mk (fun (i j : Int) W (hb : Below w.heap.size w W) => refCell_any p.Time q.a1 q.c1 i j W (matOk_of law.mt law.n0 law.n1) (hq.below hb).h1)
 have hM2 := Aside0.mk (fun (i j : Int) W (hb : Below w.heap.size w W) => refCell_any p.Dist q.a2 q.c2 i j W (matOk_of law.md law.n0 law.n1) (hq.below hb).h2)
 have LAW := Aside0.mk law
 obtain ⟨a1, c1, a2, c2, a3, c3, a4, c4, a5, c5⟩ := q
 have eav' : a3 = some av := eav
 subst eav'
 have al := fun (a : Addr) (u : Value) (h : w.cell? a = some u) => alloc_cell (alloc_cell h (.cells #[.int .i64 p.Dims, .int .i64 p.Time.N, .slice a1 p.Time.Cells.length c1, .int .i64 p.Dist.N, .slice a2 p.Dist.Cells.length c2, .slice (some av) p.Vehicles.length c3, .slice a4 p.Jobs.length c4, .slice a5 p.Shipments.length c5] 29)) (.cells #[.int .i64 0, .slice none 0 0, .int .i64 0, .int .i64 0, .int .i64 0, .int .i64 0, .int .i64 0] 74)
 have v0' := al _ _ v0
 have v1' := al _ _ v1
 have v2' := al _ _ v2
 have v3' := al _ _ v3
 have v4' := al _ _ v4
 have v5' := al _ _ v5
 have v6' := al _ _ v6
 have v7' := al _ _ v7
 have v8' := al _ _ v8
 have v9' := al _ _ v9
 have v10' := al _ _ v10
 clear al
 clear hr hq hlp law hvm eav lC gC lB gB hv0 hv1 v0 v1 v2 v3 v4 v5 v6 v7 v8 v9 v10
 unfold PV.val at HFI HLO HST ⊢
 cases hf : decide (firstS p v l = 0)
 ·have hf' : firstS p v l ≠ 0 := by simpa using hf
  rw [if_pos hf'] at eof
  rw [eof]
  have df : (firstS p v l != 0) = true := by simp [hf']
  clear eof hf hf'
  go_enter Try.func51, Try.ntmps51
  go_upto_region 4 with fail
  clear v0' v1' v2' v3' v4' v5' v6' v7' v8' v9' v10'
  go_wp2_with (go_at_call 102; refine (HFI.out _ clb).mono ?_; skip; rintro e w1 ⟨rfl, hb⟩; have HB1 := Aside0.mk hb; obtain ⟨qc1, qf1⟩ := bcell hb; have hs1 := hb.size; (try simp at hs1); (try have z01 : w.heap.size < w1.heap.size := (by omega)); (try have z11 : w.heap.size + 1 < w1.heap.size := (by omega)); (try have z21 : w.heap.size + 1 + 1 < w1.heap.size := (by omega)); (try have z31 : w.heap.size + 1 + 1 + 1 < w1.heap.size := (by omega)); (try have z41 : w.heap.size + 1 + 1 + 1 + 1 < w1.heap.size := (by omega)); clear hs1 hb; skip)
  refine gen_ret (fun W => W.heap[w.heap.size + 1]? = some (.cells #[.int .i64 0, .slice none 0 0, .int .i64 0, .int .i64 0, .int .i64 0, .int .i64 0, .int .i64 0] 74 (0, 0)) ∧ Below w.heap.size w W) ⟨blk_set7 ((HB1.out.block _ (by simp)).trans (show (((w.alloc (.cells #[.int .i64 p.Dims, .int .i64 p.Time.N, .slice a1 p.Time.Cells.length c1, .int .i64 p.Dist.N, .slice a2 p.Dist.Cells.length c2, .slice (some av) p.Vehicles.length c3, .slice a4 p.Jobs.length c4, .slice a5 p.Shipments.length c5] 29)).alloc (.cells #[.int .i64 0, .slice none 0 0, .int .i64 0, .int .i64 0, .int .i64 0, .int .i64 0, .int .i64 0] 74)).alloc (.cells #[.int .i64 v.Start, .int .i64 v.End, .slice AC v.Cap.length cC, .int .u64 v.Skills, .int .i64 v.Shift.From, .int .i64 v.Shift.To, .int .i64 v.Fixed, .int .i64 v.PerTime, .int .i64 v.PerDist, .int .i64 v.MaxTasks, .slice AB v.Breaks.length cB] 89)).heap[w.heap.size + 1]? = some (.cells #[.int .i64 0, .slice none 0 0, .int .i64 0, .int .i64 0, .int .i64 0, .int .i64 0, .int .i64 0] 74 (0, 0)) from blk_alloc (blk_is (by simp)) _)) _ _ _ _ _ _ _, below_set7 clb (by omega) _ _ _ _ _ _ _⟩ (fun WF hWF => ?_)
  obtain ⟨hbx, hbel⟩ := hWF
  have HBEL := Aside0.mk hbel
  obtain ⟨f0, f1, f2, f3, f4, f5, f6⟩ := cells7 hbx
  clear hbx hbel
  exact bodyPost_ret (v := .tuple #[.agg #[.int .i64 0, .slice none 0 0, .int .i64 0, .int .i64 0, .int .i64 0, .int .i64 0, .int .i64 0], .int .i64 (firstS p v l)]) (by simp [results, Try.results51, go_sem, f0, f1, f2, f3, f4, f5, f6]) rfl ⟨none, 0, rfl, Nat.le_refl _, Kd.F_nil _ _ _, HBEL.out⟩
 have hf' : firstS p v l = 0 := by simpa using hf
 rw [if_neg (by simpa using hf')] at eof
 have EOF := Aside0.mk eof
 have FOK := Aside0.mk (firstOk_of hf')
 have df : (firstS p v l != 0) = false := by simp [hf']
 clear eof hf hf'
 go_enter Try.func51, Try.ntmps51
 go_upto_region 4 with fail
 clear v0' v1' v2' v3' v4' v5' v6' v7' v8' v9' v10'
 go_wp2_with (first
  | (go_at_call 102; refine (HFI.out _ clb).mono ?_; skip; rintro e w1 ⟨rfl, hb⟩; have HB1 := Aside0.mk hb; obtain ⟨qc1, qf1⟩ := bcell hb; have hs1 := hb.size; (try simp at hs1); (try have z01 : w.heap.size < w1.heap.size := (by omega)); (try have z11 : w.heap.size + 1 < w1.heap.size := (by omega)); (try have z21 : w.heap.size + 1 + 1 < w1.heap.size := (by omega)); (try have z31 : w.heap.size + 1 + 1 + 1 < w1.heap.size := (by omega)); (try have z41 : w.heap.size + 1 + 1 + 1 + 1 < w1.heap.size := (by omega)); clear hs1 hb; skip)
  | (go_at_call 56; refine (HLO.out _ clb).mono ?_; rintro e w2 ⟨A2, k2, rfl, hle2, hC2, hb⟩; have HC2 := Aside0.mk hC2; clear hle2 hC2; have HB2 := Aside0.mk hb; obtain ⟨qc2, qf2⟩ := bcell hb; have hs2 := hb.size; (try simp at hs2); (try have z02 : w.heap.size < w2.heap.size := (by omega)); (try have z12 : w.heap.size + 1 < w2.heap.size := (by omega)); (try have z22 : w.heap.size + 1 + 1 < w2.heap.size := (by omega)); (try have z32 : w.heap.size + 1 + 1 + 1 < w2.heap.size := (by omega)); (try have z42 : w.heap.size + 1 + 1 + 1 + 1 < w2.heap.size := (by omega)); clear hs2 hb))
 have HPB : Aside0 (w2.heap[w.heap.size]? = some (.cells #[.int .i64 p.Dims, .int .i64 p.Time.N, .slice a1 p.Time.Cells.length c1, .int .i64 p.Dist.N, .slice a2 p.Dist.Cells.length c2, .slice (some av) p.Vehicles.length c3, .slice a4 p.Jobs.length c4, .slice a5 p.Shipments.length c5] 29)) := ⟨by
  rw [HB2.out.block _ (by omega), HB1.out.block _ (by simp; omega)]
  exact blk_alloc (blk_alloc (blk_new _ _) _) _⟩
 have HZB : Aside0 (w2.heap[w.heap.size + 1]? = some (.cells #[.int .i64 0, .slice none 0 0, .int .i64 0, .int .i64 0, .int .i64 0, .int .i64 0, .int .i64 0] 74)) := ⟨by
  rw [HB2.out.block _ (by omega), HB1.out.block _ (by simp)]
  exact blk_alloc (blk_is (by simp)) _⟩
 have HVB2 : Aside0 (w2.heap[w.heap.size + 1 + 1]? = some (.cells #[.int .i64 v.Start, .int .i64 v.End, .slice AC v.Cap.length cC, .int .u64 v.Skills, .int .i64 v.Shift.From, .int .i64 v.Shift.To, .int .i64 v.Fixed, .int .i64 v.PerTime, .int .i64 v.PerDist, .int .i64 v.MaxTasks, .slice AB v.Breaks.length cB] 89)) := ⟨by
  rw [HB2.out.block _ (by omega), HB1.out.block _ (by simp)]
  exact blk_is (by simp)⟩
 have HB2w : Aside0 (Below w.heap.size w w2) := ⟨clb⟩
 have hl0 : 0 < (loadsS p l).length := by simp [loadsS]
 obtain ⟨aab, A6, c6, ea6, y6, l6, g6⟩ := atNOwn HC2.out 0 hl0
 subst ea6
 have y6' := alloc_cell y6 (.cells #[.int .i64 vehicle, .slice none 0 0, .int .i64 0, .int .i64 0, .int .i64 0, .int .i64 0, .int .i64 0] 74)
 go_quiet (fail)
 go_wp2
 go_cut [] (fun wx => ∃ sv : Value, Aside0 (PlanAt w2 w1.heap.size vehicle sv 0 0 0 0 (beginTS v (loadsS p l)).steps wx))
 case first =>
  as_aux_lemma =>
  refine gen_world (fun wS hqS hsS hS => ?_)
  have HPS : Aside0 (PlanAt w2 w1.heap.size vehicle (.slice none 0 0) 0 0 0 0 [] wS) := ⟨by
   rw [hS.out]
   exact ⟨chm, blk_new _ _, OwnF.nil _ _ _ _ _⟩⟩
  have hgo := HPS.out.lt
  have hst := blk_cell HPS.out.out 1
  simp only [List.getElem?_toArray, List.getElem?_cons_succ, List.getElem?_cons_zero] at hst
  have hy := World.block_lt_of_cell? _ _ y6
  have hyw : aab.block < wS.heap.size := Nat.lt_of_lt_of_le hy HPS.out.below.size
  have y6S : wS.cell? aab = some (Value.slice A6 (loadsS p l)[0].length c6) := pw_cell_below HPS.out.below y6
  obtain ⟨ld0, hld0⟩ : ∃ x, x = (loadsS p l)[0] := ⟨_, rfl⟩
  rw [← hld0] at y6S l6 g6
  have G6 := Aside0.mk (show _ ∧ _ from ⟨l6, g6⟩)
  have HLD0 := Aside0.mk hld0
  have hfz := fun i => blk_frozen HPS.out.out i
  clear hqS hsS y6' qc1 qf1 qc2 qf2 l6 g6 y6 hld0 hy
  refine wp_region_tailH (S := fun W' => Below wS.heap.size wS W' ∧ ∀ a : Addr, a.block < wS.heap.size → W'.cell? a = wS.cell? a) 10 (by kernel_rfl) (by kernel_rfl) (by kernel_rfl) (hl_start _) (fun hHeld => ?_)
  simp only [List.take_succ_cons, List.take_zero, List.drop_succ_cons, List.drop_zero]
  refine tk 0 (h := ?_)
  refine tk 1 (h := ?_)
  refine tk 2 (h := ?_)
  refine tk 3 (h := ?_)
  refine tk 4 (h := ?_)
  refine tk 5 (h := ?_)
  refine tk 6 (h := ?_)
  refine tk 7 (h := ?_)
  refine wpAnyH_take (i := 8) (oi := _) (v := ?_) (by simp only [List.getElem?_toArray, List.getElem?_cons_succ, List.getElem?_cons_zero]; rfl) (by kernel_rfl) (by kernel_rfl) (by kernel_rfl) (tail_hQ (by exact fun _ _ _ h => h)) (Or.inl ⟨by rfl, ?_⟩) (by assumption) ?_
  rotate_left
  focus (intro w hSw; refine build_first (pl := v.Start) (ar := v.Shift.From) (A := A6) (n := ld0.length) (c := c6) ?_ ?_ ?_ ?_ ?_ <;> kernel_rfl)
  (try simp only [Act.put, List.setIfInBounds_toArray, List.set_cons_zero, List.set_cons_succ])
  refine wpAnyH_ready (rs := [9]) (by kernel_rfl) (by simp) ?_
  refine rcn (fun K hK => ?_) AllReadyH.nil
  refine wp_sliceStep rfl rfl ?_
  clear hHeld
  refine hko hK _ _ _ (hl_of chn) (fun hHeld => ?_)
  clear hK K
  refine wpAnyH_tail (by kernel_rfl) ?_ _
  refine OwnF.append kStep (lo := w1.heap.size) (w0 := wS.drew) (W := wS.drew) w2.heap.size rfl (.tmp 55) (.tmp 63) 72 91 (.agg #[.int .i64 0, .int .i64 0, .int .i64 0, .int .i64 0, .int .i64 0, .int .i64 0, .slice none 0 0, .int .i64 0, .int .i64 0]) 88 rfl Try.underlying72 infoStep rfl (by decide) (by decide) (.slice none 0 0) [] ⟨⟨5, 0⟩, v.Start, v.Shift.From, 0, 0, ld0, 0, 0⟩ _ rfl rfl (step_FK _ G6.out.1 G6.out.2 (below_drew HPS.out.below) (Nat.le_refl _)) (OwnF.nil kStep 91 wS.drew w1.heap.size w2.heap.size) (Below.refl _ _) (Nat.le_of_lt hgo) (by simp) ?_
  intro v1 w4 ho hb hg hat
  obtain ⟨A4, k4, rfl, _, _⟩ := ho.reads
  have hP4 := Aside0.mk (PlanAt.appended (wX := w2) (W := wS.drew) (HPS.out.mono (below_drew (Below.refl _ _))) ho hb hg)
  have hout1 : w4.heap[w2.heap.size]? = _ := (hg.block w2.heap.size HPS.out.lt HPS.out.ne).trans HPS.out.out
  have st1 := blk_cell hout1 1
  have fz1 := fun i => blk_frozen hout1 i
  simp only [List.getElem?_toArray, List.getElem?_cons_succ, List.getElem?_cons_zero] at st1
  clear ho hb hg hat hout1 hfz hst hgo y6S
  go_wp2
  go_meet
  have hbt : (beginTS v (loadsS p l)).steps = [] ++ [⟨⟨5, 0⟩, v.Start, v.Shift.From, 0, 0, ld0, 0, 0⟩] := by rw [HLD0.out]; simp [beginTS, List.getElem?_eq_getElem hl0]
  rw [hbt]
  exact ⟨_, ⟨hP4.out⟩⟩
 case rest =>
  as_aux_lemma =>
  obtain ⟨sv0, HPc⟩ := hcut
  have HG0 : Aside0 (runS p v vehicle l (goS p v (loadsS p l) (l.drop 0) 0 (beginTS v (loadsS p l))) = ofS p vehicle l) := ⟨EOF.out.symm⟩
  have HT0 : Aside0 (TSOk 0 (beginTS v (loadsS p l))) := ⟨beginTS_ok VOK.out _⟩
  clear EOF qc1 qf1 qc2 qf2 y6 y6'
  generalize ofS p vehicle l = R at *
  go_wp2
  go_loopw [12, 13, 14] (fun vl va vi wr => ∃ (k : Nat) (s : TS) (sv : Value), k ≤ l.length ∧ vi = .int .i64 k ∧ vl = .int .i64 s.leave ∧ va = .int .i64 s.at_ ∧ Aside0 (TSOk k s) ∧ Aside0 (runS p v vehicle l (goS p v (loadsS p l) (l.drop k) k s) = R) ∧ Aside0 (PlanAt w2 w1.heap.size vehicle sv s.tm s.di s.wt s.se s.steps wr)) (fun _ _ i _ => l.length - (intOf i).toNat)
  case atStart => exact ⟨0, beginTS v (loadsS p l), sv0, Nat.zero_le _, rfl, rfl, rfl, HT0, HG0, HPc⟩
  case round =>
   clear HG0 HT0 HPc
   obtain ⟨k, s, sv, hk, rfl, rfl, rfl, HT, HG, HP⟩ := hrel
   have HBw : Aside0 (Below w.heap.size w wr) := ⟨below_to HB2w.out HP.out.below⟩
   by_cases hlt : k < l.length
   ·
    as_aux_lemma =>
    obtain ⟨ad, ea, x0, x1⟩ := atNVisit (Kd.C_below HR.out HBw.out) k hlt
    subst ea
    have r0 : (0 : Int) ≤ (k : Int) := by omega
    have r1 : (k : Int) < (l.length : Int) := by omega
    have HXM := Aside0.mk (List.getElem_mem hlt)
    have hg := HG.out
    rw [goS_at p v _ l k hlt] at hg
    generalize hx : l[k] = x at *
    have HG1 := Aside0.mk hg
    clear HG hg
    have hpb := blk_below HPB.out HP.out.below
    obtain ⟨p0, p1, p2, p3, p4, p5, p6, p7⟩ := cells8 hpb
    have hpw := blk_lt hpb
    have hba := World.block_lt_of_cell? _ _ x0
    have hbb : (⟨(ad.add (k * 2)).block, (ad.add (k * 2)).off + 1, none⟩ : Addr).block < wr.heap.size := hba
    clear hpb
    go_upto_region 14 with fail
    go_cut [15, 16] (fun s15 s16 wx => ∃ b AW cW, s15 = .pointer (some ⟨b, 0, none⟩) ∧ s16 = .bool (stopS p x).2 ∧ Aside0 (wr.heap.size ≤ b ∧ wx.heap[b]? = some (.cells #[.int .i64 (stopS p x).1.Place, .int .i64 (stopS p x).1.Service, .slice AW (stopS p x).1.Windows.length cW] 43 (0, 0)) ∧ (stopS p x).1.Windows.length ≤ cW ∧ Kd.C kWindow w AW (stopS p x).1.Windows.length (stopS p x).1.Windows) ∧ Aside0 (Below wr.heap.size wr wx))
    case first =>
     as_aux_lemma =>
     go_region_held3 (fun W' => Below wr.heap.size wr W' ∧ ∀ a : Addr, a.block < wr.heap.size → W'.cell? a = wr.cell? a) (first | exact hl_start _ | exact hl_of (by repeat (first | exact Below.refl _ _ | apply below_alloc | apply below_drew | (refine Below.setCell ?_ (by first | (simp; done) | (simp; omega) | (dsimp only; omega)) _) | (refine below_to ?_ (by assumption)))))
       (first
        | (go_at_call 37; refine (HST.out x _ (below_to HBw.out (And.left (show Below wr.heap.size wr _ ∧ _ from by assumption)))).mono ?_; rintro e w3 ⟨A1, k1, rfl, hle1, hC1, hb⟩; obtain ⟨qcs, qfs⟩ := bcell hb))
     all_goals
      go_wp2_with fail
      go_meet
      first
       | exact ⟨_, A1, k1, rfl, rfl, ⟨hb.size, blk_new _ _, hle1, hC1⟩, ⟨(And.left (show Below wr.heap.size wr _ ∧ _ from by assumption))⟩⟩
       | exact ⟨_, A1, k1, rfl, rfl, ⟨Nat.le_refl _, blk_set3 ((hb.block _ (by simp)).trans (blk_new _ _)) _ _ _, hle1, hC1⟩, ⟨(And.left (show Below wr.heap.size wr _ ∧ _ from by assumption))⟩⟩
    case rest =>
     as_aux_lemma =>
     obtain ⟨b, AW, cW, rfl, rfl, HBX, HBc⟩ := hcut
     have HPc : Aside0 (PlanAt w2 w1.heap.size vehicle sv s.tm s.di s.wt s.se s.steps wc) := ⟨HP.out.mono HBc.out⟩
     have HBwc : Aside0 (Below w.heap.size w wc) := ⟨below_to HB2w.out HPc.out.below⟩
     clear p0 p1 p2 p3 p4 p5 p6 p7 hpw hba hbb x0 x1
     go_upto_if 82 with fail
     go_cut [16] (fun s16 wx => ∃ AW cW, Aside0 (wr.heap.size ≤ b ∧ wx.heap[b]? = some (.cells #[.int .i64 (stopAt p v s.at_ x).Place, .int .i64 (stopAt p v s.at_ x).Service, .slice AW (stopAt p v s.at_ x).Windows.length cW] 43 (0, 0)) ∧ (stopAt p v s.at_ x).Windows.length ≤ cW ∧ Kd.C kWindow w AW (stopAt p v s.at_ x).Windows.length (stopAt p v s.at_ x).Windows) ∧ Aside0 (Below wr.heap.size wr wx))
     case first =>
      as_aux_lemma =>
      cases hs2 : (stopS p x).2
      ·have hbrk := FOK.out.brk x (hx ▸ HXM.out) hs2
       obtain ⟨k4, i0, i1⟩ := hbrk
       have es : stopAt p v s.at_ x = ⟨s.at_, (rdBreak v.Breaks x.Item).Service, (rdBreak v.Breaks x.Item).Windows⟩ := by simp [stopAt, hs2]
       obtain ⟨ab, A0, c0, eab, b0, b1, lb, gb⟩ := atBreak HVB.out.2.2.2 x.Item i0 i1
       subst eab
       have HEB := Aside0.mk (show _ ∧ _ from ⟨lb, gb⟩)
       obtain ⟨ad2, ea2, x0, x1⟩ := atNVisit (Kd.C_below HR.out HBwc.out) k hlt
       obtain rfl := Option.some.inj ea2
       rw [hx] at x0 x1
       have b0' := pw_cell_below HBwc.out b0
       have b1' := pw_cell_below HBwc.out b1
       have hvb := blk_below HVB2.out HPc.out.below
       have v9 := blk_cell hvb 10
       simp only [List.getElem?_toArray, List.getElem?_cons_succ, List.getElem?_cons_zero] at v9
       have hvw := blk_lt hvb
       have hba := World.block_lt_of_cell? _ _ x0
       have hbb : (⟨(ad.add (k * 2)).block, (ad.add (k * 2)).off + 1, none⟩ : Addr).block < wc.heap.size := hba
       have hbc := World.block_lt_of_cell? _ _ b0'
       have hbd : (⟨(ab.add (x.Item.toNat * 2)).block, (ab.add (x.Item.toNat * 2)).off + 1, none⟩ : Addr).block < wc.heap.size := hbc
       obtain ⟨hb0, hb1, -, -⟩ := HBX.out
       have e0 := blk_cell hb1 0
       have e1 := blk_cell hb1 1
       have e2 := blk_cell hb1 2
       simp only [List.getElem?_toArray, List.getElem?_cons_succ, List.getElem?_cons_zero] at e0 e1 e2
       have ez := fun i => blk_frozen hb1 i
       have r2 : (x.Item) < (v.Breaks.length : Int) := i1
       clear b0 b1 hvb lb gb k4 hb1
       go_wp2_with fail
       refine wp_region_tailH (S := fun W' => Below wc.heap.size wc W' ∧ ∀ a : Addr, a.block < wc.heap.size → W'.cell? a = wc.cell? a) 22 (by kernel_rfl) (by kernel_rfl) (by kernel_rfl) (hl_start _) (fun hHeld => ?_)
       simp only [List.take_succ_cons, List.take_zero, List.drop_succ_cons, List.drop_zero]
       refine tk 0 (h := ?_)
       refine tk 1 (h := ?_)
       refine tk 2 (h := ?_)
       refine tk 3 (h := ?_)
       refine tk 4 (h := ?_)
       refine tk 5 (h := ?_)
       refine tk 6 (h := ?_)
       refine tk 7 (h := ?_)
       refine tk 8 (h := ?_)
       refine tk 9 (h := ?_)
       refine tk 10 (h := ?_)
       refine tk 11 (h := ?_)
       refine tk 12 (h := ?_)
       refine tk 13 (h := ?_)
       refine tk 14 (h := ?_)
       refine tk 15 (h := ?_)
       refine tk 16 (h := ?_)
       refine tk 17 (h := ?_)
       refine tk 18 (h := ?_)
       refine tk 19 (h := ?_)
       refine tk 20 (h := ?_)
       refine tk 21 (h := ?_)
       refine wpAnyH_tail (by kernel_rfl) ?_ _
       go_wp2_with fail
       go_meet
       exact ⟨A0, c0, ⟨hb0, by rw [es]; exact blk_set3 HBX.out.2.1 _ _ _, by rw [es]; exact HEB.out.1, by rw [es]; exact HEB.out.2⟩, ⟨below_drew (Below.setCell (Below.setCell (Below.setCell HBc.out hb0 _) hb0 _) hb0 _)⟩⟩
      ·have es : stopAt p v s.at_ x = (stopS p x).1 := by simp [stopAt, hs2]
       go_wp2_with fail
       go_meet
       exact ⟨AW, cW, by rw [es]; exact HBX, HBc⟩
     case rest =>
      as_aux_lemma =>
      obtain ⟨AX, cX, HBX, HBc⟩ := hcut
      have HPc : Aside0 (PlanAt w2 w1.heap.size vehicle sv s.tm s.di s.wt s.se s.steps wc) := ⟨HP.out.mono HBc.out⟩
      have HBwc : Aside0 (Below w.heap.size w wc) := ⟨below_to HB2w.out HPc.out.below⟩
      have hstop := stopAt_ok LAW.out VOK.out FOK.out s.at_ x (hx ▸ HXM.out)
      have hle := HT.out.le
      have htm := HT.out.tm
      have hdi := HT.out.di
      have hwt := HT.out.wt
      have hse := HT.out.se
      have ht := LAW.out.time s.at_ (stopAt p v s.at_ x).Place
      have hd := LAW.out.dist s.at_ (stopAt p v s.at_ x).Place
      have HWI := Aside0.mk hstop.1
      have hsv := hstop.2
      have ecome : comeS p v x s = s.leave + cellS p.Time s.at_ (stopAt p v s.at_ x).Place := rfl
      rw [ecome] at HG1
      have hbne : b ≠ w2.heap.size := by
       have h1 := HP.out.lt
       have h2 := HBX.out.1
       omega
      clear hstop ecome HP
      generalize hst : stopAt p v s.at_ x = st at *
      have hpb := blk_below HPB.out HPc.out.below
      have hbb := HBX.out.2.1
      obtain ⟨p0, p1, p2, p3, p4, p5, p6, p7⟩ := cells8 hpb
      have hpw := blk_lt hpb
      have b0 := blk_cell hbb 0
      have b1 := blk_cell hbb 1
      have b2 := blk_cell hbb 2
      simp only [List.getElem?_toArray, List.getElem?_cons_succ, List.getElem?_cons_zero] at b0 b1 b2
      have hbw := blk_lt hbb
      as_aux_lemma =>
      have e17 : IntKind.i64.wrap (s.leave + cellS p.Time s.at_ st.Place) = s.leave + cellS p.Time s.at_ st.Place := IntWalk.i64_in _ (by omega)
      clear hpb hbb
      go_wp2_with (go_at_call 31; with_reducible refine (hM1.out s.at_ st.Place _ HBwc.out).mono ?_; rintro e w3 ⟨rfl, hb⟩; have HB3 := Aside0.mk hb; clear hb)
      have HP3 := Aside0.mk (HPc.out.mono HB3.out)
      have HX3 : Aside0 (w3.heap[b]? = some (.cells #[.int .i64 st.Place, .int .i64 st.Service, .slice AX st.Windows.length cX] 43 (0, 0))) := ⟨blk_below HBX.out.2.1 HB3.out⟩
      have HWX := Aside0.mk HBX.out.2.2
      have e18 : IntKind.i64.wrap (s.tm + cellS p.Time s.at_ st.Place) = s.tm + cellS p.Time s.at_ st.Place := IntWalk.i64_in _ (by omega)
      have e19 : IntKind.i64.wrap (s.di + cellS p.Dist s.at_ st.Place) = s.di + cellS p.Dist s.at_ st.Place := IntWalk.i64_in _ (by omega)
      clear p0 p1 p2 p3 p4 p5 p6 p7 b0 b1 b2 hpw hbw HBwc HPc HBX HB3 HBc
      have hpb := blk_below HPB.out HP3.out.below
      have hbb := HX3.out
      have hob := HP3.out.out
      obtain ⟨p0, p1, p2, p3, p4, p5, p6, p7⟩ := cells8 hpb
      have hpw := blk_lt hpb
      have b0 := blk_cell hbb 0
      have b1 := blk_cell hbb 1
      have b2 := blk_cell hbb 2
      simp only [List.getElem?_toArray, List.getElem?_cons_succ, List.getElem?_cons_zero] at b0 b1 b2
      have hbw := blk_lt hbb
      obtain ⟨o0, o1, o2, o3, o4, o5, o6⟩ := cells7 hob
      have oz := fun i => blk_frozen hob i
      have how := blk_lt hob
      have HBwW : Aside0 (Below w.heap.size w w3) := ⟨below_to HB2w.out HP3.out.below⟩
      clear hpb hbb hob
      refine wp_region_tailH (S := fun W' => Below w3.heap.size w3 W' ∧ ∀ a : Addr, a.block < w3.heap.size → W'.cell? a = w3.cell? a) 9 (by kernel_rfl) (by kernel_rfl) (by kernel_rfl) (hl_start _) (fun hHeld => ?_)
      simp only [List.take_succ_cons, List.take_zero, List.drop_succ_cons, List.drop_zero]
      refine tk 0 (h := ?_)
      refine tk 1 (h := ?_)
      refine tk 2 (h := ?_)
      refine tk 3 (h := ?_)
      refine tk 4 (h := ?_)
      refine tk 5 (h := ?_)
      refine tk 6 (h := ?_)
      refine wpAnyH_ready (rs := [7]) (by kernel_rfl) (by simp) ?_
      refine rcn (fun K hK => ?_) AllReadyH.nil
      go_simp
      refine (hM1.out s.at_ st.Place _ (below_to HBwW.out (And.left (show Below w3.heap.size w3 _ ∧ _ from by assumption)))).mono ?_; rintro e w4 ⟨rfl, hb⟩; obtain ⟨qcs, qfs⟩ := bcell hb; have hq4 := blk_below HP3.out.out (below_to (below_drew (Below.refl _ _)) hb); have f4 := fun i => blk_frozen hq4 i; clear hq4 qfs oz; dsimp only
      clear hHeld
      refine hko hK _ _ _ (hl_of chm) (fun hHeld => ?_)
      clear hK K
      refine tk 8 (h := ?_)
      refine wpAnyH_tail (by kernel_rfl) ?_ _
      go_wp2_with fail
      refine gen_wp (fun W => PlanAt w2 w1.heap.size vehicle sv (s.tm + cellS p.Time s.at_ st.Place) s.di s.wt s.se s.steps W ∧ W.heap[b]? = some (.cells #[.int .i64 st.Place, .int .i64 st.Service, .slice AX st.Windows.length cX] 43 (0, 0))) ⟨(HP3.out.mono (And.left (show Below w3.heap.size w3 _ ∧ _ from by assumption))).set_tm _, (Below.heap_setCell _ _ _ _ hbne).trans (blk_below HX3.out (And.left (show Below w3.heap.size w3 _ ∧ _ from by assumption)))⟩ (fun w5 H5 => ?_)
      clear p0 p1 p2 p3 p4 p5 p6 p7 b0 b1 b2 o0 o1 o2 o3 o4 o5 o6 hpw hbw how f4 qcs hb hHeld HBwW
      obtain ⟨HP5, HX5⟩ : Aside0 _ ∧ Aside0 _ := ⟨⟨H5.out.1⟩, ⟨H5.out.2⟩⟩
      clear HP3 HX3 H5 e17 e18
      have hpb := blk_below HPB.out HP5.out.below
      have hbb := HX5.out
      have hob := HP5.out.out
      obtain ⟨p0, p1, p2, p3, p4, p5, p6, p7⟩ := cells8 hpb
      have hpw := blk_lt hpb
      have b0 := blk_cell hbb 0
      have b1 := blk_cell hbb 1
      have b2 := blk_cell hbb 2
      simp only [List.getElem?_toArray, List.getElem?_cons_succ, List.getElem?_cons_zero] at b0 b1 b2
      have hbw := blk_lt hbb
      obtain ⟨o0, o1, o2, o3, o4, o5, o6⟩ := cells7 hob
      have oz := fun i => blk_frozen hob i
      have how := blk_lt hob
      have HBwW : Aside0 (Below w.heap.size w w5) := ⟨below_to HB2w.out HP5.out.below⟩
      clear hpb hbb hob
      refine wp_region_tailH (S := fun W' => Below w5.heap.size w5 W' ∧ ∀ a : Addr, a.block < w5.heap.size → W'.cell? a = w5.cell? a) 9 (by kernel_rfl) (by kernel_rfl) (by kernel_rfl) (hl_start _) (fun hHeld => ?_)
      simp only [List.take_succ_cons, List.take_zero, List.drop_succ_cons, List.drop_zero]
      refine tk 0 (h := ?_)
      refine tk 1 (h := ?_)
      refine tk 2 (h := ?_)
      refine tk 3 (h := ?_)
      refine tk 4 (h := ?_)
      refine tk 5 (h := ?_)
      refine tk 6 (h := ?_)
      refine wpAnyH_ready (rs := [7]) (by kernel_rfl) (by simp) ?_
      refine rcn (fun K hK => ?_) AllReadyH.nil
      go_simp
      refine (hM2.out s.at_ st.Place _ (below_to HBwW.out (And.left (show Below w5.heap.size w5 _ ∧ _ from by assumption)))).mono ?_; rintro e w4 ⟨rfl, hb⟩; obtain ⟨qcs, qfs⟩ := bcell hb; have hq4 := blk_below HP5.out.out (below_to (below_drew (Below.refl _ _)) hb); have f4 := fun i => blk_frozen hq4 i; clear hq4 qfs oz; dsimp only
      clear hHeld
      refine hko hK _ _ _ (hl_of chm) (fun hHeld => ?_)
      clear hK K
      refine tk 8 (h := ?_)
      refine wpAnyH_tail (by kernel_rfl) ?_ _
      go_upto_region 20 with fail
      refine gen_wp (fun W => PlanAt w2 w1.heap.size vehicle sv (s.tm + cellS p.Time s.at_ st.Place) (s.di + cellS p.Dist s.at_ st.Place) s.wt s.se s.steps W ∧ W.heap[b]? = some (.cells #[.int .i64 st.Place, .int .i64 st.Service, .slice AX st.Windows.length cX] 43 (0, 0))) ⟨(HP5.out.mono (And.left (show Below w5.heap.size w5 _ ∧ _ from by assumption))).set_di _, (Below.heap_setCell _ _ _ _ hbne).trans (blk_below HX5.out (And.left (show Below w5.heap.size w5 _ ∧ _ from by assumption)))⟩ (fun w6 H6 => ?_)
      clear p0 p1 p2 p3 p4 p5 p6 p7 b0 b1 b2 o0 o1 o2 o3 o4 o5 o6 hpw hbw how f4 qcs hb hHeld HBwW
      obtain ⟨HP6, HX6⟩ : Aside0 _ ∧ Aside0 _ := ⟨⟨H6.out.1⟩, ⟨H6.out.2⟩⟩
      clear HP5 HX5 H6 e19
      have HSA := Aside0.mk (fun W (hb : Below w.heap.size w W) => refStart_any st.Windows AX cX (s.leave + cellS p.Time s.at_ st.Place) W (Kd.C_below HWX.out.2 hb) (winOk_of HWI.out))
      have hok := @startS_ok st.Windows (winOk_of HWI.out) (s.leave + cellS p.Time s.at_ st.Place)
      have HBw6 : Aside0 (Below w.heap.size w w6) := ⟨below_to HB2w.out HP6.out.below⟩
      have hbb := HX6.out
      have b0 := blk_cell hbb 0
      have b1 := blk_cell hbb 1
      have b2 := blk_cell hbb 2
      simp only [List.getElem?_toArray, List.getElem?_cons_succ, List.getElem?_cons_zero] at b0 b1 b2
      have hbw := blk_lt hbb
      clear hbb
      cases hsk : (startS (s.leave + cellS p.Time s.at_ st.Place) st.Windows).2
      ·
       as_aux_lemma =>
       rw [hsk, if_neg (by decide)] at HG1
       have hR := HG1.out
       unfold runS at hR
       subst hR
       clear hok HT HG1 hle htm hdi hwt hse ht hd
       have hz7 := HZB.out
       go_upto_region 20 with fail
       go_wp2_with (first | (refine wpList_store7 rfl rfl rfl rfl hz7 ?_) | (go_at_call 61; refine (HSA.out _ HBw6.out).mono ?_; rintro e w7 ⟨rfl, hb⟩; rw [hsk]; replace hz7 := blk_below hz7 (below_to HP6.out.below hb); have HB7 := Aside0.mk hb; clear hb))
       refine gen_ret (fun W => W.heap[w.heap.size + 1]? = some (.cells #[.int .i64 0, .slice none 0 0, .int .i64 0, .int .i64 0, .int .i64 0, .int .i64 0, .int .i64 0] 74 (0, 0)) ∧ Below w.heap.size w W) ⟨blk_set7 hz7 _ _ _ _ _ _ _, below_set7 (below_to HBw6.out HB7.out) (by omega) _ _ _ _ _ _ _⟩ (fun WF hWF => ?_)
       obtain ⟨hbx, hbel⟩ := hWF
       have HBEL := Aside0.mk hbel
       obtain ⟨f0, f1, f2, f3, f4, f5, f6⟩ := cells7 hbx
       clear hbx hbel
       exact bodyPost_ret (v := .tuple #[.agg #[.int .i64 0, .slice none 0 0, .int .i64 0, .int .i64 0, .int .i64 0, .int .i64 0, .int .i64 0], .int .i64 167]) (by simp [results, Try.results51, go_sem, f0, f1, f2, f3, f4, f5, f6]) rfl ⟨none, 0, rfl, Nat.le_refl _, Kd.F_nil _ _ _, HBEL.out⟩
      ·
       as_aux_lemma =>
       rw [hsk, if_pos rfl] at HG1
       have hst1 := hok hsk
       have e23 : IntKind.i64.wrap (s.wt + (startS (s.leave + cellS p.Time s.at_ st.Place) st.Windows).1) = s.wt + (startS (s.leave + cellS p.Time s.at_ st.Place) st.Windows).1 := IntWalk.i64_in _ (by omega)
       have e24 : IntKind.i64.wrap (s.wt + (startS (s.leave + cellS p.Time s.at_ st.Place) st.Windows).1 - (s.leave + cellS p.Time s.at_ st.Place)) = s.wt + (startS (s.leave + cellS p.Time s.at_ st.Place) st.Windows).1 - (s.leave + cellS p.Time s.at_ st.Place) := IntWalk.i64_in _ (by omega)
       have e25 : IntKind.i64.wrap (s.se + st.Service) = s.se + st.Service := IntWalk.i64_in _ (by omega)
       clear hok
       go_wp2_with (go_at_call 61; refine (HSA.out _ HBw6.out).mono ?_; rintro e w7 ⟨rfl, hb⟩; rw [hsk]; have HB7 := Aside0.mk hb; have hp7 := HP6.out.mono hb; have hx7 := blk_below HX6.out hb; clear hb b0 b1 b2 hbw; have b0 := blk_cell hx7 0; have b1 := blk_cell hx7 1; have b2 := blk_cell hx7 2; have o1 := blk_cell hp7.out 1; have o2 := blk_cell hp7.out 2; have o3 := blk_cell hp7.out 3; have o4 := blk_cell hp7.out 4; have o5 := blk_cell hp7.out 5; have oz := fun i => blk_frozen hp7.out i; have how := blk_lt hp7.out; have hbw := blk_lt hx7; simp only [List.getElem?_toArray, List.getElem?_cons_succ, List.getElem?_cons_zero] at b0 b1 b2 o1 o2 o3 o4 o5; have HP7 := Aside0.mk hp7; have HX7 := Aside0.mk hx7; clear hp7 hx7)
       refine gen_wp (fun W => PlanAt w2 w1.heap.size vehicle sv (s.tm + cellS p.Time s.at_ st.Place) (s.di + cellS p.Dist s.at_ st.Place) (s.wt + (startS (s.leave + cellS p.Time s.at_ st.Place) st.Windows).1 - (s.leave + cellS p.Time s.at_ st.Place)) (s.se + st.Service) s.steps W ∧ W.heap[b]? = some (.cells #[.int .i64 st.Place, .int .i64 st.Service, .slice AX st.Windows.length cX] 43 (0, 0))) ⟨(HP7.out.set_wt _).set_se _, (Below.heap_setCell _ _ _ _ hbne).trans ((Below.heap_setCell _ _ _ _ hbne).trans HX7.out)⟩ (fun w8 H8 => ?_)
       obtain ⟨HP8, HX8⟩ : Aside0 _ ∧ Aside0 _ := ⟨⟨H8.out.1⟩, ⟨H8.out.2⟩⟩
       clear b0 b1 b2 o1 o2 o3 o4 o5 oz how hbw HP7 HX7 H8 HP6 HX6 HBw6 HB7 e23 e24 e25 HSA
       have HBw8 : Aside0 (Below w.heap.size w w8) := ⟨below_to HB2w.out HP8.out.below⟩
       have hob := HP8.out.out
       have hbb := HX8.out
       obtain ⟨o0, o1, o2, o3, o4, o5, o6⟩ := cells7 hob
       have oz := fun i => blk_frozen hob i
       have how := blk_lt hob
       have b0 := blk_cell hbb 0
       have b1 := blk_cell hbb 1
       have b2 := blk_cell hbb 2
       simp only [List.getElem?_toArray, List.getElem?_cons_succ, List.getElem?_cons_zero] at b0 b1 b2
       have hbw := blk_lt hbb
       have hk1 : k + 1 < (loadsS p l).length := by rw [show (loadsS p l).length = l.length + 1 by simp [loadsS]]; omega
       obtain ⟨aab', A7, c7, ea7, y7, l7, g7⟩ := atNOwn HC2.out (k + 1) hk1
       obtain rfl := Option.some.inj ea7
       have y7' : w8.cell? ⟨aab.block, aab.off + (k + 1), none⟩ = some (.slice A7 (loadsS p l)[k + 1].length c7) := by
        have h := pw_cell_below HP8.out.below y7
        rw [Addr.add, if_neg (by omega)] at h
        exact h
       have H7 := Aside0.mk (show _ ∧ _ from ⟨l7, g7⟩)
       obtain ⟨ad2, ea2, x0, x1⟩ := atNVisit (Kd.C_below HR.out HBw8.out) k hlt
       obtain rfl := Option.some.inj ea2
       rw [hx] at x0 x1
       have hba := World.block_lt_of_cell? _ _ x0
       have hbb' : (⟨(ad.add (k * 2)).block, (ad.add (k * 2)).off + 1, none⟩ : Addr).block < w8.heap.size := hba
       have hyb : aab.block < w8.heap.size := World.block_lt_of_cell? w8 ⟨aab.block, aab.off + (k + 1), none⟩ y7'
       have ek : IntKind.i64.wrap ((k : Int) + 1) = (k : Int) + 1 := IntWalk.i64_in _ (by omega)
       have e26 : IntKind.i64.wrap ((startS (s.leave + cellS p.Time s.at_ st.Place) st.Windows).1 - (s.leave + cellS p.Time s.at_ st.Place)) = (startS (s.leave + cellS p.Time s.at_ st.Place) st.Windows).1 - (s.leave + cellS p.Time s.at_ st.Place) := IntWalk.i64_in _ (by omega)
       have q0 : (0 : Int) ≤ (k : Int) + 1 := by omega
       have q1 : (k : Int) + 1 < ((loadsS p l).length : Int) := by omega
       clear hob hbb y7 l7 g7 ea7 ea2
       as_aux_lemma =>
       refine wp_region_tailH (S := fun W' => Below w8.heap.size w8 W' ∧ ∀ a : Addr, a.block < w8.heap.size → W'.cell? a = w8.cell? a) 25 (by kernel_rfl) (by kernel_rfl) (by kernel_rfl) (hl_start _) (fun hHeld => ?_)
       simp only [List.take_succ_cons, List.take_zero, List.drop_succ_cons, List.drop_zero]
       refine tk 0 (h := ?_)
       refine tk 1 (h := ?_)
       refine tk 2 (h := ?_)
       refine tk 3 (h := ?_)
       refine tk 4 (h := ?_)
       refine tk 5 (h := ?_)
       refine tk 6 (h := ?_)
       refine tk 7 (h := ?_)
       refine tk 8 (h := ?_)
       refine tk 9 (h := ?_)
       refine tk 10 (h := ?_)
       refine tk 11 (h := ?_)
       refine tk 12 (h := ?_)
       refine tk 13 (h := ?_)
       refine tk 14 (h := ?_)
       refine tk 15 (h := ?_)
       refine tk 16 (h := ?_)
       refine tk 17 (h := ?_)
       refine tk 18 (h := ?_)
       refine tk 19 (h := ?_)
       refine tk 20 (h := ?_)
       refine tk 21 (h := ?_)
       refine tk 22 (h := ?_)
       refine wpAnyH_take (i := 23) (oi := _) (v := ?_) (by simp only [List.getElem?_toArray, List.getElem?_cons_succ, List.getElem?_cons_zero]; rfl) (by kernel_rfl) (by kernel_rfl) (by kernel_rfl) (tail_hQ (by exact fun _ _ _ h => h)) (Or.inl ⟨by rfl, ?_⟩) (by assumption) ?_
       rotate_left
       focus (intro w hSw; refine build_mid (k := x.Kind) (i := x.Item) (pl := st.Place) (ar := s.leave + cellS p.Time s.at_ st.Place) (wt := (startS (s.leave + cellS p.Time s.at_ st.Place) st.Windows).1 - (s.leave + cellS p.Time s.at_ st.Place)) (se := st.Service) (A := A7) (n := (loadsS p l)[k + 1].length) (c := c7) (ti := s.tm + cellS p.Time s.at_ st.Place) (di := s.di + cellS p.Dist s.at_ st.Place) ?_ ?_ ?_ ?_ ?_ ?_ ?_ ?_ ?_ <;> kernel_rfl)
       (try simp only [Act.put, List.setIfInBounds_toArray, List.set_cons_zero, List.set_cons_succ])
       refine wpAnyH_ready (rs := [24]) (by kernel_rfl) (by simp) ?_
       refine rcn (fun K hK => ?_) AllReadyH.nil
       refine wp_sliceStep rfl rfl ?_
       clear hHeld
       refine hko hK _ _ _ (hl_of chn) (fun hHeld => ?_)
       clear hK K
       refine wpAnyH_tail (by kernel_rfl) ?_ _
       have hlen := HT.out.len
       refine OwnF.append kStep (w0 := w8.drew) (W := w8.drew) w2.heap.size rfl (.tmp 157) (.tmp 180) 72 91 (.agg #[.int .i64 0, .int .i64 0, .int .i64 0, .int .i64 0, .int .i64 0, .int .i64 0, .slice none 0 0, .int .i64 0, .int .i64 0]) 88 rfl Try.underlying72 infoStep rfl (by decide) (by decide) sv s.steps ⟨x, st.Place, s.leave + cellS p.Time s.at_ st.Place, (startS (s.leave + cellS p.Time s.at_ st.Place) st.Windows).1 - (s.leave + cellS p.Time s.at_ st.Place), st.Service, (loadsS p l)[k + 1], s.tm + cellS p.Time s.at_ st.Place, s.di + cellS p.Dist s.at_ st.Place⟩ _ rfl rfl (step_FK _ H7.out.1 H7.out.2 (below_drew HP8.out.below) (Nat.le_refl _)) (HP8.out.row.below (below_drew (Below.refl _ _))) (Below.refl _ _) (Nat.le_of_lt how) (by rw [hlen]; omega) ?_
       as_aux_lemma =>
       intro v1 w9 ho hb hg hat
       obtain ⟨A9, k9, rfl, _, _⟩ := ho.reads
       have hP9 := Aside0.mk (PlanAt.appended (wX := w2) (W := w8.drew) (HP8.out.mono (below_drew (Below.refl _ _))) ho hb hg)
       have hout9 : w9.heap[w2.heap.size]? = _ := (hg.block w2.heap.size HP8.out.lt HP8.out.ne).trans HP8.out.out
       have hbx9 : w9.heap[b]? = _ := (hg.block b hbw (HP8.out.row.ne_typed HX8.out (by decide))).trans HX8.out
       have st9 := blk_cell hout9 1
       have fz9 := fun i => blk_frozen hout9 i
       simp only [List.getElem?_toArray, List.getElem?_cons_succ, List.getElem?_cons_zero] at st9
       have HX9 := Aside0.mk hbx9
       clear ho hb hg hat hout9 hbx9 oz o0 o1 o2 o3 o4 o5 o6 b0 b1 b2 hHeld
       have hl9 : (s.steps ++ [(⟨x, st.Place, s.leave + cellS p.Time s.at_ st.Place, (startS (s.leave + cellS p.Time s.at_ st.Place) st.Windows).1 - (s.leave + cellS p.Time s.at_ st.Place), st.Service, (loadsS p l)[k + 1], s.tm + cellS p.Time s.at_ st.Place, s.di + cellS p.Dist s.at_ st.Place⟩ : TStep)]).length = k + 1 + 1 := by rw [List.length_append, hlen]; rfl
       have hP9' := hP9.out
       rw [hl9] at hP9'
       have HP9 := Aside0.mk hP9'
       have hN : nextS p v (loadsS p l) k x s = ⟨(startS (s.leave + cellS p.Time s.at_ st.Place) st.Windows).1 + st.Service, st.Place, (s.tm + cellS p.Time s.at_ st.Place), (s.di + cellS p.Dist s.at_ st.Place), (s.wt + (startS (s.leave + cellS p.Time s.at_ st.Place) st.Windows).1 - (s.leave + cellS p.Time s.at_ st.Place)), (s.se + st.Service), s.steps ++ [⟨x, st.Place, s.leave + cellS p.Time s.at_ st.Place, (startS (s.leave + cellS p.Time s.at_ st.Place) st.Windows).1 - (s.leave + cellS p.Time s.at_ st.Place), st.Service, (loadsS p l)[k + 1], s.tm + cellS p.Time s.at_ st.Place, s.di + cellS p.Dist s.at_ st.Place⟩]⟩ := by
        unfold nextS beginS comeS
        rw [hst]
        simp [List.getElem?_eq_getElem hk1]
       have HTn := Aside0.mk (nextS_ok LAW.out VOK.out FOK.out (loadsS p l) HT.out x (hx ▸ HXM.out) (by unfold comeS; rw [hst]; exact hsk))
       rw [hN] at HTn HG1
       have e27 : IntKind.i64.wrap ((startS (s.leave + cellS p.Time s.at_ st.Place) st.Windows).1 + st.Service) = (startS (s.leave + cellS p.Time s.at_ st.Place) st.Windows).1 + st.Service := IntWalk.i64_in _ (by omega)
       clear hP9 hP9' hN
       go_upto_region 26 with fail
       refine gen_wp (fun W => PlanAt w2 w1.heap.size vehicle (.slice A9 (k + 1 + 1) k9) (s.tm + cellS p.Time s.at_ st.Place) (s.di + cellS p.Dist s.at_ st.Place) (s.wt + (startS (s.leave + cellS p.Time s.at_ st.Place) st.Windows).1 - (s.leave + cellS p.Time s.at_ st.Place)) (s.se + st.Service) (s.steps ++ [⟨x, st.Place, s.leave + cellS p.Time s.at_ st.Place, (startS (s.leave + cellS p.Time s.at_ st.Place) st.Windows).1 - (s.leave + cellS p.Time s.at_ st.Place), st.Service, (loadsS p l)[k + 1], s.tm + cellS p.Time s.at_ st.Place, s.di + cellS p.Dist s.at_ st.Place⟩]) W ∧ W.heap[b]? = some (.cells #[.int .i64 st.Place, .int .i64 st.Service, .slice AX st.Windows.length cX] 43 (0, 0))) ⟨HP9.out, (Below.heap_setCell _ _ _ _ hbne).trans HX9.out⟩ (fun w10 H10 => ?_)
       have HP10 := Aside0.mk H10.out.1
       have hbb := H10.out.2
       have b0 := blk_cell hbb 0
       have b1 := blk_cell hbb 1
       have b2 := blk_cell hbb 2
       simp only [List.getElem?_toArray, List.getElem?_cons_succ, List.getElem?_cons_zero] at b0 b1 b2
       have hbw := blk_lt hbb
       clear hbb H10 HP9 HX9 st9 fz9 x0 x1 hba hbb' hyb y7' HP8 HX8
       obtain ⟨s2, hs2⟩ : ∃ s2, s2 = (⟨(startS (s.leave + cellS p.Time s.at_ st.Place) st.Windows).1 + st.Service, st.Place, (s.tm + cellS p.Time s.at_ st.Place), (s.di + cellS p.Dist s.at_ st.Place), (s.wt + (startS (s.leave + cellS p.Time s.at_ st.Place) st.Windows).1 - (s.leave + cellS p.Time s.at_ st.Place)), (s.se + st.Service), s.steps ++ [⟨x, st.Place, s.leave + cellS p.Time s.at_ st.Place, (startS (s.leave + cellS p.Time s.at_ st.Place) st.Windows).1 - (s.leave + cellS p.Time s.at_ st.Place), st.Service, (loadsS p l)[k + 1], s.tm + cellS p.Time s.at_ st.Place, s.di + cellS p.Dist s.at_ st.Place⟩]⟩ : TS) := ⟨_, rfl⟩
       rw [← hs2] at HTn HG1
       have HP11 : Aside0 (PlanAt w2 w1.heap.size vehicle (.slice A9 (k + 1 + 1) k9) s2.tm s2.di s2.wt s2.se s2.steps w10) := ⟨by rw [hs2]; exact HP10.out⟩
       have hlv : (startS (s.leave + cellS p.Time s.at_ st.Place) st.Windows).1 + st.Service = s2.leave := by rw [hs2]
       have hla : st.Place = s2.at_ := by rw [hs2]
       have HLV := Aside0.mk hlv
       have HLA := Aside0.mk hla
       clear hs2 HP10 hlv hla
       go_quiet (fail)
       go_wp2
       go_roundw
       case rel =>
        refine ⟨k + 1, s2, .slice A9 (k + 1 + 1) k9, by omega, by go_num, ?_, ?_, HTn, HG1, ?_⟩
        ·exact congrArg (Value.int .i64) HLV.out
        ·exact congrArg (Value.int .i64) HLA.out
        ·exact ⟨HP11.out.mono chn⟩
       case measure => simp [intOf]; omega
   ·
    as_aux_lemma =>
    obtain rfl : k = l.length := by omega
    have hR := HG.out
    rw [List.drop_of_length_le (Nat.le_refl _), goS, runS, endS] at hR
    have HG1 := Aside0.mk hR
    clear HG hR
    have hpb := blk_below HPB.out HP.out.below
    have hvb := blk_below HVB2.out HP.out.below
    obtain ⟨p0, p1, p2, p3, p4, p5, p6, p7⟩ := cells8 hpb
    have hpw := blk_lt hpb
    have v1 := blk_cell hvb 1
    have v4 := blk_cell hvb 4
    have v5 := blk_cell hvb 5
    have v6 := blk_cell hvb 6
    have v7 := blk_cell hvb 7
    have v8 := blk_cell hvb 8
    simp only [List.getElem?_toArray, List.getElem?_cons_succ, List.getElem?_cons_zero] at v1 v4 v5 v6 v7 v8
    have hvw := blk_lt hvb
    clear hpb hvb
    have hle := HT.out.le
    have htm := HT.out.tm
    have hdi := HT.out.di
    have hlen := HT.out.len
    have ht := LAW.out.time s.at_ v.End
    have hd := LAW.out.dist s.at_ v.End
    have hsh := VOK.out.shift
    have hfx := VOK.out.fx
    have hpt := VOK.out.pt
    have hpd := VOK.out.pd
    have d2 : decide ((l.length : Int) < (l.length : Int)) = false := decide_eq_false (Int.lt_irrefl _)
    have e20 : IntKind.i64.wrap (s.leave + cellS p.Time s.at_ v.End) = s.leave + cellS p.Time s.at_ v.End := IntWalk.i64_in _ (by omega)
    by_cases hlate : v.Shift.To < s.leave + cellS p.Time s.at_ v.End
    ·as_aux_lemma =>
     have dl : decide (v.Shift.To < s.leave + cellS p.Time s.at_ v.End) = true := decide_eq_true hlate
     have hR := HG1.out
     rw [if_pos hlate] at hR
     subst hR
     clear HT HG1 hlate hlen htm hdi hle ht hd hsh hfx hpt hpd
     go_wp2_with (first | (refine wpList_store7 rfl rfl rfl rfl hz7 ?_) | (go_at_call 31; with_reducible refine (hM1.out s.at_ v.End _ HBw.out).mono ?_; rintro e w3 ⟨rfl, hb⟩; have HB3 := Aside0.mk hb; have hz7 := blk_below HZB.out (below_to HP.out.below hb); have hv3 := blk_below HVB2.out (below_to HP.out.below hb); clear v1 v4 v5 v6 v7 v8 hvw; have v1 := blk_cell hv3 1; have v4 := blk_cell hv3 4; have v5 := blk_cell hv3 5; have v6 := blk_cell hv3 6; have v7 := blk_cell hv3 7; have v8 := blk_cell hv3 8; simp only [List.getElem?_toArray, List.getElem?_cons_succ, List.getElem?_cons_zero] at v1 v4 v5 v6 v7 v8; have hvw := blk_lt hv3; clear hb hv3))
     refine gen_ret (fun W => W.heap[w.heap.size + 1]? = some (.cells #[.int .i64 0, .slice none 0 0, .int .i64 0, .int .i64 0, .int .i64 0, .int .i64 0, .int .i64 0] 74 (0, 0)) ∧ Below w.heap.size w W) ⟨blk_set7 hz7 _ _ _ _ _ _ _, below_set7 (below_to HBw.out HB3.out) (by omega) _ _ _ _ _ _ _⟩ (fun WF hWF => ?_)
     obtain ⟨hbx, hbel⟩ := hWF
     have HBEL := Aside0.mk hbel
     obtain ⟨f0, f1, f2, f3, f4, f5, f6⟩ := cells7 hbx
     clear hbx hbel
     exact bodyPost_ret (v := .tuple #[.agg #[.int .i64 0, .slice none 0 0, .int .i64 0, .int .i64 0, .int .i64 0, .int .i64 0, .int .i64 0], .int .i64 167]) (by simp [results, Try.results51, go_sem, f0, f1, f2, f3, f4, f5, f6]) rfl ⟨none, 0, rfl, Nat.le_refl _, Kd.F_nil _ _ _, HBEL.out⟩
    have dl : decide (v.Shift.To < s.leave + cellS p.Time s.at_ v.End) = false := decide_eq_false hlate
    have hR := HG1.out
    rw [if_neg hlate] at hR
    have HG2 := Aside0.mk hR
    clear HG1 hR hlate
    go_wp2_with (go_at_call 31; with_reducible refine (hM1.out s.at_ v.End _ HBw.out).mono ?_; rintro e w3 ⟨rfl, hb⟩; have HB3 := Aside0.mk hb; have hv3 := blk_below HVB2.out (below_to HP.out.below hb); clear v1 v4 v5 v6 v7 v8 hvw; have v1 := blk_cell hv3 1; have v4 := blk_cell hv3 4; have v5 := blk_cell hv3 5; have v6 := blk_cell hv3 6; have v7 := blk_cell hv3 7; have v8 := blk_cell hv3 8; simp only [List.getElem?_toArray, List.getElem?_cons_succ, List.getElem?_cons_zero] at v1 v4 v5 v6 v7 v8; have hvw := blk_lt hv3; clear hb hv3)
    have HP3 := Aside0.mk (HP.out.mono HB3.out)
    have e18 : IntKind.i64.wrap (s.tm + cellS p.Time s.at_ v.End) = s.tm + cellS p.Time s.at_ v.End := IntWalk.i64_in _ (by omega)
    have e19 : IntKind.i64.wrap (s.di + cellS p.Dist s.at_ v.End) = s.di + cellS p.Dist s.at_ v.End := IntWalk.i64_in _ (by omega)
    clear p0 p1 p2 p3 p4 p5 p6 p7 v1 v4 v5 v6 v7 v8 hvw hpw HB3 e20 HP
    have hpb := blk_below HPB.out HP3.out.below
    have hvb := blk_below HVB2.out HP3.out.below
    have hob := HP3.out.out
    obtain ⟨p0, p1, p2, p3, p4, p5, p6, p7⟩ := cells8 hpb
    have hpw := blk_lt hpb
    have v1 := blk_cell hvb 1
    have v4 := blk_cell hvb 4
    have v5 := blk_cell hvb 5
    have v6 := blk_cell hvb 6
    have v7 := blk_cell hvb 7
    have v8 := blk_cell hvb 8
    simp only [List.getElem?_toArray, List.getElem?_cons_succ, List.getElem?_cons_zero] at v1 v4 v5 v6 v7 v8
    have hvw := blk_lt hvb
    obtain ⟨o0, o1, o2, o3, o4, o5, o6⟩ := cells7 hob
    have oz := fun i => blk_frozen hob i
    have how := blk_lt hob
    have HBwW : Aside0 (Below w.heap.size w w3) := ⟨below_to HB2w.out HP3.out.below⟩
    clear hpb hvb hob
    refine wp_region_tailH (S := fun W' => Below w3.heap.size w3 W' ∧ ∀ a : Addr, a.block < w3.heap.size → W'.cell? a = w3.cell? a) 9 (by kernel_rfl) (by kernel_rfl) (by kernel_rfl) (hl_start _) (fun hHeld => ?_)
    simp only [List.take_succ_cons, List.take_zero, List.drop_succ_cons, List.drop_zero]
    refine tk 0 (h := ?_)
    refine tk 1 (h := ?_)
    refine tk 2 (h := ?_)
    refine tk 3 (h := ?_)
    refine tk 4 (h := ?_)
    refine tk 5 (h := ?_)
    refine tk 6 (h := ?_)
    refine wpAnyH_ready (rs := [7]) (by kernel_rfl) (by simp) ?_
    refine rcn (fun K hK => ?_) AllReadyH.nil
    go_simp
    refine (hM1.out s.at_ v.End _ (below_to HBwW.out (And.left (show Below w3.heap.size w3 _ ∧ _ from by assumption)))).mono ?_; rintro e w4 ⟨rfl, hb⟩; obtain ⟨qcs, qfs⟩ := bcell hb; have hq4 := blk_below HP3.out.out (below_to (below_drew (Below.refl _ _)) hb); have f4 := fun i => blk_frozen hq4 i; clear hq4 qfs oz; dsimp only
    clear hHeld
    refine hko hK _ _ _ (hl_of chm) (fun hHeld => ?_)
    clear hK K
    refine tk 8 (h := ?_)
    refine wpAnyH_tail (by kernel_rfl) ?_ _
    go_wp2_with fail
    refine gen_wp (fun W => PlanAt w2 w1.heap.size vehicle sv (s.tm + cellS p.Time s.at_ v.End) s.di s.wt s.se s.steps W) ((HP3.out.mono (And.left (show Below w3.heap.size w3 _ ∧ _ from by assumption))).set_tm _) (fun w5 HP5 => ?_)
    clear p0 p1 p2 p3 p4 p5 p6 p7 v1 v4 v5 v6 v7 v8 hvw o0 o1 o2 o3 o4 o5 o6 hpw how f4 qcs hb hHeld HBwW
    clear HP3 e18
    have hpb := blk_below HPB.out HP5.out.below
    have hvb := blk_below HVB2.out HP5.out.below
    have hob := HP5.out.out
    obtain ⟨p0, p1, p2, p3, p4, p5, p6, p7⟩ := cells8 hpb
    have hpw := blk_lt hpb
    have v1 := blk_cell hvb 1
    have v4 := blk_cell hvb 4
    have v5 := blk_cell hvb 5
    have v6 := blk_cell hvb 6
    have v7 := blk_cell hvb 7
    have v8 := blk_cell hvb 8
    simp only [List.getElem?_toArray, List.getElem?_cons_succ, List.getElem?_cons_zero] at v1 v4 v5 v6 v7 v8
    have hvw := blk_lt hvb
    obtain ⟨o0, o1, o2, o3, o4, o5, o6⟩ := cells7 hob
    have oz := fun i => blk_frozen hob i
    have how := blk_lt hob
    have HBwW : Aside0 (Below w.heap.size w w5) := ⟨below_to HB2w.out HP5.out.below⟩
    clear hpb hvb hob
    refine wp_region_tailH (S := fun W' => Below w5.heap.size w5 W' ∧ ∀ a : Addr, a.block < w5.heap.size → W'.cell? a = w5.cell? a) 9 (by kernel_rfl) (by kernel_rfl) (by kernel_rfl) (hl_start _) (fun hHeld => ?_)
    simp only [List.take_succ_cons, List.take_zero, List.drop_succ_cons, List.drop_zero]
    refine tk 0 (h := ?_)
    refine tk 1 (h := ?_)
    refine tk 2 (h := ?_)
    refine tk 3 (h := ?_)
    refine tk 4 (h := ?_)
    refine tk 5 (h := ?_)
    refine tk 6 (h := ?_)
    refine wpAnyH_ready (rs := [7]) (by kernel_rfl) (by simp) ?_
    refine rcn (fun K hK => ?_) AllReadyH.nil
    go_simp
    refine (hM2.out s.at_ v.End _ (below_to HBwW.out (And.left (show Below w5.heap.size w5 _ ∧ _ from by assumption)))).mono ?_; rintro e w4 ⟨rfl, hb⟩; obtain ⟨qcs, qfs⟩ := bcell hb; have hq4 := blk_below HP5.out.out (below_to (below_drew (Below.refl _ _)) hb); have f4 := fun i => blk_frozen hq4 i; clear hq4 qfs oz; dsimp only
    clear hHeld
    refine hko hK _ _ _ (hl_of chm) (fun hHeld => ?_)
    clear hK K
    refine tk 8 (h := ?_)
    refine wpAnyH_tail (by kernel_rfl) ?_ _
    go_upto_region 32 with fail
    refine gen_wp (fun W => PlanAt w2 w1.heap.size vehicle sv (s.tm + cellS p.Time s.at_ v.End) (s.di + cellS p.Dist s.at_ v.End) s.wt s.se s.steps W) ((HP5.out.mono (And.left (show Below w5.heap.size w5 _ ∧ _ from by assumption))).set_di _) (fun w6 HP6 => ?_)
    clear p0 p1 p2 p3 p4 p5 p6 p7 v1 v4 v5 v6 v7 v8 hvw o0 o1 o2 o3 o4 o5 o6 hpw how f4 qcs hb hHeld HBwW
    clear HP5 e19
    have HBw6 : Aside0 (Below w.heap.size w w6) := ⟨below_to HB2w.out HP6.out.below⟩
    have hob := HP6.out.out
    have hvb := blk_below HVB2.out HP6.out.below
    obtain ⟨o0, o1, o2, o3, o4, o5, o6⟩ := cells7 hob
    have oz := fun i => blk_frozen hob i
    have how := blk_lt hob
    have v1 := blk_cell hvb 1
    have v4 := blk_cell hvb 4
    have v5 := blk_cell hvb 5
    have v6 := blk_cell hvb 6
    have v7 := blk_cell hvb 7
    have v8 := blk_cell hvb 8
    simp only [List.getElem?_toArray, List.getElem?_cons_succ, List.getElem?_cons_zero] at v1 v4 v5 v6 v7 v8
    have hvw := blk_lt hvb
    have hll : l.length < (loadsS p l).length := by simp [loadsS]
    obtain ⟨aab', A7, c7, ea7, y7, l7, g7⟩ := atNOwn HC2.out l.length hll
    obtain rfl := Option.some.inj ea7
    have y7' : w6.cell? (aab.add l.length) = some (.slice A7 (loadsS p l)[l.length].length c7) := pw_cell_below HP6.out.below y7
    have H7 := Aside0.mk (show _ ∧ _ from ⟨l7, g7⟩)
    have hyb : (aab.add l.length).block < w6.heap.size := World.block_lt_of_cell? w6 (aab.add l.length) y7'
    have q0 : (0 : Int) ≤ (l.length : Int) := by omega
    have q1 : (l.length : Int) < ((loadsS p l).length : Int) := by omega
    clear hob hvb y7 l7 g7 ea7
    as_aux_lemma =>
    refine wp_region_tailH (S := fun W' => Below w6.heap.size w6 W' ∧ ∀ a : Addr, a.block < w6.heap.size → W'.cell? a = w6.cell? a) 17 (by kernel_rfl) (by kernel_rfl) (by kernel_rfl) (hl_start _) (fun hHeld => ?_)
    simp only [List.take_succ_cons, List.take_zero, List.drop_succ_cons, List.drop_zero]
    refine tk 0 (h := ?_)
    refine tk 1 (h := ?_)
    refine tk 2 (h := ?_)
    refine tk 3 (h := ?_)
    refine tk 4 (h := ?_)
    refine tk 5 (h := ?_)
    refine tk 6 (h := ?_)
    refine tk 7 (h := ?_)
    refine tk 8 (h := ?_)
    refine tk 9 (h := ?_)
    refine tk 10 (h := ?_)
    refine tk 11 (h := ?_)
    refine tk 12 (h := ?_)
    refine tk 13 (h := ?_)
    refine tk 14 (h := ?_)
    refine wpAnyH_take (i := 15) (oi := _) (v := ?_) (by simp only [List.getElem?_toArray, List.getElem?_cons_succ, List.getElem?_cons_zero]; rfl) (by kernel_rfl) (by kernel_rfl) (by kernel_rfl) (tail_hQ (by exact fun _ _ _ h => h)) (Or.inl ⟨by rfl, ?_⟩) (by assumption) ?_
    rotate_left
    focus (intro w hSw; refine build_last (pl := v.End) (ar := s.leave + cellS p.Time s.at_ v.End) (A := A7) (n := (loadsS p l)[l.length].length) (c := c7) (ti := s.tm + cellS p.Time s.at_ v.End) (di := s.di + cellS p.Dist s.at_ v.End) ?_ ?_ ?_ ?_ ?_ ?_ ?_ <;> kernel_rfl)
    (try simp only [Act.put, List.setIfInBounds_toArray, List.set_cons_zero, List.set_cons_succ])
    refine wpAnyH_ready (rs := [16]) (by kernel_rfl) (by simp) ?_
    refine rcn (fun K hK => ?_) AllReadyH.nil
    refine wp_sliceStep rfl rfl ?_
    clear hHeld
    refine hko hK _ _ _ (hl_of chn) (fun hHeld => ?_)
    clear hK K
    refine wpAnyH_tail (by kernel_rfl) ?_ _
    refine OwnF.append kStep (w0 := w6.drew) (W := w6.drew) w2.heap.size rfl (.tmp 224) (.tmp 239) 72 91 (.agg #[.int .i64 0, .int .i64 0, .int .i64 0, .int .i64 0, .int .i64 0, .int .i64 0, .slice none 0 0, .int .i64 0, .int .i64 0]) 88 rfl Try.underlying72 infoStep rfl (by decide) (by decide) sv s.steps ⟨⟨6, 0⟩, v.End, s.leave + cellS p.Time s.at_ v.End, 0, 0, (loadsS p l)[l.length], s.tm + cellS p.Time s.at_ v.End, s.di + cellS p.Dist s.at_ v.End⟩ _ rfl rfl (step_FK _ H7.out.1 H7.out.2 (below_drew HP6.out.below) (Nat.le_refl _)) (HP6.out.row.below (below_drew (Below.refl _ _))) (Below.refl _ _) (Nat.le_of_lt how) (by rw [hlen]; omega) ?_
    as_aux_lemma =>
    intro v1' w9 ho hb hg hat
    obtain ⟨A9, k9, rfl, _, _⟩ := ho.reads
    have hP9 := Aside0.mk (PlanAt.appended (wX := w2) (W := w6.drew) (HP6.out.mono (below_drew (Below.refl _ _))) ho hb hg)
    have hout9 : w9.heap[w2.heap.size]? = _ := (hg.block w2.heap.size HP6.out.lt HP6.out.ne).trans HP6.out.out
    have st9 := blk_cell hout9 1
    have fz9 := fun i => blk_frozen hout9 i
    simp only [List.getElem?_toArray, List.getElem?_cons_succ, List.getElem?_cons_zero] at st9
    clear ho hb hg hat hout9 oz o0 o1 o2 o3 o4 o5 o6 v1 v4 v5 v6 v7 v8 hvw hHeld
    have hl9 : (s.steps ++ [(⟨⟨6, 0⟩, v.End, s.leave + cellS p.Time s.at_ v.End, 0, 0, (loadsS p l)[l.length], s.tm + cellS p.Time s.at_ v.End, s.di + cellS p.Dist s.at_ v.End⟩ : TStep)]).length = l.length + 1 + 1 := by rw [List.length_append, hlen]; rfl
    have hP9' := hP9.out
    rw [hl9] at hP9'
    have HP9 := Aside0.mk hP9'
    have eload := Aside0.mk (show (loadsS p l)[l.length] = (loadsS p l).getD l.length [] by simp [List.getElem?_eq_getElem hll])
    have m1 := mul_in (a := s.tm + cellS p.Time s.at_ v.End) (b := v.PerTime) (by omega) (by omega) hpt.1 hpt.2
    have m2 := mul_in (a := s.di + cellS p.Dist s.at_ v.End) (b := v.PerDist) (by omega) (by omega) hpd.1 hpd.2
    generalize hm1 : (s.tm + cellS p.Time s.at_ v.End) * v.PerTime = mm1 at m1
    generalize hm2 : (s.di + cellS p.Dist s.at_ v.End) * v.PerDist = mm2 at m2
    have e21 : IntKind.i64.wrap mm1 = mm1 := IntWalk.i64_in _ (by omega)
    have e22 : IntKind.i64.wrap mm2 = mm2 := IntWalk.i64_in _ (by omega)
    have e23 : IntKind.i64.wrap (v.Fixed + mm1) = v.Fixed + mm1 := IntWalk.i64_in _ (by omega)
    have e24 : IntKind.i64.wrap (v.Fixed + mm1 + mm2) = v.Fixed + mm1 + mm2 := IntWalk.i64_in _ (by omega)
    clear hP9 hP9' HP6 y7' hyb
    go_upto_region 33 with fail
    refine gen_wp (fun W => PlanAt w2 w1.heap.size vehicle (.slice A9 (l.length + 1 + 1) k9) (s.tm + cellS p.Time s.at_ v.End) (s.di + cellS p.Dist s.at_ v.End) s.wt s.se (s.steps ++ [⟨⟨6, 0⟩, v.End, s.leave + cellS p.Time s.at_ v.End, 0, 0, (loadsS p l)[l.length], s.tm + cellS p.Time s.at_ v.End, s.di + cellS p.Dist s.at_ v.End⟩]) W) HP9.out (fun w10 HP10 => ?_)
    clear HP9 st9 fz9
    have hob := HP10.out.out
    have hvb := blk_below HVB2.out HP10.out.below
    obtain ⟨o0, o1, o2, o3, o4, o5, o6⟩ := cells7 hob
    have oz := fun i => blk_frozen hob i
    have how := blk_lt hob
    have v1 := blk_cell hvb 1
    have v4 := blk_cell hvb 4
    have v5 := blk_cell hvb 5
    have v6 := blk_cell hvb 6
    have v7 := blk_cell hvb 7
    have v8 := blk_cell hvb 8
    simp only [List.getElem?_toArray, List.getElem?_cons_succ, List.getElem?_cons_zero] at v1 v4 v5 v6 v7 v8
    have hvw := blk_lt hvb
    clear hob hvb
    go_upto_region 34 with fail
    refine gen_wp (fun W => W.heap[w2.heap.size]? = some (.cells #[.int .i64 vehicle, .slice A9 (l.length + 1 + 1) k9, .int .i64 (s.tm + cellS p.Time s.at_ v.End), .int .i64 (s.di + cellS p.Dist s.at_ v.End), .int .i64 s.wt, .int .i64 s.se, .int .i64 (v.Fixed + mm1 + mm2)] 74 (0, 0)) ∧ Below w2.heap.size w2 W ∧ OwnF kStep 91 W w1.heap.size w2.heap.size (.slice A9 (l.length + 1 + 1) k9) (s.steps ++ [⟨⟨6, 0⟩, v.End, s.leave + cellS p.Time s.at_ v.End, 0, 0, (loadsS p l)[l.length], s.tm + cellS p.Time s.at_ v.End, s.di + cellS p.Dist s.at_ v.End⟩]))
     ⟨by simpa using blk_set HP10.out.out 6 (.int .i64 (v.Fixed + mm1 + mm2)), Below.setCell HP10.out.below (Nat.le_refl _) _, HP10.out.row.set (Nat.le_refl _) HP10.out.ne _⟩ (fun w11 H11 => ?_)
    clear o0 o1 o2 o3 o4 o5 o6 oz how v1 v4 v5 v6 v7 v8 hvw e21 e22 e23 e24 m1 m2 HP10
    have hob := H11.out.1
    have hz7 := blk_below HZB.out H11.out.2.1
    obtain ⟨o0, o1, o2, o3, o4, o5, o6⟩ := cells7 hob
    have oz := fun i => blk_frozen hob i
    have how := blk_lt hob
    have HZ7 := Aside0.mk hz7
    have HL9 := Aside0.mk hl9
    have HM1 := Aside0.mk hm1
    have HM2 := Aside0.mk hm2
    clear hob hz7 hl9 hm1 hm2
    go_wp2_with (refine wpList_store7 rfl rfl rfl rfl HZ7.out ?_)
    have hG := HG2.out
    rw [← eload.out] at hG
    have hlo : w.heap.size + 1 < w1.heap.size := by have := HB1.out.size; (try simp at this); omega
    have hown := OwnF.set7 H11.out.2.2 hlo HB2.out.size (.int .i64 vehicle) (.slice A9 (l.length + 1 + 1) k9) (.int .i64 (s.tm + cellS p.Time s.at_ v.End)) (.int .i64 (s.di + cellS p.Dist s.at_ v.End)) (.int .i64 s.wt) (.int .i64 s.se) (.int .i64 (v.Fixed + mm1 + mm2))
    obtain ⟨AR, cR, eR, hleR, hFR⟩ := hown.F HB2.out.size
    simp only [Value.slice.injEq] at eR
    obtain ⟨eA, eL, ec⟩ := eR
    rw [← eA] at hFR
    rw [← ec] at hleR
    have hCR := Kd.F_mono hFR (ok' := fun k => w.heap.size ≤ k) (fun k hk => Nat.le_trans (Nat.le_of_lt (Nat.lt_of_succ_lt hlo)) hk)
    rw [← hG]
    refine ret_plan' _ w _ _ (w.heap.size + 1) A9 k9 (l.length + 1 + 1) (v.Fixed + mm1 + mm2) eL (by rw [← HM1.out, ← HM2.out]) (blk_set7 HZ7.out _ _ _ _ _ _ _) ?_ ?_ ?_ hleR hCR (below_set7 (below_to HB2w.out H11.out.2.1) (Nat.le_succ _) _ _ _ _ _ _ _)
    ·rfl
    ·rfl
    ·rfl
end Go.Proofs.Ytemjpgmfignhnaa
