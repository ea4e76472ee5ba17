/- Contract: the plan that layer 14's statements begin with.
Conditions: lists no longer than memory allows. -/
import Derived.Test.YtemjpgmfignhnaaA12
import Derived.Test.YtemjpgmfignhnaaR13i
import Derived.Test.YtemjpgmfignhnaaP14b
namespace Go.Proofs.Ytemjpgmfignhnaa
open Go.RowKit Go.Proofs.YtemjpgmfignhnaaW.PrintWords Go.Proofs.YtemjpgmfignhnaaW.PrintLast Go.Proofs.YtemjpgmfignhnaaW.PrintMore
set_option linter.unusedVariables false
set_option linter.unusedSimpArgs false
attribute [local go_sem] cell_growBy Option.some_or
/-- A plan is handed back, and whether it is one. -/
def PlanPostB (x : TPlan) (b : Bool) (w : World) (e : Ending) (w' : World) : Prop :=
  ∃ A c, e = .returned (.tuple #[planV x A c, .bool b]) ∧ x.Steps.length ≤ c ∧ Kd.F kStep w' (fun k => w.heap.size ≤ k) A x.Steps.length x.Steps ∧ Below w.heap.size w w'
theorem ret_planB {fn : Func} (hf : fn.results = #[.cell 6 74, .tmp 7]) (x : TPlan) (b : Bool) (w WF : World) (a : Act) (g : Nat) (A : Option Addr) (c : Nat)
    (hz : WF.heap[g]? = some (.cells #[.int .i64 x.Vehicle, .slice A x.Steps.length c, .int .i64 x.Time, .int .i64 x.Dist, .int .i64 x.Wait, .int .i64 x.Service, .int .i64 x.Cost] 74 (0, 0)))
    (h6 : a.tmps[6]? = some (.pointer (some ⟨g, 0, none⟩))) (h7 : a.tmps[7]? = some (.bool b)) (hd : a.defers = []) (hl : x.Steps.length ≤ c) (hC : Kd.F kStep WF (fun k => w.heap.size ≤ k) A x.Steps.length x.Steps) (hb : Below w.heap.size w WF) :
    bodyPost Try.prog fn (PlanPostB x b w) .ret a WF := by
  have f0 := blk_cell hz 0
  have f1 := blk_cell hz 1
  have f2 := blk_cell hz 2
  have f3 := blk_cell hz 3
  have f4 := blk_cell hz 4
  have f5 := blk_cell hz 5
  have f6 := blk_cell hz 6
  simp only [List.getElem?_toArray, List.getElem?_cons_succ, List.getElem?_cons_zero] at f0 f1 f2 f3 f4 f5 f6
  refine bodyPost_ret (v := .tuple #[planV x A c, .bool b]) ?_ hd ⟨A, c, rfl, hl, hC, hb⟩
  simp only [results, hf, planV]
  simp [h6, h7, go_sem, f0, f1, f2, f3, f4, f5, f6]
theorem ret_storeB {fn : Func} (hf : fn.results = #[.cell 6 74, .tmp 7]) (x : TPlan) (b : Bool) (w W : World) (a : Act) (g : Nat) (A : Option Addr) (c : Nat) {c0 c1 c2 c3 c4 c5 c6 : Value} {ok : Nat → Prop}
    (hz : W.heap[g]? = some (.cells #[c0, c1, c2, c3, c4, c5, c6] 74 (0, 0))) (h6 : a.tmps[6]? = some (.pointer (some ⟨g, 0, none⟩))) (h7 : a.tmps[7]? = some (.bool b)) (hd : a.defers = []) (hg : w.heap.size ≤ g) (hok : ∀ k, ok k → g < k)
    (hl : x.Steps.length ≤ c) (hC : Kd.F kStep W ok A x.Steps.length x.Steps) (hb : Below w.heap.size w W) :
    bodyPost Try.prog fn (PlanPostB x b w) .ret a (((((((W.setCell ⟨g, 0, none⟩ (.int .i64 x.Vehicle)).setCell ⟨g, 1, none⟩ (.slice A x.Steps.length c)).setCell ⟨g, 2, none⟩ (.int .i64 x.Time)).setCell ⟨g, 3, none⟩ (.int .i64 x.Dist)).setCell ⟨g, 4, none⟩ (.int .i64 x.Wait)).setCell ⟨g, 5, none⟩ (.int .i64 x.Service)).setCell ⟨g, 6, none⟩ (.int .i64 x.Cost)) :=
  ret_planB hf x b w _ a g A c (blk_set7 hz _ _ _ _ _ _ _) h6 h7 hd hl (Kd.F_mono (F_set7 hC (fun k hk => by have := hok k hk; omega) _ _ _ _ _ _ _) (fun k hk => by have := hok k hk; omega)) (below_set7 hb hg _ _ _ _ _ _ _)
set_option maxHeartbeats 16000000 in
set_option maxRecDepth 100000 in
theorem made_any (q : PV) (p : TProblem) (vehicle : Int) (l : List TVisit) (A : Option Addr) (c : Nat) (w : World) (hlp : Good p) (hq : q.Ok p w) (hr : Kd.C kVisit w A l.length l) (hl : l.length ≤ 4611686018427387904) :
    Calls Try.prog 63 #[q.val p, .int .i64 vehicle, .slice A l.length c] w (PlanPostB (madeS p vehicle l).1 (madeS p vehicle l).2 w) := by
  have HLW := Aside0.mk (fun W (hb : Below w.heap.size w W) => lawful_any q p W hlp (hq.below hb))
  have HFI := Aside0.mk (fun (law : Law p) (hl : l.length ≤ 30) W (hb : Below w.heap.size w W) => refFit_any q p vehicle l A c W hlp law (hq.below hb) (Kd.C_below hr hb) (by omega))
  obtain ⟨a1, c1, a2, c2, a3, c3, a4, c4, a5, c5⟩ := q
  clear hlp hq hr
  unfold PV.val at HLW HFI ⊢
  by_cases hc : checkS p = 0
  · have dc : decide (checkS p = 0) = true := decide_eq_true hc
    by_cases h30 : 30 < l.length
    · have e : madeS p vehicle l = (zPlan, false) := by unfold madeS; rw [if_pos (.inr h30)]
      have d1 : decide ((30 : Int) < (l.length : Int)) = true := decide_eq_true (by omega)
      rw [e]
      clear e hc h30 HFI
      go_enter Try.func63, Try.ntmps63
      go_wp2_with (go_at_call 29; refine (HLW.out _ (by repeat (first | exact Below.refl _ _ | apply below_alloc | apply pw_below_drewN | apply below_drew1 | apply below_drew | (refine Below.setCell ?_ (by (try simp); (try omega)) _) | (refine below_to ?_ HB6.out) | (refine below_to ?_ HB5.out) | (refine below_to ?_ HB4.out) | (refine below_to ?_ HB3.out) | (refine below_to ?_ HB2.out) | (refine below_to ?_ HB1.out)))).mono ?_; rintro e w1 ⟨rfl, hb⟩; rw [dc]; have hz := blk_below (blk_is (W := w.alloc (.cells #[.int .i64 p.Dims, .int .i64 p.Time.N, .slice a1 p.Time.Cells.length c1, .int .i64 p.Dist.N, .slice a2 p.Dist.Cells.length c2, .slice a3 p.Vehicles.length c3, .slice a4 p.Jobs.length c4, .slice a5 p.Shipments.length c5] 29)) (o := (.cells #[.int .i64 0, .slice none 0 0, .int .i64 0, .int .i64 0, .int .i64 0, .int .i64 0, .int .i64 0] 74)) (n := w.heap.size + 1) (by simp)) hb; have HZ := Aside0.mk hz; have HB1 := Aside0.mk (show Below w.heap.size w w1 from below_to (by repeat (first | exact Below.refl _ _ | apply below_alloc | apply pw_below_drewN | apply below_drew1 | apply below_drew | (refine Below.setCell ?_ (by (try simp); (try omega)) _) | (refine below_to ?_ HB6.out) | (refine below_to ?_ HB5.out) | (refine below_to ?_ HB4.out) | (refine below_to ?_ HB3.out) | (refine below_to ?_ HB2.out) | (refine below_to ?_ HB1.out))) hb); have z0 := blk_cell hz 0; have z1 := blk_cell hz 1; have z2 := blk_cell hz 2; have z3 := blk_cell hz 3; have z4 := blk_cell hz 4; have z5 := blk_cell hz 5; have z6 := blk_cell hz 6; simp only [List.getElem?_toArray, List.getElem?_cons_succ, List.getElem?_cons_zero] at z0 z1 z2 z3 z4 z5 z6; have zz := fun i => blk_frozen hz i; have hzw := blk_lt hz; clear hb hz)
      exact ret_storeB (by rfl) zPlan false w _ _ (w.heap.size + 1) none 0 (ok := fun k => w.heap.size + 1 < k) HZ.out rfl rfl rfl (by omega) (fun k hk => hk) (Nat.le_refl _) (Kd.F_nil _ _ _) HB1.out
    · have e : madeS p vehicle l = ((fitS p vehicle l).1, decide ((fitS p vehicle l).2 = 0)) := by unfold madeS; rw [if_neg (by rintro (h | h); exact h hc; exact h30 h)]
      have d1 : decide ((30 : Int) < (l.length : Int)) = false := decide_eq_false (by omega)
      have de : ((fitS p vehicle l).2 == 0) = decide ((fitS p vehicle l).2 = 0) := rfl
      have HF := Aside0.mk (fun W hb => HFI.out (law_of hc) (by omega) W hb)
      rw [e]
      clear e hc h30 HFI
      generalize fitS p vehicle l = r at *
      go_enter Try.func63, Try.ntmps63
      go_upto_region 4 with (first
        | (go_at_call 29; refine (HLW.out _ (by repeat (first | exact Below.refl _ _ | apply below_alloc | apply pw_below_drewN | apply below_drew1 | apply below_drew | (refine Below.setCell ?_ (by (try simp); (try omega)) _) | (refine below_to ?_ HB6.out) | (refine below_to ?_ HB5.out) | (refine below_to ?_ HB4.out) | (refine below_to ?_ HB3.out) | (refine below_to ?_ HB2.out) | (refine below_to ?_ HB1.out)))).mono ?_; rintro e w1 ⟨rfl, hb⟩; rw [dc]; have hp := blk_below (blk_alloc (blk_new w (.cells #[.int .i64 p.Dims, .int .i64 p.Time.N, .slice a1 p.Time.Cells.length c1, .int .i64 p.Dist.N, .slice a2 p.Dist.Cells.length c2, .slice a3 p.Vehicles.length c3, .slice a4 p.Jobs.length c4, .slice a5 p.Shipments.length c5] 29)) (.cells #[.int .i64 0, .slice none 0 0, .int .i64 0, .int .i64 0, .int .i64 0, .int .i64 0, .int .i64 0] 74)) hb; have hz := blk_below (blk_is (W := w.alloc (.cells #[.int .i64 p.Dims, .int .i64 p.Time.N, .slice a1 p.Time.Cells.length c1, .int .i64 p.Dist.N, .slice a2 p.Dist.Cells.length c2, .slice a3 p.Vehicles.length c3, .slice a4 p.Jobs.length c4, .slice a5 p.Shipments.length c5] 29)) (o := (.cells #[.int .i64 0, .slice none 0 0, .int .i64 0, .int .i64 0, .int .i64 0, .int .i64 0, .int .i64 0] 74)) (n := w.heap.size + 1) (by simp)) hb; have HZ := Aside0.mk hz; have hz1 := hb.size; have HB1 := Aside0.mk (show Below w.heap.size w w1 from below_to (by repeat (first | exact Below.refl _ _ | apply below_alloc | apply pw_below_drewN | apply below_drew1 | apply below_drew | (refine Below.setCell ?_ (by (try simp); (try omega)) _) | (refine below_to ?_ HB6.out) | (refine below_to ?_ HB5.out) | (refine below_to ?_ HB4.out) | (refine below_to ?_ HB3.out) | (refine below_to ?_ HB2.out) | (refine below_to ?_ HB1.out))) hb); have q0 := blk_cell hp 0; have q1 := blk_cell hp 1; have q2 := blk_cell hp 2; have q3 := blk_cell hp 3; have q4 := blk_cell hp 4; have q5 := blk_cell hp 5; have q6 := blk_cell hp 6; have q7 := blk_cell hp 7; simp only [List.getElem?_toArray, List.getElem?_cons_succ, List.getElem?_cons_zero] at q0 q1 q2 q3 q4 q5 q6 q7; clear hb hz hp)
        | (go_at_call 54; refine (HF.out _ HB1.out).mono ?_; rintro e w2 ⟨A2, c2, rfl, hle2, hF2, hb⟩; have hz := blk_below HZ.out hb; have HZ2 := Aside0.mk hz; have HF2 := Aside0.mk hF2; have HLE := Aside0.mk hle2; have hz2 := hb.size; have HB2 := Aside0.mk (show Below w.heap.size w w2 from below_to HB1.out hb); clear hb hz hF2 hle2))
      refine gen_wp (fun W => Below w.heap.size w W ∧ W.heap[w.heap.size + 1]? = some (.cells #[.int .i64 0, .slice none 0 0, .int .i64 0, .int .i64 0, .int .i64 0, .int .i64 0, .int .i64 0] 74 (0, 0)) ∧ W.heap[w2.heap.size]? = some (.cells #[.int .i64 r.1.Vehicle, .slice A2 r.1.Steps.length c2, .int .i64 r.1.Time, .int .i64 r.1.Dist, .int .i64 r.1.Wait, .int .i64 r.1.Service, .int .i64 r.1.Cost] 74 (0, 0)) ∧ Kd.F kStep W (fun k => w1.heap.size ≤ k) A2 r.1.Steps.length r.1.Steps)
        ⟨below_alloc HB2.out _, blk_alloc HZ2.out _, blk_is rfl, Kd.F_step HF2.out (fun k _ hk => (show Below w2.heap.size w2 _ from below_alloc (Below.refl _ _) _).block k hk)⟩ (fun w3 H3 => ?_)
      clear q0 q1 q2 q3 q4 q5 q6 q7 HZ HZ2 HF2 HB1 HB2 HLW HF
      have hz := H3.out.2.1
      have hx := H3.out.2.2.1
      have z0 := blk_cell hz 0; have z1 := blk_cell hz 1; have z2 := blk_cell hz 2; have z3 := blk_cell hz 3; have z4 := blk_cell hz 4; have z5 := blk_cell hz 5; have z6 := blk_cell hz 6; simp only [List.getElem?_toArray, List.getElem?_cons_succ, List.getElem?_cons_zero] at z0 z1 z2 z3 z4 z5 z6; have zz := fun i => blk_frozen hz i; have hzw := blk_lt hz
      have b0 := blk_cell hx 0; have b1 := blk_cell hx 1; have b2 := blk_cell hx 2; have b3 := blk_cell hx 3; have b4 := blk_cell hx 4; have b5 := blk_cell hx 5; have b6 := blk_cell hx 6; simp only [List.getElem?_toArray, List.getElem?_cons_succ, List.getElem?_cons_zero] at b0 b1 b2 b3 b4 b5 b6; have hbw := blk_lt hx
      clear hz hx
      go_wp2
      exact ret_storeB (by rfl) r.1 (decide (r.2 = 0)) w _ _ (w.heap.size + 1) A2 c2 (ok := fun k => w1.heap.size ≤ k) H3.out.2.1 rfl rfl rfl (by omega) (fun k hk => by simp at hz1; omega) HLE.out H3.out.2.2.2 H3.out.1
  · have dc : decide (checkS p = 0) = false := decide_eq_false hc
    have e : madeS p vehicle l = (zPlan, false) := by unfold madeS; rw [if_pos (.inl hc)]
    rw [e]
    clear e hc HFI
    go_enter Try.func63, Try.ntmps63
    go_wp2_with (go_at_call 29; refine (HLW.out _ (by repeat (first | exact Below.refl _ _ | apply below_alloc | apply pw_below_drewN | apply below_drew1 | apply below_drew | (refine Below.setCell ?_ (by (try simp); (try omega)) _) | (refine below_to ?_ HB6.out) | (refine below_to ?_ HB5.out) | (refine below_to ?_ HB4.out) | (refine below_to ?_ HB3.out) | (refine below_to ?_ HB2.out) | (refine below_to ?_ HB1.out)))).mono ?_; rintro e w1 ⟨rfl, hb⟩; rw [dc]; have hz := blk_below (blk_is (W := w.alloc (.cells #[.int .i64 p.Dims, .int .i64 p.Time.N, .slice a1 p.Time.Cells.length c1, .int .i64 p.Dist.N, .slice a2 p.Dist.Cells.length c2, .slice a3 p.Vehicles.length c3, .slice a4 p.Jobs.length c4, .slice a5 p.Shipments.length c5] 29)) (o := (.cells #[.int .i64 0, .slice none 0 0, .int .i64 0, .int .i64 0, .int .i64 0, .int .i64 0, .int .i64 0] 74)) (n := w.heap.size + 1) (by simp)) hb; have HZ := Aside0.mk hz; have HB1 := Aside0.mk (show Below w.heap.size w w1 from below_to (by repeat (first | exact Below.refl _ _ | apply below_alloc | apply pw_below_drewN | apply below_drew1 | apply below_drew | (refine Below.setCell ?_ (by (try simp); (try omega)) _) | (refine below_to ?_ HB6.out) | (refine below_to ?_ HB5.out) | (refine below_to ?_ HB4.out) | (refine below_to ?_ HB3.out) | (refine below_to ?_ HB2.out) | (refine below_to ?_ HB1.out))) hb); have z0 := blk_cell hz 0; have z1 := blk_cell hz 1; have z2 := blk_cell hz 2; have z3 := blk_cell hz 3; have z4 := blk_cell hz 4; have z5 := blk_cell hz 5; have z6 := blk_cell hz 6; simp only [List.getElem?_toArray, List.getElem?_cons_succ, List.getElem?_cons_zero] at z0 z1 z2 z3 z4 z5 z6; have zz := fun i => blk_frozen hz i; have hzw := blk_lt hz; clear hb hz)
    exact ret_storeB (by rfl) zPlan false w _ _ (w.heap.size + 1) none 0 (ok := fun k => w.heap.size + 1 < k) HZ.out rfl rfl rfl (by omega) (fun k hk => hk) (Nat.le_refl _) (Kd.F_nil _ _ _) HB1.out
end Go.Proofs.Ytemjpgmfignhnaa
