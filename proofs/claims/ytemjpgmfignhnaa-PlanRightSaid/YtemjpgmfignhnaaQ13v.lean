/- Contract: the steps of a plan, as early as may be. The program's times.
Conditions: a lawful problem, at most 200 visits, no other error. -/
import Derived.Test.YtemjpgmfignhnaaM0
import Derived.Test.YtemjpgmfignhnaaM9
import Derived.Test.YtemjpgmfignhnaaM10
import Derived.Test.YtemjpgmfignhnaaM8
namespace Go.Proofs.Ytemjpgmfignhnaa
open Go.RowKit Go.Proofs.YtemjpgmfignhnaaW.PrintWords Go.Proofs.YtemjpgmfignhnaaW.PrintLast Go.Proofs.YtemjpgmfignhnaaW.PrintMore
set_option linter.unusedVariables false
set_option linter.unusedSimpArgs false
attribute [local go_sem] cell_growBy Option.some_or
theorem atLoadS {wY W : World} {g lo : Nat} {vehicle tm di wt se : Int} {sv : Value} {steps : List TStep} {ls : List (List Int)} {A : Option Addr} {m c : Nat} (hP : PlanS wY g lo vehicle sv tm di wt se steps W) (h : LoadRow wY lo (.slice A m c) ls) (k : Nat) (hk : k < ls.length) :
  ∃ ad A' c', A = some ad ∧ W.cell? (ad.add k) = some (.slice A' ls[k].length c') ∧ IntsIn W lo ls[k] [.slice A' ls[k].length c'] := by
 refine atLoad (W := W) (base := lo) (m := m) (c := c) ?_ k hk
 obtain ⟨inner, ho, hr⟩ := h
 refine ⟨inner, own_move ho (fun k hk => ?_), hr.imp_ (fun _ _ hk => hP.int_ hk)⟩
 exact hP.block k (own_lt ho k hk) (by have h1 := own_base ho k hk; have h2 := hP.glo; omega)
theorem modStop_C {A : Option Addr} {w w' : World} {l : List TWindow} (h : (l = [] ∧ A = none) ∨ ∃ g, A = some ⟨g, 0, none⟩ ∧ w.heap.size ≤ g ∧ RowAt kWindow 40 w' (fun k => k < w.heap.size) g l) (hl : l.length ≤ 4611686018427387904) : Kd.C kWindow w' A l.length l := by
 rcases h with ⟨rfl, rfl⟩ | ⟨g, rfl, _, hr⟩
 ·exact Kd.C_nil _ _
 ·exact hr.reads hl
theorem PlanS.far {wY W : World} {g lo k t : Nat} {vehicle tm di wt se : Int} {sv : Value} {steps : List TStep} {cells : Array Value} (h : PlanS wY g lo vehicle sv tm di wt se steps W) (hb : W.heap[k]? = some (.cells cells t (0, 0))) (h1 : t ≠ 3) (h2 : 91 ≠ t) (hk : k ≠ g) (hy : wY.heap.size ≤ k) (i : Nat) (u : Value) :
  PlanS wY g lo vehicle sv tm di wt se steps (W.setCell ⟨k, i, none⟩ u) := by
 have hs : Below k W (W.setCell ⟨k, i, none⟩ u) := by exact Below.setCell (Below.refl k W) (Nat.le_refl k) u
 have hne := h.row.ne_typed hb h2
 refine ⟨h.glo, h.loy, Nat.le_trans h.size hs.size, hs.os.trans h.os, hs.tape.trans h.tape, hs.output.trans h.output, fun j hj hn => (Below.heap_setCell W ⟨k, i, none⟩ u j (fun e => by have e' : j = k := e; omega)).trans (h.block j hj hn), (Below.heap_setCell W ⟨k, i, none⟩ u g (fun e => hk (show k = g from e.symm))).trans h.out, h.row.step (fun j hj => ?_) (fun j hj => ?_)⟩
 ·refine Below.heap_setCell W ⟨k, i, none⟩ u j (fun e => ?_)
  have e' : j = k := e
  obtain ⟨_, cur, hc⟩ := hj
  rw [e', hb] at hc
  simp only [Option.some.injEq, Obj.cells.injEq] at hc
  exact h1 hc.2.1
 ·refine Below.heap_setCell W ⟨k, i, none⟩ u j (fun e => ?_)
  have e' : j = k := e
  exact hne (by rw [hj, e'])
theorem PlanS.far3 {wY W : World} {g lo k t : Nat} {vehicle tm di wt se : Int} {sv : Value} {steps : List TStep} {c0 c1 c2 : Value} (h : PlanS wY g lo vehicle sv tm di wt se steps W) (hb : W.heap[k]? = some (.cells #[c0, c1, c2] t (0, 0))) (h1 : t ≠ 3) (h2 : 91 ≠ t) (hk : k ≠ g) (hy : wY.heap.size ≤ k) (u0 u1 u2 : Value) :
  PlanS wY g lo vehicle sv tm di wt se steps (((W.setCell ⟨k, 0, none⟩ u0).setCell ⟨k, 1, none⟩ u1).setCell ⟨k, 2, none⟩ u2) := by
 have b1 := blk_set hb 0 u0
 have b2 := blk_set b1 1 u1
 exact ((h.far hb h1 h2 hk hy 0 u0).far b1 h1 h2 hk hy 1 u1).far b2 h1 h2 hk hy 2 u2
theorem mul_in13 {a b : Int} (h0 : -10000 ≤ a) (h1 : a ≤ 10000000000) (h2 : 0 ≤ b) (h3 : b ≤ 1000000) : -10000000000 ≤ a * b ∧ a * b ≤ 10000000000000000 := by
 have k1 := Int.mul_le_mul_of_nonneg_right h1 h2
 have k2 := Int.mul_le_mul_of_nonneg_right h0 h2
 omega
theorem drop_rd {L : List Int} {k : Nat} {a : Int} {r : List Int} (h : L.drop k = a :: r) : rd L (k : Int) = a ∧ k < L.length := by
 have hk : k < L.length := by
  apply Classical.byContradiction
  intro hn
  rw [List.drop_of_length_le (by omega)] at h
  cases h
 rw [List.drop_eq_getElem_cons hk] at h
 injection h with h1 h2
 exact ⟨by rw [rd_nat L k hk, h1], hk⟩
set_option maxHeartbeats 400000000 in
set_option maxRecDepth 100000 in
theorem planTimes_any (q : PV) (p : TProblem) (vehicle : Int) (l : List TVisit) (A : Option Addr) (c : Nat) (w : World) (hlp : Good p) (law : Law p) (hq : q.Ok p w) (hr : Kd.C kVisit w A l.length l) (hl : l.length ≤ 200) (hi0 : 0 ≤ vehicle) (hi1 : vehicle < (p.Vehicles.length : Int)) (hf : firstS p (rdVehicle p.Vehicles vehicle) l = 0) :
  Calls Try.prog 101 #[q.val p, .int .i64 vehicle, .slice A l.length c] w (PlanPost (runS p (rdVehicle p.Vehicles vehicle) vehicle l (goS p (rdVehicle p.Vehicles vehicle) (loadsS p l) l 0 (beginTS (rdVehicle p.Vehicles vehicle) (loadsS p l)))) w) := by
 have hnv := law.nv
 have HR := Aside0.mk hr
 have VOK := Aside0.mk (law.veh _ (rdVeh_mem p.Vehicles vehicle hi0 hi1))
 have FOK := Aside0.mk (firstOk_of hf)
 have hLP := loadsP_same law.amts.toAmtLens l
 obtain ⟨av, AC, cC, AB, cB, eav, v0, v1, v2, v3, v4, v5, v6, v7, v8, v9, v10, lC, gC, lB, gB⟩ := atVehicle hq.h3 vehicle hi0 hi1
 generalize rdVehicle p.Vehicles vehicle = v at *
 have HVB := Aside0.mk (show _ ∧ _ ∧ _ ∧ _ from ⟨lC, gC, lB, gB⟩)
 have HPL := Aside0.mk (fun W (hb : Below w.heap.size w W) => planPlaces_any q p v AC AB cC cB l A c W hlp law (hq.below hb) (Kd.C_below hr hb) hl)
 have HLO := Aside0.mk (fun W (hb : Below w.heap.size w W) => planLoads_any q p l A c W hlp law (hq.below hb) (Kd.C_below hr hb) hl)
 rw [hLP] at HLO
 obtain ⟨PL, hPL⟩ : ∃ PL, v.Start :: (placesS p v.Start l ++ [v.End]) = PL := ⟨_, rfl⟩
 rw [hPL] at HPL
 have HPT := Aside0.mk hPL
 have HMS := Aside0.mk (fun (x : TVisit) W (hb : Below w.heap.size w W) => modStop_any q p x W hlp.toLens (hq.below hb) (fun _ => ⟨by have := law.stopLen' x; omega, by have := law.stopLen' x; unfold maxLen; omega⟩))
 have HDR := Aside0.mk (fun (g : Nat) (a b tm di : Int) (d0 d1 d4 d5 d6 : Value) W (hb : Below w.heap.size w W) => planDrive_any q p g a b tm di d0 d1 d4 d5 d6 W law (hq.below hb))
 have LAW := Aside0.mk law
 obtain ⟨R, hR⟩ : ∃ R, R = runS p v vehicle l (goS p v (loadsS p l) l 0 (beginTS v (loadsS p l))) := ⟨_, rfl⟩
 rw [← hR]
 have HR0 := Aside0.mk hR
 obtain ⟨a1, c1, a2, c2, a3, c3, a4, c4, a5, c5⟩ := q
 have eav' : a3 = some av := eav
 subst eav'
 have al := fun (a : Addr) (u : Value) (h : w.cell? a = some u) => alloc_cell (alloc_cell h (.cells #[.int .i64 p.Dims, .int .i64 p.Time.N, .slice a1 p.Time.Cells.length c1, .int .i64 p.Dist.N, .slice a2 p.Dist.Cells.length c2, .slice (some av) p.Vehicles.length c3, .slice a4 p.Jobs.length c4, .slice a5 p.Shipments.length c5] 29 (0, 0))) (.cells #[.int .i64 0, .slice none 0 0, .int .i64 0, .int .i64 0, .int .i64 0, .int .i64 0, .int .i64 0] 74 (0, 0))
 have v0' := al _ _ v0
 have v1' := al _ _ v1
 have v2' := al _ _ v2
 have v3' := al _ _ v3
 have v4' := al _ _ v4
 have v5' := al _ _ v5
 have v6' := al _ _ v6
 have v7' := al _ _ v7
 have v8' := al _ _ v8
 have v9' := al _ _ v9
 have v10' := al _ _ v10
 clear al
 clear hr hq hlp law eav lC gC lB gB v0 v1 v2 v3 v4 v5 v6 v7 v8 v9 v10 hLP hf hR hPL
 unfold PV.val at HPL HLO HMS HDR ⊢
 unfold vehVal at HPL
 go_enter Try.func101, Try.ntmps101
 go_upto_region 3 with fail
 clear v0' v1' v2' v3' v4' v5' v6' v7' v8' v9' v10'
 refine gen_wp (fun W => Below w.heap.size w W ∧ W.heap[w.heap.size]? = some (.cells #[.int .i64 p.Dims, .int .i64 p.Time.N, .slice a1 p.Time.Cells.length c1, .int .i64 p.Dist.N, .slice a2 p.Dist.Cells.length c2, .slice (some av) p.Vehicles.length c3, .slice a4 p.Jobs.length c4, .slice a5 p.Shipments.length c5] 29 (0, 0)) ∧ W.heap[w.heap.size + 1]? = some (.cells #[.int .i64 0, .slice none 0 0, .int .i64 0, .int .i64 0, .int .i64 0, .int .i64 0, .int .i64 0] 74 (0, 0)) ∧ W.heap[w.heap.size + 1 + 1]? = some (.cells #[.int .i64 v.Start, .int .i64 v.End, .slice AC v.Cap.length cC, .int .u64 v.Skills, .int .i64 v.Shift.From, .int .i64 v.Shift.To, .int .i64 v.Fixed, .int .i64 v.PerTime, .int .i64 v.PerDist, .int .i64 v.MaxTasks, .slice AB v.Breaks.length cB] 89 (0, 0)) ∧ W.heap[w.heap.size + 1 + 1 + 1]? = some (.cells #[.int .i64 vehicle, .slice none 0 0, .int .i64 0, .int .i64 0, .int .i64 0, .int .i64 0, .int .i64 0] 74 (0, 0)))
  ⟨chn, blk_alloc (blk_alloc (blk_alloc (blk_new _ _) _) _) _, blk_alloc (blk_alloc (blk_is (by simp)) _) _, blk_alloc (blk_is (by simp)) _, blk_is (by simp)⟩ (fun w3 H3 => ?_)
 obtain ⟨HB3, HPB3, HZB3, HVB3, HOB3⟩ : Aside0 _ ∧ Aside0 _ ∧ Aside0 _ ∧ Aside0 _ ∧ Aside0 _ := ⟨⟨H3.out.1⟩, ⟨H3.out.2.1⟩, ⟨H3.out.2.2.1⟩, ⟨H3.out.2.2.2.1⟩, ⟨H3.out.2.2.2.2⟩⟩
 clear H3
 have hg3 := blk_lt HOB3.out
 go_cut [10, 11] (fun s10 s11 wx => ∃ A10 c10 A11 c11, s10 = .slice A10 PL.length c10 ∧ s11 = .slice A11 (loadsS p l).length c11 ∧
  Aside0 (Kd.F (Kd.int .i64) wx (fun k => w3.heap.size ≤ k) A10 PL.length PL) ∧ Aside0 (∀ ad, A10 = some ad → w3.heap.size ≤ ad.block) ∧ Aside0 (LoadRow wx w3.heap.size (.slice A11 (loadsS p l).length c11) (loadsS p l)) ∧ Aside0 (Below w3.heap.size w3 wx))
 case first =>
  as_aux_lemma =>
  have hpb := HPB3.out
  have hvb := HVB3.out
  obtain ⟨p0, p1, p2, p3, p4, p5, p6, p7⟩ := cells8 hpb; have hpw := blk_lt hpb
  obtain ⟨v0, v1, v2, v3, v4, v5, v6, v7, v8, v9, v10⟩ := cells11 hvb; have hvw := blk_lt hvb
  clear hpb hvb
  go_region_held3 (fun W' => Below w3.heap.size w3 W' ∧ ∀ a : Addr, a.block < w3.heap.size → W'.cell? a = w3.cell? a) (first | exact hl_start _ | exact hl_of chn)
    (first
     | (go_at_call 121; refine (HPL.out _ (below_to HB3.out (And.left (show Below w3.heap.size w3 _ ∧ _ from by assumption)))).mono ?_; rintro e w4 ⟨A10, c10, rfl, hle10, hF10, hd10, hb⟩; obtain ⟨qcs, qfs⟩ := bcell hb; have HF10 := Aside0.mk hF10; have HD10 := Aside0.mk hd10; clear hd10; have HS4 := Aside0.mk (show w3.heap.size ≤ _ from ((And.left (show Below w3.heap.size w3 _ ∧ _ from by assumption))).size); clear hF10 hle10) | (go_at_call 55; refine (HLO.out _ (below_to HB3.out (And.left (show Below w3.heap.size w3 _ ∧ _ from by assumption)))).mono ?_; rintro e w5 ⟨A11, c11, rfl, hL11, hb⟩; obtain ⟨qct, qft⟩ := bcell hb; have HL11 := Aside0.mk hL11; have HS5 := Aside0.mk (show w3.heap.size ≤ _ from ((And.left (show Below w3.heap.size w3 _ ∧ _ from by assumption))).size); clear hL11))
  all_goals
   go_wp2_with fail
   go_meet
   exact ⟨A10, c10, A11, c11, rfl, rfl, ⟨Kd.F_mono (Kd.F_below HF10.out chn) (fun k hk => Nat.le_trans HS4.out hk)⟩, ⟨fun ad h => Nat.le_trans HS4.out (HD10.out ad h)⟩, ⟨LoadRow.below (LoadRow.lower HL11.out HS5.out) chn⟩, ⟨(And.left (show Below w3.heap.size w3 _ ∧ _ from by assumption))⟩⟩
 case rest =>
  as_aux_lemma =>
  obtain ⟨wy, rfl⟩ : ∃ wy : World, wy = wc := ⟨_, rfl⟩
  obtain ⟨A10, c10, A11, c11, rfl, rfl, HWH, HWD, HLD, HBc⟩ := hcut
  have HBw : Aside0 (Below w.heap.size w wy) := ⟨below_to HB3.out HBc.out⟩
  have HPB : Aside0 (wy.heap[w.heap.size]? = some (.cells #[.int .i64 p.Dims, .int .i64 p.Time.N, .slice a1 p.Time.Cells.length c1, .int .i64 p.Dist.N, .slice a2 p.Dist.Cells.length c2, .slice (some av) p.Vehicles.length c3, .slice a4 p.Jobs.length c4, .slice a5 p.Shipments.length c5] 29 (0, 0))) := ⟨blk_below HPB3.out HBc.out⟩
  have HZB : Aside0 (wy.heap[w.heap.size + 1]? = some (.cells #[.int .i64 0, .slice none 0 0, .int .i64 0, .int .i64 0, .int .i64 0, .int .i64 0, .int .i64 0] 74 (0, 0))) := ⟨blk_below HZB3.out HBc.out⟩
  have HVB2 : Aside0 (wy.heap[w.heap.size + 1 + 1]? = some (.cells #[.int .i64 v.Start, .int .i64 v.End, .slice AC v.Cap.length cC, .int .u64 v.Skills, .int .i64 v.Shift.From, .int .i64 v.Shift.To, .int .i64 v.Fixed, .int .i64 v.PerTime, .int .i64 v.PerDist, .int .i64 v.MaxTasks, .slice AB v.Breaks.length cB] 89 (0, 0))) := ⟨blk_below HVB3.out HBc.out⟩
  have HP0 : Aside0 (PlanS wy (w.heap.size + 1 + 1 + 1) w3.heap.size vehicle (.slice none 0 0) 0 0 0 0 [] wy) := ⟨PlanS.start hg3 HBc.out.size (blk_below HOB3.out HBc.out)⟩
  have hnp : w.heap.size ≠ w.heap.size + 1 + 1 + 1 := by omega
  have hnz : w.heap.size + 1 ≠ w.heap.size + 1 + 1 + 1 := by omega
  have hnv2 : w.heap.size + 1 + 1 ≠ w.heap.size + 1 + 1 + 1 := by omega
  have hwg : w.heap.size ≤ w.heap.size + 1 + 1 + 1 := by omega
  have hwc : w.heap.size ≤ wy.heap.size := HBw.out.size
  clear HB3 HPB3 HZB3 HVB3 HOB3 HPL HLO HBc
  generalize w.heap.size + 1 + 1 + 1 = g at *
  have hvb := HVB2.out
  have hob := HP0.out.out
  obtain ⟨v0, v1, v2, v3, v4, v5, v6, v7, v8, v9, v10⟩ := cells11 hvb; have hvw := blk_lt hvb
  go_upto_region 5 with fail
  obtain ⟨o0, o1, o2, o3, o4, o5, o6⟩ := cells7 hob; have oz := fun i => blk_frozen hob i; have how := blk_lt hob
  have hl0 : 0 < (loadsS p l).length := by simp [loadsS]
  obtain ⟨aab, A6, c6, ea6, y6, hI6⟩ := atLoad HLD.out 0 hl0
  subst ea6
  have hyw : aab.block < wy.heap.size := World.block_lt_of_cell? wy (aab.add 0) y6
  obtain ⟨ld0, hld0⟩ : ∃ x, x = (loadsS p l)[0] := ⟨_, rfl⟩
  rw [← hld0] at y6 hI6
  have y6 : wy.cell? aab = some (.slice A6 ld0.length c6) := y6
  have HI6 := Aside0.mk hI6
  have HLD0 := Aside0.mk hld0
  clear hvb hob hI6 hld0
  have hgw := how
  have hbs : Below wy.heap.size wy wy.drew := below_drew (Below.refl _ _)
  have HPd := Aside0.mk (HP0.out.mono hbs)
  have HId := Aside0.mk (HI6.out.below hbs)
  clear hbs
  refine wp_region_tailH (S := fun W' => Below wy.heap.size wy W' ∧ ∀ a : Addr, a.block < wy.heap.size → W'.cell? a = wy.cell? a) 11 (by kernel_rfl) (by kernel_rfl) (by kernel_rfl) (hl_start _) (fun hHeld => ?_)
  simp only [List.take_succ_cons, List.take_zero, List.drop_succ_cons, List.drop_zero]
  refine tk 0 (h := ?_)
  refine tk 1 (h := ?_)
  refine tk 2 (h := ?_)
  refine tk 3 (h := ?_)
  refine tk 4 (h := ?_)
  refine tk 5 (h := ?_)
  refine tk 6 (h := ?_)
  refine tk 7 (h := ?_)
  refine tk 8 (h := ?_)
  refine wpAnyH_take (i := 9) (oi := _) (v := ?_) (by simp only [List.getElem?_toArray, List.getElem?_cons_succ, List.getElem?_cons_zero]; rfl) (by kernel_rfl) (by kernel_rfl) (by kernel_rfl) (tail_hQ (by exact fun _ _ _ h => h)) (Or.inl ⟨by rfl, ?_⟩) (by assumption) ?_
  rotate_left
  focus (intro w hSw; refine sbuild_4 (t0 := 39) (t1 := 41) (t2 := 42) (t5 := 45) (k := 5) (i := 0) (pl := v.Start) (ar := v.Shift.From) (A := A6) (n := ld0.length) (c := c6) ?_ ?_ ?_ ?_ ?_ <;> kernel_rfl)
  (try simp only [Act.put, List.setIfInBounds_toArray, List.set_cons_zero, List.set_cons_succ])
  refine wpAnyH_ready (rs := [10]) (by kernel_rfl) (by simp) ?_
  refine rcn (fun K hK => ?_) AllReadyH.nil
  refine wp_sliceStepP rfl rfl ?_
  clear hHeld
  refine hko hK _ _ _ (hl_of chn) (fun hHeld => ?_)
  clear hK K
  refine wpAnyH_tail (by kernel_rfl) ?_ _
  refine OwnRow.append (R := StepIn wy.drew w3.heap.size) (w0 := wy.drew) (W := wy.drew) wy.heap.size rfl (.tmp 38) (.tmp 47) 72 91 (.agg #[.int .i64 0, .int .i64 0, .int .i64 0, .int .i64 0, .int .i64 0, .int .i64 0, .slice none 0 0, .int .i64 0, .int .i64 0]) 9 88 rfl Try.underlying72 infoStep rfl (by decide) (by decide) (.slice none 0 0) [] (⟨⟨5, 0⟩, v.Start, v.Shift.From, 0, 0, ld0, 0, 0⟩ : TStep) _ rfl rfl (StepIn.of (⟨⟨5, 0⟩, v.Start, v.Shift.From, 0, 0, ld0, 0, 0⟩ : TStep) HId.out) rfl (StepIn.one (StepIn.of (⟨⟨5, 0⟩, v.Start, v.Shift.From, 0, 0, ld0, 0, 0⟩ : TStep) HId.out)) HPd.out.row (Below.refl _ _) (Nat.le_refl _) (by simp) ?_
  intro v1' w4 ho hb hg hat
  obtain ⟨A4, k4, rfl, _, _⟩ := OwnRow.reads ho
  have hP4 := Aside0.mk (HPd.out.appended ho hb hg)
  have hout1 : w4.heap[g]? = _ := (hb.block g hgw).trans HPd.out.out
  have st1 := blk_cell hout1 1
  have fz1 := fun i => blk_frozen hout1 i
  simp only [List.getElem?_toArray, List.getElem?_cons_succ, List.getElem?_cons_zero] at st1
  clear ho hb hg hat hout1 HPd HId HP0 y6 hyw HI6
  clear o0 o1 o2 o3 o4 o5 o6 oz how
  clear v0 v1 v2 v3 v4 v5 v6 v7 v8 v9 v10 hvw
  have hbt : (beginTS v (loadsS p l)).steps = [] ++ [⟨⟨5, 0⟩, v.Start, v.Shift.From, 0, 0, ld0, 0, 0⟩] := by rw [HLD0.out]; simp [beginTS, List.getElem?_eq_getElem hl0]
  have HP1 : Aside0 (PlanS wy g w3.heap.size vehicle (.slice A4 ([] ++ [(⟨⟨5, 0⟩, v.Start, v.Shift.From, 0, 0, ld0, 0, 0⟩ : TStep)]).length k4) 0 0 0 0 (beginTS v (loadsS p l)).steps (w4.setCell ⟨g, 1, none⟩ (.slice A4 ([] ++ [(⟨⟨5, 0⟩, v.Start, v.Shift.From, 0, 0, ld0, 0, 0⟩ : TStep)]).length k4))) := ⟨by rw [hbt]; exact hP4.out⟩
  have HG0 : Aside0 (runS p v vehicle l (goS p v (loadsS p l) (l.drop 0) 0 (beginTS v (loadsS p l))) = R) := ⟨HR0.out.symm⟩
  have HT0 : Aside0 (TSOk 0 (beginTS v (loadsS p l))) := ⟨beginTS_ok VOK.out _⟩
  have HA0 : Aside0 (PL.drop 0 = v.Start :: (placesS p v.Start (l.drop 0) ++ [v.End])) := ⟨by rw [← HPT.out]; rfl⟩
  clear hP4 HLD0 hbt HR0
  go_wp2
  go_loopw [12, 52] (fun vn vi wr => ∃ (k : Nat) (s : TS) (sv : Value), k ≤ l.length ∧ vi = .int .i64 k ∧ vn = .int .i64 s.leave ∧ Aside0 (TSOk k s) ∧ Aside0 (runS p v vehicle l (goS p v (loadsS p l) (l.drop k) k s) = R) ∧ Aside0 (PL.drop k = s.at_ :: (placesS p s.at_ (l.drop k) ++ [v.End])) ∧ Aside0 (PlanS wy g w3.heap.size vehicle sv s.tm s.di s.wt s.se s.steps wr)) (fun _ vi _ => l.length - (intOf vi).toNat)
  case atStart => exact ⟨0, beginTS v (loadsS p l), _, Nat.zero_le _, rfl, rfl, HT0, HG0, HA0, HP1⟩
  case round =>
   clear HG0 HT0 HA0 HP1 st1 fz1
   obtain ⟨k, s, sv, hk, rfl, rfl, HT, HG, HA, HP⟩ := hrel
   have HB0 : Aside0 (Below w.heap.size w wr) := ⟨HP.out.below HBw.out hwg hwc⟩
   have HPLN : Aside0 (PL.length = l.length + 2) := ⟨by rw [← HPT.out]; simp [placesS_length]⟩
   obtain ⟨ah0, ah1⟩ := drop_rd HA.out
   by_cases hlt : k < l.length
   ·
    as_aux_lemma =>
    obtain ⟨ad, ea, x0, x1⟩ := atNVisit (Kd.C_below HR.out HB0.out) k hlt
    subst ea
    have r0 : (0 : Int) ≤ (k : Int) := by omega
    have r1 : (k : Int) < (l.length : Int) := by omega
    have HXM := Aside0.mk (List.getElem_mem hlt)
    have hg := HG.out
    rw [goS_at p v _ l k hlt] at hg
    have hA1 : PL.drop (k + 1) = toS p s.at_ l[k] :: (placesS p (toS p s.at_ l[k]) (l.drop (k + 1)) ++ [v.End]) := by
     have h := HA.out
     rw [List.drop_eq_getElem_cons hlt, placesS] at h
     rw [← List.drop_drop, h]
     rfl
    generalize hx : l[k] = x at *
    have HG1 := Aside0.mk hg
    obtain ⟨ah2, ah3⟩ := drop_rd hA1
    have HA1 := Aside0.mk hA1
    clear HG hg hA1 HA
    go_upto_region 9 with fail
    refine gen_wp (fun W => PlanS wy g w3.heap.size vehicle sv s.tm s.di s.wt s.se s.steps W ∧ W.heap[wr.heap.size]? = some (.cells #[.int .i64 x.Kind, .int .i64 x.Item] 57 (0, 0)) ∧ g < wr.heap.size) ⟨HP.out.mono (below_alloc (Below.refl _ _) _), blk_new _ _, blk_lt HP.out.out⟩ (fun wS HS => ?_)
    have hbg : wr.heap.size ≠ g := by have := HS.out.2.2; omega
    obtain ⟨HPS, HXS⟩ : Aside0 _ ∧ Aside0 _ := ⟨⟨HS.out.1⟩, ⟨HS.out.2.1⟩⟩
    clear x0 x1 HP HB0 HS
    generalize wr.heap.size = b at *
    have hpb := HPS.out.blk HPB.out hnp
    obtain ⟨p0, p1, p2, p3, p4, p5, p6, p7⟩ := cells8 hpb; have hpw := blk_lt hpb
    have hwr := HPS.out.reads HWH.out
    have k0 : (0 : Int) ≤ (k : Int) := by omega
    obtain ⟨aw, eaw, z0⟩ := Kd.at_int hwr (k : Int) k0 (by have := HPLN.out; omega)
    obtain ⟨aw', eaw', z1⟩ := Kd.at_int hwr ((k + 1 : Nat) : Int) (by omega) (by have := HPLN.out; omega)
    subst eaw
    obtain rfl := Option.some.inj eaw'
    rw [ah0] at z0
    rw [ah2] at z1
    simp only [Int.toNat_natCast] at z0 z1
    rw [Addr.add, if_neg (by omega)] at z1
    have ez1 : aw.off + (k + 1) = aw.off + (k + 1) := rfl
    have e1 : IntKind.i64.wrap ((k : Int) + 1) = (k : Int) + 1 := IntWalk.i64_in _ (by omega)
    have q0 : (0 : Int) ≤ (k : Int) + 1 := by omega
    have q1 : (k : Int) + 1 < (PL.length : Int) := by have := HPLN.out; omega
    have q2 : (k : Int) < (PL.length : Int) := by have := HPLN.out; omega
    have hle := HT.out.le
    have htm := HT.out.tm
    have hdi := HT.out.di
    have ht := LAW.out.time s.at_ (toS p s.at_ x)
    have hd := LAW.out.dist s.at_ (toS p s.at_ x)
    have e17 : IntKind.i64.wrap (s.leave + cellS p.Time s.at_ (toS p s.at_ x)) = s.leave + cellS p.Time s.at_ (toS p s.at_ x) := IntWalk.i64_in _ (by omega)
    have HTM := Aside0.mk (show -1000000000000 ≤ s.tm ∧ s.tm ≤ 1000000000000 by omega)
    have HDI := Aside0.mk (show -1000000000000 ≤ s.di ∧ s.di ≤ 1000000000000 by omega)
    have hzb := HPS.out.out
    clear hpb hwr eaw' ez1 hle htm hdi ht hd
    have hzw := World.block_lt_of_cell? _ _ z0
    have hzw1 : (⟨aw.block, aw.off + (k + 1), none⟩ : Addr).block < wS.heap.size := World.block_lt_of_cell? wS ⟨aw.block, aw.off + (k + 1), none⟩ z1
    have HBS : Aside0 (Below w.heap.size w wS) := ⟨HPS.out.below HBw.out hwg hwc⟩
    have HZB1 := Aside0.mk hzb
    clear hzb
    have hzg0 : aw.block ≠ g := by have h := HWD.out aw rfl; have h2 := HPS.out.glo; omega
    have hzg : (aw.add k).block ≠ g := by unfold Addr.add; split <;> exact hzg0
    refine wp_region_held_drew (S := fun W' => wS.heap.size ≤ W'.heap.size ∧ ∀ a : Addr, a.block < wS.heap.size → a.block ≠ g → W'.cell? a = wS.cell? a) (by kernel_rfl) ⟨Nat.le_refl _, fun _ _ _ => rfl⟩ (fun hHeld => ?_)
    refine (show wpAnyH _ _ _ _ _ 14 (Array.replicate 14 false) _ _ from ?_)
    refine tk 0 (h := ?_)
    refine tk 1 (h := ?_)
    refine tk 2 (h := ?_)
    refine tk 3 (h := ?_)
    refine tk 4 (h := ?_)
    refine tk 5 (h := ?_)
    refine tk 6 (h := ?_)
    refine tk 7 (h := ?_)
    refine tk 8 (h := ?_)
    refine tk 9 (h := ?_)
    refine tk 10 (h := ?_)
    refine wpAnyH_ready (rs := [11]) (by kernel_rfl) (by simp) ?_
    refine rcn (fun K hK => ?_) AllReadyH.nil
    go_simp
    with_reducible refine (HDR.out g s.at_ (toS p s.at_ x) s.tm s.di (.int .i64 vehicle) sv (.int .i64 s.wt) (.int .i64 s.se) (.int .i64 0) _ (below_to HBS.out chn) (blk_below HZB1.out chn) HTM.out HDI.out).mono ?_; rintro e w4 ⟨rfl, wa, hb, rfl⟩; have HBa := Aside0.mk (show Below wS.heap.size wS wa from below_to chn hb)
    refine hko hK _ _ _ (sx_set (sx_set (sx_below hHeld hb) _ _) _ _) (fun hHeld => ?_)
    clear hK K
    clear hb
    refine tk 12 (h := ?_)
    refine tk 13 (h := ?_)
    refine wpAnyH_done (by kernel_rfl) ?_ _
    go_upto_region 10 with fail
    refine gen_wp (fun W => PlanS wy g w3.heap.size vehicle sv (s.tm + cellS p.Time s.at_ (toS p s.at_ x)) (s.di + cellS p.Dist s.at_ (toS p s.at_ x)) s.wt s.se s.steps W ∧ W.heap[b]? = some (.cells #[.int .i64 x.Kind, .int .i64 x.Item] 57 (0, 0))) ⟨(HPS.out.mono HBa.out).set_td _ _, (Below.heap_setCell _ _ _ _ hbg).trans ((Below.heap_setCell _ _ _ _ hbg).trans (blk_below HXS.out HBa.out))⟩ (fun w5 H5 => ?_)
    clear p0 p1 p2 p3 p4 p5 p6 p7 hpw
    obtain ⟨HP5, HX5⟩ : Aside0 _ ∧ Aside0 _ := ⟨⟨H5.out.1⟩, ⟨H5.out.2⟩⟩
    clear HPS HXS H5 HBa HZB1 HBS HDI HTM z0 z1 hzw hzw1 q0 q1 q2 e1 e17 hHeld hzg hzg0
    as_aux_lemma =>
    have HB5 : Aside0 (Below w.heap.size w w5) := ⟨HP5.out.below HBw.out hwg hwc⟩
    have hpb := HP5.out.blk HPB.out hnp
    have hxb := HX5.out
    obtain ⟨p0, p1, p2, p3, p4, p5, p6, p7⟩ := cells8 hpb; have hpw := blk_lt hpb
    have t0 := blk_cell hxb 0
    have t1 := blk_cell hxb 1
    simp only [List.getElem?_toArray, List.getElem?_cons_succ, List.getElem?_cons_zero] at t0 t1
    have htw := blk_lt hxb
    clear hpb hxb
    go_upto_if 78 with (go_at_call 36; refine (HMS.out x _ HB5.out).mono ?_; rintro e w6 ⟨A6, k6, rfl, hle6, hb, hrow⟩; have HC6 := Aside0.mk (modStop_C hrow (by have := LAW.out.stopLen' x; omega)); have HB6 := Aside0.mk hb; have hx6 := blk_below HX5.out hb; have u0 := blk_cell hx6 0; have u1 := blk_cell hx6 1; simp only [List.getElem?_toArray, List.getElem?_cons_succ, List.getElem?_cons_zero] at u0 u1; have huw := blk_lt hx6; clear hrow hle6 hb hx6)
    have HP6 := Aside0.mk (HP5.out.mono HB6.out)
    refine gen_wp (fun W => PlanS wy g w3.heap.size vehicle sv (s.tm + cellS p.Time s.at_ (toS p s.at_ x)) (s.di + cellS p.Dist s.at_ (toS p s.at_ x)) s.wt s.se s.steps W ∧ W.heap[b]? = some (.cells #[.int .i64 x.Kind, .int .i64 x.Item] 57 (0, 0)) ∧ W.heap[w6.heap.size]? = some (.cells #[.int .i64 (stopS p x).1.Place, .int .i64 (stopS p x).1.Service, .slice A6 (stopS p x).1.Windows.length k6] 43 (0, 0)) ∧ Kd.C kWindow W A6 (stopS p x).1.Windows.length (stopS p x).1.Windows ∧ g < w6.heap.size ∧ b < w6.heap.size ∧ wy.heap.size ≤ w6.heap.size)
     ⟨HP6.out.mono (below_alloc (Below.refl _ _) _), blk_alloc (blk_below HX5.out HB6.out) _, blk_new _ _, Kd.C_below HC6.out (below_alloc (Below.refl _ _) _), blk_lt HP6.out.out, by omega, HP6.out.size⟩ (fun w7 H7 => ?_)
    obtain ⟨HP7, HX7, HS7, HC7, HG7⟩ : Aside0 _ ∧ Aside0 _ ∧ Aside0 _ ∧ Aside0 _ ∧ Aside0 _ := ⟨⟨H7.out.1⟩, ⟨H7.out.2.1⟩, ⟨H7.out.2.2.1⟩, ⟨H7.out.2.2.2.1⟩, ⟨H7.out.2.2.2.2⟩⟩
    have hsbg : w6.heap.size ≠ g := by have := H7.out.2.2.2.2.1; omega
    have hsbb : w6.heap.size ≠ b := by have := H7.out.2.2.2.2.2.1; omega
    have hsbw : wy.heap.size ≤ w6.heap.size := H7.out.2.2.2.2.2.2
    clear p0 p1 p2 p3 p4 p5 p6 p7 hpw
    clear t0 t1 htw H7 u0 u1 huw HC6 HB6 HP6 HP5 HX5 HG7
    generalize w6.heap.size = sb at *
    go_cut [16] (fun s16 wx => ∃ pl AX cX, Aside0 (wx.heap[sb]? = some (.cells #[.int .i64 pl, .int .i64 (stopAt p v s.at_ x).Service, .slice AX (stopAt p v s.at_ x).Windows.length cX] 43 (0, 0))) ∧ Aside0 (Kd.C kWindow wx AX (stopAt p v s.at_ x).Windows.length (stopAt p v s.at_ x).Windows) ∧ Aside0 (PlanS wy g w3.heap.size vehicle sv (s.tm + cellS p.Time s.at_ (toS p s.at_ x)) (s.di + cellS p.Dist s.at_ (toS p s.at_ x)) s.wt s.se s.steps wx) ∧ Aside0 (wx.heap[b]? = some (.cells #[.int .i64 x.Kind, .int .i64 x.Item] 57 (0, 0))))
    case first =>
     as_aux_lemma =>
     have HB7 : Aside0 (Below w.heap.size w w7) := ⟨HP7.out.below HBw.out hwg hwc⟩
     by_cases k4 : x.Kind = 4
     ·have d4 : (x.Kind == 4) = true := by simp [k4]
      have hs2 : (stopS p x).2 = false := by
       unfold stopS
       rw [taskOf_none (by omega) (by omega) (by omega)]
       rfl
      obtain ⟨_, i0, i1⟩ := FOK.out.brk x (hx ▸ HXM.out) hs2
      have es : stopAt p v s.at_ x = ⟨s.at_, (rdBreak v.Breaks x.Item).Service, (rdBreak v.Breaks x.Item).Windows⟩ := by simp [stopAt, hs2]
      obtain ⟨ab, A0, c0, eab, b0, b1, lb, gb⟩ := atBreak HVB.out.2.2.2 x.Item i0 i1
      subst eab
      have HEB := Aside0.mk gb
      have b0' := pw_cell_below HB7.out b0
      have b1' := pw_cell_below HB7.out b1
      have hvb := HP7.out.blk HVB2.out hnv2
      have hxb := HX7.out
      have hsb := HS7.out
      obtain ⟨v0, v1, v2, v3, v4, v5, v6, v7, v8, v9, v10⟩ := cells11 hvb; have hvw := blk_lt hvb
      have t0 := blk_cell hxb 0
      have t1 := blk_cell hxb 1
      have e0 := blk_cell hsb 0
      have e1 := blk_cell hsb 1
      have e2 := blk_cell hsb 2
      simp only [List.getElem?_toArray, List.getElem?_cons_succ, List.getElem?_cons_zero] at t0 t1 e0 e1 e2
      have ez := fun i => blk_frozen hsb i
      have htw := blk_lt hxb
      have hsw := blk_lt hsb
      have hbc := World.block_lt_of_cell? _ _ b0'
      have hbd : (⟨(ab.add (x.Item.toNat * 2)).block, (ab.add (x.Item.toNat * 2)).off + 1, none⟩ : Addr).block < w7.heap.size := hbc
      have r2 : (x.Item) < (v.Breaks.length : Int) := i1
      clear b0 b1 hvb hxb hsb lb gb k4
      go_wp2_with fail
      refine wp_region_tailH (S := fun W' => Below w7.heap.size w7 W' ∧ ∀ a : Addr, a.block < w7.heap.size → W'.cell? a = w7.cell? a) 15 (by kernel_rfl) (by kernel_rfl) (by kernel_rfl) (hl_start _) (fun hHeld => ?_)
      simp only [List.take_succ_cons, List.take_zero, List.drop_succ_cons, List.drop_zero]
      refine tk 0 (h := ?_)
      refine tk 1 (h := ?_)
      refine tk 2 (h := ?_)
      refine tk 3 (h := ?_)
      refine tk 4 (h := ?_)
      refine tk 5 (h := ?_)
      refine tk 6 (h := ?_)
      refine tk 7 (h := ?_)
      refine tk 8 (h := ?_)
      refine tk 9 (h := ?_)
      refine tk 10 (h := ?_)
      refine tk 11 (h := ?_)
      refine tk 12 (h := ?_)
      refine tk 13 (h := ?_)
      refine tk 14 (h := ?_)
      refine wpAnyH_tail (by kernel_rfl) ?_ _
      go_wp2_with fail
      go_meet
      exact ⟨_, A0, c0, ⟨by rw [es]; exact blk_set3 HS7.out _ _ _⟩, ⟨by rw [es]; exact Kd.C_below HEB.out (below_drew (Below.setCell (Below.setCell (Below.setCell HB7.out (Nat.le_trans hwc hsbw) _) (Nat.le_trans hwc hsbw) _) (Nat.le_trans hwc hsbw) _))⟩, ⟨(HP7.out.far3 HS7.out (by decide) (by decide) hsbg hsbw _ _ _).mono (below_drew (Below.refl _ _))⟩, ⟨(Below.heap_setCell _ _ _ _ (Ne.symm hsbb)).trans ((Below.heap_setCell _ _ _ _ (Ne.symm hsbb)).trans ((Below.heap_setCell _ _ _ _ (Ne.symm hsbb)).trans HX7.out))⟩⟩
     ·have d4 : (x.Kind == 4) = false := by simp [k4]
      have hs2 : (stopS p x).2 = true := by
       cases hs2 : (stopS p x).2 with
       | true => rfl
       | false => exact absurd (FOK.out.brk x (hx ▸ HXM.out) hs2).1 k4
      have es : stopAt p v s.at_ x = (stopS p x).1 := by simp [stopAt, hs2]
      clear k4
      go_wp2_with fail
      go_meet
      exact ⟨_, A6, k6, by rw [es]; exact HS7, by rw [es]; exact HC7, HP7, HX7⟩
    case rest =>
     as_aux_lemma =>
     obtain ⟨pl, AX, cX, HS8, HC8, HP8, HX8⟩ := hcut
     clear HP7 HX7 HS7 HC7
     have hstop := stopAt_ok LAW.out VOK.out FOK.out s.at_ x (hx ▸ HXM.out)
     have hN := fun h => nextS_ok LAW.out VOK.out FOK.out (loadsS p l) HT.out x (hx ▸ HXM.out) h
     have hle := HT.out.le
     have htm := HT.out.tm
     have hdi := HT.out.di
     have hwt := HT.out.wt
     have hse := HT.out.se
     have ht := LAW.out.time s.at_ (toS p s.at_ x)
     have hd := LAW.out.dist s.at_ (toS p s.at_ x)
     have hW := winOk_of hstop.1
     have HWI := Aside0.mk hW
     have hsv := hstop.2
     have epl : (stopAt p v s.at_ x).Place = toS p s.at_ x := by unfold stopAt toS; split <;> rfl
     have ecome : comeS p v x s = s.leave + cellS p.Time s.at_ (toS p s.at_ x) := by unfold comeS; rw [epl]
     have enext : nextS p v (loadsS p l) k x s = ⟨(startS (s.leave + cellS p.Time s.at_ (toS p s.at_ x)) (stopAt p v s.at_ x).Windows).1 + (stopAt p v s.at_ x).Service, toS p s.at_ x, s.tm + cellS p.Time s.at_ (toS p s.at_ x), s.di + cellS p.Dist s.at_ (toS p s.at_ x), s.wt + (startS (s.leave + cellS p.Time s.at_ (toS p s.at_ x)) (stopAt p v s.at_ x).Windows).1 - (s.leave + cellS p.Time s.at_ (toS p s.at_ x)), s.se + (stopAt p v s.at_ x).Service,
       s.steps ++ [⟨x, toS p s.at_ x, s.leave + cellS p.Time s.at_ (toS p s.at_ x), (startS (s.leave + cellS p.Time s.at_ (toS p s.at_ x)) (stopAt p v s.at_ x).Windows).1 - (s.leave + cellS p.Time s.at_ (toS p s.at_ x)), (stopAt p v s.at_ x).Service, (loadsS p l).getD (k + 1) [], s.tm + cellS p.Time s.at_ (toS p s.at_ x), s.di + cellS p.Dist s.at_ (toS p s.at_ x)⟩]⟩ := by
      unfold nextS beginS
      rw [ecome, epl]
     rw [enext, ecome] at hN HG1
     have hok := @startS_ok (stopAt p v s.at_ x).Windows hW (s.leave + cellS p.Time s.at_ (toS p s.at_ x))
     have hwl : (stopAt p v s.at_ x).Windows.length ≤ 4611686018427387904 := by have := hW.len; omega
     have HN := Aside0.mk hN
     clear hstop hW epl ecome enext hN
     generalize stopAt p v s.at_ x = st at *
     generalize toS p s.at_ x = pl2 at *
     generalize cellS p.Time s.at_ pl2 = ct at *
     generalize cellS p.Dist s.at_ pl2 = cd at *
     have HB8 : Aside0 (Below w.heap.size w wc) := ⟨HP8.out.below HBw.out hwg hwc⟩
     have HSA := Aside0.mk (start_any st.Windows AX cX (s.leave + ct) wc HC8.out hwl)
     have hsb := HS8.out
     have e0 := blk_cell hsb 0
     have e1 := blk_cell hsb 1
     have e2 := blk_cell hsb 2
     simp only [List.getElem?_toArray, List.getElem?_cons_succ, List.getElem?_cons_zero] at e0 e1 e2
     have hsw := blk_lt hsb
     clear hsb
     cases hsk : (startS (s.leave + ct) st.Windows).2
     ·
      as_aux_lemma =>
      rw [hsk, if_neg (by decide)] at HG1
      have hR : (zPlan, (167 : Int)) = R := HG1.out
      subst hR
      clear hok HT HG1 hle htm hdi hwt hse ht hd HN
      have hz7 := HP8.out.blk HZB.out hnz
      go_wp2_with (first | (refine wpList_store7P rfl rfl rfl rfl hz7 ?_) | (go_at_call 109; refine HSA.out.mono ?_; rintro e w9 ⟨rfl, hb⟩; rw [hsk]; replace hz7 := blk_below hz7 hb; have HB9 := Aside0.mk hb; clear hb))
      exact ret_store (by rfl) (zPlan, 167) w _ _ (w.heap.size + 1) none 0 (ok := fun k => w.heap.size + 1 < k) hz7 rfl rfl rfl (by omega) (fun k hk => hk) (Nat.le_refl _) (Kd.F_nil _ _ _) (below_to HB8.out HB9.out)
     ·
      as_aux_lemma =>
      rw [hsk, if_pos rfl] at HG1
      have hst1 := hok hsk
      have HN1 := Aside0.mk (HN.out (by first | exact hsk | skip))
      go_upto_region 16 with (go_at_call 109; refine HSA.out.mono ?_; rintro e w9 ⟨rfl, hb⟩; rw [hsk]; have HB9 := Aside0.mk hb; clear hb)
      generalize hbeg : (startS (s.leave + ct) st.Windows).1 = bg at *
      have e23 : IntKind.i64.wrap (s.wt + bg) = s.wt + bg := IntWalk.i64_in _ (by omega)
      have e24 : IntKind.i64.wrap (s.wt + bg - (s.leave + ct)) = s.wt + bg - (s.leave + ct) := IntWalk.i64_in _ (by omega)
      have e25 : IntKind.i64.wrap (s.se + st.Service) = s.se + st.Service := IntWalk.i64_in _ (by omega)
      have e26 : IntKind.i64.wrap (bg - (s.leave + ct)) = bg - (s.leave + ct) := IntWalk.i64_in _ (by omega)
      have e27 : IntKind.i64.wrap (bg + st.Service) = bg + st.Service := IntWalk.i64_in _ (by omega)
      have HP9 := Aside0.mk (HP8.out.mono HB9.out)
      have HX9 := Aside0.mk (blk_below HX8.out HB9.out)
      have HS9 := Aside0.mk (blk_below HS8.out HB9.out)
      clear e0 e1 e2 hsw HP8 HX8 HS8 HB8 HB9 HSA hok HN
      have hsb := HS9.out
      have hob := HP9.out.out
      obtain ⟨o0, o1, o2, o3, o4, o5, o6⟩ := cells7 hob; have oz := fun i => blk_frozen hob i; have how := blk_lt hob
      have f0 := blk_cell hsb 0
      have f1 := blk_cell hsb 1
      have f2 := blk_cell hsb 2
      simp only [List.getElem?_toArray, List.getElem?_cons_succ, List.getElem?_cons_zero] at f0 f1 f2
      have hsw := blk_lt hsb
      clear hsb hob
      go_cut [] (fun wx => Aside0 (PlanS wy g w3.heap.size vehicle sv (s.tm + ct) (s.di + cd) (s.wt + bg - (s.leave + ct)) (s.se + st.Service) s.steps wx) ∧ Aside0 (wx.heap[b]? = some (.cells #[.int .i64 x.Kind, .int .i64 x.Item] 57 (0, 0))) ∧ Aside0 (wx.heap[sb]? = some (.cells #[.int .i64 pl, .int .i64 st.Service, .slice AX st.Windows.length cX] 43 (0, 0))))
      case first =>
       as_aux_lemma =>
       refine wp_region_held_drew (S := fun W' => w9.heap.size ≤ W'.heap.size ∧ ∀ a : Addr, a.block < w9.heap.size → a.block ≠ g → W'.cell? a = w9.cell? a) (by kernel_rfl) ⟨Nat.le_refl _, fun _ _ _ => rfl⟩ (fun hHeld => ?_)
       refine (show wpAnyH _ _ _ _ _ 15 (Array.replicate 15 false) _ _ from ?_)
       refine tk 0 (h := ?_)
       refine tk 2 (h := ?_)
       refine tk 4 (h := ?_)
       refine tk 6 (h := ?_)
       refine tk 8 (h := ?_)
       refine tk 9 (h := ?_)
       refine wpAnyH_ready (rs := [1, 7]) (by kernel_rfl) (by simp) ?_
       refine rcn (fun K hK => ?_) (rcn (fun K hK => ?_) AllReadyH.nil)
       ·go_simp
        skip
        refine hko hK _ _ _ hHeld (fun hHeld => ?_)
        clear hK K
        refine tk 3 (h := ?_)
        refine tk 5 (h := ?_)
        refine wpAnyH_ready (rs := [7]) (by kernel_rfl) (by simp) ?_
        refine rcn (fun K hK => ?_) AllReadyH.nil
        go_simp
        skip
        refine hko hK _ _ _ hHeld (fun hHeld => ?_)
        clear hK K
        refine tk 10 (h := ?_)
        refine tk 11 (h := ?_)
        refine wpAnyH_ready (rs := [12]) (by kernel_rfl) (by simp) ?_
        refine rcn (fun K hK => ?_) AllReadyH.nil
        go_simp
        skip
        refine hko hK _ _ _ (sx_set hHeld _ _) (fun hHeld => ?_)
        clear hK K
        refine tk 13 (h := ?_)
        refine wpAnyH_ready (rs := [14]) (by kernel_rfl) (by simp) ?_
        refine rcn (fun K hK => ?_) AllReadyH.nil
        go_simp
        skip
        refine hko hK _ _ _ (sx_set hHeld _ _) (fun hHeld => ?_)
        clear hK K
        refine wpAnyH_done (by kernel_rfl) ?_ _
        go_wp2_with fail
        go_meet
        exact ⟨⟨(HP9.out.mono (below_drew (Below.refl _ _))).set_ws _ _⟩, ⟨(Below.heap_setCell _ _ _ _ hbg).trans ((Below.heap_setCell _ _ _ _ hbg).trans HX9.out)⟩, ⟨(Below.heap_setCell _ _ _ _ hsbg).trans ((Below.heap_setCell _ _ _ _ hsbg).trans HS9.out)⟩⟩
       ·go_simp
        skip
        refine hko hK _ _ _ hHeld (fun hHeld => ?_)
        clear hK K
        refine tk 10 (h := ?_)
        refine wpAnyH_ready (rs := [1]) (by kernel_rfl) (by simp) ?_
        refine rcn (fun K hK => ?_) AllReadyH.nil
        go_simp
        skip
        refine hko hK _ _ _ hHeld (fun hHeld => ?_)
        clear hK K
        refine tk 3 (h := ?_)
        refine tk 5 (h := ?_)
        refine tk 11 (h := ?_)
        refine wpAnyH_ready (rs := [12]) (by kernel_rfl) (by simp) ?_
        refine rcn (fun K hK => ?_) AllReadyH.nil
        go_simp
        skip
        refine hko hK _ _ _ (sx_set hHeld _ _) (fun hHeld => ?_)
        clear hK K
        refine tk 13 (h := ?_)
        refine wpAnyH_ready (rs := [14]) (by kernel_rfl) (by simp) ?_
        refine rcn (fun K hK => ?_) AllReadyH.nil
        go_simp
        skip
        refine hko hK _ _ _ (sx_set hHeld _ _) (fun hHeld => ?_)
        clear hK K
        refine wpAnyH_done (by kernel_rfl) ?_ _
        go_wp2_with fail
        go_meet
        exact ⟨⟨(HP9.out.mono (below_drew (Below.refl _ _))).set_ws _ _⟩, ⟨(Below.heap_setCell _ _ _ _ hbg).trans ((Below.heap_setCell _ _ _ _ hbg).trans HX9.out)⟩, ⟨(Below.heap_setCell _ _ _ _ hsbg).trans ((Below.heap_setCell _ _ _ _ hsbg).trans HS9.out)⟩⟩
      case rest =>
      as_aux_lemma =>
      obtain ⟨HP10, HX10, HS10⟩ := hcut
      clear f0 f1 f2 hsw HP9 HX9 HS9 e23 e24 e25
      clear o0 o1 o2 o3 o4 o5 o6 oz how
      obtain ⟨w10, rfl⟩ : ∃ w10 : World, w10 = wc := ⟨_, rfl⟩
      have hx1 : k + 1 < (loadsS p l).length := by rw [show (loadsS p l).length = l.length + 1 by simp [loadsS]]; omega
      obtain ⟨aab', A7, c7, ea7, y7, hI7⟩ := atLoadS HP10.out HLD.out (k + 1) hx1
      obtain rfl := Option.some.inj ea7
      have hwr := HP10.out.reads HWH.out
      obtain ⟨aw', eaw', z1⟩ := Kd.at_int hwr ((k + 1 : Nat) : Int) (by omega) (by have := HPLN.out; omega)
      obtain rfl := Option.some.inj eaw'
      rw [ah2] at z1
      simp only [Int.toNat_natCast] at z1
      rw [Addr.add, if_neg (by omega)] at z1
      rw [Addr.add, if_neg (by omega)] at y7
      have hzw1 : (⟨aw.block, aw.off + (k + 1), none⟩ : Addr).block < w10.heap.size := World.block_lt_of_cell? w10 ⟨aw.block, aw.off + (k + 1), none⟩ z1
      have hyw1 : (⟨aab.block, aab.off + (k + 1), none⟩ : Addr).block < w10.heap.size := World.block_lt_of_cell? w10 ⟨aab.block, aab.off + (k + 1), none⟩ y7
      have eload : (loadsS p l).getD (k + 1) [] = (loadsS p l)[k + 1] := by simp [List.getElem?_eq_getElem hx1]
      rw [eload] at HG1 HN1
      generalize (loadsS p l)[k + 1] = ld at *
      have HI7 := Aside0.mk hI7
      have e1 : IntKind.i64.wrap ((k : Int) + 1) = (k : Int) + 1 := IntWalk.i64_in _ (by omega)
      have q0 : (0 : Int) ≤ (k : Int) + 1 := by omega
      have q1 : (k : Int) + 1 < (PL.length : Int) := by have := HPLN.out; omega
      have q3 : (k : Int) + 1 < ((loadsS p l).length : Int) := by omega
      have hsb := HS10.out
      have hob := HP10.out.out
      have hxb := HX10.out
      obtain ⟨o0, o1, o2, o3, o4, o5, o6⟩ := cells7 hob; have oz := fun i => blk_frozen hob i; have how := blk_lt hob
      have t0 := blk_cell hxb 0
      have t1 := blk_cell hxb 1
      have f0 := blk_cell hsb 0
      have f1 := blk_cell hsb 1
      have f2 := blk_cell hsb 2
      simp only [List.getElem?_toArray, List.getElem?_cons_succ, List.getElem?_cons_zero] at t0 t1 f0 f1 f2
      have hsw := blk_lt hsb
      have htw := blk_lt hxb
      have hbs : Below w10.heap.size w10 w10.drew := below_drew (Below.refl _ _)
      have HPd := Aside0.mk (HP10.out.mono hbs)
      have HId := Aside0.mk (HI7.out.below hbs)
      have HSd := Aside0.mk (blk_below HS10.out hbs)
      have hlen := HT.out.len
      have hsz := HP10.out.size
      clear hsb hob hxb hI7 ea7 eaw' hwr eload hbs HI7 HX10 HS10 HP10
      go_upto_region 17 with fail
      refine wp_region_tailH (S := fun W' => Below w10.heap.size w10 W' ∧ ∀ a : Addr, a.block < w10.heap.size → W'.cell? a = w10.cell? a) 25 (by kernel_rfl) (by kernel_rfl) (by kernel_rfl) (hl_start _) (fun hHeld => ?_)
      simp only [List.take_succ_cons, List.take_zero, List.drop_succ_cons, List.drop_zero]
      refine tk 0 (h := ?_)
      refine tk 1 (h := ?_)
      refine tk 2 (h := ?_)
      refine tk 3 (h := ?_)
      refine tk 4 (h := ?_)
      refine tk 5 (h := ?_)
      refine tk 6 (h := ?_)
      refine tk 7 (h := ?_)
      refine tk 8 (h := ?_)
      refine tk 9 (h := ?_)
      refine tk 10 (h := ?_)
      refine tk 11 (h := ?_)
      refine tk 12 (h := ?_)
      refine tk 13 (h := ?_)
      refine tk 14 (h := ?_)
      refine tk 15 (h := ?_)
      refine tk 16 (h := ?_)
      refine tk 17 (h := ?_)
      refine tk 18 (h := ?_)
      refine tk 19 (h := ?_)
      refine tk 20 (h := ?_)
      refine tk 21 (h := ?_)
      refine tk 22 (h := ?_)
      refine wpAnyH_take (i := 23) (oi := _) (v := ?_) (by simp only [List.getElem?_toArray, List.getElem?_cons_succ, List.getElem?_cons_zero]; rfl) (by kernel_rfl) (by kernel_rfl) (by kernel_rfl) (tail_hQ (by exact fun _ _ _ h => h)) (Or.inl ⟨by rfl, ?_⟩) (by assumption) ?_
      rotate_left
      focus (intro w hSw; refine sbuild_8 (t0 := 119) (t1 := 124) (t2 := 125) (t3 := 128) (t4 := 130) (t5 := 135) (t6 := 137) (t7 := 139) (k := x.Kind) (i := x.Item) (pl := pl2) (ar := s.leave + ct) (wt := bg - (s.leave + ct)) (se := st.Service) (A := A7) (n := ld.length) (c := c7) (ti := s.tm + ct) (di := s.di + cd) ?_ ?_ ?_ ?_ ?_ ?_ ?_ ?_ ?_ <;> kernel_rfl)
      (try simp only [Act.put, List.setIfInBounds_toArray, List.set_cons_zero, List.set_cons_succ])
      refine wpAnyH_ready (rs := [24]) (by kernel_rfl) (by simp) ?_
      refine rcn (fun K hK => ?_) AllReadyH.nil
      refine wp_sliceStepP rfl rfl ?_
      clear hHeld
      refine hko hK _ _ _ (hl_of chn) (fun hHeld => ?_)
      clear hK K
      refine wpAnyH_tail (by kernel_rfl) ?_ _
      refine OwnRow.append (R := StepIn w10.drew w3.heap.size) (w0 := w10.drew) (W := w10.drew) wy.heap.size rfl (.tmp 118) (.tmp 141) 72 91 (.agg #[.int .i64 0, .int .i64 0, .int .i64 0, .int .i64 0, .int .i64 0, .int .i64 0, .slice none 0 0, .int .i64 0, .int .i64 0]) 9 88 rfl Try.underlying72 infoStep rfl (by decide) (by decide) sv s.steps (⟨x, pl2, s.leave + ct, bg - (s.leave + ct), st.Service, ld, s.tm + ct, s.di + cd⟩ : TStep) _ rfl rfl (StepIn.of (⟨x, pl2, s.leave + ct, bg - (s.leave + ct), st.Service, ld, s.tm + ct, s.di + cd⟩ : TStep) HId.out) rfl (StepIn.one (StepIn.of (⟨x, pl2, s.leave + ct, bg - (s.leave + ct), st.Service, ld, s.tm + ct, s.di + cd⟩ : TStep) HId.out)) HPd.out.row (Below.refl _ _) hsz (by rw [hlen]; omega) ?_
      as_aux_lemma =>
      intro v1' w11 ho hb hg hat
      obtain ⟨A9, k9, rfl, _, _⟩ := OwnRow.reads ho
      have hP11a := HPd.out.appended ho hb hg
      have hSl : (s.steps ++ [(⟨x, pl2, s.leave + ct, bg - (s.leave + ct), st.Service, ld, s.tm + ct, s.di + cd⟩ : TStep)]).length = k + 1 + 1 := by rw [List.length_append, hlen]; rfl
      rw [hSl] at hP11a
      have hP11 := Aside0.mk hP11a
      have hout9 : w11.heap[g]? = _ := (hg.block g how HPd.out.ne).trans HPd.out.out
      have hbx9 : w11.heap[sb]? = _ := (hg.block sb hsw (HPd.out.row.ne_typed HSd.out (by decide))).trans HSd.out
      have st9 := blk_cell hout9 1
      have fz9 := fun i => blk_frozen hout9 i
      simp only [List.getElem?_toArray, List.getElem?_cons_succ, List.getElem?_cons_zero] at st9
      have HX9 := Aside0.mk hbx9
      clear hP11a hSl ho hb hg hat hout9 hbx9 HPd HId HSd hHeld t0 t1 htw f0 f1 f2 hsw z1 y7 hzw1 hyw1
      clear o0 o1 o2 o3 o4 o5 o6 oz how
      go_upto_region 18 with fail
      refine gen_wp (fun W => PlanS wy g w3.heap.size vehicle (.slice A9 (k + 1 + 1) k9) (s.tm + ct) (s.di + cd) (s.wt + bg - (s.leave + ct)) (s.se + st.Service) (s.steps ++ [⟨x, pl2, s.leave + ct, bg - (s.leave + ct), st.Service, ld, s.tm + ct, s.di + cd⟩]) W ∧ W.heap[sb]? = some (.cells #[.int .i64 pl, .int .i64 st.Service, .slice AX st.Windows.length cX] 43 (0, 0)))
       ⟨hP11.out, (Below.heap_setCell _ _ _ _ hsbg).trans HX9.out⟩ (fun w12 H12 => ?_)
      have hsb := H12.out.2
      have f0 := blk_cell hsb 0
      have f1 := blk_cell hsb 1
      have f2 := blk_cell hsb 2
      simp only [List.getElem?_toArray, List.getElem?_cons_succ, List.getElem?_cons_zero] at f0 f1 f2
      have hsw := blk_lt hsb
      have HP12 := Aside0.mk H12.out.1
      clear hsb H12 hP11 HX9 st9 fz9
      obtain ⟨s2, hs2⟩ : ∃ s2, s2 = (⟨bg + st.Service, pl2, s.tm + ct, s.di + cd, s.wt + bg - (s.leave + ct), s.se + st.Service, s.steps ++ [⟨x, pl2, s.leave + ct, bg - (s.leave + ct), st.Service, ld, s.tm + ct, s.di + cd⟩]⟩ : TS) := ⟨_, rfl⟩
      rw [← hs2] at HG1 HN1
      have HLV : Aside0 (bg + st.Service = s2.leave) := ⟨by rw [hs2]⟩
      have HA2 : Aside0 (PL.drop (k + 1) = s2.at_ :: (placesS p s2.at_ (l.drop (k + 1)) ++ [v.End])) := ⟨by rw [hs2]; exact HA1.out⟩
      have HP13 : Aside0 (PlanS wy g w3.heap.size vehicle (.slice A9 (k + 1 + 1) k9) s2.tm s2.di s2.wt s2.se s2.steps w12) := ⟨by rw [hs2]; exact HP12.out⟩
      clear hs2 HP12
      go_wp2
      go_roundw
      case rel =>
       refine ⟨k + 1, s2, _, by omega, by go_num, ?_, HN1, HG1, HA2, HP13⟩
       exact congrArg (Value.int .i64) HLV.out
      case measure => simp [intOf]; omega
   ·
    as_aux_lemma =>
    obtain rfl : k = l.length := by omega
    have hR := HG.out
    rw [List.drop_of_length_le (Nat.le_refl _), goS] at hR
    have hA := HA.out
    rw [List.drop_of_length_le (Nat.le_refl _), placesS] at hA
    have hA1 : PL.drop (l.length + 1) = [v.End] := by
     rw [← List.drop_drop, hA]
     rfl
    obtain ⟨ah2, ah3⟩ := drop_rd hA1
    have HG1 : Aside0 (endS p v vehicle (loadsS p l) l.length s = R) := ⟨hR⟩
    clear HG hR hA hA1 HA
    go_upto_region 21 with fail
    have hpb := HP.out.blk HPB.out hnp
    obtain ⟨p0, p1, p2, p3, p4, p5, p6, p7⟩ := cells8 hpb; have hpw := blk_lt hpb
    have hwr := HP.out.reads HWH.out
    obtain ⟨aw, eaw, z0⟩ := Kd.at_int hwr (l.length : Int) (by omega) (by have := HPLN.out; omega)
    obtain ⟨aw', eaw', z1⟩ := Kd.at_int hwr ((l.length + 1 : Nat) : Int) (by omega) (by have := HPLN.out; omega)
    subst eaw
    obtain rfl := Option.some.inj eaw'
    rw [ah0] at z0
    rw [ah2] at z1
    simp only [Int.toNat_natCast] at z0 z1
    rw [Addr.add, if_neg (by omega)] at z1
    have e1 : IntKind.i64.wrap ((l.length : Int) + 1) = (l.length : Int) + 1 := IntWalk.i64_in _ (by omega)
    have r0 : (0 : Int) ≤ (l.length : Int) := by omega
    have q0 : (0 : Int) ≤ (l.length : Int) + 1 := by omega
    have q1 : (l.length : Int) + 1 < (PL.length : Int) := by have := HPLN.out; omega
    have q2 : (l.length : Int) < (PL.length : Int) := by have := HPLN.out; omega
    have hle := HT.out.le
    have htm := HT.out.tm
    have hdi := HT.out.di
    have hlen := HT.out.len
    have ht := LAW.out.time s.at_ v.End
    have hd := LAW.out.dist s.at_ v.End
    have hsh := VOK.out.shift
    have hfx := VOK.out.fx
    have hpt := VOK.out.pt
    have hpd := VOK.out.pd
    have e17 : IntKind.i64.wrap (s.leave + cellS p.Time s.at_ v.End) = s.leave + cellS p.Time s.at_ v.End := IntWalk.i64_in _ (by omega)
    have HTM := Aside0.mk (show -1000000000000 ≤ s.tm ∧ s.tm ≤ 1000000000000 by omega)
    have HDI := Aside0.mk (show -1000000000000 ≤ s.di ∧ s.di ≤ 1000000000000 by omega)
    have HZB1 := Aside0.mk HP.out.out
    have hzw := World.block_lt_of_cell? _ _ z0
    have hzw1 : (⟨aw.block, aw.off + (l.length + 1), none⟩ : Addr).block < wr.heap.size := World.block_lt_of_cell? wr ⟨aw.block, aw.off + (l.length + 1), none⟩ z1
    clear hpb hwr eaw'
    have hzg0 : aw.block ≠ g := by have h := HWD.out aw rfl; have h2 := HP.out.glo; omega
    have hzg : (aw.add l.length).block ≠ g := by unfold Addr.add; split <;> exact hzg0
    refine wp_region_held_drew (S := fun W' => wr.heap.size ≤ W'.heap.size ∧ ∀ a : Addr, a.block < wr.heap.size → a.block ≠ g → W'.cell? a = wr.cell? a) (by kernel_rfl) ⟨Nat.le_refl _, fun _ _ _ => rfl⟩ (fun hHeld => ?_)
    refine (show wpAnyH _ _ _ _ _ 14 (Array.replicate 14 false) _ _ from ?_)
    refine tk 0 (h := ?_)
    refine tk 1 (h := ?_)
    refine tk 2 (h := ?_)
    refine tk 3 (h := ?_)
    refine tk 4 (h := ?_)
    refine tk 5 (h := ?_)
    refine tk 6 (h := ?_)
    refine tk 7 (h := ?_)
    refine tk 8 (h := ?_)
    refine tk 9 (h := ?_)
    refine tk 10 (h := ?_)
    refine wpAnyH_ready (rs := [11]) (by kernel_rfl) (by simp) ?_
    refine rcn (fun K hK => ?_) AllReadyH.nil
    go_simp
    with_reducible refine (HDR.out g s.at_ v.End s.tm s.di (.int .i64 vehicle) sv (.int .i64 s.wt) (.int .i64 s.se) (.int .i64 0) _ (below_to HB0.out chn) (blk_below HZB1.out chn) HTM.out HDI.out).mono ?_; rintro e w4 ⟨rfl, wa, hb, rfl⟩; have HBa := Aside0.mk (show Below wr.heap.size wr wa from below_to chn hb)
    refine hko hK _ _ _ (sx_set (sx_set (sx_below hHeld hb) _ _) _ _) (fun hHeld => ?_)
    clear hK K
    clear hb
    refine tk 12 (h := ?_)
    refine tk 13 (h := ?_)
    refine wpAnyH_done (by kernel_rfl) ?_ _
    go_upto_region 22 with fail
    refine gen_wp (fun W => PlanS wy g w3.heap.size vehicle sv (s.tm + cellS p.Time s.at_ v.End) (s.di + cellS p.Dist s.at_ v.End) s.wt s.se s.steps W) ((HP.out.mono HBa.out).set_td _ _) (fun w5 HP5 => ?_)
    clear p0 p1 p2 p3 p4 p5 p6 p7 hpw
    clear HP HBa HZB1 HDI HTM z0 z1 hzw hzw1 q0 q1 q2 e1 e17 hHeld hzg hzg0 ah0 ah2 ah1 ah3
    as_aux_lemma =>
    have HB5 : Aside0 (Below w.heap.size w w5) := ⟨HP5.out.below HBw.out hwg hwc⟩
    have hvb := HP5.out.blk HVB2.out hnv2
    obtain ⟨v0, v1, v2, v3, v4, v5, v6, v7, v8, v9, v10⟩ := cells11 hvb; have hvw := blk_lt hvb
    clear hvb HB0
    unfold endS at HG1
    generalize cellS p.Time s.at_ v.End = ct at *
    generalize cellS p.Dist s.at_ v.End = cd at *
    by_cases hlate : v.Shift.To < s.leave + ct
    ·
     as_aux_lemma =>
     have dl : decide (v.Shift.To < s.leave + ct) = true := decide_eq_true hlate
     have hR := HG1.out
     rw [if_pos hlate] at hR
     subst hR
     have hz7 := HP5.out.blk HZB.out hnz
     clear HT HG1 hlate hlen htm hdi hle ht hd hsh hfx hpt hpd
     go_wp2_with (first | (refine wpList_store7P rfl rfl rfl rfl hz7 ?_))
     exact ret_store (by rfl) (zPlan, 167) w _ _ (w.heap.size + 1) none 0 (ok := fun k => w.heap.size + 1 < k) hz7 rfl rfl rfl (by omega) (fun k hk => hk) (Nat.le_refl _) (Kd.F_nil _ _ _) HB5.out
    have dl : decide (v.Shift.To < s.leave + ct) = false := decide_eq_false hlate
    have hR := HG1.out
    rw [if_neg hlate] at hR
    have HG2 := Aside0.mk hR
    clear HG1 hR hlate
    go_upto_region 24 with fail
    have hx1 : l.length < (loadsS p l).length := by simp [loadsS]
    obtain ⟨aab', A7, c7, ea7, y7, hI7⟩ := atLoadS HP5.out HLD.out l.length hx1
    obtain rfl := Option.some.inj ea7
    have hyw1 := World.block_lt_of_cell? _ _ y7
    have eload : (loadsS p l).getD l.length [] = (loadsS p l)[l.length] := by simp [List.getElem?_eq_getElem hx1]
    rw [eload] at HG2
    have hdl : (loadsS p l)[l.length].length ≤ 100 := by
     have h : (loadsS p l)[l.length] = nowS p l l.length := by simp [loadsS]
     have h2 := LAW.out.d1
     rw [h, nowS_length]
     omega
    generalize (loadsS p l)[l.length] = ld at *
    have HI7 := Aside0.mk hI7
    have q3 : (l.length : Int) < ((loadsS p l).length : Int) := by omega
    have HDL := Aside0.mk hdl
    have hob := HP5.out.out
    obtain ⟨o0, o1, o2, o3, o4, o5, o6⟩ := cells7 hob; have oz := fun i => blk_frozen hob i; have how := blk_lt hob
    have hsz := HP5.out.size
    have HSZ := Aside0.mk (show w3.heap.size ≤ w5.heap.size from Nat.le_trans HP5.out.loy hsz)
    clear hob hI7 ea7 eload hdl
    refine wp_region_tailH (S := fun W' => Below w5.heap.size w5 W' ∧ ∀ a : Addr, a.block < w5.heap.size → W'.cell? a = w5.cell? a) 17 (by kernel_rfl) (by kernel_rfl) (by kernel_rfl) (hl_start _) (fun hHeld => ?_)
    simp only [List.take_succ_cons, List.take_zero, List.drop_succ_cons, List.drop_zero]
    refine tk 0 (h := ?_)
    refine tk 1 (h := ?_)
    refine tk 2 (h := ?_)
    refine tk 3 (h := ?_)
    refine tk 4 (h := ?_)
    refine tk 5 (h := ?_)
    refine tk 6 (h := ?_)
    refine tk 7 (h := ?_)
    refine tk 8 (h := ?_)
    refine tk 9 (h := ?_)
    refine tk 11 (h := ?_)
    refine tk 12 (h := ?_)
    refine tk 13 (h := ?_)
    refine tk 14 (h := ?_)
    refine wpAnyH_ready (rs := [10]) (by kernel_rfl) (by simp) ?_
    refine rcn (fun K hK => ?_) AllReadyH.nil
    go_simp
    refine (cloneI_any ld A7 c7 _ _ (IntsIn.C (HI7.out.below (And.left (show Below w5.heap.size w5 _ ∧ _ from by assumption)))) (Below.refl _ _) (by have := HDL.out; omega) (by have := HDL.out; unfold maxLen; omega)).mono ?_; rintro e w6 ⟨v6, rfl, hb, hc⟩; obtain ⟨A8, c8, rfl, hI8⟩ := intsIn_copy (by have := HDL.out; omega) hc; have HI8 := Aside0.mk (hI8.lower (show w3.heap.size ≤ _ from HSZ.out)); have HB6 := Aside0.mk (below_to ((And.left (show Below w5.heap.size w5 _ ∧ _ from by assumption))) hb); clear hc hI8
    clear hHeld
    refine hko hK _ _ _ (hl_of chm) (fun hHeld => ?_)
    clear hK K
    refine wpAnyH_take (i := 15) (oi := _) (v := ?_) (by simp only [List.getElem?_toArray, List.getElem?_cons_succ, List.getElem?_cons_zero]; rfl) (by kernel_rfl) (by kernel_rfl) (by kernel_rfl) (tail_hQ (by exact fun _ _ _ h => h)) (Or.inl ⟨by rfl, ?_⟩) (by assumption) ?_
    rotate_left
    focus (intro w hSw; refine sbuild_6 (t0 := 172) (t1 := 174) (t2 := 175) (t5 := 180) (t6 := 182) (t7 := 184) (k := 6) (i := 0) (pl := v.End) (ar := s.leave + ct) (A := A8) (n := ld.length) (c := c8) (ti := s.tm + ct) (di := s.di + cd) ?_ ?_ ?_ ?_ ?_ ?_ ?_ <;> kernel_rfl)
    (try simp only [Act.put, List.setIfInBounds_toArray, List.set_cons_zero, List.set_cons_succ])
    refine wpAnyH_ready (rs := [16]) (by kernel_rfl) (by simp) ?_
    refine rcn (fun K hK => ?_) AllReadyH.nil
    refine wp_sliceStepP rfl rfl ?_
    clear hHeld
    refine hko hK _ _ _ (hl_of chn) (fun hHeld => ?_)
    clear hK K
    refine wpAnyH_tail (by kernel_rfl) ?_ _
    have HPd := Aside0.mk (HP5.out.mono HB6.out)
    refine OwnRow.append (R := StepIn w6 w3.heap.size) (w0 := w6) (W := w6) wy.heap.size rfl (.tmp 171) (.tmp 186) 72 91 (.agg #[.int .i64 0, .int .i64 0, .int .i64 0, .int .i64 0, .int .i64 0, .int .i64 0, .slice none 0 0, .int .i64 0, .int .i64 0]) 9 88 rfl Try.underlying72 infoStep rfl (by decide) (by decide) sv s.steps (⟨⟨6, 0⟩, v.End, s.leave + ct, 0, 0, ld, s.tm + ct, s.di + cd⟩ : TStep) _ rfl rfl (StepIn.of (⟨⟨6, 0⟩, v.End, s.leave + ct, 0, 0, ld, s.tm + ct, s.di + cd⟩ : TStep) HI8.out) rfl (StepIn.one (StepIn.of (⟨⟨6, 0⟩, v.End, s.leave + ct, 0, 0, ld, s.tm + ct, s.di + cd⟩ : TStep) HI8.out)) HPd.out.row (Below.refl _ _) HPd.out.size (by rw [hlen]; omega) ?_
    as_aux_lemma =>
    intro v1' w11 ho hb2 hg hat
    obtain ⟨A9, k9, rfl, _, _⟩ := OwnRow.reads ho
    have hP11a := HPd.out.appended ho hb2 hg
    have hSl : (s.steps ++ [(⟨⟨6, 0⟩, v.End, s.leave + ct, 0, 0, ld, s.tm + ct, s.di + cd⟩ : TStep)]).length = l.length + 1 + 1 := by rw [List.length_append, hlen]; rfl
    rw [hSl] at hP11a
    obtain ⟨S2, hS2⟩ : ∃ S2, S2 = s.steps ++ [(⟨⟨6, 0⟩, v.End, s.leave + ct, 0, 0, ld, s.tm + ct, s.di + cd⟩ : TStep)] := ⟨_, rfl⟩
    rw [← hS2] at hP11a HG2 hSl
    have hP11 := Aside0.mk hP11a
    have HSL := Aside0.mk hSl
    have hout9 : w11.heap[g]? = _ := (hg.block g (blk_lt HPd.out.out) HPd.out.ne).trans HPd.out.out
    have st9 := blk_cell hout9 1
    have fz9 := fun i => blk_frozen hout9 i
    simp only [List.getElem?_toArray, List.getElem?_cons_succ, List.getElem?_cons_zero] at st9
    have HWG := Aside0.mk hwg
    clear hP11a hSl hS2 ho hb2 hg hat hout9 HPd HI8 HI7 HB6 hHeld y7 hyw1 hb HP5 HB5
    clear o0 o1 o2 o3 o4 o5 o6 oz how
    clear v0 v1 v2 v3 v4 v5 v6 v7 v8 v9 v10 hvw
    have m1 := mul_in13 (a := s.tm + ct) (b := v.PerTime) (by omega) (by omega) hpt.1 hpt.2
    have m2 := mul_in13 (a := s.di + cd) (b := v.PerDist) (by omega) (by omega) hpd.1 hpd.2
    generalize hm1 : (s.tm + ct) * v.PerTime = mm1 at *
    generalize hm2 : (s.di + cd) * v.PerDist = mm2 at *
    have e21 : IntKind.i64.wrap mm1 = mm1 := IntWalk.i64_in _ (by omega)
    have e22 : IntKind.i64.wrap mm2 = mm2 := IntWalk.i64_in _ (by omega)
    have e23 : IntKind.i64.wrap (v.Fixed + mm1) = v.Fixed + mm1 := IntWalk.i64_in _ (by omega)
    have e24 : IntKind.i64.wrap (v.Fixed + mm1 + mm2) = v.Fixed + mm1 + mm2 := IntWalk.i64_in _ (by omega)
    go_upto_region 25 with fail
    refine gen_wp (fun W => PlanS wy g w3.heap.size vehicle (.slice A9 (l.length + 1 + 1) k9) (s.tm + ct) (s.di + cd) s.wt s.se S2 W) hP11.out (fun w12 HP12 => ?_)
    clear hP11 st9 fz9
    have hob := HP12.out.out
    have hvb := HP12.out.blk HVB2.out hnv2
    obtain ⟨o0, o1, o2, o3, o4, o5, o6⟩ := cells7 hob; have oz := fun i => blk_frozen hob i; have how := blk_lt hob
    obtain ⟨v0, v1, v2, v3, v4, v5, v6, v7, v8, v9, v10⟩ := cells11 hvb; have hvw := blk_lt hvb
    clear hob hvb
    go_upto_region 26 with fail
    refine gen_wp (fun W => W.heap[g]? = some (.cells #[.int .i64 vehicle, .slice A9 (l.length + 1 + 1) k9, .int .i64 (s.tm + ct), .int .i64 (s.di + cd), .int .i64 s.wt, .int .i64 s.se, .int .i64 (v.Fixed + mm1 + mm2)] 74 (0, 0)) ∧ W.heap[w.heap.size + 1]? = some (.cells #[.int .i64 0, .slice none 0 0, .int .i64 0, .int .i64 0, .int .i64 0, .int .i64 0, .int .i64 0] 74 (0, 0)) ∧ Below w.heap.size w W ∧ StepRow W w3.heap.size wy.heap.size (.slice A9 (l.length + 1 + 1) k9) S2)
     ⟨by simpa using blk_set HP12.out.out 6 (.int .i64 (v.Fixed + mm1 + mm2)), (Below.heap_setCell _ _ _ _ hnz).trans (HP12.out.blk HZB.out hnz), Below.setCell (HP12.out.below HBw.out hwg hwc) hwg _, HP12.out.row.step (fun k hk => Below.heap_setCell _ _ _ k (fun e => by have h1 := hk.1; have h2 := HP12.out.glo; have e' : k = g := e; omega)) (fun k hk => Below.heap_setCell _ _ _ k (fun e => HP12.out.ne (by rw [hk]; exact congrArg some (show g = k from e.symm))))⟩ (fun w13 H13 => ?_)
    have hlg := HP12.out.glo
    have hly := HP12.out.loy
    clear o0 o1 o2 o3 o4 o5 o6 oz how
    clear v0 v1 v2 v3 v4 v5 v6 v7 v8 v9 v10 hvw
    clear e21 e22 e23 e24 m1 m2 HP12
    have hob := H13.out.1
    have hz7 := H13.out.2.1
    obtain ⟨o0, o1, o2, o3, o4, o5, o6⟩ := cells7 hob; have oz := fun i => blk_frozen hob i; have how := blk_lt hob
    clear hob
    go_wp2_with (refine wpList_store7P rfl rfl rfl rfl hz7 ?_)
    have hG := HG2.out
    obtain ⟨AR, cR, eR, hleR, hFR⟩ := H13.out.2.2.2.F hly
    simp only [Value.slice.injEq] at eR
    obtain ⟨eA, -, ec⟩ := eR
    subst eA ec
    rw [← hG]
    have hz1 := H13.out.1
    rw [← HSL.out]
    exact ret_store (by rfl) (⟨vehicle, S2, s.tm + ct, s.di + cd, s.wt, s.se, v.Fixed + mm1 + mm2⟩, 0) w _ _ (w.heap.size + 1) A9 k9 (ok := fun k => w3.heap.size ≤ k) hz7 rfl rfl rfl (by omega) (fun k hk => by have hk' : w3.heap.size ≤ k := hk; omega) hleR hFR H13.out.2.2.1
end Go.Proofs.Ytemjpgmfignhnaa
