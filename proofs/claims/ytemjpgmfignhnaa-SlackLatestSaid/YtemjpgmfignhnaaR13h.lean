/- Contract: when one comes to the end, come to a step at a time. The document's Ends.
Conditions: a lawful problem, a plan of a vehicle that is there, whose breaks are the vehicle's. -/
import Derived.Test.YtemjpgmfignhnaaR13hz
import Derived.Test.YtemjpgmfignhnaaR13s
import Derived.Test.YtemjpgmfignhnaaHeld2
namespace Go.Proofs.Ytemjpgmfignhnaa
open Go.RowKit Go.Proofs.YtemjpgmfignhnaaW.PrintWords Go.Proofs.YtemjpgmfignhnaaW.PrintLast Go.Proofs.YtemjpgmfignhnaaW.PrintMore
set_option linter.unusedVariables false
set_option linter.unusedSimpArgs false
attribute [local go_sem] cell_growBy Option.some_or
set_option maxHeartbeats 16000000 in
set_option maxRecDepth 100000 in
theorem refEnds_any' (q : PV) (p : TProblem) (st : List TStep) (xv xt xd xw xs xc : Int) (A : Option Addr) (c : Nat) (i : Nat) (t : Int) (w : World) (hlp : Good p) (law : Law p) (hq : q.Ok p w) (hr : Kd.C kStep w A st.length st) (hv0 : 0 ≤ xv) (hv1 : xv < (p.Vehicles.length : Int)) (hi : i < st.length) (hl : st.length ≤ 200)
    (hbr : ∀ s ∈ st, s.Visit.Kind = 4 → 0 ≤ s.Visit.Item ∧ s.Visit.Item < (rdVehicle p.Vehicles xv).Breaks.length) (ht0 : -2000000000 ≤ t) (ht1 : t ≤ 2000000000) :
    Calls Try.prog 65 #[q.val p, .agg #[.int .i64 xv, .slice A st.length c, .int .i64 xt, .int .i64 xd, .int .i64 xw, .int .i64 xs, .int .i64 xc], .int .i64 i, .int .i64 t] w
      fun e w' => e = .returned (.tuple #[.int .i64 (endOf (rdVehicle p.Vehicles xv) (goR p (rdVehicle p.Vehicles xv) (st.drop i) t)).1, .bool (endOf (rdVehicle p.Vehicles xv) (goR p (rdVehicle p.Vehicles xv) (st.drop i) t)).2]) ∧ Below w.heap.size w w' := by
  have HR := Aside0.mk hr
  have HQ := Aside0.mk hq
  have hvm := rdVeh_mem p.Vehicles xv hv0 hv1
  have VOK := Aside0.mk (law.veh _ hvm)
  have hnv := law.nv
  obtain ⟨av, AC, cC, AB, cB, eav, v0, v1, v2, v3, v4, v5, v6, v7, v8, v9, v10, lC, gC, lB, gB⟩ := atVehicle hq.h3 xv hv0 hv1
  generalize rdVehicle p.Vehicles xv = v at *
  have HVB := Aside0.mk gB
  have HST := Aside0.mk (fun (x : TVisit) W (hb : Below w.heap.size w W) => refStop_at q p x w W hlp.toLens hq hb)
  have hM1 := Aside0.mk (fun (i j : Int) W (hb : Below w.heap.size w W) => refCell_any p.Time q.a1 q.c1 i j W (matOk_of law.mt law.n0 law.n1) (hq.below hb).h1)
  have LAW := Aside0.mk law
  obtain ⟨a1, c1, a2, c2, a3, c3, a4, c4, a5, c5⟩ := q
  have eav' : a3 = some av := eav
  subst eav'
  have v0' := alloc_cell (alloc_cell v0 (.cells #[.int .i64 p.Dims, .int .i64 p.Time.N, .slice a1 p.Time.Cells.length c1, .int .i64 p.Dist.N, .slice a2 p.Dist.Cells.length c2, .slice (some av) p.Vehicles.length c3, .slice a4 p.Jobs.length c4, .slice a5 p.Shipments.length c5] 29)) (.cells #[.int .i64 xv, .slice A st.length c, .int .i64 xt, .int .i64 xd, .int .i64 xw, .int .i64 xs, .int .i64 xc] 74)
  have v1' := alloc_cell (alloc_cell v1 (.cells #[.int .i64 p.Dims, .int .i64 p.Time.N, .slice a1 p.Time.Cells.length c1, .int .i64 p.Dist.N, .slice a2 p.Dist.Cells.length c2, .slice (some av) p.Vehicles.length c3, .slice a4 p.Jobs.length c4, .slice a5 p.Shipments.length c5] 29)) (.cells #[.int .i64 xv, .slice A st.length c, .int .i64 xt, .int .i64 xd, .int .i64 xw, .int .i64 xs, .int .i64 xc] 74)
  have v2' := alloc_cell (alloc_cell v2 (.cells #[.int .i64 p.Dims, .int .i64 p.Time.N, .slice a1 p.Time.Cells.length c1, .int .i64 p.Dist.N, .slice a2 p.Dist.Cells.length c2, .slice (some av) p.Vehicles.length c3, .slice a4 p.Jobs.length c4, .slice a5 p.Shipments.length c5] 29)) (.cells #[.int .i64 xv, .slice A st.length c, .int .i64 xt, .int .i64 xd, .int .i64 xw, .int .i64 xs, .int .i64 xc] 74)
  have v3' := alloc_cell (alloc_cell v3 (.cells #[.int .i64 p.Dims, .int .i64 p.Time.N, .slice a1 p.Time.Cells.length c1, .int .i64 p.Dist.N, .slice a2 p.Dist.Cells.length c2, .slice (some av) p.Vehicles.length c3, .slice a4 p.Jobs.length c4, .slice a5 p.Shipments.length c5] 29)) (.cells #[.int .i64 xv, .slice A st.length c, .int .i64 xt, .int .i64 xd, .int .i64 xw, .int .i64 xs, .int .i64 xc] 74)
  have v4' := alloc_cell (alloc_cell v4 (.cells #[.int .i64 p.Dims, .int .i64 p.Time.N, .slice a1 p.Time.Cells.length c1, .int .i64 p.Dist.N, .slice a2 p.Dist.Cells.length c2, .slice (some av) p.Vehicles.length c3, .slice a4 p.Jobs.length c4, .slice a5 p.Shipments.length c5] 29)) (.cells #[.int .i64 xv, .slice A st.length c, .int .i64 xt, .int .i64 xd, .int .i64 xw, .int .i64 xs, .int .i64 xc] 74)
  have v5' := alloc_cell (alloc_cell v5 (.cells #[.int .i64 p.Dims, .int .i64 p.Time.N, .slice a1 p.Time.Cells.length c1, .int .i64 p.Dist.N, .slice a2 p.Dist.Cells.length c2, .slice (some av) p.Vehicles.length c3, .slice a4 p.Jobs.length c4, .slice a5 p.Shipments.length c5] 29)) (.cells #[.int .i64 xv, .slice A st.length c, .int .i64 xt, .int .i64 xd, .int .i64 xw, .int .i64 xs, .int .i64 xc] 74)
  have v6' := alloc_cell (alloc_cell v6 (.cells #[.int .i64 p.Dims, .int .i64 p.Time.N, .slice a1 p.Time.Cells.length c1, .int .i64 p.Dist.N, .slice a2 p.Dist.Cells.length c2, .slice (some av) p.Vehicles.length c3, .slice a4 p.Jobs.length c4, .slice a5 p.Shipments.length c5] 29)) (.cells #[.int .i64 xv, .slice A st.length c, .int .i64 xt, .int .i64 xd, .int .i64 xw, .int .i64 xs, .int .i64 xc] 74)
  have v7' := alloc_cell (alloc_cell v7 (.cells #[.int .i64 p.Dims, .int .i64 p.Time.N, .slice a1 p.Time.Cells.length c1, .int .i64 p.Dist.N, .slice a2 p.Dist.Cells.length c2, .slice (some av) p.Vehicles.length c3, .slice a4 p.Jobs.length c4, .slice a5 p.Shipments.length c5] 29)) (.cells #[.int .i64 xv, .slice A st.length c, .int .i64 xt, .int .i64 xd, .int .i64 xw, .int .i64 xs, .int .i64 xc] 74)
  have v8' := alloc_cell (alloc_cell v8 (.cells #[.int .i64 p.Dims, .int .i64 p.Time.N, .slice a1 p.Time.Cells.length c1, .int .i64 p.Dist.N, .slice a2 p.Dist.Cells.length c2, .slice (some av) p.Vehicles.length c3, .slice a4 p.Jobs.length c4, .slice a5 p.Shipments.length c5] 29)) (.cells #[.int .i64 xv, .slice A st.length c, .int .i64 xt, .int .i64 xd, .int .i64 xw, .int .i64 xs, .int .i64 xc] 74)
  have v9' := alloc_cell (alloc_cell v9 (.cells #[.int .i64 p.Dims, .int .i64 p.Time.N, .slice a1 p.Time.Cells.length c1, .int .i64 p.Dist.N, .slice a2 p.Dist.Cells.length c2, .slice (some av) p.Vehicles.length c3, .slice a4 p.Jobs.length c4, .slice a5 p.Shipments.length c5] 29)) (.cells #[.int .i64 xv, .slice A st.length c, .int .i64 xt, .int .i64 xd, .int .i64 xw, .int .i64 xs, .int .i64 xc] 74)
  have v10' := alloc_cell (alloc_cell v10 (.cells #[.int .i64 p.Dims, .int .i64 p.Time.N, .slice a1 p.Time.Cells.length c1, .int .i64 p.Dist.N, .slice a2 p.Dist.Cells.length c2, .slice (some av) p.Vehicles.length c3, .slice a4 p.Jobs.length c4, .slice a5 p.Shipments.length c5] 29)) (.cells #[.int .i64 xv, .slice A st.length c, .int .i64 xt, .int .i64 xd, .int .i64 xw, .int .i64 xs, .int .i64 xc] 74)
  have HBRK := Aside0.mk hbr
  generalize hgr : goR p v (st.drop i) t = R
  have HG0 := Aside0.mk hgr
  clear hr hq hlp law hvm eav lC gC lB gB v0 v1 v2 v3 v4 v5 v6 v7 v8 v9 v10 hbr hgr
  unfold PV.val at HST ⊢
  go_enter Try.func65, Try.ntmps65
  go_wp2
  clear v0' v1' v2' v3' v4' v5' v6' v7' v8' v9' v10'
  go_loopw [2, 3] (fun vi vt wr => ∃ (k : Nat) (t' : Int), k < st.length ∧ vi = .int .i64 k ∧ vt = .int .i64 t' ∧ -2000000000 - 2 * (k : Int) ≤ t' ∧ t' ≤ 2000000000 + 40000000 * (k : Int) ∧ Aside0 (goR p v (st.drop k) t' = R) ∧ Aside0 (Below (w.heap.size + 1 + 1 + 1) (((w.alloc (.cells #[.int .i64 p.Dims, .int .i64 p.Time.N, .slice a1 p.Time.Cells.length c1, .int .i64 p.Dist.N, .slice a2 p.Dist.Cells.length c2, .slice (some av) p.Vehicles.length c3, .slice a4 p.Jobs.length c4, .slice a5 p.Shipments.length c5] 29)).alloc (.cells #[.int .i64 xv, .slice A st.length c, .int .i64 xt, .int .i64 xd, .int .i64 xw, .int .i64 xs, .int .i64 xc] 74)).alloc (.cells #[.int .i64 v.Start, .int .i64 v.End, .slice AC v.Cap.length cC, .int .u64 v.Skills, .int .i64 v.Shift.From, .int .i64 v.Shift.To, .int .i64 v.Fixed, .int .i64 v.PerTime, .int .i64 v.PerDist, .int .i64 v.MaxTasks, .slice AB v.Breaks.length cB] 89)) wr)) (fun vi _ _ => st.length - (intOf vi).toNat)
  case atStart => exact ⟨i, t, hi, rfl, rfl, by omega, by omega, HG0, ⟨Below.refl _ _⟩⟩
  case round =>
    clear HG0 hi ht0 ht1
    obtain ⟨k, t', hk, rfl, rfl, ht0, ht1, HG, HW⟩ := hrel
    have HW' : Aside0 (Below (((w.alloc (.cells #[.int .i64 p.Dims, .int .i64 p.Time.N, .slice a1 p.Time.Cells.length c1, .int .i64 p.Dist.N, .slice a2 p.Dist.Cells.length c2, .slice (some av) p.Vehicles.length c3, .slice a4 p.Jobs.length c4, .slice a5 p.Shipments.length c5] 29)).alloc (.cells #[.int .i64 xv, .slice A st.length c, .int .i64 xt, .int .i64 xd, .int .i64 xw, .int .i64 xs, .int .i64 xc] 74)).alloc (.cells #[.int .i64 v.Start, .int .i64 v.End, .slice AC v.Cap.length cC, .int .u64 v.Skills, .int .i64 v.Shift.From, .int .i64 v.Shift.To, .int .i64 v.Fixed, .int .i64 v.PerTime, .int .i64 v.PerDist, .int .i64 v.MaxTasks, .slice AB v.Breaks.length cB] 89)).heap.size (((w.alloc (.cells #[.int .i64 p.Dims, .int .i64 p.Time.N, .slice a1 p.Time.Cells.length c1, .int .i64 p.Dist.N, .slice a2 p.Dist.Cells.length c2, .slice (some av) p.Vehicles.length c3, .slice a4 p.Jobs.length c4, .slice a5 p.Shipments.length c5] 29)).alloc (.cells #[.int .i64 xv, .slice A st.length c, .int .i64 xt, .int .i64 xd, .int .i64 xw, .int .i64 xs, .int .i64 xc] 74)).alloc (.cells #[.int .i64 v.Start, .int .i64 v.End, .slice AC v.Cap.length cC, .int .u64 v.Skills, .int .i64 v.Shift.From, .int .i64 v.Shift.To, .int .i64 v.Fixed, .int .i64 v.PerTime, .int .i64 v.PerDist, .int .i64 v.MaxTasks, .slice AB v.Breaks.length cB] 89)) wr) := ⟨by simpa using HW.out⟩
    have HB0 : Aside0 (Below w.heap.size w wr) := ⟨below_to (below_alloc (below_alloc (below_alloc (Below.refl _ _) _) _) _) HW'.out⟩
    have HPB : Aside0 (wr.heap[w.heap.size]? = some (.cells #[.int .i64 p.Dims, .int .i64 p.Time.N, .slice a1 p.Time.Cells.length c1, .int .i64 p.Dist.N, .slice a2 p.Dist.Cells.length c2, .slice (some av) p.Vehicles.length c3, .slice a4 p.Jobs.length c4, .slice a5 p.Shipments.length c5] 29)) := ⟨blk_below (blk_alloc (blk_alloc (blk_new _ _) _) _) HW'.out⟩
    have HLB : Aside0 (wr.heap[w.heap.size + 1]? = some (.cells #[.int .i64 xv, .slice A st.length c, .int .i64 xt, .int .i64 xd, .int .i64 xw, .int .i64 xs, .int .i64 xc] 74)) := ⟨blk_below (blk_alloc (blk_is (by simp)) _) HW'.out⟩
    have HVX : Aside0 (wr.heap[w.heap.size + 1 + 1]? = some (.cells #[.int .i64 v.Start, .int .i64 v.End, .slice AC v.Cap.length cC, .int .u64 v.Skills, .int .i64 v.Shift.From, .int .i64 v.Shift.To, .int .i64 v.Fixed, .int .i64 v.PerTime, .int .i64 v.PerDist, .int .i64 v.MaxTasks, .slice AB v.Breaks.length cB] 89)) := ⟨blk_below (blk_is (by simp)) HW'.out⟩
    have hpb := HPB.out
    have hlb := HLB.out
    have hvb := HVX.out
    have p0 := blk_cell hpb 0; have p1 := blk_cell hpb 1; have p2 := blk_cell hpb 2; have p3 := blk_cell hpb 3; have p4 := blk_cell hpb 4; have p5 := blk_cell hpb 5; have p6 := blk_cell hpb 6; have p7 := blk_cell hpb 7; simp only [List.getElem?_toArray, List.getElem?_cons_succ, List.getElem?_cons_zero] at p0 p1 p2 p3 p4 p5 p6 p7; have hpw := blk_lt hpb
    have l1 := blk_cell hlb 1; simp only [List.getElem?_toArray, List.getElem?_cons_succ, List.getElem?_cons_zero] at l1; have hlw := blk_lt hlb
    have v5 := blk_cell hvb 5; have v10 := blk_cell hvb 10; simp only [List.getElem?_toArray, List.getElem?_cons_succ, List.getElem?_cons_zero] at v5 v10; have hvw := blk_lt hvb
    clear hpb hlb hvb
    have e1 : IntKind.i64.wrap ((st.length : Int) - 1) = (st.length : Int) - 1 := IntWalk.i64_in _ (by omega)
    by_cases hlt : k + 1 < st.length
    ·
      have d0 : decide ((k : Int) < (st.length : Int) - 1) = true := decide_eq_true (by omega)
      obtain ⟨ad, A6, c6, ea, x0, x1, x2, -⟩ := atNStep (Kd.C_below HR.out HB0.out) k hk
      subst ea
      have r0 : (0 : Int) ≤ (k : Int) := by omega
      have r1 : (k : Int) < (st.length : Int) := by omega
      have hg := HG.out
      rw [goR_at p v st k hlt] at hg
      have HG1 := Aside0.mk hg
      have HBK := Aside0.mk (HBRK.out _ (List.getElem_mem hk))
      clear HG hg
      have hba := World.block_lt_of_cell? _ _ x0
      have hbb : (⟨(ad.add (k * 9)).block, (ad.add (k * 9)).off + 1, none⟩ : Addr).block < wr.heap.size := hba
      have hbc : (⟨(ad.add (k * 9)).block, (ad.add (k * 9)).off + 2, none⟩ : Addr).block < wr.heap.size := hba
      generalize hx : st[k].Visit = x at *
      go_upto_region 4 with fail
      go_cut [11, 12] (fun s11 s12 wx => ∃ b AW cW, s11 = .pointer (some ⟨b, 0, none⟩) ∧ s12 = .bool (stopS p x).2 ∧ Aside0 (wr.heap.size ≤ b ∧ wx.heap[b]? = some (.cells #[.int .i64 (stopS p x).1.Place, .int .i64 (stopS p x).1.Service, .slice AW (stopS p x).1.Windows.length cW] 43 (0, 0)) ∧ (stopS p x).1.Windows.length ≤ cW ∧ Kd.C kWindow w AW (stopS p x).1.Windows.length (stopS p x).1.Windows) ∧ Aside0 (Below wr.heap.size wr wx))
      case first =>
        go_region_held3 (fun W' => Below wr.heap.size wr W' ∧ ∀ a : Addr, a.block < wr.heap.size → W'.cell? a = wr.cell? a) (first | exact hl_start _ | exact hl_of (by repeat (first | exact Below.refl _ _ | apply below_alloc | apply below_drew | (refine Below.setCell ?_ (by first | (simp; done) | (simp; omega) | (dsimp only; omega)) _) | (refine below_to ?_ (by assumption)))))
            (first
              | (go_at_call 37; refine (HST.out x _ (below_to HB0.out (And.left (show Below wr.heap.size wr _ ∧ _ from by assumption)))).mono ?_; rintro e w3 ⟨A1, k1, rfl, hle1, hC1, hb⟩; obtain ⟨qcs, qfs⟩ := bcell hb))
        all_goals
          go_wp2_with fail
          go_meet
          first
            | exact ⟨_, A1, k1, rfl, rfl, ⟨hb.size, blk_new _ _, hle1, hC1⟩, ⟨(And.left (show Below wr.heap.size wr _ ∧ _ from by assumption))⟩⟩
            | exact ⟨_, A1, k1, rfl, rfl, ⟨Nat.le_refl _, blk_set3 ((hb.block _ (by simp)).trans (blk_new _ _)) _ _ _, hle1, hC1⟩, ⟨(And.left (show Below wr.heap.size wr _ ∧ _ from by assumption))⟩⟩
      case rest =>
        obtain ⟨b, AW, cW, rfl, rfl, HBX, HBc⟩ := hcut
        have HBwc : Aside0 (Below w.heap.size w wc) := ⟨below_to HB0.out HBc.out⟩
        clear p0 p1 p2 p3 p4 p5 p6 p7 hpw l1 hlw v5 v10 hvw x0 x1 x2 hba hbb hbc
        have hlb := blk_below HLB.out HBc.out
        have hvb := blk_below HVX.out HBc.out
        have l1 := blk_cell hlb 1; simp only [List.getElem?_toArray, List.getElem?_cons_succ, List.getElem?_cons_zero] at l1; have hlw := blk_lt hlb
        have v5 := blk_cell hvb 5; have v10 := blk_cell hvb 10; simp only [List.getElem?_toArray, List.getElem?_cons_succ, List.getElem?_cons_zero] at v5 v10; have hvw := blk_lt hvb
        obtain ⟨ad2, A6, c6, ea2, x0, x1, -⟩ := atNStep (Kd.C_below HR.out HBwc.out) k hk
        obtain rfl := Option.some.inj ea2
        rw [hx] at x0 x1
        clear hlb hvb ea2
        go_upto_if 48 with fail
        go_cut [12] (fun s12 wx => ∃ AW cW, s12 = .bool (stopE p v x).2 ∧ Aside0 (wr.heap.size ≤ b ∧ wx.heap[b]? = some (.cells #[.int .i64 (stopE p v x).1.Place, .int .i64 (stopE p v x).1.Service, .slice AW (stopE p v x).1.Windows.length cW] 43 (0, 0)) ∧ (stopE p v x).1.Windows.length ≤ cW ∧ Kd.C kWindow w AW (stopE p v x).1.Windows.length (stopE p v x).1.Windows) ∧ Aside0 (Below wr.heap.size wr wx))
        case first =>
          by_cases k4 : x.Kind = 4
          · have d4 : (x.Kind == 4) = true := by simp [k4]
            have es : stopE p v x = (⟨0, (rdBreak v.Breaks x.Item).Service, (rdBreak v.Breaks x.Item).Windows⟩, true) := by unfold stopE; rw [if_pos k4]
            obtain ⟨i0, i1⟩ := HBK.out k4
            obtain ⟨ab, A0, c0, eab, b0', b1', lb, gb⟩ := atBreak HVB.out x.Item i0 i1
            subst eab
            have HEB := Aside0.mk (show _ ∧ _ from ⟨lb, gb⟩)
            have y0 := pw_cell_below HBwc.out b0'
            have y1 := pw_cell_below HBwc.out b1'
            have hba := World.block_lt_of_cell? _ _ x0
            have hbb : (⟨(ad.add (k * 9)).block, (ad.add (k * 9)).off + 1, none⟩ : Addr).block < wc.heap.size := hba
            have hbc := World.block_lt_of_cell? _ _ y0
            have hbd : (⟨(ab.add (x.Item.toNat * 2)).block, (ab.add (x.Item.toNat * 2)).off + 1, none⟩ : Addr).block < wc.heap.size := hbc
            have r2 : x.Item < (v.Breaks.length : Int) := i1
            have hb0 := HBX.out.1
            have hbx := HBX.out.2.1
            have b0 := blk_cell hbx 0; have b1 := blk_cell hbx 1; have b2 := blk_cell hbx 2; simp only [List.getElem?_toArray, List.getElem?_cons_succ, List.getElem?_cons_zero] at b0 b1 b2; have hbw := blk_lt hbx
            have ez := fun i => blk_frozen hbx i
            clear b0' b1' lb gb k4 i1 hbx
            go_wp2_with fail
            go_region_held3 (fun W' => Below wc.heap.size wc W' ∧ ∀ a : Addr, a.block < wc.heap.size → W'.cell? a = wc.cell? a) (first | exact hl_start _ | exact hl_of (by repeat (first | exact Below.refl _ _ | apply below_alloc | apply below_drew | (refine Below.setCell ?_ (by first | (simp; done) | (simp; omega) | (dsimp only; omega)) _) | (refine below_to ?_ (by assumption)))))
                (first
                  | fail)
            all_goals
              go_wp2_with fail
              go_meet
              exact ⟨A0, c0, by rw [es], ⟨hb0, by rw [es]; exact blk_alloc (blk_set3 HBX.out.2.1 _ _ _) _, by rw [es]; exact HEB.out.1, by rw [es]; exact HEB.out.2⟩, ⟨below_drew (below_alloc (Below.setCell (Below.setCell (Below.setCell HBc.out hb0 _) hb0 _) hb0 _) _)⟩⟩
          · have d4 : (x.Kind == 4) = false := by simp [k4]
            have es : stopE p v x = stopS p x := by unfold stopE; rw [if_neg k4]
            go_wp2_with fail
            go_meet
            exact ⟨AW, cW, by rw [es], by rw [es]; exact HBX, HBc⟩
        case rest =>
          obtain ⟨AX, cX, rfl, HBX2, HBc2⟩ := hcut
          have HBwc2 : Aside0 (Below w.heap.size w wc) := ⟨below_to HB0.out HBc2.out⟩
          have HSE := fun h => stopE_ok LAW.out VOK.out HBK.out h
          clear x0 x1 l1 hlw v5 v10 hvw HBwc HBX HBc HBK
          go_upto_if 65 with fail
          go_cut [3, 12] (fun s3 s12 wx => ∃ t2 : Int, s3 = .int .i64 t2 ∧ (-2000000000 - 2 * (k : Int) ≤ t2 ∧ t2 ≤ 2000000000 + 40000000 * (k : Int)) ∧ Aside0 (goR p v (st.drop (k + 1)) (t2 + cellS p.Time st[k].Place st[k + 1].Place) = R) ∧ Aside0 (Below wr.heap.size wr wx))
          case first =>
            cases hsE : (stopE p v x).2
            · have hN : goR p v (st.drop (k + 1)) (t' + cellS p.Time st[k].Place st[k + 1].Place) = R := by
                have h := HG1.out
                rw [hsE, if_neg (by decide)] at h
                exact h
              have HN := Aside0.mk hN
              clear hN
              go_wp2_with fail
              go_meet
              exact ⟨t', rfl, ⟨ht0, ht1⟩, HN, HBc2⟩
            · have SW := HSE hsE
              have HSA := Aside0.mk (fun W (hb : Below wc.heap.size wc W) => refStart_any (stopE p v x).1.Windows AX cX t' W (Kd.C_below HBX2.out.2.2.2 (below_to HBwc2.out hb)) SW.win)
              have hok := @startS_ok (stopE p v x).1.Windows SW.win t'
              have hser := SW.ser
              have hbx := HBX2.out.2.1
              have b0 := blk_cell hbx 0; have b1 := blk_cell hbx 1; have b2 := blk_cell hbx 2; simp only [List.getElem?_toArray, List.getElem?_cons_succ, List.getElem?_cons_zero] at b0 b1 b2; have hbw := blk_lt hbx
              clear hbx SW HSE
              cases ho : (startS t' (stopE p v x).1.Windows).2
              · have hN : none = R := by
                  have h := HG1.out
                  rw [hsE, ho, if_pos rfl, if_neg (by decide)] at h
                  exact h
                subst hN
                clear HG1 hok hser
                go_wp2_with (go_at_call 61; refine (HSA.out _ (by repeat (first | exact Below.refl _ _ | apply below_alloc | apply below_drew | apply pw_below_drewN | (refine Below.setCell ?_ (by first | (simp; done) | (simp; omega) | (dsimp only; omega)) _) | (refine below_to ?_ (by assumption))))).mono ?_; rintro e w3 ⟨rfl, hb⟩; rw [ho]; have HB3 := Aside0.mk (below_to (show Below wc.heap.size wc _ from (by repeat (first | exact Below.refl _ _ | apply below_alloc | apply below_drew | apply pw_below_drewN | (refine Below.setCell ?_ (by first | (simp; done) | (simp; omega) | (dsimp only; omega)) _) | (refine below_to ?_ (by assumption))))) hb); clear hb)
                go_ret2
                exact ⟨rfl, below_to HBwc2.out HB3.out⟩
              · have hN : goR p v (st.drop (k + 1)) ((startS t' (stopE p v x).1.Windows).1 + (stopE p v x).1.Service + cellS p.Time st[k].Place st[k + 1].Place) = R := by
                  have h := HG1.out
                  rw [hsE, ho, if_pos rfl, if_pos rfl] at h
                  exact h
                have HN := Aside0.mk hN
                have hst := hok ho
                have e2 : IntKind.i64.wrap ((startS t' (stopE p v x).1.Windows).1 + (stopE p v x).1.Service) = (startS t' (stopE p v x).1.Windows).1 + (stopE p v x).1.Service := IntWalk.i64_in _ (by omega)
                clear hN HG1 hok
                go_wp2_with (go_at_call 61; refine (HSA.out _ (by repeat (first | exact Below.refl _ _ | apply below_alloc | apply below_drew | apply pw_below_drewN | (refine Below.setCell ?_ (by first | (simp; done) | (simp; omega) | (dsimp only; omega)) _) | (refine below_to ?_ (by assumption))))).mono ?_; rintro e w3 ⟨rfl, hb⟩; rw [ho]; have HB3 := Aside0.mk (below_to (show Below wc.heap.size wc _ from (by repeat (first | exact Below.refl _ _ | apply below_alloc | apply below_drew | apply pw_below_drewN | (refine Below.setCell ?_ (by first | (simp; done) | (simp; omega) | (dsimp only; omega)) _) | (refine below_to ?_ (by assumption))))) hb); have hbx3 := blk_below HBX2.out.2.1 HB3.out; clear hb b0 b1 b2 hbw; have b1 := blk_cell hbx3 1; simp only [List.getElem?_toArray, List.getElem?_cons_succ, List.getElem?_cons_zero] at b1; clear hbx3)
                go_meet
                exact ⟨_, rfl, ⟨by omega, by omega⟩, HN, ⟨below_to HBc2.out HB3.out⟩⟩
          case rest =>
            obtain ⟨t2, rfl, hb2, HN, HBc3⟩ := hcut
            have HBwc3 : Aside0 (Below w.heap.size w wc) := ⟨below_to HB0.out HBc3.out⟩
            have hpb := blk_below HPB.out HBc3.out
            have hlb := blk_below HLB.out HBc3.out
            have p0 := blk_cell hpb 0; have p1 := blk_cell hpb 1; have p2 := blk_cell hpb 2; have p3 := blk_cell hpb 3; have p4 := blk_cell hpb 4; have p5 := blk_cell hpb 5; have p6 := blk_cell hpb 6; have p7 := blk_cell hpb 7; simp only [List.getElem?_toArray, List.getElem?_cons_succ, List.getElem?_cons_zero] at p0 p1 p2 p3 p4 p5 p6 p7; have hpw := blk_lt hpb
            have l1 := blk_cell hlb 1; simp only [List.getElem?_toArray, List.getElem?_cons_succ, List.getElem?_cons_zero] at l1; have hlw := blk_lt hlb
            obtain ⟨ad2, A6, c6, ea2, -, -, x2, -⟩ := atNStep (Kd.C_below HR.out HBwc3.out) k hk
            obtain rfl := Option.some.inj ea2
            obtain ⟨ad2, A6, c6, ea3, -, -, y2, -⟩ := atNStep (Kd.C_below HR.out HBwc3.out) (k + 1) hlt
            obtain rfl := Option.some.inj ea3
            have hba := World.block_lt_of_cell? _ _ x2
            have hbb := World.block_lt_of_cell? _ _ y2
            have e2 : IntKind.i64.wrap ((k : Int) + 1) = (k : Int) + 1 := IntWalk.i64_in _ (by omega)
            have r2 : (0 : Int) ≤ (k : Int) + 1 := by omega
            have r3 : (k : Int) + 1 < (st.length : Int) := by omega
            have hcl := LAW.out.time st[k].Place st[k + 1].Place
            have e3 : IntKind.i64.wrap (t2 + cellS p.Time st[k].Place st[k + 1].Place) = t2 + cellS p.Time st[k].Place st[k + 1].Place := IntWalk.i64_in _ (by omega)
            clear hpb hlb ea2 ea3 HBX2 HBc2 HBwc2 HG1
            go_wp2_with fail
            go_region_held3 (fun W' => Below wc.heap.size wc W' ∧ ∀ a : Addr, a.block < wc.heap.size → W'.cell? a = wc.cell? a) (first | exact hl_start _ | exact hl_of (by repeat (first | exact Below.refl _ _ | apply below_alloc | apply below_drew | (refine Below.setCell ?_ (by first | (simp; done) | (simp; omega) | (dsimp only; omega)) _) | (refine below_to ?_ (by assumption)))))
                (first
                  | (go_at_call 31; with_reducible refine (hM1.out st[k].Place st[k + 1].Place _ (below_to HBwc3.out (And.left (show Below wc.heap.size wc _ ∧ _ from by assumption)))).mono ?_; rintro e w4 ⟨rfl, hb⟩; obtain ⟨qcs, qfs⟩ := bcell hb))
            all_goals
              go_wp2_with fail
              go_roundw
              case rel => exact ⟨k + 1, _, hlt, by go_num, rfl, by omega, by omega, HN, ⟨by simpa using below_to HW'.out (below_to HBc3.out (And.left (show Below wc.heap.size wc _ ∧ _ from by assumption)))⟩⟩
              case measure => simp [intOf]; omega
    · have hk1 : st.length = k + 1 := by omega
      have hg := HG.out
      rw [goR_last p v st k hk1.symm] at hg
      subst hg
      have d0 : decide ((k : Int) < (st.length : Int) - 1) = false := decide_eq_false (by omega)
      clear HG
      go_wp2_with fail
      first
        | (go_ret2; exact ⟨rfl, (by repeat (first | exact Below.refl _ _ | apply below_alloc | apply below_drew | apply pw_below_drewN | (refine Below.setCell ?_ (by first | (simp; done) | (simp; omega) | (dsimp only; omega)) _) | (refine below_to ?_ (by assumption))))⟩)
        | (go_region_held3 (fun W' => Below wr.heap.size wr W' ∧ ∀ a : Addr, a.block < wr.heap.size → W'.cell? a = wr.cell? a) (first | exact hl_start _ | exact hl_of (by repeat (first | exact Below.refl _ _ | apply below_alloc | apply below_drew | (refine Below.setCell ?_ (by first | (simp; done) | (simp; omega) | (dsimp only; omega)) _) | (refine below_to ?_ (by assumption)))))
            (first
              | fail)
           all_goals
             go_wp2_with fail
             go_ret2
             exact ⟨rfl, below_to HB0.out (And.left (show Below wr.heap.size wr _ ∧ _ from by assumption))⟩)
end Go.Proofs.Ytemjpgmfignhnaa
