/- The walk of SlackShift: it answers true.
Conditions: lists no longer than memory allows. -/
import Derived.Test.YtemjpgmfignhnaaAW14
import Derived.Test.YtemjpgmfignhnaaP14c
import Derived.Test.YtemjpgmfignhnaaPut
import Derived.Test.YtemjpgmfignhnaaGoodOf
namespace Go.Proofs.Ytemjpgmfignhnaa
open Go.RowKit Go.Proofs.YtemjpgmfignhnaaW.PrintWords Go.Proofs.YtemjpgmfignhnaaW.PrintLast Go.Proofs.YtemjpgmfignhnaaW.PrintMore
set_option linter.unusedVariables false
set_option linter.unusedSimpArgs false
attribute [local go_sem] cell_growBy Option.some_or
set_option maxHeartbeats 16000000 in
set_option maxRecDepth 100000 in
theorem slackShiftLaw_any (q : PV) (p : TProblem) (vehicle : Int) (l : List TVisit) (A : Option Addr) (c : Nat) (by_ : Int) (w : World) (hg : GProblem p) (hq : q.Ok p w) (hl : l.length ≤ 4611686018427387904) (hr : Kd.C kVisit w A l.length l) :
    Calls Try.prog 19 #[q.val p, .int .i64 vehicle, .slice A l.length c, .int .i64 by_] w fun e w' => e = .returned (.bool true) ∧ Below w.heap.size w w' := by
  have HL := Aside0.mk (good_of hg)
  have HMD := Aside0.mk (fun W (hb : Below w.heap.size w W) => made_any q p vehicle l A c W HL.out (hq.below hb) (Kd.C_below hr hb) hl)
  have HCP := Aside0.mk (fun W (hb : Below w.heap.size w W) => copied_any q p W (hq.below hb) hg)
  have hMM := @made_ok p vehicle l
  generalize madeS p vehicle l = r at *
  obtain ⟨x, b⟩ := r
  obtain ⟨a1, c1, a2, c2, a3, c3, a4, c4, a5, c5⟩ := q
  clear hg hq hr
  unfold PV.val at HMD HCP ⊢
  cases b
  · clear hMM HCP
    go_enter Try.func19, Try.ntmps19
    go_wp2_with (first
      | (go_at_call 62; refine (awake14_any _).mono ?_; skip; rintro e w1 ⟨rfl, hb⟩; have HB1 := Aside0.mk hb; obtain ⟨qc1, qf1⟩ := bcell hb; have hs1 := hb.size; (try simp at hs1); (try have z01 : w.heap.size < w1.heap.size := (by omega)); (try have z11 : w.heap.size + 1 < w1.heap.size := (by omega)); (try have z21 : w.heap.size + 1 + 1 < w1.heap.size := (by omega)); (try have z31 : w.heap.size + 1 + 1 + 1 < w1.heap.size := (by omega)); (try have z41 : w.heap.size + 1 + 1 + 1 + 1 < w1.heap.size := (by omega)); clear hs1 hb; skip)
      | (go_at_call 63; refine (HMD.out _ (by repeat (first | exact Below.refl _ _ | apply below_alloc | apply pw_below_drewN | apply below_drew1 | apply below_drew | (refine Below.setCell ?_ (by (try simp); (try omega)) _) | (refine below_to ?_ HB6.out) | (refine below_to ?_ HB5.out) | (refine below_to ?_ HB4.out) | (refine below_to ?_ HB3.out) | (refine below_to ?_ HB2.out) | (refine below_to ?_ HB1.out)))).mono ?_; rintro e w2 ⟨Ax, cx, rfl, hle2, hF2, hb⟩; dsimp only [planV]; have HB2 := Aside0.mk hb; obtain ⟨qc2, qf2⟩ := bcell hb; have hs2 := hb.size; (try simp at hs2); (try have z02 : w.heap.size < w2.heap.size := (by omega)); (try have z12 : w.heap.size + 1 < w2.heap.size := (by omega)); (try have z22 : w.heap.size + 1 + 1 < w2.heap.size := (by omega)); (try have z32 : w.heap.size + 1 + 1 + 1 < w2.heap.size := (by omega)); (try have z42 : w.heap.size + 1 + 1 + 1 + 1 < w2.heap.size := (by omega)); clear hs2 hb; clear hle2 hF2))
    go_ret
    exact ⟨rfl, (by repeat (first | exact Below.refl _ _ | apply below_alloc | apply pw_below_drewN | apply below_drew1 | apply below_drew | (refine Below.setCell ?_ (by (try simp); (try omega)) _) | (refine below_to ?_ HB6.out) | (refine below_to ?_ HB5.out) | (refine below_to ?_ HB4.out) | (refine below_to ?_ HB3.out) | (refine below_to ?_ HB2.out) | (refine below_to ?_ HB1.out)))⟩
  · obtain ⟨law, hv0, hv1, hvv, MX⟩ := hMM rfl
    simp only at hv1 hvv MX
    subst hvv
    have LAW := Aside0.mk law
    have VOK := Aside0.mk (law.veh _ (rdVeh_mem p.Vehicles x.Vehicle hv0 hv1))
    have hlen := MX.len
    have hlen2 := MX.made.len
    obtain ⟨kv, hkv⟩ := Int.eq_ofNat_of_zero_le hv0
    have hkl : kv < p.Vehicles.length := by omega
    have HMX := Aside0.mk MX
    have HKV := Aside0.mk hkv
    clear hMM law MX hkv
    go_enter Try.func19, Try.ntmps19
    go_upto_region 7 with (first
      | (go_at_call 62; refine (awake14_any _).mono ?_; skip; rintro e w1 ⟨rfl, hb⟩; have HB1 := Aside0.mk hb; obtain ⟨qc1, qf1⟩ := bcell hb; have hs1 := hb.size; (try simp at hs1); (try have z01 : w.heap.size < w1.heap.size := (by omega)); (try have z11 : w.heap.size + 1 < w1.heap.size := (by omega)); (try have z21 : w.heap.size + 1 + 1 < w1.heap.size := (by omega)); (try have z31 : w.heap.size + 1 + 1 + 1 < w1.heap.size := (by omega)); (try have z41 : w.heap.size + 1 + 1 + 1 + 1 < w1.heap.size := (by omega)); clear hs1 hb; skip)
      | (go_at_call 63; refine (HMD.out _ (by repeat (first | exact Below.refl _ _ | apply below_alloc | apply pw_below_drewN | apply below_drew1 | apply below_drew | (refine Below.setCell ?_ (by (try simp); (try omega)) _) | (refine below_to ?_ HB6.out) | (refine below_to ?_ HB5.out) | (refine below_to ?_ HB4.out) | (refine below_to ?_ HB3.out) | (refine below_to ?_ HB2.out) | (refine below_to ?_ HB1.out)))).mono ?_; rintro e w2 ⟨Ax, cx, rfl, hle2, hF2, hb⟩; dsimp only [planV]; have HB2 := Aside0.mk hb; obtain ⟨qc2, qf2⟩ := bcell hb; have hs2 := hb.size; (try simp at hs2); (try have z02 : w.heap.size < w2.heap.size := (by omega)); (try have z12 : w.heap.size + 1 < w2.heap.size := (by omega)); (try have z22 : w.heap.size + 1 + 1 < w2.heap.size := (by omega)); (try have z32 : w.heap.size + 1 + 1 + 1 < w2.heap.size := (by omega)); (try have z42 : w.heap.size + 1 + 1 + 1 + 1 < w2.heap.size := (by omega)); clear hs2 hb; have HF2 := Aside0.mk hF2; clear hle2 hF2))
    obtain ⟨hm0, hm1⟩ := mod_in by_ 100 (by decide) (by decide)
    generalize wrap64 ((IntKind.u64.wrap by_).tmod 100) = m at *
    refine gen_wp (fun W => Below w.heap.size w W ∧ W.heap[w.heap.size]? = some (.cells #[.int .i64 p.Dims, .int .i64 p.Time.N, .slice a1 p.Time.Cells.length c1, .int .i64 p.Dist.N, .slice a2 p.Dist.Cells.length c2, .slice a3 p.Vehicles.length c3, .slice a4 p.Jobs.length c4, .slice a5 p.Shipments.length c5] 29 (0, 0)) ∧ W.heap[w2.heap.size]? = some (.cells #[.int .i64 x.Vehicle, .slice Ax x.Steps.length cx, .int .i64 x.Time, .int .i64 x.Dist, .int .i64 x.Wait, .int .i64 x.Service, .int .i64 x.Cost] 74 (0, 0)) ∧ Kd.C kStep W Ax x.Steps.length x.Steps)
      ⟨(by repeat (first | exact Below.refl _ _ | apply below_alloc | apply pw_below_drewN | apply below_drew1 | apply below_drew | (refine Below.setCell ?_ (by (try simp); (try omega)) _) | (refine below_to ?_ HB6.out) | (refine below_to ?_ HB5.out) | (refine below_to ?_ HB4.out) | (refine below_to ?_ HB3.out) | (refine below_to ?_ HB2.out) | (refine below_to ?_ HB1.out))), blk_alloc (blk_below (blk_below (blk_new _ _) HB1.out) HB2.out) _, blk_new _ _, Kd.C_below (Kd.F_now HF2.out) (below_alloc (Below.refl _ _) _)⟩ (fun w3 H3 => ?_)
    clear qc1 qf1 qc2 qf2 HB1 HB2 HF2 HMD
    have hpb := H3.out.2.1
    have p0 := blk_cell hpb 0; have p1 := blk_cell hpb 1; have p2 := blk_cell hpb 2; have p3 := blk_cell hpb 3; have p4 := blk_cell hpb 4; have p5 := blk_cell hpb 5; have p6 := blk_cell hpb 6; have p7 := blk_cell hpb 7; simp only [List.getElem?_toArray, List.getElem?_cons_succ, List.getElem?_cons_zero] at p0 p1 p2 p3 p4 p5 p6 p7; have hpw := blk_lt hpb
    clear hpb
    go_upto_region 8 with (go_at_call 27; refine (HCP.out _ (below_to H3.out.1 (by repeat (first | with_reducible exact Below.refl _ _ | with_reducible apply below_alloc | with_reducible apply below_drew | with_reducible apply pw_below_drewN | (with_reducible refine Below.setCell ?_ (by first | (simp; done) | (simp; omega) | (dsimp only; omega)) _) | (with_reducible refine below_to ?_ (by assumption)))))).mono ?_; rintro e w4 ⟨o, rfl, hown, hb⟩; have HOW := Aside0.mk hown; have HB4 := Aside0.mk (show Below w3.heap.size w3 w4 from below_to (by repeat (first | with_reducible exact Below.refl _ _ | with_reducible apply below_alloc | with_reducible apply below_drew | with_reducible apply pw_below_drewN | (with_reducible refine Below.setCell ?_ (by first | (simp; done) | (simp; omega) | (dsimp only; omega)) _) | (with_reducible refine below_to ?_ (by assumption)))) hb); clear hown hb)
    refine gen_wp (fun W => Below w3.heap.size w3 W ∧ W.heap[w4.heap.size]? = some (.cells #[.int .i64 p.Dims, .int .i64 p.Time.N, .slice (some ⟨o.gt, 0, none⟩) p.Time.Cells.length o.ct, .int .i64 p.Dist.N, .slice (some ⟨o.gd, 0, none⟩) p.Dist.Cells.length o.cd, .slice (some ⟨o.gv, 0, none⟩) p.Vehicles.length o.cv, .slice (some ⟨o.gj, 0, none⟩) p.Jobs.length o.cj, .slice (some ⟨o.gs, 0, none⟩) p.Shipments.length o.cs] 29 (0, 0)) ∧ OwnP w3.heap.size o p W) ⟨below_alloc HB4.out _, blk_new _ _, (show OwnP w3.heap.size o p w4 from by simpa using HOW.out).below (below_alloc (Below.refl _ _) _)⟩ (fun w5 H5 => ?_)
    have hgv : o.gv < w4.heap.size := by have h1 := HOW.out.bv.2; have h2 := HOW.out.top; omega
    have hg3 : w3.heap.size ≤ o.gv := by simpa using HOW.out.bv.1
    clear p0 p1 p2 p3 p4 p5 p6 p7 hpw HB4 HOW
    have hqb := H5.out.2.1
    have s0 := blk_cell hqb 0; have s1 := blk_cell hqb 1; have s2 := blk_cell hqb 2; have s3 := blk_cell hqb 3; have s4 := blk_cell hqb 4; have s5 := blk_cell hqb 5; have s6 := blk_cell hqb 6; have s7 := blk_cell hqb 7; simp only [List.getElem?_toArray, List.getElem?_cons_succ, List.getElem?_cons_zero] at s0 s1 s2 s3 s4 s5 s6 s7; have hsw := blk_lt hqb
    have v5 : w5.cell? ⟨o.gv, x.Vehicle.toNat * 11 + 4 + 1, none⟩ = some (.int .i64 (rdVehicle p.Vehicles x.Vehicle).Shift.To) := by
      rw [HKV.out]
      obtain ⟨cs, _, hfk, hcell⟩ := H5.out.2.2.r3.cell kv (rdVehicle p.Vehicles kv) (by simp [rdVehicle, List.getElem?_eq_getElem hkl])
      obtain ⟨A2, c2, A10, c10, rfl, -⟩ := kVehicle_open (Kd.FK_now hfk)
      exact hcell 5 _ rfl
    have hfz := H5.out.2.2.frozen
    have hsh := VOK.out.shift
    have e1 : IntKind.i64.wrap ((rdVehicle p.Vehicles x.Vehicle).Shift.To + m) = (rdVehicle p.Vehicles x.Vehicle).Shift.To + m := IntWalk.i64_in _ (by omega)
    clear hqb
    go_upto_region 9 with fail
    have HE1 := Aside0.mk e1
    refine gen_wp (fun W => Below w3.heap.size w3 W ∧ W.heap[w4.heap.size]? = some (.cells #[.int .i64 p.Dims, .int .i64 p.Time.N, .slice (some ⟨o.gt, 0, none⟩) p.Time.Cells.length o.ct, .int .i64 p.Dist.N, .slice (some ⟨o.gd, 0, none⟩) p.Dist.Cells.length o.cd, .slice (some ⟨o.gv, 0, none⟩) p.Vehicles.length o.cv, .slice (some ⟨o.gj, 0, none⟩) p.Jobs.length o.cj, .slice (some ⟨o.gs, 0, none⟩) p.Shipments.length o.cs] 29 (0, 0)) ∧ OwnP w3.heap.size o (lateP p kv m) W) ⟨Below.setCell H5.out.1 hg3 _, (Below.heap_setCell _ _ _ _ (by show w4.heap.size ≠ o.gv; omega)).trans H5.out.2.1, by
      have h := H5.out.2.2.late kv hkl m
      rw [HKV.out]
      exact h⟩ (fun w6 H6 => ?_)
    clear s0 s1 s2 s3 s4 s5 s6 s7 hsw v5 hfz e1
    have hl1 : kv < p.Vehicles.length := hkl
    have HG2 := Aside0.mk (lateP_good HL.out kv hkl m)
    have HLW := Aside0.mk (fun W (hb : Below w6.heap.size w6 W) => (lateP_val o.pv p kv m) ▸ lawful_any o.pv (lateP p kv m) W HG2.out ((H6.out.2.2.below hb).ok HG2.out.toLens))
    have HMX2 : Aside0 (MadeX (lateP p kv m) (rdVehicle (lateP p kv m).Vehicles x.Vehicle) x) := ⟨by
      have h := HMX.out
      rw [HKV.out] at h ⊢
      exact h.late kv hkl hm0⟩
    have hqb := H6.out.2.1
    have s0 := blk_cell hqb 0; have s1 := blk_cell hqb 1; have s2 := blk_cell hqb 2; have s3 := blk_cell hqb 3; have s4 := blk_cell hqb 4; have s5 := blk_cell hqb 5; have s6 := blk_cell hqb 6; have s7 := blk_cell hqb 7; simp only [List.getElem?_toArray, List.getElem?_cons_succ, List.getElem?_cons_zero] at s0 s1 s2 s3 s4 s5 s6 s7; have hsw := blk_lt hqb
    clear hqb
    by_cases hc : checkS (lateP p kv m) = 0
    · have dc : decide (checkS (lateP p kv m) = 0) = true := decide_eq_true hc
      have LAW2 := Aside0.mk (law_of hc)
      clear hc
      go_upto_region 11 with (go_at_call 29; refine (HLW.out _ (by repeat (first | with_reducible exact Below.refl _ _ | with_reducible apply below_alloc | with_reducible apply below_drew | with_reducible apply pw_below_drewN | (with_reducible refine Below.setCell ?_ (by first | (simp; done) | (simp; omega) | (dsimp only; omega)) _) | (with_reducible refine below_to ?_ (by assumption))))).mono ?_; rintro e w7 ⟨rfl, hb⟩; rw [dc]; have HB7 := Aside0.mk hb; clear hb)
      clear s0 s1 s2 s3 s4 s5 s6 s7 hsw HLW
      have HB37 : Aside0 (Below w3.heap.size w3 w7) := ⟨below_to H6.out.1 HB7.out⟩
      have hqb := blk_below H6.out.2.1 HB7.out
      have hpb := blk_below H3.out.2.1 HB37.out
      have hlb := blk_below H3.out.2.2.1 HB37.out
      have s0 := blk_cell hqb 0; have s1 := blk_cell hqb 1; have s2 := blk_cell hqb 2; have s3 := blk_cell hqb 3; have s4 := blk_cell hqb 4; have s5 := blk_cell hqb 5; have s6 := blk_cell hqb 6; have s7 := blk_cell hqb 7; simp only [List.getElem?_toArray, List.getElem?_cons_succ, List.getElem?_cons_zero] at s0 s1 s2 s3 s4 s5 s6 s7; have hsw := blk_lt hqb
      have p0 := blk_cell hpb 0; have p1 := blk_cell hpb 1; have p2 := blk_cell hpb 2; have p3 := blk_cell hpb 3; have p4 := blk_cell hpb 4; have p5 := blk_cell hpb 5; have p6 := blk_cell hpb 6; have p7 := blk_cell hpb 7; simp only [List.getElem?_toArray, List.getElem?_cons_succ, List.getElem?_cons_zero] at p0 p1 p2 p3 p4 p5 p6 p7; have hpw := blk_lt hpb
      have l0 := blk_cell hlb 0; have l1 := blk_cell hlb 1; have l2 := blk_cell hlb 2; have l3 := blk_cell hlb 3; have l4 := blk_cell hlb 4; have l5 := blk_cell hlb 5; have l6 := blk_cell hlb 6; simp only [List.getElem?_toArray, List.getElem?_cons_succ, List.getElem?_cons_zero] at l0 l1 l2 l3 l4 l5 l6; have hlw := blk_lt hlb
      clear hqb hpb hlb
      have HLA : Aside0 (∀ (o2 : OV) W, o2.pv.Ok p W → Below w7.heap.size w7 W → Calls Try.prog 66 #[o2.pv.val p, (.agg #[.int .i64 x.Vehicle, .slice Ax x.Steps.length cx, .int .i64 x.Time, .int .i64 x.Dist, .int .i64 x.Wait, .int .i64 x.Service, .int .i64 x.Cost])] W (fun e w' => ∃ A c, e = .returned (.slice A x.Steps.length c) ∧ x.Steps.length ≤ c ∧ Kd.C (Kd.int .i64) w' A x.Steps.length (latestS p (rdVehicle p.Vehicles x.Vehicle) x.Steps) ∧ Below W.heap.size W w')) :=
        ⟨fun o2 W hok hb => slackLatest_x o2.pv p x Ax cx W HL.out LAW.out hok (Kd.C_below H3.out.2.2.2 (below_to HB37.out hb)) hv0 hv1 HMX.out⟩
      have HLB : Aside0 (∀ W, Below w7.heap.size w7 W → Calls Try.prog 66 #[(.agg #[.int .i64 p.Dims, .int .i64 p.Time.N, .slice (some ⟨o.gt, 0, none⟩) p.Time.Cells.length o.ct, .int .i64 p.Dist.N, .slice (some ⟨o.gd, 0, none⟩) p.Dist.Cells.length o.cd, .slice (some ⟨o.gv, 0, none⟩) p.Vehicles.length o.cv, .slice (some ⟨o.gj, 0, none⟩) p.Jobs.length o.cj, .slice (some ⟨o.gs, 0, none⟩) p.Shipments.length o.cs]), (.agg #[.int .i64 x.Vehicle, .slice Ax x.Steps.length cx, .int .i64 x.Time, .int .i64 x.Dist, .int .i64 x.Wait, .int .i64 x.Service, .int .i64 x.Cost])] W (fun e w' => ∃ A c, e = .returned (.slice A x.Steps.length c) ∧ x.Steps.length ≤ c ∧ Kd.C (Kd.int .i64) w' A x.Steps.length (latestS (lateP p kv m) (rdVehicle (lateP p kv m).Vehicles x.Vehicle) x.Steps) ∧ Below W.heap.size W w')) :=
        ⟨fun W hb => by
          have h := slackLatest_x o.pv (lateP p kv m) x Ax cx W HG2.out LAW2.out (((H6.out.2.2.below HB7.out).below hb).ok HG2.out.toLens) (Kd.C_below H3.out.2.2.2 (below_to HB37.out hb)) hv0 (by simpa [lateP] using hv1) HMX2.out
          rw [lateP_val] at h
          exact h⟩
      go_cut [12, 13] (fun s12 s13 wx => ∃ A12 c12 A13 c13, s12 = .slice A12 x.Steps.length c12 ∧ s13 = .slice A13 x.Steps.length c13 ∧ Aside0 (Kd.C (Kd.int .i64) wx A12 x.Steps.length (latestS p (rdVehicle p.Vehicles x.Vehicle) x.Steps)) ∧ Aside0 (Kd.C (Kd.int .i64) wx A13 x.Steps.length (latestS (lateP p kv m) (rdVehicle (lateP p kv m).Vehicles x.Vehicle) x.Steps)) ∧ Aside0 (Below w7.heap.size w7 wx))
      case first =>
        go_region_held3 (fun W' => Below w7.heap.size w7 W' ∧ ∀ a : Addr, a.block < w7.heap.size → W'.cell? a = w7.cell? a) (first | exact hl_start _ | exact hl_of (by repeat (first | with_reducible exact Below.refl _ _ | with_reducible apply below_alloc | with_reducible apply below_drew | with_reducible apply pw_below_drewN | (with_reducible refine Below.setCell ?_ (by first | (simp; done) | (simp; omega) | (dsimp only; omega)) _) | (with_reducible refine below_to ?_ (by assumption)))))
            (first
              | (go_at_call 27; refine (HCP.out _ (below_to H3.out.1 (below_to HB37.out (And.left (show Below w7.heap.size w7 _ ∧ _ from by assumption))))).mono ?_; rintro e w8 ⟨o2, rfl, hown, hb⟩; obtain ⟨qcs, qfs⟩ := bcell hb; have HOW := Aside0.mk (hown.ok HL.out.toLens); clear hown) | (go_at_call 66; with_reducible refine (HLA.out o2 _ (HOW.out.below (by repeat (first | with_reducible exact Below.refl _ _ | with_reducible apply below_alloc | with_reducible apply below_drew | with_reducible apply pw_below_drewN | (with_reducible refine Below.setCell ?_ (by first | (simp; done) | (simp; omega) | (dsimp only; omega)) _) | (with_reducible refine below_to ?_ (by assumption))))) (And.left (show Below w7.heap.size w7 _ ∧ _ from by assumption))).mono ?_; rintro e w9 ⟨A12, c12, rfl, hle12, hC12, hb⟩; obtain ⟨qct, qft⟩ := bcell hb; have HC12 := Aside0.mk hC12; clear hC12) | (go_at_call 66; with_reducible refine (HLB.out _ (And.left (show Below w7.heap.size w7 _ ∧ _ from by assumption))).mono ?_; rintro e w10 ⟨A13, c13, rfl, hle13, hC13, hb⟩; have HC13 := Aside0.mk hC13; clear hC13))
        all_goals
          go_wp2_with fail
          go_meet
          exact ⟨A12, c12, A13, c13, rfl, rfl, ⟨Kd.C_below HC12.out (by repeat (first | with_reducible exact Below.refl _ _ | with_reducible apply below_alloc | with_reducible apply below_drew | with_reducible apply pw_below_drewN | (with_reducible refine Below.setCell ?_ (by first | (simp; done) | (simp; omega) | (dsimp only; omega)) _) | (with_reducible refine below_to ?_ (by assumption))))⟩, ⟨Kd.C_below HC13.out (by repeat (first | with_reducible exact Below.refl _ _ | with_reducible apply below_alloc | with_reducible apply below_drew | with_reducible apply pw_below_drewN | (with_reducible refine Below.setCell ?_ (by first | (simp; done) | (simp; omega) | (dsimp only; omega)) _) | (with_reducible refine below_to ?_ (by assumption))))⟩, ⟨(And.left (show Below w7.heap.size w7 _ ∧ _ from by assumption))⟩⟩
      case rest =>
        obtain ⟨A12, c12, A13, c13, rfl, rfl, HC12, HC13, HBc⟩ := hcut
        clear s0 s1 s2 s3 s4 s5 s6 s7 hsw p0 p1 p2 p3 p4 p5 p6 p7 hpw l0 l1 l2 l3 l4 l5 l6 hlw HLA HLB HCP
        have HBW7 : Aside0 (Below w.heap.size w wc) := ⟨below_to H3.out.1 (below_to HB37.out HBc.out)⟩
        have HLE : Aside0 (∀ k (hk : k < x.Steps.length), rd (latestS p (rdVehicle p.Vehicles x.Vehicle) x.Steps) k ≤ rd (latestS (lateP p kv m) (rdVehicle (lateP p kv m).Vehicles x.Vehicle) x.Steps) k ∧ -1 ≤ rd (latestS p (rdVehicle p.Vehicles x.Vehicle) x.Steps) k ∧ rd (latestS p (rdVehicle p.Vehicles x.Vehicle) x.Steps) k ≤ 1000001) := ⟨fun k hk => by
          have h1 := latestS_in LAW.out VOK.out HMX.out k hk
          have h2 := HMX.out.arr _ (List.getElem_mem hk)
          refine ⟨?_, by omega, by omega⟩
          rw [MadeX.nat_rd, MadeX.nat_rd, HKV.out, lateP_rd hkl]
          have h3 := HMX.out.made
          rw [HKV.out] at h3
          exact Made.shift (p := p) (p' := lateP p kv m) hm0 rfl rfl rfl h3 k hk⟩
        have HLS : Aside0 (rd (latestS (lateP p kv m) (rdVehicle (lateP p kv m).Vehicles x.Vehicle) x.Steps) ((x.Steps.length - 1 : Nat) : Int) = rd (latestS p (rdVehicle p.Vehicles x.Vehicle) x.Steps) ((x.Steps.length - 1 : Nat) : Int) + m) := ⟨by
          have h1 := HMX.out.made.last
          have h2 := HMX2.out.made.last
          have k1 := HMX.out.made.latest_len
          have k2 := HMX2.out.made.latest_len
          rw [List.getLastD_eq_getLast?, List.getLast?_eq_getElem?, k1] at h1
          rw [List.getLastD_eq_getLast?, List.getLast?_eq_getElem?, k2] at h2
          rw [MadeX.nat_rd, MadeX.nat_rd, List.getD_eq_getElem?_getD, List.getD_eq_getElem?_getD, h1, h2, HKV.out, lateP_rd hkl]
          rfl⟩
        generalize latestS p (rdVehicle p.Vehicles x.Vehicle) x.Steps = La at *
        generalize latestS (lateP p kv m) (rdVehicle (lateP p kv m).Vehicles x.Vehicle) x.Steps = Lb at *
        have e3 : IntKind.i64.wrap ((x.Steps.length : Int) - 1) = ((x.Steps.length - 1 : Nat) : Int) := by rw [show ((x.Steps.length - 1 : Nat) : Int) = (x.Steps.length : Int) - 1 by omega]; exact IntWalk.i64_in _ (by omega)
        clear HE1 LAW2 HG2 HMX2 HMX VOK LAW
        go_wp2
        go_loopw [61] (fun vi wr => ∃ k : Nat, k ≤ x.Steps.length ∧ vi = .int .i64 k ∧ Aside0 (Below wc.heap.size wc wr)) (fun vi _ => x.Steps.length - (intOf vi).toNat)
        case atStart => exact ⟨0, Nat.zero_le _, rfl, ⟨(by repeat (first | with_reducible exact Below.refl _ _ | with_reducible apply below_alloc | with_reducible apply below_drew | with_reducible apply pw_below_drewN | (with_reducible refine Below.setCell ?_ (by first | (simp; done) | (simp; omega) | (dsimp only; omega)) _) | (with_reducible refine below_to ?_ (by assumption))))⟩⟩
        case round =>
          obtain ⟨k, hk, rfl, HW⟩ := hrel
          by_cases hlt : k < x.Steps.length
          · have r0 : (0 : Int) ≤ (k : Int) := by omega
            have r1 : (k : Int) < (x.Steps.length : Int) := by omega
            obtain ⟨f1, f2, f3⟩ := HLE.out k hlt
            have hls := HLS.out
            obtain ⟨ad12, ea12, y0⟩ := Kd.at_int (Kd.C_below HC12.out HW.out) (k : Int) r0 r1
            subst ea12
            obtain ⟨ad13, ea13, y1⟩ := Kd.at_int (Kd.C_below HC13.out HW.out) (k : Int) r0 r1
            subst ea13
            simp only [Int.toNat_natCast] at y0 y1
            have hlast : k = x.Steps.length - 1 → rd Lb (k : Int) = rd La (k : Int) + m := fun h => by rw [h]; exact hls
            generalize rd La (k : Int) = ak at *
            generalize rd Lb (k : Int) = bk at *
            have d1 : decide (bk < ak) = false := decide_eq_false (by omega)
            have e4 : IntKind.i64.wrap (ak + m) = ak + m := IntWalk.i64_in _ (by omega)
            have d2 : decide (ak + m < bk) = false ∨ ((k : Int) == ((x.Steps.length - 1 : Nat) : Int)) = false := by
              by_cases h : k = x.Steps.length - 1
              · exact .inl (decide_eq_false (by have := hlast h; omega))
              · exact .inr (by simp; omega)
            clear hls hlast f1 f2 f3
            cases d3 : decide (ak + m < bk)
            · clear d2
              go_upto_region 17 with fail
              go_quiet (fail)
              go_wp2
              go_roundw
              case rel => exact ⟨k + 1, by omega, by go_num, ⟨below_to HW.out (by repeat (first | with_reducible exact Below.refl _ _ | with_reducible apply below_alloc | with_reducible apply below_drew | with_reducible apply pw_below_drewN | (with_reducible refine Below.setCell ?_ (by first | (simp; done) | (simp; omega) | (dsimp only; omega)) _) | (with_reducible refine below_to ?_ (by assumption))))⟩⟩
              case measure => simp [intOf]; omega
            · have d4 : ((k : Int) == ((x.Steps.length - 1 : Nat) : Int)) = false := by
                rcases d2 with h | h
                · rw [d3] at h; cases h
                · exact h
              clear d2
              go_upto_region 17 with fail
              go_quiet (fail)
              go_wp2
              go_roundw
              case rel => exact ⟨k + 1, by omega, by go_num, ⟨below_to HW.out (by repeat (first | with_reducible exact Below.refl _ _ | with_reducible apply below_alloc | with_reducible apply below_drew | with_reducible apply pw_below_drewN | (with_reducible refine Below.setCell ?_ (by first | (simp; done) | (simp; omega) | (dsimp only; omega)) _) | (with_reducible refine below_to ?_ (by assumption))))⟩⟩
              case measure => simp [intOf]; omega
          · obtain rfl : k = x.Steps.length := by omega
            have r0 : (0 : Int) ≤ ((x.Steps.length - 1 : Nat) : Int) := by omega
            have r1 : ((x.Steps.length - 1 : Nat) : Int) < (x.Steps.length : Int) := by omega
            obtain ⟨f1, f2, f3⟩ := HLE.out (x.Steps.length - 1) (by omega)
            have hls := HLS.out
            obtain ⟨ad12, ea12, y0⟩ := Kd.at_int (Kd.C_below HC12.out HW.out) ((x.Steps.length - 1 : Nat) : Int) r0 r1
            subst ea12
            obtain ⟨ad13, ea13, y1⟩ := Kd.at_int (Kd.C_below HC13.out HW.out) ((x.Steps.length - 1 : Nat) : Int) r0 r1
            subst ea13
            simp only [Int.toNat_natCast] at y0 y1
            rw [hls] at y1
            generalize rd La ((x.Steps.length - 1 : Nat) : Int) = ak at *
            have e4 : IntKind.i64.wrap (ak + m) = ak + m := IntWalk.i64_in _ (by omega)
            clear hls f1
            go_upto_region 20 with fail
            go_quiet (fail)
            go_wp2
            go_ret
            exact ⟨by simp, below_to HBW7.out (below_to HW.out (by repeat (first | with_reducible exact Below.refl _ _ | with_reducible apply below_alloc | with_reducible apply below_drew | with_reducible apply pw_below_drewN | (with_reducible refine Below.setCell ?_ (by first | (simp; done) | (simp; omega) | (dsimp only; omega)) _) | (with_reducible refine below_to ?_ (by assumption)))))⟩
    · have dc : decide (checkS (lateP p kv m) = 0) = false := decide_eq_false hc
      clear hc
      go_wp2_with (go_at_call 29; refine (HLW.out _ (by repeat (first | with_reducible exact Below.refl _ _ | with_reducible apply below_alloc | with_reducible apply below_drew | with_reducible apply pw_below_drewN | (with_reducible refine Below.setCell ?_ (by first | (simp; done) | (simp; omega) | (dsimp only; omega)) _) | (with_reducible refine below_to ?_ (by assumption))))).mono ?_; rintro e w7 ⟨rfl, hb⟩; rw [dc]; have HB7 := Aside0.mk hb; clear hb)
      go_ret
      exact ⟨rfl, below_to H3.out.1 (below_to H6.out.1 HB7.out)⟩
/-- The same, as the row wants it. -/
theorem slackShiftLaw_row (q : PV) (p : TProblem) (vehicle : Int) (l : List TVisit) (A : Option Addr) (c : Nat) (by_ : Int) (w : World) (hg : GProblem p) (hq : q.Ok p w) (_ : (Lit.int .i64 vehicle).wf = true) (hl : l.length ≤ maxLen ∧ l.length * 16 ≤ 140737488351232 ∧ ∀ y ∈ l, GVisit y) (_ : l.length ≤ c) (hr : Kd.C kVisit w A l.length l) (_ : (Lit.int .i64 by_).wf = true) :
    Calls Try.prog 19 #[q.val p, .int .i64 vehicle, .slice A l.length c, .int .i64 by_] w fun e w' => e = .returned (.bool true) ∧ Below w.heap.size w w' :=
  slackShiftLaw_any q p vehicle l A c by_ w hg hq (by have := hl.1; unfold maxLen at this; omega) hr
end Go.Proofs.Ytemjpgmfignhnaa
