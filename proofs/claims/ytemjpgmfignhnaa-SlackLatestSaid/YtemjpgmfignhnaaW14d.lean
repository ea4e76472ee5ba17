/- The walk of SlackLatest: it answers true.
Conditions: lists no longer than memory allows. -/
import Derived.Test.YtemjpgmfignhnaaAW14
import Derived.Test.YtemjpgmfignhnaaP14d
import Derived.Test.YtemjpgmfignhnaaCp
import Derived.Test.YtemjpgmfignhnaaGoodOf
namespace Go.Proofs.Ytemjpgmfignhnaa
open Go.RowKit Go.Proofs.YtemjpgmfignhnaaW.PrintWords Go.Proofs.YtemjpgmfignhnaaW.PrintLast Go.Proofs.YtemjpgmfignhnaaW.PrintMore
set_option linter.unusedVariables false
set_option linter.unusedSimpArgs false
attribute [local go_sem] cell_growBy Option.some_or
set_option maxHeartbeats 16000000 in
set_option maxRecDepth 100000 in
theorem slackLatestLaw_any (q : PV) (p : TProblem) (vehicle : Int) (l : List TVisit) (A : Option Addr) (c : Nat) (w : World) (hg : GProblem p) (hq : q.Ok p w) (hl : l.length ≤ 4611686018427387904) (hr : Kd.C kVisit w A l.length l) :
    Calls Try.prog 20 #[q.val p, .int .i64 vehicle, .slice A l.length c] w fun e w' => e = .returned (.bool true) ∧ Below w.heap.size w w' := by
  have HL := Aside0.mk (good_of hg)
  have HMD := Aside0.mk (fun W (hb : Below w.heap.size w W) => made_any q p vehicle l A c W HL.out (hq.below hb) (Kd.C_below hr hb) hl)
  have HCP := Aside0.mk (fun W (hb : Below w.heap.size w W) => copied_any q p W (hq.below hb) hg)
  have HRE := Aside0.mk (fun (x : TPlan) (A : Option Addr) (c : Nat) W (hb : Below w.heap.size w W) (i : Nat) (t : Int) hi ht0 ht1 law hr hv0 hv1 hx => refEnds_x q p x A c W i t hi ht0 ht1 HL.out law (hq.below hb) hr hv0 hv1 hx)
  have hMM := @made_ok p vehicle l
  generalize madeS p vehicle l = r at *
  obtain ⟨x, b⟩ := r
  obtain ⟨a1, c1, a2, c2, a3, c3, a4, c4, a5, c5⟩ := q
  clear hg hq hr
  unfold PV.val at HMD HCP HRE ⊢
  cases b
  · clear hMM HCP HRE
    go_enter Try.func20, Try.ntmps20
    go_wp2_with (first
      | (go_at_call 62; refine (awake14_any _).mono ?_; skip; rintro e w1 ⟨rfl, hb⟩; have HB1 := Aside0.mk hb; obtain ⟨qc1, qf1⟩ := bcell hb; have hs1 := hb.size; (try simp at hs1); (try have z01 : w.heap.size < w1.heap.size := (by omega)); (try have z11 : w.heap.size + 1 < w1.heap.size := (by omega)); (try have z21 : w.heap.size + 1 + 1 < w1.heap.size := (by omega)); (try have z31 : w.heap.size + 1 + 1 + 1 < w1.heap.size := (by omega)); (try have z41 : w.heap.size + 1 + 1 + 1 + 1 < w1.heap.size := (by omega)); clear hs1 hb; skip)
      | (go_at_call 63; refine (HMD.out _ (by repeat (first | exact Below.refl _ _ | apply below_alloc | apply pw_below_drewN | apply below_drew1 | apply below_drew | (refine Below.setCell ?_ (by (try simp); (try omega)) _) | (refine below_to ?_ HB6.out) | (refine below_to ?_ HB5.out) | (refine below_to ?_ HB4.out) | (refine below_to ?_ HB3.out) | (refine below_to ?_ HB2.out) | (refine below_to ?_ HB1.out)))).mono ?_; rintro e w2 ⟨Ax, cx, rfl, hle2, hF2, hb⟩; dsimp only [planV]; have HB2 := Aside0.mk hb; obtain ⟨qc2, qf2⟩ := bcell hb; have hs2 := hb.size; (try simp at hs2); (try have z02 : w.heap.size < w2.heap.size := (by omega)); (try have z12 : w.heap.size + 1 < w2.heap.size := (by omega)); (try have z22 : w.heap.size + 1 + 1 < w2.heap.size := (by omega)); (try have z32 : w.heap.size + 1 + 1 + 1 < w2.heap.size := (by omega)); (try have z42 : w.heap.size + 1 + 1 + 1 + 1 < w2.heap.size := (by omega)); clear hs2 hb; clear hle2 hF2))
    go_ret
    exact ⟨rfl, (by repeat (first | exact Below.refl _ _ | apply below_alloc | apply pw_below_drewN | apply below_drew1 | apply below_drew | (refine Below.setCell ?_ (by (try simp); (try omega)) _) | (refine below_to ?_ HB6.out) | (refine below_to ?_ HB5.out) | (refine below_to ?_ HB4.out) | (refine below_to ?_ HB3.out) | (refine below_to ?_ HB2.out) | (refine below_to ?_ HB1.out)))⟩
  · obtain ⟨law, hv0, hv1, hvv, MX⟩ := hMM rfl
    simp only at hv1 hvv MX
    subst hvv
    have LAW := Aside0.mk law
    have HMX := Aside0.mk MX
    have VOK := Aside0.mk (law.veh _ (rdVeh_mem p.Vehicles x.Vehicle hv0 hv1))
    have hlen := MX.len
    have hlen2 := MX.made.len
    clear hMM law MX
    go_enter Try.func20, Try.ntmps20
    go_upto_region 6 with (first
      | (go_at_call 62; refine (awake14_any _).mono ?_; skip; rintro e w1 ⟨rfl, hb⟩; have HB1 := Aside0.mk hb; obtain ⟨qc1, qf1⟩ := bcell hb; have hs1 := hb.size; (try simp at hs1); (try have z01 : w.heap.size < w1.heap.size := (by omega)); (try have z11 : w.heap.size + 1 < w1.heap.size := (by omega)); (try have z21 : w.heap.size + 1 + 1 < w1.heap.size := (by omega)); (try have z31 : w.heap.size + 1 + 1 + 1 < w1.heap.size := (by omega)); (try have z41 : w.heap.size + 1 + 1 + 1 + 1 < w1.heap.size := (by omega)); clear hs1 hb; skip)
      | (go_at_call 63; refine (HMD.out _ (by repeat (first | exact Below.refl _ _ | apply below_alloc | apply pw_below_drewN | apply below_drew1 | apply below_drew | (refine Below.setCell ?_ (by (try simp); (try omega)) _) | (refine below_to ?_ HB6.out) | (refine below_to ?_ HB5.out) | (refine below_to ?_ HB4.out) | (refine below_to ?_ HB3.out) | (refine below_to ?_ HB2.out) | (refine below_to ?_ HB1.out)))).mono ?_; rintro e w2 ⟨Ax, cx, rfl, hle2, hF2, hb⟩; dsimp only [planV]; have HB2 := Aside0.mk hb; obtain ⟨qc2, qf2⟩ := bcell hb; have hs2 := hb.size; (try simp at hs2); (try have z02 : w.heap.size < w2.heap.size := (by omega)); (try have z12 : w.heap.size + 1 < w2.heap.size := (by omega)); (try have z22 : w.heap.size + 1 + 1 < w2.heap.size := (by omega)); (try have z32 : w.heap.size + 1 + 1 + 1 < w2.heap.size := (by omega)); (try have z42 : w.heap.size + 1 + 1 + 1 + 1 < w2.heap.size := (by omega)); clear hs2 hb; have HF2 := Aside0.mk hF2; clear hle2 hF2))
    refine gen_wp (fun W => Below w.heap.size w W ∧ W.heap[w.heap.size]? = some (.cells #[.int .i64 p.Dims, .int .i64 p.Time.N, .slice a1 p.Time.Cells.length c1, .int .i64 p.Dist.N, .slice a2 p.Dist.Cells.length c2, .slice a3 p.Vehicles.length c3, .slice a4 p.Jobs.length c4, .slice a5 p.Shipments.length c5] 29 (0, 0)) ∧ W.heap[w2.heap.size]? = some (.cells #[.int .i64 x.Vehicle, .slice Ax x.Steps.length cx, .int .i64 x.Time, .int .i64 x.Dist, .int .i64 x.Wait, .int .i64 x.Service, .int .i64 x.Cost] 74 (0, 0)) ∧ Kd.C kStep W Ax x.Steps.length x.Steps)
      ⟨(by repeat (first | exact Below.refl _ _ | apply below_alloc | apply pw_below_drewN | apply below_drew1 | apply below_drew | (refine Below.setCell ?_ (by (try simp); (try omega)) _) | (refine below_to ?_ HB6.out) | (refine below_to ?_ HB5.out) | (refine below_to ?_ HB4.out) | (refine below_to ?_ HB3.out) | (refine below_to ?_ HB2.out) | (refine below_to ?_ HB1.out))), blk_alloc (blk_below (blk_below (blk_new _ _) HB1.out) HB2.out) _, blk_new _ _, Kd.C_below (Kd.F_now HF2.out) (below_alloc (Below.refl _ _) _)⟩ (fun w3 H3 => ?_)
    clear qc1 qf1 qc2 qf2 HB1 HB2 HF2 HMD
    have hlb := H3.out.2.2.1
    have hpb := H3.out.2.1
    have l0 := blk_cell hlb 0; have l1 := blk_cell hlb 1; have l2 := blk_cell hlb 2; have l3 := blk_cell hlb 3; have l4 := blk_cell hlb 4; have l5 := blk_cell hlb 5; have l6 := blk_cell hlb 6; simp only [List.getElem?_toArray, List.getElem?_cons_succ, List.getElem?_cons_zero] at l0 l1 l2 l3 l4 l5 l6; have hlw := blk_lt hlb
    have p0 := blk_cell hpb 0; have p1 := blk_cell hpb 1; have p2 := blk_cell hpb 2; have p3 := blk_cell hpb 3; have p4 := blk_cell hpb 4; have p5 := blk_cell hpb 5; have p6 := blk_cell hpb 6; have p7 := blk_cell hpb 7; simp only [List.getElem?_toArray, List.getElem?_cons_succ, List.getElem?_cons_zero] at p0 p1 p2 p3 p4 p5 p6 p7; have hpw := blk_lt hpb
    clear hlb hpb
    go_cut [9, 10] (fun s9 s10 wx => ∃ A9 c9 A10 c10, s9 = .slice A9 x.Steps.length c9 ∧ s10 = .slice A10 x.Steps.length c10 ∧ Aside0 (Kd.C (Kd.int .i64) wx A9 x.Steps.length (latestS p (rdVehicle p.Vehicles x.Vehicle) x.Steps)) ∧ Aside0 (Kd.C (Kd.int .i64) wx A10 x.Steps.length (spareS p (rdVehicle p.Vehicles x.Vehicle) x.Steps)) ∧ Aside0 (Below w3.heap.size w3 wx))
    case first =>
      go_region_held3 (fun W' => Below w3.heap.size w3 W' ∧ ∀ a : Addr, a.block < w3.heap.size → W'.cell? a = w3.cell? a) (first | exact hl_start _ | exact hl_of (by repeat (first | with_reducible exact Below.refl _ _ | with_reducible apply below_alloc | with_reducible apply below_drew | with_reducible apply pw_below_drewN | (with_reducible refine Below.setCell ?_ (by first | (simp; done) | (simp; omega) | (dsimp only; omega)) _) | (with_reducible refine below_to ?_ (by assumption)))))
          (first
            | (go_at_call 27; refine (HCP.out _ (below_to H3.out.1 (And.left (show Below w3.heap.size w3 _ ∧ _ from by assumption)))).mono ?_; rintro e w4 ⟨o, rfl, hown, hb⟩; obtain ⟨qcs, qfs⟩ := bcell hb; have HOW := Aside0.mk (hown.ok HL.out.toLens); clear hown) | (go_at_call 66; refine (slackLatest_x o.pv p x Ax cx _ HL.out LAW.out (HOW.out.below (by repeat (first | with_reducible exact Below.refl _ _ | with_reducible apply below_alloc | with_reducible apply below_drew | with_reducible apply pw_below_drewN | (with_reducible refine Below.setCell ?_ (by first | (simp; done) | (simp; omega) | (dsimp only; omega)) _) | (with_reducible refine below_to ?_ (by assumption))))) (Kd.C_below H3.out.2.2.2 (And.left (show Below w3.heap.size w3 _ ∧ _ from by assumption))) hv0 hv1 HMX.out).mono ?_; rintro e w5 ⟨A9, c9, rfl, hle9, hC9, hb⟩; obtain ⟨qct, qft⟩ := bcell hb; have HC9 := Aside0.mk hC9; clear hC9) | (go_at_call 67; refine (slackSpare_x o.pv p x Ax cx _ HL.out LAW.out (HOW.out.below (by repeat (first | with_reducible exact Below.refl _ _ | with_reducible apply below_alloc | with_reducible apply below_drew | with_reducible apply pw_below_drewN | (with_reducible refine Below.setCell ?_ (by first | (simp; done) | (simp; omega) | (dsimp only; omega)) _) | (with_reducible refine below_to ?_ (by assumption))))) (Kd.C_below H3.out.2.2.2 (And.left (show Below w3.heap.size w3 _ ∧ _ from by assumption))) hv0 hv1 HMX.out).mono ?_; rintro e w6 ⟨A10, c10, rfl, hle10, hC10, hb⟩; have HC10 := Aside0.mk hC10; clear hC10))
      all_goals
        go_wp2_with fail
        go_meet
        exact ⟨A9, c9, A10, c10, rfl, rfl, ⟨Kd.C_below HC9.out (by repeat (first | with_reducible exact Below.refl _ _ | with_reducible apply below_alloc | with_reducible apply below_drew | with_reducible apply pw_below_drewN | (with_reducible refine Below.setCell ?_ (by first | (simp; done) | (simp; omega) | (dsimp only; omega)) _) | (with_reducible refine below_to ?_ (by assumption))))⟩, ⟨Kd.C_below HC10.out (by repeat (first | with_reducible exact Below.refl _ _ | with_reducible apply below_alloc | with_reducible apply below_drew | with_reducible apply pw_below_drewN | (with_reducible refine Below.setCell ?_ (by first | (simp; done) | (simp; omega) | (dsimp only; omega)) _) | (with_reducible refine below_to ?_ (by assumption))))⟩, ⟨(And.left (show Below w3.heap.size w3 _ ∧ _ from by assumption))⟩⟩
    case rest =>
      obtain ⟨A9, c9, A10, c10, rfl, rfl, HC9, HC10, HBc⟩ := hcut
      have hlb := blk_below H3.out.2.2.1 HBc.out
      clear p0 p1 p2 p3 p4 p5 p6 p7 hpw l0 l1 l2 l3 l4 l5 l6 hlw
      have l0 := blk_cell hlb 0; have l1 := blk_cell hlb 1; have l2 := blk_cell hlb 2; have l3 := blk_cell hlb 3; have l4 := blk_cell hlb 4; have l5 := blk_cell hlb 5; have l6 := blk_cell hlb 6; simp only [List.getElem?_toArray, List.getElem?_cons_succ, List.getElem?_cons_zero] at l0 l1 l2 l3 l4 l5 l6; have hlw := blk_lt hlb
      clear hlb
      go_wp2
      clear l0 l1 l2 l3 l4 l5 l6 hlw
      go_loopw [51] (fun vi wr => ∃ k : Nat, k ≤ x.Steps.length ∧ vi = .int .i64 k ∧ Aside0 (Below wc.heap.size wc wr)) (fun vi _ => x.Steps.length - (intOf vi).toNat)
      case atStart => exact ⟨0, Nat.zero_le _, rfl, ⟨(by repeat (first | with_reducible exact Below.refl _ _ | with_reducible apply below_alloc | with_reducible apply below_drew | with_reducible apply pw_below_drewN | (with_reducible refine Below.setCell ?_ (by first | (simp; done) | (simp; omega) | (dsimp only; omega)) _) | (with_reducible refine below_to ?_ (by assumption))))⟩⟩
      case round =>
        obtain ⟨k, hk, rfl, HW⟩ := hrel
        have HB3 : Aside0 (Below w3.heap.size w3 wr) := ⟨below_to HBc.out HW.out⟩
        have HB0 : Aside0 (Below w.heap.size w wr) := ⟨below_to H3.out.1 HB3.out⟩
        by_cases hlt : k < x.Steps.length
        · have r0 : (0 : Int) ≤ (k : Int) := by omega
          have r1 : (k : Int) < (x.Steps.length : Int) := by omega
          obtain ⟨f1, f2⟩ := law_latest HMX.out.made k hlt
          have harr := HMX.out.arr _ (List.getElem_mem hlt)
          obtain ⟨g1, g2⟩ := latestS_in LAW.out VOK.out HMX.out k hlt
          have HSA := Aside0.mk (spare_at (p := p) (v := rdVehicle p.Vehicles x.Vehicle) (x := x) k hlt)
          generalize hLk : rd (latestS p (rdVehicle p.Vehicles x.Vehicle) x.Steps) k = L at *
          have HLk := Aside0.mk hLk
          clear hLk
          generalize hax : x.Steps[k].Arrival = ar at *
          have HAX := Aside0.mk hax
          clear hax
          have e2 : IntKind.i64.wrap (L + 1) = L + 1 := IntWalk.i64_in _ (by omega)
          have e3 : IntKind.i64.wrap (L - ar) = L - ar := IntWalk.i64_in _ (by omega)
          have e4 : rd (spareS p (rdVehicle p.Vehicles x.Vehicle) x.Steps) k = L - ar := by rw [HSA.out, IntWalk.wrap64_in _ (by omega)]
          have E4 := Aside0.mk e4
          have d1 : decide (L - ar < 0) = false := decide_eq_false (by omega)
          clear e4 HSA
          obtain ⟨ad9, ea9, y0⟩ := Kd.at_int (Kd.C_below HC9.out HW.out) (k : Int) r0 r1
          subst ea9
          obtain ⟨ad10, ea10, y1⟩ := Kd.at_int (Kd.C_below HC10.out HW.out) (k : Int) r0 r1
          subst ea10
          obtain ⟨ad2, A6, c6, ea2, -, -, -, x3, -⟩ := atNStep (Kd.C_below H3.out.2.2.2 HB3.out) k hlt
          subst ea2
          rw [HAX.out] at x3
          rw [HLk.out] at y0
          rw [E4.out] at y1
          simp only [Int.toNat_natCast] at y0 y1
          have hlb := blk_below H3.out.2.2.1 HB3.out
          have hpb := blk_below H3.out.2.1 HB3.out
          have l0 := blk_cell hlb 0; have l1 := blk_cell hlb 1; have l2 := blk_cell hlb 2; have l3 := blk_cell hlb 3; have l4 := blk_cell hlb 4; have l5 := blk_cell hlb 5; have l6 := blk_cell hlb 6; simp only [List.getElem?_toArray, List.getElem?_cons_succ, List.getElem?_cons_zero] at l0 l1 l2 l3 l4 l5 l6; have hlw := blk_lt hlb
          have p0 := blk_cell hpb 0; have p1 := blk_cell hpb 1; have p2 := blk_cell hpb 2; have p3 := blk_cell hpb 3; have p4 := blk_cell hpb 4; have p5 := blk_cell hpb 5; have p6 := blk_cell hpb 6; have p7 := blk_cell hpb 7; simp only [List.getElem?_toArray, List.getElem?_cons_succ, List.getElem?_cons_zero] at p0 p1 p2 p3 p4 p5 p6 p7; have hpw := blk_lt hpb
          have hb9 := World.block_lt_of_cell? wr _ y0
          have hb10 := World.block_lt_of_cell? wr _ y1
          have hbx : (⟨(ad2.add (k * 9)).block, (ad2.add (k * 9)).off + 3, none⟩ : Addr).block < wr.heap.size := World.block_lt_of_cell? wr _ x3
          have HE := Aside0.mk (fun t h0 h1 W (hb : Below wr.heap.size wr W) => HRE.out x (some ad2) cx W (below_to HB0.out hb) k t hlt h0 h1 LAW.out (Kd.C_below H3.out.2.2.2 (below_to HB3.out hb)) hv0 hv1 HMX.out)
          generalize hEA : endOf (rdVehicle p.Vehicles x.Vehicle) (goR p (rdVehicle p.Vehicles x.Vehicle) (x.Steps.drop k) L) = EA at *
          generalize hEB : endOf (rdVehicle p.Vehicles x.Vehicle) (goR p (rdVehicle p.Vehicles x.Vehicle) (x.Steps.drop k) (L + 1)) = EB at *
          have HEA := Aside0.mk hEA
          have HEB := Aside0.mk hEB
          obtain ⟨ea, eab⟩ := EA
          obtain ⟨eb, ebb⟩ := EB
          simp only at f1 f2
          subst f1 f2
          clear hEA hEB hlb hpb
          go_upto_region 12 with fail
          go_cut [12, 13] (fun s12 s13 wx => s12 = .int .i64 ea ∧ s13 = .bool true ∧ Aside0 (Below wr.heap.size wr wx))
          case first =>
            go_region_held3 (fun W' => Below wr.heap.size wr W' ∧ ∀ a : Addr, a.block < wr.heap.size → W'.cell? a = wr.cell? a) (first | exact hl_start _ | exact hl_of (by repeat (first | with_reducible exact Below.refl _ _ | with_reducible apply below_alloc | with_reducible apply below_drew | with_reducible apply pw_below_drewN | (with_reducible refine Below.setCell ?_ (by first | (simp; done) | (simp; omega) | (dsimp only; omega)) _) | (with_reducible refine below_to ?_ (by assumption)))))
                (first
                  | (go_at_call 65; refine (HE.out L (by omega) (by omega) _ (And.left (show Below wr.heap.size wr _ ∧ _ from by assumption))).mono ?_; rintro e w4 ⟨rfl, hb⟩; rw [HEA.out]; obtain ⟨qcs, qfs⟩ := bcell hb))
            all_goals
              go_wp2_with fail
              go_meet
              exact ⟨rfl, rfl, ⟨(And.left (show Below wr.heap.size wr _ ∧ _ from by assumption))⟩⟩
          case rest =>
            rename_i wd
            obtain ⟨rfl, rfl, HBd⟩ := hcut
            have y0' := pw_cell_below HBd.out y0
            have y1' := pw_cell_below HBd.out y1
            have x3' := pw_cell_below HBd.out x3
            have hlb := blk_below (blk_below H3.out.2.2.1 HB3.out) HBd.out
            have hpb := blk_below (blk_below H3.out.2.1 HB3.out) HBd.out
            have hsz := HBd.out.size
            clear y0 y1 x3 p0 p1 p2 p3 p4 p5 p6 p7 hpw l0 l1 l2 l3 l4 l5 l6 hlw hb9 hb10 hbx
            have l0 := blk_cell hlb 0; have l1 := blk_cell hlb 1; have l2 := blk_cell hlb 2; have l3 := blk_cell hlb 3; have l4 := blk_cell hlb 4; have l5 := blk_cell hlb 5; have l6 := blk_cell hlb 6; simp only [List.getElem?_toArray, List.getElem?_cons_succ, List.getElem?_cons_zero] at l0 l1 l2 l3 l4 l5 l6; have hlw := blk_lt hlb
            have p0 := blk_cell hpb 0; have p1 := blk_cell hpb 1; have p2 := blk_cell hpb 2; have p3 := blk_cell hpb 3; have p4 := blk_cell hpb 4; have p5 := blk_cell hpb 5; have p6 := blk_cell hpb 6; have p7 := blk_cell hpb 7; simp only [List.getElem?_toArray, List.getElem?_cons_succ, List.getElem?_cons_zero] at p0 p1 p2 p3 p4 p5 p6 p7; have hpw := blk_lt hpb
            have hb9 := World.block_lt_of_cell? wc _ y0'
            have hb10 := World.block_lt_of_cell? wc _ y1'
            have hbx : (⟨(ad2.add (k * 9)).block, (ad2.add (k * 9)).off + 3, none⟩ : Addr).block < wc.heap.size := World.block_lt_of_cell? wc _ x3'
            clear hlb hpb hsz
            go_upto_region 13 with fail
            go_cut [14, 15] (fun s14 s15 wx => s14 = .int .i64 eb ∧ s15 = .bool false ∧ Aside0 (Below wc.heap.size wc wx))
            case first =>
              go_region_held3 (fun W' => Below wc.heap.size wc W' ∧ ∀ a : Addr, a.block < wc.heap.size → W'.cell? a = wc.cell? a) (first | exact hl_start _ | exact hl_of (by repeat (first | with_reducible exact Below.refl _ _ | with_reducible apply below_alloc | with_reducible apply below_drew | with_reducible apply pw_below_drewN | (with_reducible refine Below.setCell ?_ (by first | (simp; done) | (simp; omega) | (dsimp only; omega)) _) | (with_reducible refine below_to ?_ (by assumption)))))
                  (first
                    | (go_at_call 65; refine (HE.out (L + 1) (by omega) (by omega) _ (below_to HBd.out (And.left (show Below wc.heap.size wc _ ∧ _ from by assumption)))).mono ?_; rintro e w4 ⟨rfl, hb⟩; rw [HEB.out]; obtain ⟨qcs, qfs⟩ := bcell hb))
              all_goals
                go_wp2_with fail
                go_meet
                exact ⟨rfl, rfl, ⟨(And.left (show Below wc.heap.size wc _ ∧ _ from by assumption))⟩⟩
            case rest =>
              rename_i we
              obtain ⟨rfl, rfl, HBe⟩ := hcut
              have y0 := pw_cell_below HBe.out y0'
              have y1 := pw_cell_below HBe.out y1'
              have x3 := pw_cell_below HBe.out x3'
              have hlb := blk_below (blk_below (blk_below H3.out.2.2.1 HB3.out) HBd.out) HBe.out
              clear y0' y1' x3' p0 p1 p2 p3 p4 p5 p6 p7 hpw l0 l1 l2 l3 l4 l5 l6 hlw hb9 hb10 hbx
              have l0 := blk_cell hlb 0; have l1 := blk_cell hlb 1; have l2 := blk_cell hlb 2; have l3 := blk_cell hlb 3; have l4 := blk_cell hlb 4; have l5 := blk_cell hlb 5; have l6 := blk_cell hlb 6; simp only [List.getElem?_toArray, List.getElem?_cons_succ, List.getElem?_cons_zero] at l0 l1 l2 l3 l4 l5 l6; have hlw := blk_lt hlb
              clear hlb
              go_upto_region 14 with fail
              go_quiet (fail)
              go_wp2
              go_roundw
              case rel => exact ⟨k + 1, by omega, by go_num, ⟨below_to HW.out (below_to HBd.out (below_to HBe.out (by repeat (first | with_reducible exact Below.refl _ _ | with_reducible apply below_alloc | with_reducible apply below_drew | with_reducible apply pw_below_drewN | (with_reducible refine Below.setCell ?_ (by first | (simp; done) | (simp; omega) | (dsimp only; omega)) _) | (with_reducible refine below_to ?_ (by assumption))))))⟩⟩
              case measure => simp [intOf]; omega
        · obtain rfl : k = x.Steps.length := by omega
          go_wp2
          go_ret
          exact ⟨rfl, HB0.out⟩
/-- The same, as the row wants it. -/
theorem slackLatestLaw_row (q : PV) (p : TProblem) (vehicle : Int) (l : List TVisit) (A : Option Addr) (c : Nat)  (w : World) (hg : GProblem p) (hq : q.Ok p w) (_ : (Lit.int .i64 vehicle).wf = true) (hl : l.length ≤ maxLen ∧ l.length * 16 ≤ 140737488351232 ∧ ∀ y ∈ l, GVisit y) (_ : l.length ≤ c) (hr : Kd.C kVisit w A l.length l)  :
    Calls Try.prog 20 #[q.val p, .int .i64 vehicle, .slice A l.length c] w fun e w' => e = .returned (.bool true) ∧ Below w.heap.size w w' :=
  slackLatestLaw_any q p vehicle l A c  w hg hq (by have := hl.1; unfold maxLen at this; omega) hr
end Go.Proofs.Ytemjpgmfignhnaa
