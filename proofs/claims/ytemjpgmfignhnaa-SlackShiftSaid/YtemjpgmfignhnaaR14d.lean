/- Contract: when the plan ends, come to a step at a time. The program's Ends.
Conditions: a lawful problem, a plan of a vehicle that is there, of at least two steps. -/
import Derived.Test.YtemjpgmfignhnaaR14c
namespace Go.Proofs.Ytemjpgmfignhnaa
open Go.RowKit Go.Proofs.YtemjpgmfignhnaaW.PrintWords Go.Proofs.YtemjpgmfignhnaaW.PrintLast Go.Proofs.YtemjpgmfignhnaaW.PrintMore
set_option linter.unusedVariables false
set_option linter.unusedSimpArgs false
attribute [local go_sem] cell_growBy Option.some_or
set_option maxHeartbeats 16000000 in
set_option maxRecDepth 100000 in
theorem slackEnds_any (q : PV) (p : TProblem) (st : List TStep) (xv xt xd xw xs xc : Int) (A : Option Addr) (c : Nat) (i t : Int) (w : World) (hlp : Good p) (law : Law p) (hq : q.Ok p w) (hr : Kd.C kStep w A st.length st) (hv0 : 0 ≤ xv) (hv1 : xv < (p.Vehicles.length : Int)) (h2 : 2 ≤ st.length)
    (hl : st.length ≤ 200) (hbr : ∀ s ∈ st, s.Visit.Kind = 4 → 0 ≤ s.Visit.Item ∧ s.Visit.Item < (rdVehicle p.Vehicles xv).Breaks.length) :
    Calls Try.prog 64 #[q.val p, .agg #[.int .i64 xv, .slice A st.length c, .int .i64 xt, .int .i64 xd, .int .i64 xw, .int .i64 xs, .int .i64 xc], .int .i64 i, .int .i64 t] w
      fun e w' => e = .returned (.tuple #[.int .i64 (endsW p (rdVehicle p.Vehicles xv) st i t).1, .bool (endsW p (rdVehicle p.Vehicles xv) st i t).2]) ∧ Below w.heap.size w w' := by
  have HR := Aside0.mk hr
  have HL := Aside0.mk (fun W (hb : Below w.heap.size w W) => slackLatest_n q p st xv xt xd xw xs xc A c W hlp law (hq.below hb) (Kd.C_below hr hb) hv0 hv1 h2 hl hbr)
  have hll := latestS_len p (rdVehicle p.Vehicles xv) st h2
  have VOK := law.veh _ (rdVeh_mem p.Vehicles xv hv0 hv1)
  have HSS := Aside0.mk (fun (i : Nat) (hi : i < st.length) W (hb : Below w.heap.size w W) => slackStop_any q p st xv xt xd xw xs xc A c i W hlp law (hq.below hb) (Kd.C_below hr hb) hv0 hv1 hi hl (hbr _ (List.getElem_mem hi)))
  have hM1 := Aside0.mk (fun (i j : Int) W (hb : Below w.heap.size w W) => cell_any p.Time q.a1 q.c1 i j W (matOk_of law.mt law.n0 law.n1) (hq.below hb).h1)
  generalize rdVehicle p.Vehicles xv = v at *
  have HOK : Aside0 (∀ s ∈ st, StepOk p v s.Visit) := ⟨fun s hs => stepOk law VOK (hbr s hs)⟩
  have LAW := Aside0.mk law
  have hew : endsW p v st i t = if i < 0 ∨ (st.length : Int) ≤ i ∨ rd (latestS p v st) i < t then (0, false) else
      if i = 0 then (goQ p v (st.drop 1) (wrap64 (t + cellS p.Time (st.getD 0 zStep).Place (st.getD 1 zStep).Place)), true)
      else (goQ p v (st.drop i.toNat) t, true) := rfl
  generalize endsW p v st i t = EE at *
  generalize latestS p v st = LL at *
  obtain ⟨ad, _, _, ea, -⟩ := atNStep hr 0 (by omega)
  subst ea
  obtain ⟨a1, c1, a2, c2, a3, c3, a4, c4, a5, c5⟩ := q
  clear hq hlp law hr hbr hv0 hv1 VOK hll
  unfold PV.val at HL HSS ⊢
  by_cases hi0 : i < 0
  · rw [if_pos (.inl hi0)] at hew
    subst hew
    have d0 : decide (i < 0) = true := decide_eq_true hi0
    clear hi0
    go_enter Try.func64, Try.ntmps64
    go_wp2_with (go_at_call 66; refine (HL.out _ (by repeat (first | exact Below.refl _ _ | apply below_alloc | apply pw_below_drewN | apply below_drew1 | apply below_drew | (refine Below.setCell ?_ (by (try simp); (try omega)) _) | (refine below_to ?_ HB6.out) | (refine below_to ?_ HB5.out) | (refine below_to ?_ HB4.out) | (refine below_to ?_ HB3.out) | (refine below_to ?_ HB2.out) | (refine below_to ?_ HB1.out)))).mono ?_; rintro e w1 ⟨A1, k1, rfl, hle1, hC1, hb⟩; have HB1 := Aside0.mk (show Below w.heap.size w w1 from below_to (by repeat (first | exact Below.refl _ _ | apply below_alloc | apply pw_below_drewN | apply below_drew1 | apply below_drew | (refine Below.setCell ?_ (by (try simp); (try omega)) _) | (refine below_to ?_ HB6.out) | (refine below_to ?_ HB5.out) | (refine below_to ?_ HB4.out) | (refine below_to ?_ HB3.out) | (refine below_to ?_ HB2.out) | (refine below_to ?_ HB1.out))) hb); clear hb hC1 hle1)
    go_ret2
    exact ⟨rfl, HB1.out⟩
  have d0 : decide (i < 0) = false := decide_eq_false hi0
  by_cases hi1 : (st.length : Int) ≤ i
  · rw [if_pos (.inr (.inl hi1))] at hew
    subst hew
    have d1 : decide ((st.length : Int) ≤ i) = true := decide_eq_true hi1
    clear hi0 hi1
    go_enter Try.func64, Try.ntmps64
    go_wp2_with (go_at_call 66; refine (HL.out _ (by repeat (first | exact Below.refl _ _ | apply below_alloc | apply pw_below_drewN | apply below_drew1 | apply below_drew | (refine Below.setCell ?_ (by (try simp); (try omega)) _) | (refine below_to ?_ HB6.out) | (refine below_to ?_ HB5.out) | (refine below_to ?_ HB4.out) | (refine below_to ?_ HB3.out) | (refine below_to ?_ HB2.out) | (refine below_to ?_ HB1.out)))).mono ?_; rintro e w1 ⟨A1, k1, rfl, hle1, hC1, hb⟩; have HB1 := Aside0.mk (show Below w.heap.size w w1 from below_to (by repeat (first | exact Below.refl _ _ | apply below_alloc | apply pw_below_drewN | apply below_drew1 | apply below_drew | (refine Below.setCell ?_ (by (try simp); (try omega)) _) | (refine below_to ?_ HB6.out) | (refine below_to ?_ HB5.out) | (refine below_to ?_ HB4.out) | (refine below_to ?_ HB3.out) | (refine below_to ?_ HB2.out) | (refine below_to ?_ HB1.out))) hb); clear hb hC1 hle1)
    go_ret2
    exact ⟨rfl, HB1.out⟩
  have d1 : decide ((st.length : Int) ≤ i) = false := decide_eq_false hi1
  have r0 : 0 ≤ i := by omega
  have r1 : i < (st.length : Int) := by omega
  by_cases hi2 : rd LL i < t
  · rw [if_pos (.inr (.inr hi2))] at hew
    subst hew
    have d2 : decide (rd LL i < t) = true := decide_eq_true hi2
    clear hi0 hi1 hi2
    go_enter Try.func64, Try.ntmps64
    go_wp2_with (go_at_call 66; refine (HL.out _ (by repeat (first | exact Below.refl _ _ | apply below_alloc | apply pw_below_drewN | apply below_drew1 | apply below_drew | (refine Below.setCell ?_ (by (try simp); (try omega)) _) | (refine below_to ?_ HB6.out) | (refine below_to ?_ HB5.out) | (refine below_to ?_ HB4.out) | (refine below_to ?_ HB3.out) | (refine below_to ?_ HB2.out) | (refine below_to ?_ HB1.out)))).mono ?_; rintro e w1 ⟨A1, k1, rfl, hle1, hC1, hb⟩; obtain ⟨ad1, ea1, y0⟩ := Kd.at_int hC1 i (by omega) (by omega); subst ea1; have HB1 := Aside0.mk (show Below w.heap.size w w1 from below_to (by repeat (first | exact Below.refl _ _ | apply below_alloc | apply pw_below_drewN | apply below_drew1 | apply below_drew | (refine Below.setCell ?_ (by (try simp); (try omega)) _) | (refine below_to ?_ HB6.out) | (refine below_to ?_ HB5.out) | (refine below_to ?_ HB4.out) | (refine below_to ?_ HB3.out) | (refine below_to ?_ HB2.out) | (refine below_to ?_ HB1.out))) hb); clear hb hC1 hle1)
    go_ret2
    exact ⟨rfl, HB1.out⟩
  have d2 : decide (rd LL i < t) = false := decide_eq_false hi2
  rw [if_neg (by rintro (h | h | h); exact hi0 h; exact hi1 h; exact hi2 h)] at hew
  have HEW := Aside0.mk hew
  clear hew hi0 hi1 hi2
  go_enter Try.func64, Try.ntmps64
  go_wp2_with (go_at_call 66; refine (HL.out _ (by repeat (first | exact Below.refl _ _ | apply below_alloc | apply pw_below_drewN | apply below_drew1 | apply below_drew | (refine Below.setCell ?_ (by (try simp); (try omega)) _) | (refine below_to ?_ HB6.out) | (refine below_to ?_ HB5.out) | (refine below_to ?_ HB4.out) | (refine below_to ?_ HB3.out) | (refine below_to ?_ HB2.out) | (refine below_to ?_ HB1.out)))).mono ?_; rintro e w1 ⟨A1, k1, rfl, hle1, hC1, hb⟩; obtain ⟨ad1, ea1, y0⟩ := Kd.at_int hC1 i (by omega) (by omega); subst ea1; have hpb := blk_below (blk_alloc (blk_new w (.cells #[.int .i64 p.Dims, .int .i64 p.Time.N, .slice a1 p.Time.Cells.length c1, .int .i64 p.Dist.N, .slice a2 p.Dist.Cells.length c2, .slice a3 p.Vehicles.length c3, .slice a4 p.Jobs.length c4, .slice a5 p.Shipments.length c5] 29)) _) hb; have hlb := blk_below (blk_is (W := w.alloc (.cells #[.int .i64 p.Dims, .int .i64 p.Time.N, .slice a1 p.Time.Cells.length c1, .int .i64 p.Dist.N, .slice a2 p.Dist.Cells.length c2, .slice a3 p.Vehicles.length c3, .slice a4 p.Jobs.length c4, .slice a5 p.Shipments.length c5] 29)) (o := (.cells #[.int .i64 xv, .slice (some ad) st.length c, .int .i64 xt, .int .i64 xd, .int .i64 xw, .int .i64 xs, .int .i64 xc] 74)) (n := w.heap.size + 1) (by simp)) hb; have HPB := Aside0.mk hpb; have HLB := Aside0.mk hlb; have HB1 := Aside0.mk (show Below w.heap.size w w1 from below_to (by repeat (first | exact Below.refl _ _ | apply below_alloc | apply pw_below_drewN | apply below_drew1 | apply below_drew | (refine Below.setCell ?_ (by (try simp); (try omega)) _) | (refine below_to ?_ HB6.out) | (refine below_to ?_ HB5.out) | (refine below_to ?_ HB4.out) | (refine below_to ?_ HB3.out) | (refine below_to ?_ HB2.out) | (refine below_to ?_ HB1.out))) hb); clear hb hC1 hle1 hpb hlb)
  clear d0 d1 d2 y0 HL
  go_loopw [2, 3] (fun vi vt wr => ∃ (k : Nat) (t' : Int), k < st.length ∧ vi = .int .i64 k ∧ vt = .int .i64 t' ∧ Aside0 ((if k = 0 then goQ p v (st.drop 1) (wrap64 (t' + cellS p.Time (st.getD 0 zStep).Place (st.getD 1 zStep).Place)) else goQ p v (st.drop k) t') = EE.1 ∧ EE.2 = true) ∧ Aside0 (Below w1.heap.size w1 wr)) (fun vi _ _ => st.length - (intOf vi).toNat)
  case atStart => exact ⟨i.toNat, t, by omega, by rw [Int.toNat_of_nonneg r0], rfl, ⟨by
    rw [HEW.out]
    by_cases h0 : i = 0
    · subst h0
      exact ⟨rfl, rfl⟩
    · rw [if_neg (by omega), if_neg h0]
      exact ⟨rfl, rfl⟩⟩, ⟨Below.refl _ _⟩⟩
  case round =>
    obtain ⟨k, t', hk, rfl, rfl, HG, HW⟩ := hrel
    have HBw : Aside0 (Below w.heap.size w wr) := ⟨below_to HB1.out HW.out⟩
    have e1 : IntKind.i64.wrap ((st.length : Int) - 1) = (st.length : Int) - 1 := IntWalk.i64_in _ (by omega)
    clear r0 r1 HEW
    by_cases hkl : k + 1 < st.length
    · have d3 : decide ((k : Int) < (st.length : Int) - 1) = true := decide_eq_true (by omega)
      have hct := LAW.out.time st[k].Place st[k + 1].Place
      have hpb := blk_below HPB.out HW.out
      have hlb := blk_below HLB.out HW.out
      have p0 := blk_cell hpb 0; have p1 := blk_cell hpb 1; have p2 := blk_cell hpb 2; have p3 := blk_cell hpb 3; have p4 := blk_cell hpb 4; have p5 := blk_cell hpb 5; have p6 := blk_cell hpb 6; have p7 := blk_cell hpb 7; simp only [List.getElem?_toArray, List.getElem?_cons_succ, List.getElem?_cons_zero] at p0 p1 p2 p3 p4 p5 p6 p7; have hpw := blk_lt hpb
      have l0 := blk_cell hlb 0; have l1 := blk_cell hlb 1; have l2 := blk_cell hlb 2; have l3 := blk_cell hlb 3; have l4 := blk_cell hlb 4; have l5 := blk_cell hlb 5; have l6 := blk_cell hlb 6; simp only [List.getElem?_toArray, List.getElem?_cons_succ, List.getElem?_cons_zero] at l0 l1 l2 l3 l4 l5 l6; have hlw := blk_lt hlb
      clear hpb hlb
      go_upto_if 41 with fail
      go_cut [3] (fun s3 wx => ∃ t2 : Int, s3 = .int .i64 t2 ∧ Aside0 (goQ p v (st.drop (k + 1)) (wrap64 (t2 + cellS p.Time st[k].Place st[k + 1].Place)) = EE.1) ∧ Aside0 (Below wr.heap.size wr wx))
      case first =>
        by_cases hk0 : k = 0
        · subst hk0
          have hN : goQ p v (st.drop (0 + 1)) (wrap64 (t' + cellS p.Time st[0].Place st[0 + 1].Place)) = EE.1 := by
            have h := HG.out.1
            rw [if_pos rfl] at h
            rw [← h]
            simp [List.getElem?_eq_getElem (show 0 < st.length by omega), List.getElem?_eq_getElem (show 1 < st.length by omega)]
          have HN := Aside0.mk hN
          clear hN HG
          go_wp2_with fail
          go_meet
          exact ⟨t', rfl, HN, ⟨Below.refl _ _⟩⟩
        · have hSO := HOK.out _ (List.getElem_mem (show k < st.length by omega))
          have hin := startS_in hSO.win t'
          have hser := hSO.ser
          have hwn : (stopE p v st[k].Visit).1.Windows.length ≤ 4 := by
            rcases hSO.win with h | h
            · exact h.len
            · rw [h]; decide
          have d4 : decide (0 < (k : Int)) = true := decide_eq_true (by omega)
          have hN : goQ p v (st.drop (k + 1)) (wrap64 ((startS t' (stopE p v st[k].Visit).1.Windows).1 + (stopE p v st[k].Visit).1.Service + cellS p.Time st[k].Place st[k + 1].Place)) = EE.1 := by
            have h := HG.out.1
            rw [if_neg hk0, goQ_at p v st k hkl] at h
            rw [IntWalk.wrap64_in _ (by omega)]
            exact h
          have HN := Aside0.mk hN
          have HSI := Aside0.mk (fun W hb => HSS.out k (by omega) W hb)
          clear hN HG hSO
          generalize (stopE p v st[k].Visit).1 = sE at *
          have e6 : IntKind.i64.wrap ((startS t' sE.Windows).1 + sE.Service) = (startS t' sE.Windows).1 + sE.Service := IntWalk.i64_in _ (by omega)
          go_wp2_with (first
            | (go_at_call 108; refine (HSI.out _ HBw.out).mono ?_; rintro e w5 ⟨A5, k5, rfl, hle5, hC5, hb5⟩; obtain ⟨qc5, qf5⟩ := bcell hb5; have hs5 := hb5.size)
            | (go_at_call 109; refine (start_any sE.Windows A5 k5 _ _ (Kd.C_below hC5 (by repeat (first | with_reducible exact Below.refl _ _ | with_reducible apply below_alloc | with_reducible apply below_drew | with_reducible apply pw_below_drewN | (with_reducible refine Below.setCell ?_ (by first | (simp; done) | (simp; omega) | (dsimp only; omega)) _) | (with_reducible refine below_to ?_ (by assumption))))) (by omega)).mono ?_; rintro e w6 ⟨rfl, hb6⟩; have hB6 : Below wr.heap.size wr w6 := (by repeat (first | with_reducible exact Below.refl _ _ | with_reducible apply below_alloc | with_reducible apply below_drew | with_reducible apply pw_below_drewN | (with_reducible refine Below.setCell ?_ (by first | (simp; done) | (simp; omega) | (dsimp only; omega)) _) | (with_reducible refine below_to ?_ (by assumption)))); have HB6 := Aside0.mk hB6; obtain ⟨qc6, qf6⟩ := bcell hb6; clear hB6 hb6))
          go_meet
          exact ⟨(startS t' sE.Windows).1 + sE.Service, rfl, HN, HB6⟩
      case rest =>
        obtain ⟨t2, rfl, HN, HBc⟩ := hcut
        have HBwc : Aside0 (Below w.heap.size w wc) := ⟨below_to HBw.out HBc.out⟩
        clear p0 p1 p2 p3 p4 p5 p6 p7 hpw l0 l1 l2 l3 l4 l5 l6 hlw d3
        have hpb := blk_below (blk_below HPB.out HW.out) HBc.out
        have hlb := blk_below (blk_below HLB.out HW.out) HBc.out
        have p0 := blk_cell hpb 0; have p1 := blk_cell hpb 1; have p2 := blk_cell hpb 2; have p3 := blk_cell hpb 3; have p4 := blk_cell hpb 4; have p5 := blk_cell hpb 5; have p6 := blk_cell hpb 6; have p7 := blk_cell hpb 7; simp only [List.getElem?_toArray, List.getElem?_cons_succ, List.getElem?_cons_zero] at p0 p1 p2 p3 p4 p5 p6 p7; have hpw := blk_lt hpb
        have l0 := blk_cell hlb 0; have l1 := blk_cell hlb 1; have l2 := blk_cell hlb 2; have l3 := blk_cell hlb 3; have l4 := blk_cell hlb 4; have l5 := blk_cell hlb 5; have l6 := blk_cell hlb 6; simp only [List.getElem?_toArray, List.getElem?_cons_succ, List.getElem?_cons_zero] at l0 l1 l2 l3 l4 l5 l6; have hlw := blk_lt hlb
        obtain ⟨ad1, _, _, ea1, -, -, x2, -⟩ := atNStep (Kd.C_below HR.out HBwc.out) k hk
        obtain rfl := Option.some.inj ea1
        obtain ⟨ad1, _, _, ea2, -, -, y2, -⟩ := atNStep (Kd.C_below HR.out HBwc.out) (k + 1) hkl
        obtain rfl := Option.some.inj ea2
        have hba := World.block_lt_of_cell? _ _ x2
        have hbb := World.block_lt_of_cell? _ _ y2
        have r0 : (0 : Int) ≤ (k : Int) := by omega
        have r1 : (k : Int) < (st.length : Int) := by omega
        have r2 : (0 : Int) ≤ (k : Int) + 1 := by omega
        have r3 : (k : Int) + 1 < (st.length : Int) := by omega
        have e4 : IntKind.i64.wrap ((k : Int) + 1) = (k : Int) + 1 := IntWalk.i64_in _ (by omega)
        clear hpb hlb ea1 ea2
        go_upto_region 10 with fail
        go_region_held3 (fun W' => Below wc.heap.size wc W' ∧ ∀ a : Addr, a.block < wc.heap.size → W'.cell? a = wc.cell? a) (first | exact hl_start _ | exact hl_of (by repeat (first | exact Below.refl _ _ | apply below_alloc | apply below_drew | (refine Below.setCell ?_ (by first | (simp; done) | (simp; omega) | (dsimp only; omega)) _) | (refine below_to ?_ (by assumption)))))
            (first
              | (go_at_call 30; with_reducible refine (hM1.out st[k].Place st[k + 1].Place _ (below_to HBwc.out (And.left (show Below wc.heap.size wc _ ∧ _ from by assumption)))).mono ?_; rintro e w4 ⟨rfl, hb⟩; obtain ⟨qcs, qfs⟩ := bcell hb))
        all_goals
          go_wp2_with fail
          go_roundw
          case rel => exact ⟨k + 1, _, hkl, by go_num, rfl, ⟨by rw [if_neg (by omega), IntWalk.i64_left]; exact ⟨HN.out, HG.out.2⟩⟩, ⟨below_to (below_to HW.out HBc.out) (And.left (show Below wc.heap.size wc _ ∧ _ from by assumption))⟩⟩
          case measure => simp [intOf]; omega
    · have d3 : decide ((k : Int) < (st.length : Int) - 1) = false := decide_eq_false (by omega)
      have hfin : goQ p v (st.drop k) t' = EE.1 := by
        have h := HG.out.1
        rwa [if_neg (by omega)] at h
      rw [goQ_last p v st k (by omega)] at hfin
      have HF := Aside0.mk hfin
      have HE2 := Aside0.mk HG.out.2
      clear HG hfin
      go_wp2
      go_ret2
      exact ⟨by rw [← HF.out, HE2.out]; rfl, HBw.out⟩
end Go.Proofs.Ytemjpgmfignhnaa
