/- The walk of SlackEnds: it answers true.
Conditions: lists no longer than memory allows. -/
import Derived.Test.YtemjpgmfignhnaaAW14
import Derived.Test.YtemjpgmfignhnaaP14d
import Derived.Test.YtemjpgmfignhnaaCp
import Derived.Test.YtemjpgmfignhnaaGoodOf
namespace Go.Proofs.Ytemjpgmfignhnaa
open Go.RowKit Go.Proofs.YtemjpgmfignhnaaW.PrintWords Go.Proofs.YtemjpgmfignhnaaW.PrintLast Go.Proofs.YtemjpgmfignhnaaW.PrintMore
set_option linter.unusedVariables false
set_option linter.unusedSimpArgs false
attribute [local go_sem] cell_growBy Option.some_or
set_option maxHeartbeats 16000000 in
set_option maxRecDepth 100000 in
theorem slackEndsLaw_any (q : PV) (p : TProblem) (vehicle : Int) (l : List TVisit) (A : Option Addr) (c : Nat) (i t : Int) (w : World) (hg : GProblem p) (hq : q.Ok p w) (hl : l.length ≤ 4611686018427387904) (hr : Kd.C kVisit w A l.length l) :
    Calls Try.prog 17 #[q.val p, .int .i64 vehicle, .slice A l.length c, .agg #[.int .i64 i, .int .i64 t]] w fun e w' => e = .returned (.bool true) ∧ Below w.heap.size w w' := by
  have HL := Aside0.mk (good_of hg)
  have HMD := Aside0.mk (fun W (hb : Below w.heap.size w W) => made_any q p vehicle l A c W HL.out (hq.below hb) (Kd.C_below hr hb) hl)
  have HCP := Aside0.mk (fun W (hb : Below w.heap.size w W) => copied_any q p W (hq.below hb) hg)
  have HRE := Aside0.mk (fun (x : TPlan) (A : Option Addr) (c : Nat) W (hb : Below w.heap.size w W) (i : Nat) (t : Int) hi ht0 ht1 law hr hv0 hv1 hx => refEnds_x q p x A c W i t hi ht0 ht1 HL.out law (hq.below hb) hr hv0 hv1 hx)
  have hMM := @made_ok p vehicle l
  generalize madeS p vehicle l = r at *
  obtain ⟨x, b⟩ := r
  obtain ⟨a1, c1, a2, c2, a3, c3, a4, c4, a5, c5⟩ := q
  clear hg hq hr
  unfold PV.val at HMD HCP HRE ⊢
  cases b
  · clear hMM HCP HRE
    go_enter Try.func17, Try.ntmps17
    go_wp2_with (first
      | (go_at_call 62; refine (awake14_any _).mono ?_; skip; rintro e w1 ⟨rfl, hb⟩; have HB1 := Aside0.mk hb; obtain ⟨qc1, qf1⟩ := bcell hb; have hs1 := hb.size; (try simp at hs1); (try have z01 : w.heap.size < w1.heap.size := (by omega)); (try have z11 : w.heap.size + 1 < w1.heap.size := (by omega)); (try have z21 : w.heap.size + 1 + 1 < w1.heap.size := (by omega)); (try have z31 : w.heap.size + 1 + 1 + 1 < w1.heap.size := (by omega)); (try have z41 : w.heap.size + 1 + 1 + 1 + 1 < w1.heap.size := (by omega)); clear hs1 hb; skip)
      | (go_at_call 63; refine (HMD.out _ (by repeat (first | exact Below.refl _ _ | apply below_alloc | apply pw_below_drewN | apply below_drew1 | apply below_drew | (refine Below.setCell ?_ (by (try simp); (try omega)) _) | (refine below_to ?_ HB6.out) | (refine below_to ?_ HB5.out) | (refine below_to ?_ HB4.out) | (refine below_to ?_ HB3.out) | (refine below_to ?_ HB2.out) | (refine below_to ?_ HB1.out)))).mono ?_; rintro e w2 ⟨Ax, cx, rfl, hle2, hF2, hb⟩; dsimp only [planV]; have HB2 := Aside0.mk hb; obtain ⟨qc2, qf2⟩ := bcell hb; have hs2 := hb.size; (try simp at hs2); (try have z02 : w.heap.size < w2.heap.size := (by omega)); (try have z12 : w.heap.size + 1 < w2.heap.size := (by omega)); (try have z22 : w.heap.size + 1 + 1 < w2.heap.size := (by omega)); (try have z32 : w.heap.size + 1 + 1 + 1 < w2.heap.size := (by omega)); (try have z42 : w.heap.size + 1 + 1 + 1 + 1 < w2.heap.size := (by omega)); clear hs2 hb; clear hle2 hF2))
    go_ret
    exact ⟨rfl, (by repeat (first | exact Below.refl _ _ | apply below_alloc | apply pw_below_drewN | apply below_drew1 | apply below_drew | (refine Below.setCell ?_ (by (try simp); (try omega)) _) | (refine below_to ?_ HB6.out) | (refine below_to ?_ HB5.out) | (refine below_to ?_ HB4.out) | (refine below_to ?_ HB3.out) | (refine below_to ?_ HB2.out) | (refine below_to ?_ HB1.out)))⟩
  · obtain ⟨law, hv0, hv1, hvv, MX⟩ := hMM rfl
    simp only at hv1 hvv MX
    subst hvv
    have LAW := Aside0.mk law
    have HMX := Aside0.mk MX
    clear hMM law MX
    go_enter Try.func17, Try.ntmps17
    go_upto_region 6 with (first
      | (go_at_call 62; refine (awake14_any _).mono ?_; skip; rintro e w1 ⟨rfl, hb⟩; have HB1 := Aside0.mk hb; obtain ⟨qc1, qf1⟩ := bcell hb; have hs1 := hb.size; (try simp at hs1); (try have z01 : w.heap.size < w1.heap.size := (by omega)); (try have z11 : w.heap.size + 1 < w1.heap.size := (by omega)); (try have z21 : w.heap.size + 1 + 1 < w1.heap.size := (by omega)); (try have z31 : w.heap.size + 1 + 1 + 1 < w1.heap.size := (by omega)); (try have z41 : w.heap.size + 1 + 1 + 1 + 1 < w1.heap.size := (by omega)); clear hs1 hb; skip)
      | (go_at_call 63; refine (HMD.out _ (by repeat (first | exact Below.refl _ _ | apply below_alloc | apply pw_below_drewN | apply below_drew1 | apply below_drew | (refine Below.setCell ?_ (by (try simp); (try omega)) _) | (refine below_to ?_ HB6.out) | (refine below_to ?_ HB5.out) | (refine below_to ?_ HB4.out) | (refine below_to ?_ HB3.out) | (refine below_to ?_ HB2.out) | (refine below_to ?_ HB1.out)))).mono ?_; rintro e w2 ⟨Ax, cx, rfl, hle2, hF2, hb⟩; dsimp only [planV]; have HB2 := Aside0.mk hb; obtain ⟨qc2, qf2⟩ := bcell hb; have hs2 := hb.size; (try simp at hs2); (try have z02 : w.heap.size < w2.heap.size := (by omega)); (try have z12 : w.heap.size + 1 < w2.heap.size := (by omega)); (try have z22 : w.heap.size + 1 + 1 < w2.heap.size := (by omega)); (try have z32 : w.heap.size + 1 + 1 + 1 < w2.heap.size := (by omega)); (try have z42 : w.heap.size + 1 + 1 + 1 + 1 < w2.heap.size := (by omega)); clear hs2 hb; have HF2 := Aside0.mk hF2; clear hle2 hF2))
    refine gen_wp (fun W => Below w.heap.size w W ∧ W.heap[w.heap.size]? = some (.cells #[.int .i64 p.Dims, .int .i64 p.Time.N, .slice a1 p.Time.Cells.length c1, .int .i64 p.Dist.N, .slice a2 p.Dist.Cells.length c2, .slice a3 p.Vehicles.length c3, .slice a4 p.Jobs.length c4, .slice a5 p.Shipments.length c5] 29 (0, 0)) ∧ W.heap[w.heap.size + 1]? = some (.cells #[.int .i64 i, .int .i64 t] 96 (0, 0)) ∧ W.heap[w2.heap.size]? = some (.cells #[.int .i64 x.Vehicle, .slice Ax x.Steps.length cx, .int .i64 x.Time, .int .i64 x.Dist, .int .i64 x.Wait, .int .i64 x.Service, .int .i64 x.Cost] 74 (0, 0)) ∧ Kd.C kStep W Ax x.Steps.length x.Steps)
      ⟨(by repeat (first | exact Below.refl _ _ | apply below_alloc | apply pw_below_drewN | apply below_drew1 | apply below_drew | (refine Below.setCell ?_ (by (try simp); (try omega)) _) | (refine below_to ?_ HB6.out) | (refine below_to ?_ HB5.out) | (refine below_to ?_ HB4.out) | (refine below_to ?_ HB3.out) | (refine below_to ?_ HB2.out) | (refine below_to ?_ HB1.out))), blk_alloc (blk_below (blk_below (blk_alloc (blk_new _ _) _) HB1.out) HB2.out) _, blk_alloc (blk_below (blk_below (blk_is (n := w.heap.size + 1) (by simp)) HB1.out) HB2.out) _, blk_new _ _, Kd.C_below (Kd.F_now HF2.out) (below_alloc (Below.refl _ _) _)⟩ (fun w3 H3 => ?_)
    clear qc1 qf1 qc2 qf2 HB1 HB2 HF2 HMD z01 z11 z02 z12
    have hpb := H3.out.2.1
    have hab := H3.out.2.2.1
    have hlb := H3.out.2.2.2.1
    have p0 := blk_cell hpb 0; have p1 := blk_cell hpb 1; have p2 := blk_cell hpb 2; have p3 := blk_cell hpb 3; have p4 := blk_cell hpb 4; have p5 := blk_cell hpb 5; have p6 := blk_cell hpb 6; have p7 := blk_cell hpb 7; simp only [List.getElem?_toArray, List.getElem?_cons_succ, List.getElem?_cons_zero] at p0 p1 p2 p3 p4 p5 p6 p7; have hpw := blk_lt hpb
    have i0 := blk_cell hab 0; have i1 := blk_cell hab 1; simp only [List.getElem?_toArray, List.getElem?_cons_succ, List.getElem?_cons_zero] at i0 i1; have hiw := blk_lt hab
    have l0 := blk_cell hlb 0; have l1 := blk_cell hlb 1; have l2 := blk_cell hlb 2; have l3 := blk_cell hlb 3; have l4 := blk_cell hlb 4; have l5 := blk_cell hlb 5; have l6 := blk_cell hlb 6; simp only [List.getElem?_toArray, List.getElem?_cons_succ, List.getElem?_cons_zero] at l0 l1 l2 l3 l4 l5 l6; have hlw := blk_lt hlb
    clear hpb hab hlb
    go_quiet (fail)
    go_upto_region 7 with fail
    have HEE := Aside0.mk (fun (k : Nat) hk t h0 h1 => law_ends LAW.out HMX.out.made k hk t h0 h1)
    have hE0 : i < 0 ∨ (x.Steps.length : Int) ≤ i → endsW p (rdVehicle p.Vehicles x.Vehicle) x.Steps i t = (0, false) := fun h => by
      unfold endsW
      rw [if_pos (by rcases h with h | h; exact .inl h; exact .inr (.inl h))]
    have HE0 := Aside0.mk hE0
    clear hE0
    go_cut [13, 14] (fun s13 s14 wx => s13 = .int .i64 (endsW p (rdVehicle p.Vehicles x.Vehicle) x.Steps i t).1 ∧ s14 = .bool (endsW p (rdVehicle p.Vehicles x.Vehicle) x.Steps i t).2 ∧ Aside0 (Below w3.heap.size w3 wx))
    case first =>
      go_region_held3 (fun W' => Below w3.heap.size w3 W' ∧ ∀ a : Addr, a.block < w3.heap.size → W'.cell? a = w3.cell? a) (first | exact hl_start _ | exact hl_of (by repeat (first | with_reducible exact Below.refl _ _ | with_reducible apply below_alloc | with_reducible apply below_drew | with_reducible apply pw_below_drewN | (with_reducible refine Below.setCell ?_ (by first | (simp; done) | (simp; omega) | (dsimp only; omega)) _) | (with_reducible refine below_to ?_ (by assumption)))))
          (first
            | (go_at_call 27; refine (HCP.out _ (below_to H3.out.1 (And.left (show Below w3.heap.size w3 _ ∧ _ from by assumption)))).mono ?_; rintro e w4 ⟨o, rfl, hown, hb⟩; obtain ⟨qcs, qfs⟩ := bcell hb; have HOW := Aside0.mk (hown.ok HL.out.toLens); clear hown) | (go_at_call 64; refine (slackEnds_x o.pv p x Ax cx _ i t HL.out LAW.out (HOW.out.below (by repeat (first | with_reducible exact Below.refl _ _ | with_reducible apply below_alloc | with_reducible apply below_drew | with_reducible apply pw_below_drewN | (with_reducible refine Below.setCell ?_ (by first | (simp; done) | (simp; omega) | (dsimp only; omega)) _) | (with_reducible refine below_to ?_ (by assumption))))) (Kd.C_below H3.out.2.2.2.2 (And.left (show Below w3.heap.size w3 _ ∧ _ from by assumption))) hv0 hv1 HMX.out).mono ?_; rintro e w5 ⟨rfl, hb⟩))
      all_goals
        go_wp2_with fail
        go_meet
        exact ⟨rfl, rfl, ⟨(And.left (show Below w3.heap.size w3 _ ∧ _ from by assumption))⟩⟩
    case rest =>
      obtain ⟨rfl, rfl, HBc⟩ := hcut
      have hlb := blk_below H3.out.2.2.2.1 HBc.out
      have hpb := blk_below H3.out.2.1 HBc.out
      clear p0 p1 p2 p3 p4 p5 p6 p7 hpw i0 i1 hiw l0 l1 l2 l3 l4 l5 l6 hlw
      have l0 := blk_cell hlb 0; have l1 := blk_cell hlb 1; have l2 := blk_cell hlb 2; have l3 := blk_cell hlb 3; have l4 := blk_cell hlb 4; have l5 := blk_cell hlb 5; have l6 := blk_cell hlb 6; simp only [List.getElem?_toArray, List.getElem?_cons_succ, List.getElem?_cons_zero] at l0 l1 l2 l3 l4 l5 l6; have hlw := blk_lt hlb
      have p0 := blk_cell hpb 0; have p1 := blk_cell hpb 1; have p2 := blk_cell hpb 2; have p3 := blk_cell hpb 3; have p4 := blk_cell hpb 4; have p5 := blk_cell hpb 5; have p6 := blk_cell hpb 6; have p7 := blk_cell hpb 7; simp only [List.getElem?_toArray, List.getElem?_cons_succ, List.getElem?_cons_zero] at p0 p1 p2 p3 p4 p5 p6 p7; have hpw := blk_lt hpb
      clear hlb hpb
      by_cases hi : i < 0
      · rw [HE0.out (.inl hi)]
        have d0 : decide (i < 0) = true := decide_eq_true hi
        clear hi HEE HE0
        go_wp2
        go_ret
        exact ⟨rfl, below_to H3.out.1 HBc.out⟩
      have d0 : decide (i < 0) = false := decide_eq_false hi
      by_cases hi2 : (x.Steps.length : Int) ≤ i
      · rw [HE0.out (.inr hi2)]
        have d1 : decide ((x.Steps.length : Int) ≤ i) = true := decide_eq_true hi2
        clear hi hi2 HEE HE0
        go_wp2
        go_ret
        exact ⟨rfl, below_to H3.out.1 HBc.out⟩
      have d1 : decide ((x.Steps.length : Int) ≤ i) = false := decide_eq_false hi2
      obtain ⟨k, rfl⟩ := Int.eq_ofNat_of_zero_le (Int.not_lt.1 hi)
      have hk : k < x.Steps.length := by omega
      clear hi hi2 HE0
      by_cases ht0 : t < -1000000000
      · have d2 : decide (t < -1000000000) = true := decide_eq_true ht0
        clear ht0 HEE
        go_wp2
        go_ret
        exact ⟨rfl, below_to H3.out.1 HBc.out⟩
      have d2 : decide (t < -1000000000) = false := decide_eq_false ht0
      by_cases ht1 : 1000000000 < t
      · have d3 : decide (1000000000 < t) = true := decide_eq_true ht1
        clear ht0 ht1 HEE
        go_wp2
        go_ret
        exact ⟨rfl, below_to H3.out.1 HBc.out⟩
      have d3 : decide (1000000000 < t) = false := decide_eq_false ht1
      obtain ⟨e1, e2⟩ := HEE.out k hk t (by omega) (by omega)
      have HR := Aside0.mk (fun W (hb : Below wc.heap.size wc W) => HRE.out x Ax cx W (below_to (below_to H3.out.1 HBc.out) hb) k t hk (by omega) (by omega) LAW.out (Kd.C_below H3.out.2.2.2.2 (below_to HBc.out hb)) hv0 hv1 HMX.out)
      generalize endOf (rdVehicle p.Vehicles x.Vehicle) (goR p (rdVehicle p.Vehicles x.Vehicle) (x.Steps.drop k) t) = D at *
      generalize endsW p (rdVehicle p.Vehicles x.Vehicle) x.Steps k t = EE at *
      obtain ⟨E1, E2⟩ := EE
      simp only at e1 e2
      subst e1 e2
      clear ht0 ht1 HEE HRE HCP
      cases hD : D.2
      all_goals
        go_wp2_with (go_at_call 65; refine (HR.out _ (by repeat (first | with_reducible exact Below.refl _ _ | with_reducible apply below_alloc | with_reducible apply below_drew | with_reducible apply pw_below_drewN | (with_reducible refine Below.setCell ?_ (by first | (simp; done) | (simp; omega) | (dsimp only; omega)) _) | (with_reducible refine below_to ?_ (by assumption))))).mono ?_; rintro e w6 ⟨rfl, hb⟩; rw [hD]; have HB6 := Aside0.mk (show Below wc.heap.size wc w6 from (by repeat (first | with_reducible exact Below.refl _ _ | with_reducible apply below_alloc | with_reducible apply below_drew | with_reducible apply pw_below_drewN | (with_reducible refine Below.setCell ?_ (by first | (simp; done) | (simp; omega) | (dsimp only; omega)) _) | (with_reducible refine below_to ?_ (by assumption))))); clear hb)
        go_ret
        exact ⟨by simp, below_to (below_to H3.out.1 HBc.out) HB6.out⟩
/-- The same, as the row wants it. -/
theorem slackEndsLaw_row (q : PV) (p : TProblem) (vehicle : Int) (l : List TVisit) (A : Option Addr) (c : Nat) (i t : Int) (w : World) (hg : GProblem p) (hq : q.Ok p w) (_ : (Lit.int .i64 vehicle).wf = true) (hl : l.length ≤ maxLen ∧ l.length * 16 ≤ 140737488351232 ∧ ∀ y ∈ l, GVisit y) (_ : l.length ≤ c) (hr : Kd.C kVisit w A l.length l)  :
    Calls Try.prog 17 #[q.val p, .int .i64 vehicle, .slice A l.length c, .agg #[.int .i64 i, .int .i64 t]] w fun e w' => e = .returned (.bool true) ∧ Below w.heap.size w w' :=
  slackEndsLaw_any q p vehicle l A c i t w hg hq (by have := hl.1; unfold maxLen at this; omega) hr
end Go.Proofs.Ytemjpgmfignhnaa
