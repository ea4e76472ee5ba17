/- Contract: layer 14's fixed fact.
Conditions: none. -/
import Derived.Test.YtemjpgmfignhnaaA14
import Derived.Test.YtemjpgmfignhnaaR14d
namespace Go.Proofs.Ytemjpgmfignhnaa
open Go.RowKit Go.Proofs.YtemjpgmfignhnaaW.PrintWords Go.Proofs.YtemjpgmfignhnaaW.PrintLast Go.Proofs.YtemjpgmfignhnaaW.PrintMore
set_option linter.unusedVariables false
set_option linter.unusedSimpArgs false
attribute [local go_sem] cell_growBy Option.some_or
def v14 : TVehicle := ⟨0, 0, [], 0, ⟨0, 100⟩, 0, 1, 0, 12, []⟩
def p14 : TProblem := ⟨0, lineM, lineM, [v14], [⟨⟨1, 5, [⟨30, 40⟩]⟩, [], [], 0, 1⟩, ⟨⟨1, 0, [⟨0, 1000000⟩]⟩, [], [], 0, 5⟩], []⟩
def x14 : TPlan := ⟨0, [⟨⟨5, 0⟩, 0, 0, 0, 0, [], 0, 0⟩, ⟨⟨1, 0⟩, 1, 10, 20, 5, [], 10, 10⟩, ⟨⟨6, 0⟩, 0, 45, 0, 0, [], 20, 20⟩], 20, 20, 20, 5, 20⟩
theorem check14 : checkS p14 = 0 := by decide
theorem fit14 : fitS p14 0 [⟨1, 0⟩] = (x14, 0) := by rfl
theorem latest14 : latestS p14 v14 x14.Steps = [30, 40, 100] := by decide
theorem ends14 : endsW p14 v14 x14.Steps 1 40 = (55, true) := by decide
theorem good14 : Good p14 := by
  refine ⟨⟨by decide, by decide, by decide, by decide, by decide⟩, by decide, fun v hv => ?_, fun j hj => ?_, fun s hs => ?_⟩
  · obtain rfl : v = v14 := by simpa [p14] using hv
    exact ⟨by decide, by decide, fun b hb => by simp [v14] at hb, by decide, by decide⟩
  · have : j = ⟨⟨1, 5, [⟨30, 40⟩]⟩, [], [], 0, 1⟩ ∨ j = ⟨⟨1, 0, [⟨0, 1000000⟩]⟩, [], [], 0, 5⟩ := by simpa [p14] using hj
    rcases this with rfl | rfl <;> exact ⟨by decide, by decide, by decide, by decide, by decide⟩
  · simp [p14] at hs
theorem line14_ok {gc gw gn gv gj : Nat} {W : World} (hc : W.heap[gc]? = some (.cells #[.int .i64 0, .int .i64 10, .int .i64 10, .int .i64 0] 3 (0, 0))) (hw : W.heap[gw]? = some (.cells #[.int .i64 0, .int .i64 1000000] 40 (0, 0))) (hn : W.heap[gn]? = some (.cells #[.int .i64 30, .int .i64 40] 40 (0, 0)))
    (hv : W.heap[gv]? = some (.cells #[.int .i64 0, .int .i64 0, .slice none 0 0, .int .u64 0, .int .i64 0, .int .i64 100, .int .i64 0, .int .i64 1, .int .i64 0, .int .i64 12, .slice none 0 0] 89 (0, 0))) (hj : W.heap[gj]? = some (.cells #[.int .i64 1, .int .i64 5, .slice (some ⟨gn, 0, none⟩) 1 1, .slice none 0 0, .slice none 0 0, .int .u64 0, .int .i64 1, .int .i64 1, .int .i64 0, .slice (some ⟨gw, 0, none⟩) 1 1, .slice none 0 0, .slice none 0 0, .int .u64 0, .int .i64 5] 46 (0, 0))) : (linePV gc gv gj).Ok p14 W := by
  have hww := C_one (d := kWindow) (W := W) (g := gw) (⟨0, 1000000⟩ : TWindow) hw (kWindow_mk _ _)
  have hwn := C_one (d := kWindow) (W := W) (g := gn) (⟨30, 40⟩ : TWindow) hn (kWindow_mk _ _)
  refine ⟨Nat.le_refl _, Nat.le_refl _, Nat.le_refl _, Nat.le_refl _, Nat.le_refl _, ?_, ?_, ?_, ?_, ?_⟩
  · refine C_block hc [0, 10, 10, 0] ⟨rfl, fun j x hj => ?_⟩ (by decide)
    match j, hj with
    | 0, hj => obtain rfl := Option.some.inj hj; rfl
    | 1, hj => obtain rfl := Option.some.inj hj; rfl
    | 2, hj => obtain rfl := Option.some.inj hj; rfl
    | 3, hj => obtain rfl := Option.some.inj hj; rfl
  · refine C_block hc [0, 10, 10, 0] ⟨rfl, fun j x hj => ?_⟩ (by decide)
    match j, hj with
    | 0, hj => obtain rfl := Option.some.inj hj; rfl
    | 1, hj => obtain rfl := Option.some.inj hj; rfl
    | 2, hj => obtain rfl := Option.some.inj hj; rfl
    | 3, hj => obtain rfl := Option.some.inj hj; rfl
  · exact C_one (d := kVehicle) v14 hv (kVehicle_mk _ _ none 0 (Nat.le_refl _) (Kd.C_nil _ _) none 0 (Nat.le_refl _) (Kd.C_nil _ _))
  · refine C_block hj p14.Jobs ⟨rfl, fun j x hj => ?_⟩ (by decide)
    match j, hj with
    | 0, hj => obtain rfl := Option.some.inj hj; exact kJob_mk _ _ _ 1 (Nat.le_refl _) hwn none 0 (Nat.le_refl _) (Kd.C_nil _ _) none 0 (Nat.le_refl _) (Kd.C_nil _ _)
    | 1, hj => obtain rfl := Option.some.inj hj; exact kJob_mk _ _ _ 1 (Nat.le_refl _) hww none 0 (Nat.le_refl _) (Kd.C_nil _ _) none 0 (Nat.le_refl _) (Kd.C_nil _ _)
  · exact Kd.C_nil _ _
set_option maxHeartbeats 16000000 in
set_option maxRecDepth 100000 in
theorem awake14_any (w : World) : Calls Try.prog 62 #[] w fun e w' => e = .returned (.bool true) ∧ Below w.heap.size w w' := by
  have law14 := Aside0.mk (law_of check14)
  go_enter Try.func62, Try.ntmps62
  go_wp2_with fail
  refine (line_any _).mono ?_
  rintro e w1 ⟨gc, gw, gv, gj, he, hin⟩
  have he' : e = .returned (.agg #[.int .i64 0, .int .i64 2, .slice (some ⟨gc, 0, none⟩) 4 4, .int .i64 2, .slice (some ⟨gc, 0, none⟩) 4 4, .slice (some ⟨gv, 0, none⟩) 1 1, .slice (some ⟨gj, 0, none⟩) 2 2, .slice none 0 0]) := he
  subst he'
  clear he
  have HIN := Aside0.mk hin
  have lc := blk_lt hin.hc
  have lw := blk_lt hin.hw
  have lv := blk_lt hin.hv
  have lj := blk_lt hin.hj
  have HVJ := Aside0.mk (show gj ≠ gv from fun e => by have h := hin.hj; rw [e, hin.hv] at h; simp at h)
  have HVW := Aside0.mk (show gw ≠ gv from fun e => by have h := hin.hw; rw [e, hin.hv] at h; simp at h)
  have HVC := Aside0.mk (show gc ≠ gv from fun e => by have h := hin.hc; rw [e, hin.hv] at h; simp at h)
  have HJW := Aside0.mk (show gw ≠ gj from fun e => by have h := hin.hw; rw [e, hin.hj] at h; simp at h)
  have HJC := Aside0.mk (show gc ≠ gj from fun e => by have h := hin.hc; rw [e, hin.hj] at h; simp at h)
  clear hin
  go_upto_region 2 with fail
  refine gen_wp (fun W => Below w1.heap.size w1 W ∧ W.heap[w1.heap.size]? = some (.cells #[.int .i64 0, .int .i64 2, .slice (some ⟨gc, 0, none⟩) 4 4, .int .i64 2, .slice (some ⟨gc, 0, none⟩) 4 4, .slice (some ⟨gv, 0, none⟩) 1 1, .slice (some ⟨gj, 0, none⟩) 2 2, .slice none 0 0] 29 (0, 0))) ⟨(by repeat (first | with_reducible exact Below.refl _ _ | with_reducible apply below_alloc | with_reducible apply below_drew | with_reducible apply pw_below_drewN | (with_reducible refine Below.setCell ?_ (by first | (simp; done) | (simp; omega) | (dsimp only; omega)) _) | (with_reducible refine below_to ?_ (by assumption)))), by first | exact blk_new _ _ | skip⟩ (fun w2 H2 => ?_)
  have hpb := H2.out.2
  have hvb := blk_below HIN.out.hv H2.out.1
  have p0 := blk_cell hpb 0; have p1 := blk_cell hpb 1; have p2 := blk_cell hpb 2; have p3 := blk_cell hpb 3; have p4 := blk_cell hpb 4; have p5 := blk_cell hpb 5; have p6 := blk_cell hpb 6; have p7 := blk_cell hpb 7; simp only [List.getElem?_toArray, List.getElem?_cons_succ, List.getElem?_cons_zero] at p0 p1 p2 p3 p4 p5 p6 p7; have hpw := blk_lt hpb
  have v5 := blk_cell hvb 5
  have vz := fun i => blk_frozen hvb i
  simp only [List.getElem?_toArray, List.getElem?_cons_succ, List.getElem?_cons_zero] at v5
  clear hpb hvb
  go_upto_region 3 with fail
  refine gen_wp (fun W => Below w.heap.size w W ∧ W.heap[w1.heap.size]? = some (.cells #[.int .i64 0, .int .i64 2, .slice (some ⟨gc, 0, none⟩) 4 4, .int .i64 2, .slice (some ⟨gc, 0, none⟩) 4 4, .slice (some ⟨gv, 0, none⟩) 1 1, .slice (some ⟨gj, 0, none⟩) 2 2, .slice none 0 0] 29 (0, 0)) ∧ W.heap[gv]? = some (.cells #[.int .i64 0, .int .i64 0, .slice none 0 0, .int .u64 0, .int .i64 0, .int .i64 100, .int .i64 0, .int .i64 1, .int .i64 0, .int .i64 12, .slice none 0 0] 89 (0, 0)) ∧ W.heap[gj]? = some (.cells #[.int .i64 1, .int .i64 5, .slice (some ⟨gw, 0, none⟩) 1 1, .slice none 0 0, .slice none 0 0, .int .u64 0, .int .i64 1, .int .i64 1, .int .i64 0, .slice (some ⟨gw, 0, none⟩) 1 1, .slice none 0 0, .slice none 0 0, .int .u64 0, .int .i64 5] 46 (0, 0)) ∧ W.heap[gw]? = some (.cells #[.int .i64 0, .int .i64 1000000] 40 (0, 0)) ∧ W.heap[gc]? = some (.cells #[.int .i64 0, .int .i64 10, .int .i64 10, .int .i64 0] 3 (0, 0)) ∧ w1.heap.size < W.heap.size)
    ⟨Below.setCell (below_to HIN.out.below H2.out.1) HIN.out.lv _, (Below.heap_setCell _ _ _ _ (by simp; omega)).trans H2.out.2, by simpa using blk_set (blk_below HIN.out.hv H2.out.1) 5 (.int .i64 100),
      (Below.heap_setCell _ _ _ _ HVJ.out).trans (blk_below HIN.out.hj H2.out.1), (Below.heap_setCell _ _ _ _ HVW.out).trans (blk_below HIN.out.hw H2.out.1), (Below.heap_setCell _ _ _ _ HVC.out).trans (blk_below HIN.out.hc H2.out.1), by simp; omega⟩ (fun w3 H3 => ?_)
  clear p0 p1 p2 p3 p4 p5 p6 p7 hpw v5 vz H2
  obtain ⟨g1, g2, g3, g4, g5, g6, g7⟩ : Aside0 _ ∧ Aside0 _ ∧ Aside0 _ ∧ Aside0 _ ∧ Aside0 _ ∧ Aside0 _ ∧ Aside0 _ := ⟨⟨H3.out.1⟩, ⟨H3.out.2.1⟩, ⟨H3.out.2.2.1⟩, ⟨H3.out.2.2.2.1⟩, ⟨H3.out.2.2.2.2.1⟩, ⟨H3.out.2.2.2.2.2.1⟩, ⟨H3.out.2.2.2.2.2.2⟩⟩
  clear H3
  have hpb := g2.out
  have hjb := g4.out
  have p0 := blk_cell hpb 0; have p1 := blk_cell hpb 1; have p2 := blk_cell hpb 2; have p3 := blk_cell hpb 3; have p4 := blk_cell hpb 4; have p5 := blk_cell hpb 5; have p6 := blk_cell hpb 6; have p7 := blk_cell hpb 7; simp only [List.getElem?_toArray, List.getElem?_cons_succ, List.getElem?_cons_zero] at p0 p1 p2 p3 p4 p5 p6 p7; have hpw := blk_lt hpb
  have j2 := blk_cell hjb 2
  have jz := fun i => blk_frozen hjb i
  have hjw := blk_lt hjb
  simp only [List.getElem?_toArray, List.getElem?_cons_succ, List.getElem?_cons_zero] at j2
  clear hpb hjb
  go_upto_region 4 with fail
  refine gen_wp (fun W => Below w.heap.size w W ∧ W.heap[w1.heap.size]? = some (.cells #[.int .i64 0, .int .i64 2, .slice (some ⟨gc, 0, none⟩) 4 4, .int .i64 2, .slice (some ⟨gc, 0, none⟩) 4 4, .slice (some ⟨gv, 0, none⟩) 1 1, .slice (some ⟨gj, 0, none⟩) 2 2, .slice none 0 0] 29 (0, 0)) ∧ (linePV gc gv gj).Ok p14 W) ⟨below_alloc (Below.setCell g1.out HIN.out.lj _) _, blk_alloc ((Below.heap_setCell _ _ _ _ (by simp; omega)).trans g2.out) _,
    line14_ok (gn := w3.heap.size) (gw := gw) (blk_alloc ((Below.heap_setCell _ _ _ _ HJC.out).trans g6.out) _) (blk_alloc ((Below.heap_setCell _ _ _ _ HJW.out).trans g5.out) _) (blk_is (by simp)) (blk_alloc ((Below.heap_setCell _ _ _ _ (Ne.symm HVJ.out)).trans g3.out) _) (blk_alloc (by simpa using blk_set g4.out 2 (.slice (some ⟨w3.heap.size, 0, none⟩) 1 1)) _)⟩ (fun w4 H4 => ?_)
  clear p0 p1 p2 p3 p4 p5 p6 p7 hpw j2 jz hjw g1 g2 g3 g4 g5 g6 g7 HIN HVJ HVW HVC HJW HJC lc lw lv lj
  have HFI := Aside0.mk (fun A c W (hb : Below w4.heap.size w4 W) (hC : Kd.C kVisit W A 1 [⟨1, 0⟩]) => refFit_any (linePV gc gv gj) p14 0 [⟨1, 0⟩] A c W good14 law14.out (H4.out.2.2.below hb) hC (by decide))
  rw [fit14] at HFI
  have HLA := Aside0.mk (fun A c W (hb : Below w4.heap.size w4 W) (hC : Kd.C kStep W A 3 x14.Steps) => slackLatest_n (linePV gc gv gj) p14 x14.Steps 0 20 20 20 5 20 A c W good14 law14.out (H4.out.2.2.below hb) hC (by decide) (by decide) (by decide) (by decide) (by decide))
  have HEN := Aside0.mk (fun A c W (hb : Below w4.heap.size w4 W) (hC : Kd.C kStep W A 3 x14.Steps) => slackEnds_any (linePV gc gv gj) p14 x14.Steps 0 20 20 20 5 20 A c 1 40 W good14 law14.out (H4.out.2.2.below hb) hC (by decide) (by decide) (by decide) (by decide) (by decide))
  rw [show rdVehicle p14.Vehicles 0 = v14 from rfl, latest14] at HLA
  rw [show rdVehicle p14.Vehicles 0 = v14 from rfl, ends14] at HEN
  have hpb := H4.out.2.1
  have p0 := blk_cell hpb 0; have p1 := blk_cell hpb 1; have p2 := blk_cell hpb 2; have p3 := blk_cell hpb 3; have p4 := blk_cell hpb 4; have p5 := blk_cell hpb 5; have p6 := blk_cell hpb 6; have p7 := blk_cell hpb 7; simp only [List.getElem?_toArray, List.getElem?_cons_succ, List.getElem?_cons_zero] at p0 p1 p2 p3 p4 p5 p6 p7; have hpw := blk_lt hpb
  clear hpb law14
  go_upto_region 5 with (go_at_call 54; refine (HFI.out _ _ _ (by repeat (first | with_reducible exact Below.refl _ _ | with_reducible apply below_alloc | with_reducible apply below_drew | with_reducible apply pw_below_drewN | (with_reducible refine Below.setCell ?_ (by first | (simp; done) | (simp; omega) | (dsimp only; omega)) _) | (with_reducible refine below_to ?_ (by assumption)))) (C_one (d := kVisit) (⟨1, 0⟩ : TVisit) (blk_new _ _) (kVisit_mk _ _))).mono ?_; rintro e w5 ⟨A5, c5, rfl, hle5, hF5, hb⟩; have HF5 := Aside0.mk hF5; have HB5 := Aside0.mk (show Below w4.heap.size w4 w5 from below_to (by repeat (first | with_reducible exact Below.refl _ _ | with_reducible apply below_alloc | with_reducible apply below_drew | with_reducible apply pw_below_drewN | (with_reducible refine Below.setCell ?_ (by first | (simp; done) | (simp; omega) | (dsimp only; omega)) _) | (with_reducible refine below_to ?_ (by assumption)))) hb); have hs5 := hb.size; clear hb hF5)
  refine gen_wp (fun W => Below w4.heap.size w4 W ∧ W.heap[w5.heap.size]? = some (.cells #[.int .i64 0, .slice A5 3 c5, .int .i64 20, .int .i64 20, .int .i64 20, .int .i64 5, .int .i64 20] 74 (0, 0)) ∧ Kd.C kStep W A5 3 x14.Steps)
    ⟨below_alloc HB5.out _, blk_new _ _, Kd.C_below (Kd.F_now HF5.out) (below_alloc (Below.refl _ _) _)⟩ (fun w6 H6 => ?_)
  have hpb := blk_below H4.out.2.1 H6.out.1
  have hxb := H6.out.2.1
  have p0 := blk_cell hpb 0; have p1 := blk_cell hpb 1; have p2 := blk_cell hpb 2; have p3 := blk_cell hpb 3; have p4 := blk_cell hpb 4; have p5 := blk_cell hpb 5; have p6 := blk_cell hpb 6; have p7 := blk_cell hpb 7; simp only [List.getElem?_toArray, List.getElem?_cons_succ, List.getElem?_cons_zero] at p0 p1 p2 p3 p4 p5 p6 p7; have hpw := blk_lt hpb
  have b0 := blk_cell hxb 0; have b1 := blk_cell hxb 1; have b2 := blk_cell hxb 2; have b3 := blk_cell hxb 3; have b4 := blk_cell hxb 4; have b5 := blk_cell hxb 5; have b6 := blk_cell hxb 6; have hbw := blk_lt hxb
  simp only [List.getElem?_toArray, List.getElem?_cons_succ, List.getElem?_cons_zero] at b0 b1 b2 b3 b4 b5 b6
  clear hpb hxb hs5 HB5 HF5 HFI hle5
  go_wp2_with (first
    | (go_at_call 66; refine (HLA.out _ _ _ H6.out.1 H6.out.2.2).mono ?_; rintro e w7 ⟨A7, c7, he7, hle7, hC7, hb⟩; have he7b : e = .returned (.slice A7 3 c7) := he7; subst he7b; clear he7; have HC7 := Aside0.mk hC7; obtain ⟨qc7, qf7⟩ := bcell hb; have HB7 := Aside0.mk hb; have hz7 := hb.size; clear hb hC7)
    | (go_at_call 64; refine (HEN.out _ _ _ (below_to H6.out.1 HB7.out) (Kd.C_below H6.out.2.2 HB7.out)).mono ?_; rintro e w8 ⟨rfl, hb⟩; obtain ⟨ad7, ea7, y0⟩ := Kd.at_int (Kd.C_below HC7.out hb) 0 (by decide) (by decide); subst ea7; obtain ⟨ad8, ea8, y1⟩ := Kd.at_int (Kd.C_below HC7.out hb) 1 (by decide) (by decide); obtain rfl := Option.some.inj ea8; obtain ⟨ad9, ea9, y2⟩ := Kd.at_int (Kd.C_below HC7.out hb) 2 (by decide) (by decide); obtain rfl := Option.some.inj ea9; have HB8 := Aside0.mk (show Below w4.heap.size w4 w8 from below_to H6.out.1 (below_to HB7.out hb)); have e0 : rd [30, 40, 100] 0 = 30 := rfl; have e1 : rd [30, 40, 100] 1 = 40 := rfl; have e2 : rd [30, 40, 100] 2 = 100 := rfl; rw [e0] at y0; rw [e1] at y1; rw [e2] at y2; simp only [show (0 : Int).toNat = 0 from rfl, show (1 : Int).toNat = 1 from rfl, show (2 : Int).toNat = 2 from rfl] at y0 y1 y2; have y0b : w8.cell? ad7 = some (.int .i64 30) := (show w8.cell? (ad7.add 0) = _ from y0); have y1b : w8.cell? ⟨ad7.block, ad7.off + 1, none⟩ = some (.int .i64 40) := (by have h := y1; rw [Addr.add, if_neg (by omega)] at h; exact h); have y2b : w8.cell? ⟨ad7.block, ad7.off + 2, none⟩ = some (.int .i64 100) := (by have h := y2; rw [Addr.add, if_neg (by omega)] at h; exact h); clear hb ea8 ea9))


  go_ret
  exact ⟨rfl, below_to H4.out.1 HB8.out⟩
end Go.Proofs.Ytemjpgmfignhnaa
