/- Contract: layer 13's fixed fact; a list of visits copied.
Conditions: none. -/
import Derived.Test.YtemjpgmfignhnaaM0
import Derived.Test.YtemjpgmfignhnaaM12
import Derived.Test.YtemjpgmfignhnaaM3
namespace Go.Proofs.Ytemjpgmfignhnaa
open Go.RowKit Go.Proofs.YtemjpgmfignhnaaW.PrintWords Go.Proofs.YtemjpgmfignhnaaW.PrintLast Go.Proofs.YtemjpgmfignhnaaW.PrintMore
set_option linter.unusedVariables false
set_option linter.unusedSimpArgs false
attribute [local go_sem] cell_growBy Option.some_or
theorem heap_visit : Kd.Heap kVisit := Kd.heap_iso _ (Kd.heap_pair (Kd.heap_int _) (Kd.heap_int _))
set_option maxHeartbeats 8000000 in
set_option maxRecDepth 100000 in
theorem copied13_any (l : List TVisit) (A : Option Addr) (c : Nat) (w : World) (hr : Kd.C kVisit w A l.length l) (hb : l.length * 16 ≤ 140737488355328) (hm : l.length ≤ maxLen) :
  Calls Try.prog 50 #[.slice A l.length c] w (ListPost kVisit l w) := by
 have HR := Aside0.mk hr
 have HL := Aside0.mk (show _ ∧ _ from ⟨hb, hm⟩)
 clear hr hb hm
 go_enter Try.func50, Try.ntmps50
 go_wp2_with (at_builtin; refine wpl_copy (d := kVisit) (W0 := w) (xs := l) rfl (.tmp 3) (.tmp 4) 63 57 (.agg #[.int .i64 0, .int .i64 0]) 16 rfl Try.underlying63 infoVisit rfl (by decide) heap_visit w.heap.size (by simp) ⟨w.heap.size, rfl, Nat.le_refl _, blk_new _ _⟩ _ c rfl HR.out (below_alloc (Below.refl _ _) _) HL.out.1 HL.out.2 ?_; intro v w1 hc hb; have HC := Aside0.mk hc; have hb' := Aside0.mk (below_to (below_alloc (Below.refl _ _) _) hb); clear hc hb)
 obtain ⟨g, k, rfl, hle, -, hrow⟩ := HC.out
 have HROW := Aside0.mk (hrow.reads (by have := HL.out.1; omega))
 clear hrow HC
 go_ret
 exact ⟨_, k, rfl, hle, HROW.out, hb'.out⟩
def p13 : TProblem := ⟨0, lineM, lineM, [lineV], [⟨⟨1, 5, [⟨30, 40⟩]⟩, [], [], 0, 1⟩, ⟨⟨1, 0, [⟨0, 1000000⟩]⟩, [], [], 0, 5⟩], []⟩
def x13 : TPlan := ⟨0, [⟨⟨5, 0⟩, 0, 0, 0, 0, [], 0, 0⟩, ⟨⟨1, 0⟩, 1, 10, 20, 5, [], 10, 10⟩, ⟨⟨6, 0⟩, 0, 45, 0, 0, [], 20, 20⟩], 20, 20, 20, 5, 20⟩
theorem check13 : checkS p13 = 0 := by decide
theorem fit13 : fitS p13 0 [⟨1, 0⟩] = (x13, 0) := by rfl
theorem good13 : Good p13 := by
 refine ⟨⟨by decide, by decide, by decide, by decide, by decide⟩, by decide, fun v hv => ?_, fun j hj => ?_, fun s hs => ?_⟩
 ·obtain rfl : v = lineV := by simpa [p13] using hv
  exact ⟨by decide, by decide, fun b hb => by simp [lineV] at hb, by decide, by decide⟩
 ·have : j = ⟨⟨1, 5, [⟨30, 40⟩]⟩, [], [], 0, 1⟩ ∨ j = ⟨⟨1, 0, [⟨0, 1000000⟩]⟩, [], [], 0, 5⟩ := by simpa [p13] using hj
  rcases this with rfl | rfl <;> exact ⟨by decide, by decide, by decide, by decide, by decide⟩
 ·simp [p13] at hs
theorem line13_ok {gc gw gn gv gj : Nat} {W : World} (hc : W.heap[gc]? = some (.cells #[.int .i64 0, .int .i64 10, .int .i64 10, .int .i64 0] 3 (0, 0))) (hw : W.heap[gw]? = some (.cells #[.int .i64 0, .int .i64 1000000] 40 (0, 0))) (hn : W.heap[gn]? = some (.cells #[.int .i64 30, .int .i64 40] 40 (0, 0)))
  (hv : W.heap[gv]? = some (.cells #[.int .i64 0, .int .i64 0, .slice none 0 0, .int .u64 0, .int .i64 0, .int .i64 1000000, .int .i64 0, .int .i64 1, .int .i64 0, .int .i64 12, .slice none 0 0] 89 (0, 0))) (hj : W.heap[gj]? = some (.cells #[.int .i64 1, .int .i64 5, .slice (some ⟨gn, 0, none⟩) 1 1, .slice none 0 0, .slice none 0 0, .int .u64 0, .int .i64 1, .int .i64 1, .int .i64 0, .slice (some ⟨gw, 0, none⟩) 1 1, .slice none 0 0, .slice none 0 0, .int .u64 0, .int .i64 5] 46 (0, 0))) : (linePV gc gv gj).Ok p13 W := by
 have hww := C_one (d := kWindow) (W := W) (g := gw) (⟨0, 1000000⟩ : TWindow) hw (kWindow_mk _ _)
 have hwn := C_one (d := kWindow) (W := W) (g := gn) (⟨30, 40⟩ : TWindow) hn (kWindow_mk _ _)
 refine ⟨Nat.le_refl _, Nat.le_refl _, Nat.le_refl _, Nat.le_refl _, Nat.le_refl _, ?_, ?_, ?_, ?_, ?_⟩
 ·refine C_block hc [0, 10, 10, 0] ⟨rfl, fun j x hj => ?_⟩ (by decide)
  match j, hj with
  | 0, hj => obtain rfl := Option.some.inj hj; rfl
  | 1, hj => obtain rfl := Option.some.inj hj; rfl
  | 2, hj => obtain rfl := Option.some.inj hj; rfl
  | 3, hj => obtain rfl := Option.some.inj hj; rfl
 ·refine C_block hc [0, 10, 10, 0] ⟨rfl, fun j x hj => ?_⟩ (by decide)
  match j, hj with
  | 0, hj => obtain rfl := Option.some.inj hj; rfl
  | 1, hj => obtain rfl := Option.some.inj hj; rfl
  | 2, hj => obtain rfl := Option.some.inj hj; rfl
  | 3, hj => obtain rfl := Option.some.inj hj; rfl
 ·exact C_one (d := kVehicle) lineV hv (kVehicle_mk _ _ none 0 (Nat.le_refl _) (Kd.C_nil _ _) none 0 (Nat.le_refl _) (Kd.C_nil _ _))
 ·refine C_block hj p13.Jobs ⟨rfl, fun j x hj => ?_⟩ (by decide)
  match j, hj with
  | 0, hj => obtain rfl := Option.some.inj hj; exact kJob_mk _ _ _ 1 (Nat.le_refl _) hwn none 0 (Nat.le_refl _) (Kd.C_nil _ _) none 0 (Nat.le_refl _) (Kd.C_nil _ _)
  | 1, hj => obtain rfl := Option.some.inj hj; exact kJob_mk _ _ _ 1 (Nat.le_refl _) hww none 0 (Nat.le_refl _) (Kd.C_nil _ _) none 0 (Nat.le_refl _) (Kd.C_nil _ _)
 ·exact Kd.C_nil _ _
set_option maxHeartbeats 16000000 in
set_option maxRecDepth 100000 in
theorem awake13_any (w : World) : Calls Try.prog 48 #[] w fun e w' => e = .returned (.bool true) ∧ Below w.heap.size w w' := by
 have law13 := Aside0.mk (law_of check13)
 go_enter Try.func48, Try.ntmps48
 go_wp2_with fail
 refine (line_any _).mono ?_
 rintro e w1 ⟨gc, gw, gv, gj, he, hin⟩
 have he' : e = .returned (.agg #[.int .i64 0, .int .i64 2, .slice (some ⟨gc, 0, none⟩) 4 4, .int .i64 2, .slice (some ⟨gc, 0, none⟩) 4 4, .slice (some ⟨gv, 0, none⟩) 1 1, .slice (some ⟨gj, 0, none⟩) 2 2, .slice none 0 0]) := he
 subst he'
 clear he
 have HIN := Aside0.mk hin
 have lc := blk_lt hin.hc
 have lw := blk_lt hin.hw
 have lv := blk_lt hin.hv
 have lj := blk_lt hin.hj
 have HVJ := Aside0.mk (show gj ≠ gv from fun e => by have h := hin.hj; rw [e, hin.hv] at h; simp at h)
 have HJW := Aside0.mk (show gw ≠ gj from fun e => by have h := hin.hw; rw [e, hin.hj] at h; simp at h)
 have HJC := Aside0.mk (show gc ≠ gj from fun e => by have h := hin.hc; rw [e, hin.hj] at h; simp at h)
 clear hin
 go_upto_region 2 with fail
 refine gen_wp (fun W => Below w1.heap.size w1 W ∧ W.heap[w1.heap.size]? = some (.cells #[.int .i64 0, .int .i64 2, .slice (some ⟨gc, 0, none⟩) 4 4, .int .i64 2, .slice (some ⟨gc, 0, none⟩) 4 4, .slice (some ⟨gv, 0, none⟩) 1 1, .slice (some ⟨gj, 0, none⟩) 2 2, .slice none 0 0] 29 (0, 0))) ⟨chn, by first | exact blk_new _ _ | skip⟩ (fun w3 H3 => ?_)
 have hpb := H3.out.2
 have hjb := blk_below HIN.out.hj H3.out.1
 obtain ⟨p0, p1, p2, p3, p4, p5, p6, p7⟩ := cells8 hpb; have hpw := blk_lt hpb
 have j2 := blk_cell hjb 2
 have jz := fun i => blk_frozen hjb i
 have hjw := blk_lt hjb
 simp only [List.getElem?_toArray, List.getElem?_cons_succ, List.getElem?_cons_zero] at j2
 clear hpb hjb
 go_upto_region 3 with fail
 refine gen_wp (fun W => Below w.heap.size w W ∧ W.heap[w1.heap.size]? = some (.cells #[.int .i64 0, .int .i64 2, .slice (some ⟨gc, 0, none⟩) 4 4, .int .i64 2, .slice (some ⟨gc, 0, none⟩) 4 4, .slice (some ⟨gv, 0, none⟩) 1 1, .slice (some ⟨gj, 0, none⟩) 2 2, .slice none 0 0] 29 (0, 0)) ∧ (linePV gc gv gj).Ok p13 W) ⟨below_alloc (Below.setCell (below_to HIN.out.below H3.out.1) HIN.out.lj _) _, blk_alloc ((Below.heap_setCell _ _ _ _ (by simp; omega)).trans H3.out.2) _,
  line13_ok (gn := w3.heap.size) (gw := gw) (blk_alloc ((Below.heap_setCell _ _ _ _ HJC.out).trans (blk_below HIN.out.hc H3.out.1)) _) (blk_alloc ((Below.heap_setCell _ _ _ _ HJW.out).trans (blk_below HIN.out.hw H3.out.1)) _) (blk_is (by simp)) (blk_alloc ((Below.heap_setCell _ _ _ _ (Ne.symm HVJ.out)).trans (blk_below HIN.out.hv H3.out.1)) _) (blk_alloc (by simpa using blk_set (blk_below HIN.out.hj H3.out.1) 2 (.slice (some ⟨w3.heap.size, 0, none⟩) 1 1)) _)⟩ (fun w4 H4 => ?_)
 clear p0 p1 p2 p3 p4 p5 p6 p7 hpw j2 jz hjw HIN HVJ HJW HJC lc lw lv lj
 have HFI := Aside0.mk (fun A c W (hb : Below w4.heap.size w4 W) (hC : Kd.C kVisit W A 1 [⟨1, 0⟩]) => planFit_any (linePV gc gv gj) p13 0 [⟨1, 0⟩] A c W good13 law13.out (H4.out.2.2.below hb) hC (by decide))
 rw [fit13] at HFI
 have hpb := H4.out.2.1
 obtain ⟨p0, p1, p2, p3, p4, p5, p6, p7⟩ := cells8 hpb; have hpw := blk_lt hpb
 clear hpb law13
 go_upto_region 4 with (go_at_call 53; refine (HFI.out _ _ _ chn (C_one (d := kVisit) (⟨1, 0⟩ : TVisit) (blk_new _ _) (kVisit_mk _ _))).mono ?_; rintro e w5 ⟨A5, c5, rfl, hle5, hF5, hb⟩; have HF5 := Aside0.mk hF5; have HB5 := Aside0.mk (show Below w4.heap.size w4 w5 from below_to chn hb); have hs5 := hb.size; clear hb hF5)
 refine gen_wp (fun W => Below w4.heap.size w4 W ∧ W.heap[w5.heap.size]? = some (.cells #[.int .i64 0, .slice A5 3 c5, .int .i64 20, .int .i64 20, .int .i64 20, .int .i64 5, .int .i64 20] 74 (0, 0)) ∧ Kd.C kStep W A5 3 x13.Steps)
  ⟨below_alloc HB5.out _, blk_new _ _, Kd.C_below (Kd.F_now HF5.out) (below_alloc (Below.refl _ _) _)⟩ (fun w6 H6 => ?_)
 have hxb := H6.out.2.1
 obtain ⟨ad7, _, _, ea7, -, -, -, y0, y1, -⟩ := atNStep (xs := x13.Steps) H6.out.2.2 1 (by decide)
 obtain ⟨ad8, _, _, ea8, -, -, -, z0, -⟩ := atNStep (xs := x13.Steps) H6.out.2.2 2 (by decide)
 subst ea7
 obtain rfl := Option.some.inj ea8
 have y0b : w6.cell? ⟨ad7.block, ad7.off + 9 + 3, none⟩ = some (.int .i64 10) := by have h := y0; rw [Addr.add, if_neg (by omega)] at h; exact h
 have y1b : w6.cell? ⟨ad7.block, ad7.off + 9 + 4, none⟩ = some (.int .i64 20) := by have h := y1; rw [Addr.add, if_neg (by omega)] at h; exact h
 have z0b : w6.cell? ⟨ad7.block, ad7.off + 18 + 3, none⟩ = some (.int .i64 45) := by have h := z0; rw [Addr.add, if_neg (by omega)] at h; exact h
 have b0 := blk_cell hxb 0; have b1 := blk_cell hxb 1; have b2 := blk_cell hxb 2; have b3 := blk_cell hxb 3; have b4 := blk_cell hxb 4; have b5 := blk_cell hxb 5; have b6 := blk_cell hxb 6; have hbw := blk_lt hxb
 simp only [List.getElem?_toArray, List.getElem?_cons_succ, List.getElem?_cons_zero] at b0 b1 b2 b3 b4 b5 b6
 clear hxb hs5 HB5 HF5 HFI hle5 y0 y1 z0 ea8
 go_wp2
 go_ret
 exact ⟨rfl, below_to H4.out.1 H6.out.1⟩
end Go.Proofs.Ytemjpgmfignhnaa
