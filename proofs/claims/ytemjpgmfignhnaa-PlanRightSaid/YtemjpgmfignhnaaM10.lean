/- Contract: what is aboard at the start, and behind each visit. The program's Loads.
Conditions: a lawful problem, at most 200 visits. -/
import Derived.Test.YtemjpgmfignhnaaM0
import Derived.Test.YtemjpgmfignhnaaM9
import Derived.Test.YtemjpgmfignhnaaM8
namespace Go.Proofs.Ytemjpgmfignhnaa
open Go.RowKit Go.Proofs.YtemjpgmfignhnaaW.PrintWords Go.Proofs.YtemjpgmfignhnaaW.PrintLast Go.Proofs.YtemjpgmfignhnaaW.PrintMore
set_option linter.unusedVariables false
set_option linter.unusedSimpArgs false
attribute [local go_sem] cell_growBy Option.some_or
theorem IntsIn.C {W : World} {base : Nat} {x : List Int} {A : Option Addr} {c : Nat} (h : IntsIn W base x [.slice A x.length c]) : Kd.C (Kd.int .i64) W A x.length x := by
 obtain ⟨A', c', e, _, hF⟩ := h
 simp only [List.cons.injEq, Value.slice.injEq, and_true] at e
 rw [e.1]
 exact Kd.F_now hF
def LoadsPost (xs : List (List Int)) (w : World) (e : Ending) (w' : World) : Prop :=
 ∃ A c, e = .returned (.slice A xs.length c) ∧ LoadRow w' w.heap.size (.slice A xs.length c) xs ∧ Below w.heap.size w w'
theorem LoadRow.lower {W : World} {base base' : Nat} {v : Value} {xs : List (List Int)} (h : LoadRow W base v xs) (hb : base' ≤ base) : LoadRow W base' v xs := OwnRow.imp_ (OwnRow.lower h hb) (fun _ _ hk => hk.lower hb)
theorem take_fold {p : TProblem} (l : List TVisit) (k : Nat) (h : k < l.length) (z : List Int) : (l.take (k + 1)).foldl (dropStep p) z = dropStep p ((l.take k).foldl (dropStep p) z) l[k] := by
 rw [List.take_succ_eq_append_getElem h, List.foldl_append]
 rfl
theorem bnd_small {n : Nat} {b : Int} {x : List Int} (h : BndL n b x) (hb : b ≤ 1000000000000000) : ∀ z ∈ x, -1000000000000000 ≤ z ∧ z ≤ 1000000000000000 := fun z hz => by
 have := h.2 z hz
 omega
theorem loadsGo_head (p : TProblem) (now : List Int) : ∀ l : List TVisit, loadsGo p now l = now :: (loadsGo p now l).drop 1
 | [] => rfl
 | _ :: _ => rfl
theorem loadsGo_step (p : TProblem) (now : List Int) (l : List TVisit) (k : Nat) (h : k < l.length) : (loadsGo p now (l.drop k)).drop 1 = loadStep p now l[k] :: (loadsGo p (loadStep p now l[k]) (l.drop (k + 1))).drop 1 := by
 rw [List.drop_eq_getElem_cons h, loadsGo, List.drop_succ_cons, List.drop_zero]
 exact loadsGo_head p _ _
set_option maxHeartbeats 16000000 in
set_option maxRecDepth 100000 in
theorem planLoads_any (q : PV) (p : TProblem) (l : List TVisit) (A : Option Addr) (c : Nat) (w : World) (hlp : Good p) (law : Law p) (hq : q.Ok p w) (hr : Kd.C kVisit w A l.length l) (hl : l.length ≤ 200) :
  Calls Try.prog 55 #[q.val p, .slice A l.length c] w (LoadsPost (loadsP p l) w) := by
 have HR := Aside0.mk hr
 have HQ := Aside0.mk hq
 have HMS := Aside0.mk (fun (x : TVisit) W (hb : Below w.heap.size w W) => modStop_any q p x W hlp.toLens (hq.below hb) (fun _ => ⟨by have := law.stopLen' x; omega, by have := law.stopLen' x; unfold maxLen; omega⟩))
 have AM := Aside0.mk law.amts
 have hd0 := law.d0
 have hd1 := law.d1
 obtain ⟨a1, c1, a2, c2, a3, c3, a4, c4, a5, c5⟩ := q
 have HP1 : Aside0 (loads0 p l = (l.take l.length).foldl (dropStep p) (List.replicate p.Dims.toNat 0)) := ⟨by rw [List.take_length]; rfl⟩
 have HP2 : Aside0 (loadsP p l = loadsGo p (loads0 p l) l) := ⟨rfl⟩
 generalize loadsP p l = LL at *
 generalize loads0 p l = L0 at *
 clear hr hq law hlp
 unfold PV.val at HMS ⊢
 go_enter Try.func55, Try.ntmps55
 go_wp2_with (go_at_call 104; refine (loadZero_any p.Dims _ hd0 hd1).mono ?_; rintro e w1 ⟨v, rfl, hR, hb⟩; obtain ⟨An, cn, rfl, hI⟩ := intsIn_R hR; have HI := Aside0.mk hI; have HB1 := Aside0.mk hb; clear hR hI hb)
 have HB1' : Aside0 (Below (w.heap.size + 1) (w.alloc (.cells #[.int .i64 p.Dims, .int .i64 p.Time.N, .slice a1 p.Time.Cells.length c1, .int .i64 p.Dist.N, .slice a2 p.Dist.Cells.length c2, .slice a3 p.Vehicles.length c3, .slice a4 p.Jobs.length c4, .slice a5 p.Shipments.length c5] 29)) w1) := ⟨by simpa using HB1.out⟩
 go_loopw [5, 20] (fun vn vi wr => ∃ (k : Nat) (now : List Int) (An : Option Addr) (cn : Nat), k ≤ l.length ∧ vi = .int .i64 k ∧ vn = .slice An now.length cn ∧ Aside0 (now = (l.take k).foldl (dropStep p) (List.replicate p.Dims.toNat 0)) ∧ Aside0 (BndL p.Dims.toNat (2000000 * (k : Int)) now) ∧ Aside0 (IntsIn wr (w.heap.size + 1) now [.slice An now.length cn]) ∧ Aside0 (Below (w.heap.size + 1) (w.alloc (.cells #[.int .i64 p.Dims, .int .i64 p.Time.N, .slice a1 p.Time.Cells.length c1, .int .i64 p.Dist.N, .slice a2 p.Dist.Cells.length c2, .slice a3 p.Vehicles.length c3, .slice a4 p.Jobs.length c4, .slice a5 p.Shipments.length c5] 29)) wr)) (fun _ vi _ => l.length - (intOf vi).toNat)
 case atStart => exact ⟨0, _, An, cn, Nat.zero_le _, rfl, by simp, ⟨rfl⟩, ⟨BndL.zero _⟩, ⟨by simpa using HI.out⟩, HB1'⟩
 case round =>
  clear HI HB1 HB1'
  obtain ⟨k, now, An, cn, hk, rfl, rfl, HE, HBN, HI, HW⟩ := hrel
  have HW' : Aside0 (Below (w.alloc (.cells #[.int .i64 p.Dims, .int .i64 p.Time.N, .slice a1 p.Time.Cells.length c1, .int .i64 p.Dist.N, .slice a2 p.Dist.Cells.length c2, .slice a3 p.Vehicles.length c3, .slice a4 p.Jobs.length c4, .slice a5 p.Shipments.length c5] 29)).heap.size (w.alloc (.cells #[.int .i64 p.Dims, .int .i64 p.Time.N, .slice a1 p.Time.Cells.length c1, .int .i64 p.Dist.N, .slice a2 p.Dist.Cells.length c2, .slice a3 p.Vehicles.length c3, .slice a4 p.Jobs.length c4, .slice a5 p.Shipments.length c5] 29)) wr) := ⟨by simpa using HW.out⟩
  have HB0 : Aside0 (Below w.heap.size w wr) := ⟨below_to (below_alloc (Below.refl _ _) _) HW'.out⟩
  have HPB : Aside0 (wr.heap[w.heap.size]? = some (.cells #[.int .i64 p.Dims, .int .i64 p.Time.N, .slice a1 p.Time.Cells.length c1, .int .i64 p.Dist.N, .slice a2 p.Dist.Cells.length c2, .slice a3 p.Vehicles.length c3, .slice a4 p.Jobs.length c4, .slice a5 p.Shipments.length c5] 29)) := ⟨blk_below (blk_new _ _) HW'.out⟩
  by_cases hlt : k < l.length
  ·obtain ⟨ad, ea, x0, x1⟩ := atNVisit (Kd.C_below HR.out HB0.out) k hlt
   subst ea
   have hpb := HPB.out
   obtain ⟨p0, p1, p2, p3, p4, p5, p6, p7⟩ := cells8 hpb; have hpw := blk_lt hpb
   have r0 : (0 : Int) ≤ (k : Int) := by omega
   have r1 : (k : Int) < (l.length : Int) := by omega
   have HN := Aside0.mk (take_fold (p := p) l k hlt (List.replicate p.Dims.toNat 0))
   rw [← HE.out] at HN
   generalize hx : l[k] = x at *
   have HBN2 := Aside0.mk (dropStep_bnd AM.out HBN.out x (by omega))
   clear hpb HE
   by_cases hj : (stopS p x).2 = true ∧ x.Kind = 1
   ·obtain ⟨hs2, k1⟩ := hj
    have d1 : (x.Kind == 1) = true := by simp [k1]
    obtain ⟨i0, i1⟩ := stopS_job hs2 k1
    have es : dropStep p now x = addS now (rdJob p.Jobs x.Item).Drop := by unfold dropStep; rw [if_pos ⟨hs2, k1⟩]
    rw [es] at HN HBN2
    obtain ⟨aj, A2, c2', A3, c3', A4, c4', eaj, -, -, -, y3, -, -, -, -, -, hl3, hC3, -⟩ := atJob (HQ.out.below HB0.out).h4 x.Item i0 i1
    have eaj' : a4 = some aj := eaj
    subst eaj'
    have HC3 := Aside0.mk hC3
    have hlen : now.length = (rdJob p.Jobs x.Item).Drop.length := by rw [HBN.out.1, (AM.out.job _ i0 i1).1]
    have HLEN := Aside0.mk hlen
    have hnl : now.length ≤ 100 := by rw [HBN.out.1]; omega
    have HNL := Aside0.mk hnl
    have hsm := Aside0.mk (bnd_small HBN.out (by omega))
    have hdm := Aside0.mk (fun z hz => show -1000000000000000 ≤ z ∧ z ≤ 1000000000000000 by have := AM.out.drop _ i0 i1 z hz; omega)
    have hbj : (aj.add (x.Item.toNat * 7)).block < wr.heap.size := World.block_lt_of_cell? wr ⟨(aj.add (x.Item.toNat * 7)).block, (aj.add (x.Item.toNat * 7)).off + 3, none⟩ y3
    clear es k1 eaj hC3 hlen hnl
    go_wp2_with (first
     | (go_at_call 36; refine (HMS.out x _ (below_to HB0.out chn)).mono ?_; rintro e w3 ⟨A5, k5, rfl, hle5, hb, hrow⟩; rw [hs2]; obtain ⟨qc3, qf3⟩ := bcell hb; have hB3 : Below wr.heap.size wr w3 := chn; have HB3 := Aside0.mk hB3; have hs3 := hb.size; (try simp at hs3); have hz3 : wr.heap.size < w3.heap.size := (by omega); have hy3 : w.heap.size < w3.heap.size := (by omega); have hj3 : (aj.add (x.Item.toNat * 7)).block < w3.heap.size := (by omega); clear hrow hle5 hB3 hs3)
     | (go_at_call 105; refine (loadAdd_any now (rdJob p.Jobs x.Item).Drop An A3 cn c3' _ HLEN.out HNL.out hsm.out hdm.out (Kd.C_below HI.out.C (below_to HB3.out chn)) (Kd.C_below HC3.out (below_to HB3.out chn))).mono ?_; rintro e w4 ⟨v, rfl, hR, hb⟩; have hB4 : Below wr.heap.size wr w4 := below_to (below_to HB3.out chn) hb; have HB4 := Aside0.mk hB4; obtain ⟨Am, cm, rfl, hI⟩ := intsIn_R hR; have HI2 := Aside0.mk hI; clear hR hI hb hB4))
    go_roundw
    case rel => exact ⟨k + 1, _, Am, cm, by omega, by go_num, rfl, ⟨HN.out.symm⟩, ⟨HBN2.out.mono (by omega)⟩, ⟨HI2.out.lower (by simp; omega)⟩, ⟨by simpa using below_to HW'.out HB4.out⟩⟩
    case measure => simp [intOf]; omega
   ·have es : dropStep p now x = now := by unfold dropStep; rw [if_neg hj]
    rw [es] at HN HBN2
    clear es
    cases hs2 : (stopS p x).2
    ·clear hj
     go_wp2_with (go_at_call 36; refine (HMS.out x _ (below_to HB0.out chn)).mono ?_; rintro e w3 ⟨A5, k5, rfl, hle5, hb, hrow⟩; rw [hs2]; obtain ⟨qc3, qf3⟩ := bcell hb; have hB3 : Below wr.heap.size wr w3 := chn; have HB3 := Aside0.mk hB3; have hs3 := hb.size; (try simp at hs3); have hz3 : wr.heap.size < w3.heap.size := (by omega); clear hrow hle5 hB3 hs3)
     go_roundw
     case rel => exact ⟨k + 1, now, An, cn, by omega, by go_num, rfl, ⟨HN.out.symm⟩, ⟨HBN2.out.mono (by omega)⟩, ⟨HI.out.below (below_to HB3.out chn)⟩, ⟨by simpa using below_to HW'.out (below_to HB3.out (show Below w3.heap.size w3 _ from chn))⟩⟩
     case measure => simp [intOf]; omega
    ·have d1 : (x.Kind == 1) = false := by
      have : ¬ x.Kind = 1 := fun e => hj ⟨hs2, e⟩
      simp [this]
     clear hj
     go_wp2_with (go_at_call 36; refine (HMS.out x _ (below_to HB0.out chn)).mono ?_; rintro e w3 ⟨A5, k5, rfl, hle5, hb, hrow⟩; rw [hs2]; obtain ⟨qc3, qf3⟩ := bcell hb; have hB3 : Below wr.heap.size wr w3 := chn; have HB3 := Aside0.mk hB3; have hs3 := hb.size; (try simp at hs3); have hz3 : wr.heap.size < w3.heap.size := (by omega); clear hrow hle5 hB3 hs3)
     go_roundw
     case rel => exact ⟨k + 1, now, An, cn, by omega, by go_num, rfl, ⟨HN.out.symm⟩, ⟨HBN2.out.mono (by omega)⟩, ⟨HI.out.below (below_to HB3.out chn)⟩, ⟨by simpa using below_to HW'.out (below_to HB3.out (show Below w3.heap.size w3 _ from chn))⟩⟩
     case measure => simp [intOf]; omega
  ·obtain rfl : k = l.length := by omega
   have e0 : L0 = now := by rw [HP1.out, HE.out]
   subst e0
   clear HE HP1
   go_wp2
   have HLR : Aside0 (LoadRow (wr.alloc (.cells #[.slice An L0.length cn] 22)) (w.heap.size + 1) (.slice (some ⟨wr.heap.size, 0, none⟩) 1 1) [L0]) := ⟨LoadRow.lit L0 (by have := HW.out.size; simpa using this) HI.out⟩
   have HBN0 : Aside0 (BndL p.Dims.toNat (2000000 * (200 + ((0 : Nat) : Int))) L0) := ⟨HBN.out.mono (by omega)⟩
   have HE0 : Aside0 ([L0] ++ (loadsGo p L0 (l.drop 0)).drop 1 = LL) := ⟨by rw [List.drop_zero, HP2.out]; exact (loadsGo_head p L0 l).symm⟩
   obtain ⟨wb, rfl⟩ : ∃ wb : World, wb = wr := ⟨_, rfl⟩
   have HIa := HI
   have HWa := HW
   clear HI HW HB0 HPB HW' HBN HP2
   go_loopw [5, 10, 53] (fun vn vo vi wr => ∃ (k : Nat) (now : List Int) (rows : List (List Int)) (An : Option Addr) (cn : Nat), k ≤ l.length ∧ vi = .int .i64 k ∧ vn = .slice An now.length cn ∧ Aside0 (rows.length = k + 1) ∧ Aside0 (rows ++ (loadsGo p now (l.drop k)).drop 1 = LL) ∧ Aside0 (BndL p.Dims.toNat (2000000 * (200 + (k : Int))) now) ∧ Aside0 (IntsIn wr (w.heap.size + 1) now [.slice An now.length cn]) ∧ Aside0 (LoadRow wr (w.heap.size + 1) vo rows) ∧ Aside0 (Below (w.heap.size + 1) (w.alloc (.cells #[.int .i64 p.Dims, .int .i64 p.Time.N, .slice a1 p.Time.Cells.length c1, .int .i64 p.Dist.N, .slice a2 p.Dist.Cells.length c2, .slice a3 p.Vehicles.length c3, .slice a4 p.Jobs.length c4, .slice a5 p.Shipments.length c5] 29)) wr)) (fun _ _ vi _ => l.length - (intOf vi).toNat)
   case atStart => exact ⟨0, L0, [L0], An, cn, Nat.zero_le _, rfl, rfl, ⟨rfl⟩, HE0, HBN0, ⟨HIa.out.below (below_alloc (Below.refl _ _) _)⟩, HLR, ⟨by simpa using below_to (show Below (w.alloc (.cells #[.int .i64 p.Dims, .int .i64 p.Time.N, .slice a1 p.Time.Cells.length c1, .int .i64 p.Dist.N, .slice a2 p.Dist.Cells.length c2, .slice a3 p.Vehicles.length c3, .slice a4 p.Jobs.length c4, .slice a5 p.Shipments.length c5] 29)).heap.size (w.alloc (.cells #[.int .i64 p.Dims, .int .i64 p.Time.N, .slice a1 p.Time.Cells.length c1, .int .i64 p.Dist.N, .slice a2 p.Dist.Cells.length c2, .slice a3 p.Vehicles.length c3, .slice a4 p.Jobs.length c4, .slice a5 p.Shipments.length c5] 29)) wb from by simpa using HWa.out) (below_alloc (Below.refl _ _) _)⟩⟩
   case round =>
    clear HLR HBN0 HE0 HIa HWa
    obtain ⟨k, now, rows, An, cn, hk, rfl, rfl, HRL, HE, HBN, HI, HLR, HW⟩ := hrel
    have HW' : Aside0 (Below (w.alloc (.cells #[.int .i64 p.Dims, .int .i64 p.Time.N, .slice a1 p.Time.Cells.length c1, .int .i64 p.Dist.N, .slice a2 p.Dist.Cells.length c2, .slice a3 p.Vehicles.length c3, .slice a4 p.Jobs.length c4, .slice a5 p.Shipments.length c5] 29)).heap.size (w.alloc (.cells #[.int .i64 p.Dims, .int .i64 p.Time.N, .slice a1 p.Time.Cells.length c1, .int .i64 p.Dist.N, .slice a2 p.Dist.Cells.length c2, .slice a3 p.Vehicles.length c3, .slice a4 p.Jobs.length c4, .slice a5 p.Shipments.length c5] 29)) wr) := ⟨by simpa using HW.out⟩
    have HB0 : Aside0 (Below w.heap.size w wr) := ⟨below_to (below_alloc (Below.refl _ _) _) HW'.out⟩
    have HPB : Aside0 (wr.heap[w.heap.size]? = some (.cells #[.int .i64 p.Dims, .int .i64 p.Time.N, .slice a1 p.Time.Cells.length c1, .int .i64 p.Dist.N, .slice a2 p.Dist.Cells.length c2, .slice a3 p.Vehicles.length c3, .slice a4 p.Jobs.length c4, .slice a5 p.Shipments.length c5] 29)) := ⟨blk_below (blk_new _ _) HW'.out⟩
    by_cases hlt : k < l.length
    ·obtain ⟨ad, ea, x0, x1⟩ := atNVisit (Kd.C_below HR.out HB0.out) k hlt
     subst ea
     have hpb := HPB.out
     obtain ⟨p0, p1, p2, p3, p4, p5, p6, p7⟩ := cells8 hpb; have hpw := blk_lt hpb
     have r0 : (0 : Int) ≤ (k : Int) := by omega
     have r1 : (k : Int) < (l.length : Int) := by omega
     have he := HE.out
     rw [loadsGo_step p now l k hlt] at he
     generalize hx : l[k] = x at *
     have hbn2 := loadStep_bnd AM.out HBN.out x (by omega)
     obtain ⟨now2, hn2⟩ : ∃ n, n = loadStep p now x := ⟨_, rfl⟩
     rw [← hn2] at he hbn2
     have HE1 := Aside0.mk he
     have HBN2 := Aside0.mk hbn2
     have HN2 := Aside0.mk hn2
     clear hpb HE he hn2 hbn2
     go_upto_if 63 with (go_at_call 36; refine (HMS.out x _ (below_to HB0.out chn)).mono ?_; rintro e w3 ⟨A5, k5, rfl, hle5, hb, hrow⟩; have hxb := blk_below (blk_new wr (.cells #[.int .i64 x.Kind, .int .i64 x.Item] 57)) hb; have HXB := Aside0.mk hxb; have HB3 := Aside0.mk (show Below wr.heap.size wr w3 from below_to chn hb); clear hrow hle5 hxb hb)
     refine gen_wp (fun W => Below wr.heap.size wr W ∧ W.heap[wr.heap.size]? = some (.cells #[.int .i64 x.Kind, .int .i64 x.Item] 57 (0, 0))) ⟨below_to HB3.out chn, blk_alloc HXB.out _⟩ (fun wq HQq => ?_)
     clear p0 p1 p2 p3 p4 p5 p6 p7 hpw x0 x1 HB3 HXB
     have HB0q : Aside0 (Below w.heap.size w wq) := ⟨below_to HB0.out HQq.out.1⟩
     have hpb := blk_below HPB.out HQq.out.1
     have hxb := HQq.out.2
     obtain ⟨p0, p1, p2, p3, p4, p5, p6, p7⟩ := cells8 hpb; have hpw := blk_lt hpb
     have q0 := blk_cell hxb 0
     have q1 := blk_cell hxb 1
     have hqw := blk_lt hxb
     simp only [List.getElem?_toArray, List.getElem?_cons_succ, List.getElem?_cons_zero] at q0 q1
     generalize hsb : (stopS p x).2 = sb
     have HS2 := Aside0.mk hsb
     clear hpb hxb hsb
     go_cut [5] (fun s5 wx => ∃ Am cm, s5 = .slice Am now2.length cm ∧ Aside0 (IntsIn wx (w.heap.size + 1) now2 [.slice Am now2.length cm]) ∧ Aside0 (Below wr.heap.size wr wx))
     case first =>
      cases sb
      ·have es : now2 = now := by rw [HN2.out]; unfold loadStep; rw [if_neg (by rw [HS2.out]; decide)]
       subst es
       clear HN2 HE1 HBN2
       go_wp2_with fail
       go_meet
       exact ⟨An, cn, rfl, ⟨HI.out.below HQq.out.1⟩, ⟨HQq.out.1⟩⟩
      ·have hs2 := HS2.out
       have hbase : w.heap.size + 1 ≤ wq.heap.size := by omega
       by_cases k1 : x.Kind = 1
       ·have d1 : (x.Kind == 1) = true := by simp [k1]
        obtain ⟨i0, i1⟩ := stopS_job hs2 k1
        have es : now2 = addS (subS now (rdJob p.Jobs x.Item).Drop) (rdJob p.Jobs x.Item).Pick := by rw [HN2.out]; unfold loadStep; rw [if_pos hs2, if_pos k1]
        obtain ⟨aj, A2, c2', A3, c3', A4, c4', eaj, -, -, -, y3, y4, -, -, -, -, hl3, hC3, hl4, hC4⟩ := atJob (HQ.out.below HB0q.out).h4 x.Item i0 i1
        have eaj' : a4 = some aj := eaj
        subst eaj'
        have HC3 := Aside0.mk hC3
        have HC4 := Aside0.mk hC4
        have HLEN : Aside0 (now.length = (rdJob p.Jobs x.Item).Drop.length) := ⟨by rw [HBN.out.1, (AM.out.job _ i0 i1).1]⟩
        have HSB := Aside0.mk (HBN.out.sub (BndL.of (AM.out.job _ i0 i1).1 (AM.out.drop _ i0 i1)))
        have HLEN4 : Aside0 ((subS now (rdJob p.Jobs x.Item).Drop).length = (rdJob p.Jobs x.Item).Pick.length) := ⟨by rw [HSB.out.1, (AM.out.job _ i0 i1).2]⟩
        have HNL : Aside0 (now.length ≤ 100) := ⟨by rw [HBN.out.1]; omega⟩
        have HNL4 : Aside0 ((subS now (rdJob p.Jobs x.Item).Drop).length ≤ 100) := ⟨by rw [HSB.out.1]; omega⟩
        have hsm := Aside0.mk (bnd_small HBN.out (by omega))
        have hsm4 := Aside0.mk (bnd_small HSB.out (by omega))
        have hdm := Aside0.mk (fun z hz => show -1000000000000000 ≤ z ∧ z ≤ 1000000000000000 by have := AM.out.drop _ i0 i1 z hz; omega)
        have hdm4 := Aside0.mk (fun z hz => show -1000000000000000 ≤ z ∧ z ≤ 1000000000000000 by have := AM.out.pick _ i0 i1 z hz; omega)
        have hbj : (aj.add (x.Item.toNat * 7)).block < wq.heap.size := World.block_lt_of_cell? wq ⟨(aj.add (x.Item.toNat * 7)).block, (aj.add (x.Item.toNat * 7)).off + 3, none⟩ y3
        clear k1 eaj hC3 hC4 HN2 HE1 HBN2 hs2
        subst es
        go_wp2_with (first
         | (go_at_call 106; refine (loadSub_any now (rdJob p.Jobs x.Item).Drop An A3 cn c3' _ HLEN.out HNL.out hsm.out hdm.out (Kd.C_below HI.out.C (below_to HQq.out.1 chn)) (Kd.C_below HC3.out chn)).mono ?_; rintro e w4 ⟨v, rfl, hR, hb⟩; obtain ⟨qc4, qf4⟩ := bcell hb; have hs4 := hb.size; (try simp at hs4); have hz4 : wr.heap.size < w4.heap.size := (by omega); have hy4 : w.heap.size < w4.heap.size := (by omega); have hj4 : (aj.add (x.Item.toNat * 7)).block < w4.heap.size := (by omega); have HB4 := Aside0.mk (show Below wq.heap.size wq w4 from below_to chn hb); obtain ⟨Am, cm, rfl, hI⟩ := intsIn_R hR; have HI2 := Aside0.mk hI; clear hR hI hb hs4)
         | (go_at_call 105; refine (loadAdd_any (subS now (rdJob p.Jobs x.Item).Drop) (rdJob p.Jobs x.Item).Pick Am A4 cm c4' _ HLEN4.out HNL4.out hsm4.out hdm4.out (Kd.C_below HI2.out.C chn) (Kd.C_below HC4.out (below_to HB4.out chn))).mono ?_; rintro e w5 ⟨v, rfl, hR, hb⟩; have HB5 := Aside0.mk (show Below wq.heap.size wq w5 from below_to (below_to HB4.out chn) hb); obtain ⟨An5, cn5, rfl, hI⟩ := intsIn_R hR; have HI5 := Aside0.mk hI; clear hR hI hb))
        go_meet
        exact ⟨An5, cn5, rfl, ⟨HI5.out.lower (by omega)⟩, ⟨below_to HQq.out.1 (below_to HB5.out chn)⟩⟩
       ·obtain ⟨k23, i0, i1⟩ := stopS_ship hs2 k1
        have d1 : (x.Kind == 1) = false := by simp [k1]
        obtain ⟨aj, A6, c6, A7, c7, A3, c3', eaj, -, -, -, -, -, -, y3, -, -, -, -, -, -, hl3, hC3⟩ := atShipment (HQ.out.below HB0q.out).h5 x.Item i0 i1
        have eaj' : a5 = some aj := eaj
        subst eaj'
        have HC3 := Aside0.mk hC3
        have HLEN : Aside0 (now.length = (rdShipment p.Shipments x.Item).Amount.length) := ⟨by rw [HBN.out.1, AM.out.ship _ i0 i1]⟩
        have HNL : Aside0 (now.length ≤ 100) := ⟨by rw [HBN.out.1]; omega⟩
        have hsm := Aside0.mk (bnd_small HBN.out (by omega))
        have hdm := Aside0.mk (fun z hz => show -1000000000000000 ≤ z ∧ z ≤ 1000000000000000 by have := AM.out.amt _ i0 i1 z hz; omega)
        have hbj : (aj.add (x.Item.toNat * 9)).block < wq.heap.size := World.block_lt_of_cell? wq ⟨(aj.add (x.Item.toNat * 9)).block, (aj.add (x.Item.toNat * 9)).off + 6, none⟩ y3
        clear eaj hC3
        by_cases k2 : x.Kind = 2
        ·have d2 : (x.Kind == 2) = true := by simp [k2]
         have es : now2 = addS now (rdShipment p.Shipments x.Item).Amount := by rw [HN2.out]; unfold loadStep; rw [if_pos hs2, if_neg k1, if_pos k2]
         clear k1 k2 k23 HN2 HE1 HBN2 hs2
         subst es
         go_wp2_with (first | (go_at_call 105; refine (loadAdd_any now (rdShipment p.Shipments x.Item).Amount An A3 cn c3' _ HLEN.out HNL.out hsm.out hdm.out (Kd.C_below HI.out.C (below_to HQq.out.1 chn)) (Kd.C_below HC3.out chn)).mono ?_; rintro e w4 ⟨v, rfl, hR, hb⟩; obtain ⟨qc4, qf4⟩ := bcell hb; have hs4 := hb.size; (try simp at hs4); have hz4 : wr.heap.size < w4.heap.size := (by omega); have hy4 : w.heap.size < w4.heap.size := (by omega); skip; have HB4 := Aside0.mk (show Below wq.heap.size wq w4 from below_to chn hb); obtain ⟨Am, cm, rfl, hI⟩ := intsIn_R hR; have HI2 := Aside0.mk hI; clear hR hI hb hs4) | fail)
         go_meet
         exact ⟨Am, cm, rfl, ⟨HI2.out.lower (by omega)⟩, ⟨below_to HQq.out.1 (below_to HB4.out chn)⟩⟩
        ·have d2 : (x.Kind == 2) = false := by simp [k2]
         have d3 : (x.Kind == 3) = true := by simp; omega
         have es : now2 = subS now (rdShipment p.Shipments x.Item).Amount := by rw [HN2.out]; unfold loadStep; rw [if_pos hs2, if_neg k1, if_neg k2]
         clear k1 k2 k23 HN2 HE1 HBN2 hs2
         subst es
         go_wp2_with (first | (go_at_call 106; refine (loadSub_any now (rdShipment p.Shipments x.Item).Amount An A3 cn c3' _ HLEN.out HNL.out hsm.out hdm.out (Kd.C_below HI.out.C (below_to HQq.out.1 chn)) (Kd.C_below HC3.out chn)).mono ?_; rintro e w4 ⟨v, rfl, hR, hb⟩; obtain ⟨qc4, qf4⟩ := bcell hb; have hs4 := hb.size; (try simp at hs4); have hz4 : wr.heap.size < w4.heap.size := (by omega); have hy4 : w.heap.size < w4.heap.size := (by omega); skip; have HB4 := Aside0.mk (show Below wq.heap.size wq w4 from below_to chn hb); obtain ⟨Am, cm, rfl, hI⟩ := intsIn_R hR; have HI2 := Aside0.mk hI; clear hR hI hb hs4) | fail)
         go_meet
         exact ⟨Am, cm, rfl, ⟨HI2.out.lower (by omega)⟩, ⟨below_to HQq.out.1 (below_to HB4.out chn)⟩⟩
     case rest =>
      obtain ⟨Am, cm, rfl, HI2, HBc⟩ := hcut
      have hnl : now2.length ≤ 100 := by rw [HBN2.out.1]; omega
      have HNL := Aside0.mk hnl
      have HRX := Aside0.mk (HLR.out.below HBc.out)
      obtain ⟨A', c', e', -, -⟩ := HLR.out.F
      subst e'
      have HLX := Aside0.mk HRL.out
      have HBS : Aside0 (w.heap.size + 1 ≤ wc.heap.size) := ⟨Nat.le_trans (by have := HW.out.size; simpa using this) HBc.out.size⟩
      clear hnl p0 p1 p2 p3 p4 p5 p6 p7 hpw q0 q1 hqw
      go_wp2_with (first
       | (go_at_call 107; refine (cloneI_any now2 Am cm _ _ HI2.out.C (Below.refl _ _) (by have := HNL.out; omega) (by have := HNL.out; unfold maxLen; omega)).mono ?_; rintro e w5 ⟨v5, rfl, hb, hc⟩; have HB5 := Aside0.mk hb; obtain ⟨A5, cc5, rfl, hI5⟩ := intsIn_copy (by have := HNL.out; omega) hc; have HI5 := Aside0.mk (hI5.lower HBS.out); have hW5 : Below (w.heap.size + 1) (w.alloc (.cells #[.int .i64 p.Dims, .int .i64 p.Time.N, .slice a1 p.Time.Cells.length c1, .int .i64 p.Dist.N, .slice a2 p.Dist.Cells.length c2, .slice a3 p.Vehicles.length c3, .slice a4 p.Jobs.length c4, .slice a5 p.Shipments.length c5] 29)) w5 := (by simpa using below_to HW'.out (below_to HBc.out hb)); have hs5 : w.heap.size + 1 ≤ w5.heap.size := Nat.le_trans HBS.out hb.size; have HW5 := Aside0.mk hW5; have HS5 := Aside0.mk hs5; clear hb hc hI5 hW5 hs5)
       | (at_builtin; refine OwnRow.append (R := IntsIn w5 (w.heap.size + 1)) (w0 := w.alloc (.cells #[.int .i64 p.Dims, .int .i64 p.Time.N, .slice a1 p.Time.Cells.length c1, .int .i64 p.Dist.N, .slice a2 p.Dist.Cells.length c2, .slice a3 p.Vehicles.length c3, .slice a4 p.Jobs.length c4, .slice a5 p.Shipments.length c5] 29)) (W := w5) (w.heap.size + 1) rfl (.tmp 120) (.tmp 123) 82 22 (.slice none 0 0) 1 24 rfl Try.underlying82 (by kernel_rfl) rfl (by decide) (by decide) (.slice A' rows.length c') rows now2 [.slice A5 now2.length cc5] rfl rfl HI5.out rfl HI5.out.one (HRX.out.below HB5.out) HW5.out HS5.out (by rw [HLX.out]; omega) ?_; intro v6 w6 ho hb hg hat; have HO6 := Aside0.mk ho; have HB6 := Aside0.mk hb; have HG6 := Aside0.mk hg; clear ho hb hg hat))
      go_roundw
      case rel =>
       refine ⟨k + 1, now2, rows ++ [now2], Am, cm, by omega, by go_num, rfl, ⟨by rw [List.length_append, HRL.out]; rfl⟩, ⟨by rw [List.append_assoc]; exact HE1.out⟩, ⟨HBN2.out.mono (by omega)⟩, ⟨LoadRow.moved HG6.out (fun k hk => LoadRow.ne (HRX.out.below HB5.out) hk) (HI2.out.below HB5.out)⟩, ⟨?_⟩, HB6⟩
       exact OwnRow.imp_ HO6.out (fun y b hy => LoadRow.moved HG6.out (fun k hk => LoadRow.ne (HRX.out.below HB5.out) hk) hy)
      case measure => simp [intOf]; omega
    ·obtain rfl : k = l.length := by omega
     have he := HE.out
     rw [List.drop_of_length_le (Nat.le_refl _), loadsGo] at he
     have he2 : rows = LL := by simpa using he
     subst he2
     obtain ⟨A', c', e', hl', hF'⟩ := HLR.out.F
     subst e'
     clear he hF' hl'
     go_wp2
     go_ret
     exact ⟨A', c', rfl, HLR.out.lower (by omega), HB0.out⟩
end Go.Proofs.Ytemjpgmfignhnaa
/- How the document's Of hands back its plan out of the box of its result.
Conditions: none. -/
namespace Go.Proofs.Ytemjpgmfignhnaa
open Go.RowKit Go.Proofs.YtemjpgmfignhnaaW.PrintWords Go.Proofs.YtemjpgmfignhnaaW.PrintLast Go.Proofs.YtemjpgmfignhnaaW.PrintMore
set_option linter.unusedVariables false
set_option linter.unusedSimpArgs false
/-- A plan is handed back, and an error's number. -/
def PlanPost (r : TPlan × Int) (w : World) (e : Ending) (w' : World) : Prop :=
 ∃ A c, e = .returned (.tuple #[.agg #[.int .i64 r.1.Vehicle, .slice A r.1.Steps.length c, .int .i64 r.1.Time, .int .i64 r.1.Dist, .int .i64 r.1.Wait, .int .i64 r.1.Service, .int .i64 r.1.Cost], .int .i64 r.2]) ∧ r.1.Steps.length ≤ c ∧ Kd.F kStep w' (fun k => w.heap.size ≤ k) A r.1.Steps.length r.1.Steps ∧ Below w.heap.size w w'
theorem ret_plan (r : TPlan × Int) (w WF : World) (a : Act) (g : Nat) (A : Option Addr) (c : Nat)
  (hz : WF.heap[g]? = some (.cells #[.int .i64 r.1.Vehicle, .slice A r.1.Steps.length c, .int .i64 r.1.Time, .int .i64 r.1.Dist, .int .i64 r.1.Wait, .int .i64 r.1.Service, .int .i64 r.1.Cost] 74 (0, 0)))
  (h6 : a.tmps[6]? = some (.pointer (some ⟨g, 0, none⟩))) (h7 : a.tmps[7]? = some (.int .i64 r.2)) (hd : a.defers = []) (hl : r.1.Steps.length ≤ c) (hC : Kd.F kStep WF (fun k => w.heap.size ≤ k) A r.1.Steps.length r.1.Steps) (hb : Below w.heap.size w WF) :
  bodyPost Try.prog Try.f51 (PlanPost r w) .ret a WF := by
 obtain ⟨f0, f1, f2, f3, f4, f5, f6⟩ := cells7 hz
 refine bodyPost_ret (v := .tuple #[.agg #[.int .i64 r.1.Vehicle, .slice A r.1.Steps.length c, .int .i64 r.1.Time, .int .i64 r.1.Dist, .int .i64 r.1.Wait, .int .i64 r.1.Service, .int .i64 r.1.Cost], .int .i64 r.2]) ?_ hd ⟨A, c, rfl, hl, hC, hb⟩
 simp only [results, Try.results51]
 simp [h6, h7, go_sem, f0, f1, f2, f3, f4, f5, f6]
theorem ret_plan' (r : TPlan × Int) (w WF : World) (a : Act) (g : Nat) (A : Option Addr) (c n : Nat) (cost : Int) (hn : n = r.1.Steps.length) (hc : cost = r.1.Cost)
  (hz : WF.heap[g]? = some (.cells #[.int .i64 r.1.Vehicle, .slice A n c, .int .i64 r.1.Time, .int .i64 r.1.Dist, .int .i64 r.1.Wait, .int .i64 r.1.Service, .int .i64 cost] 74 (0, 0)))
  (h6 : a.tmps[6]? = some (.pointer (some ⟨g, 0, none⟩))) (h7 : a.tmps[7]? = some (.int .i64 r.2)) (hd : a.defers = []) (hl : r.1.Steps.length ≤ c) (hC : Kd.F kStep WF (fun k => w.heap.size ≤ k) A r.1.Steps.length r.1.Steps) (hb : Below w.heap.size w WF) :
  bodyPost Try.prog Try.f51 (PlanPost r w) .ret a WF := by
 subst hn hc
 exact ret_plan r w WF a g A c hz h6 h7 hd hl hC hb
/-- The same of any function whose results lie there. -/
theorem ret_planG {fn : Func} (hf : fn.results = #[.cell 6 74, .tmp 7]) (r : TPlan × Int) (w WF : World) (a : Act) (g : Nat) (A : Option Addr) (c : Nat)
  (hz : WF.heap[g]? = some (.cells #[.int .i64 r.1.Vehicle, .slice A r.1.Steps.length c, .int .i64 r.1.Time, .int .i64 r.1.Dist, .int .i64 r.1.Wait, .int .i64 r.1.Service, .int .i64 r.1.Cost] 74 (0, 0)))
  (h6 : a.tmps[6]? = some (.pointer (some ⟨g, 0, none⟩))) (h7 : a.tmps[7]? = some (.int .i64 r.2)) (hd : a.defers = []) (hl : r.1.Steps.length ≤ c) (hC : Kd.F kStep WF (fun k => w.heap.size ≤ k) A r.1.Steps.length r.1.Steps) (hb : Below w.heap.size w WF) :
  bodyPost Try.prog fn (PlanPost r w) .ret a WF := by
 obtain ⟨f0, f1, f2, f3, f4, f5, f6⟩ := cells7 hz
 refine bodyPost_ret (v := .tuple #[.agg #[.int .i64 r.1.Vehicle, .slice A r.1.Steps.length c, .int .i64 r.1.Time, .int .i64 r.1.Dist, .int .i64 r.1.Wait, .int .i64 r.1.Service, .int .i64 r.1.Cost], .int .i64 r.2]) ?_ hd ⟨A, c, rfl, hl, hC, hb⟩
 simp only [results, hf]
 simp [h6, h7, go_sem, f0, f1, f2, f3, f4, f5, f6]
theorem F_set7 {α : Type} {d : Kd α} {W : World} {ok : Nat → Prop} {A : Option Addr} {n g : Nat} {xs : List α} (h : Kd.F d W ok A n xs) (hok : ∀ k, ok k → k ≠ g) (u0 u1 u2 u3 u4 u5 u6 : Value) :
  Kd.F d (((((((W.setCell ⟨g, 0, none⟩ u0).setCell ⟨g, 1, none⟩ u1).setCell ⟨g, 2, none⟩ u2).setCell ⟨g, 3, none⟩ u3).setCell ⟨g, 4, none⟩ u4).setCell ⟨g, 5, none⟩ u5).setCell ⟨g, 6, none⟩ u6) ok A n xs :=
 Kd.F_far (Kd.F_far (Kd.F_far (Kd.F_far (Kd.F_far (Kd.F_far (Kd.F_far h hok u0) hok u1) hok u2) hok u3) hok u4) hok u5) hok u6
/-- A plan is stored into the box of the result, and handed back. -/
theorem ret_store {fn : Func} (hf : fn.results = #[.cell 6 74, .tmp 7]) (r : TPlan × Int) (w W : World) (a : Act) (g : Nat) (A : Option Addr) (c : Nat) {c0 c1 c2 c3 c4 c5 c6 : Value} {ok : Nat → Prop}
  (hz : W.heap[g]? = some (.cells #[c0, c1, c2, c3, c4, c5, c6] 74 (0, 0))) (h6 : a.tmps[6]? = some (.pointer (some ⟨g, 0, none⟩))) (h7 : a.tmps[7]? = some (.int .i64 r.2)) (hd : a.defers = []) (hg : w.heap.size ≤ g) (hok : ∀ k, ok k → g < k)
  (hl : r.1.Steps.length ≤ c) (hC : Kd.F kStep W ok A r.1.Steps.length r.1.Steps) (hb : Below w.heap.size w W) :
  bodyPost Try.prog fn (PlanPost r w) .ret a (((((((W.setCell ⟨g, 0, none⟩ (.int .i64 r.1.Vehicle)).setCell ⟨g, 1, none⟩ (.slice A r.1.Steps.length c)).setCell ⟨g, 2, none⟩ (.int .i64 r.1.Time)).setCell ⟨g, 3, none⟩ (.int .i64 r.1.Dist)).setCell ⟨g, 4, none⟩ (.int .i64 r.1.Wait)).setCell ⟨g, 5, none⟩ (.int .i64 r.1.Service)).setCell ⟨g, 6, none⟩ (.int .i64 r.1.Cost)) :=
 ret_planG hf r w _ a g A c (blk_set7 hz _ _ _ _ _ _ _) h6 h7 hd hl (Kd.F_mono (F_set7 hC (fun k hk => by have := hok k hk; omega) _ _ _ _ _ _ _) (fun k hk => by have := hok k hk; omega)) (below_set7 hb hg _ _ _ _ _ _ _)
theorem wp_store7 {o : Oper} {a : Act} {w : World} {K : Act → World → Prop} {Q : Exit → Act → World → Prop} {pa pv : Operand} {g : Nat} {d0 d1 d2 d3 d4 d5 d6 : Value} {x0 x2 x3 x4 x5 x6 : Int} {A : Option Addr} {n c tt : Nat}
  (ho : o.op = .store 74 pa pv) (hpa : a.eval pa = .pointer (some ⟨g, 0, none⟩)) (hpv : a.eval pv = .agg #[.int .i64 x0, .slice A n c, .int .i64 x2, .int .i64 x3, .int .i64 x4, .int .i64 x5, .int .i64 x6])
  (hb : w.heap[g]? = some (.cells #[d0, d1, d2, d3, d4, d5, d6] tt (0, 0)))
  (h : K (a.put o.dst undef) (((((((w.setCell ⟨g, 0, none⟩ (.int .i64 x0)).setCell ⟨g, 1, none⟩ (.slice A n c)).setCell ⟨g, 2, none⟩ (.int .i64 x2)).setCell ⟨g, 3, none⟩ (.int .i64 x3)).setCell ⟨g, 4, none⟩ (.int .i64 x4)).setCell ⟨g, 5, none⟩ (.int .i64 x5)).setCell ⟨g, 6, none⟩ (.int .i64 x6))) :
  Oper.wp Try.prog o a w K Q := by
 have z0 := blk_cell hb 0
 have z1 := blk_cell hb 1
 have z2 := blk_cell hb 2
 have z3 := blk_cell hb 3
 have z4 := blk_cell hb 4
 have z5 := blk_cell hb 5
 have z6 := blk_cell hb 6
 have zz := fun i => blk_frozen hb i
 simp only [List.getElem?_toArray, List.getElem?_cons_succ, List.getElem?_cons_zero] at z0 z1 z2 z3 z4 z5 z6
 unfold Oper.wp execOp
 simp only [ho, hpa, hpv]
 go_simp
 exact h
end Go.Proofs.Ytemjpgmfignhnaa

/- A plan as the program makes it: its box, its row of steps, and what they hang on.
Conditions: none. -/
namespace Go.Proofs.Ytemjpgmfignhnaa
open Go.RowKit Go.Proofs.YtemjpgmfignhnaaW.PrintWords Go.Proofs.YtemjpgmfignhnaaW.PrintLast Go.Proofs.YtemjpgmfignhnaaW.PrintMore
set_option linter.unusedVariables false
set_option linter.unusedSimpArgs false
section
variable {W W1 wY w : World} {lo base g n : Nat} {vehicle tm di wt se : Int} {sv v v1 : Value} {steps xs : List TStep}
/-- The cells of a step whose load lies in blocks of whole numbers from lo on. -/
def StepIn (W : World) (lo : Nat) (x : TStep) (cs : List Value) : Prop :=
 ∃ A c, cs = [.int .i64 x.Visit.Kind, .int .i64 x.Visit.Item, .int .i64 x.Place, .int .i64 x.Arrival, .int .i64 x.Wait, .int .i64 x.Service, .slice A x.Load.length c, .int .i64 x.Time, .int .i64 x.Dist] ∧ x.Load.length ≤ c ∧ Kd.F (Kd.int .i64) W (IntBlk W lo) A x.Load.length x.Load
theorem StepIn.step {x : TStep} {cs : List Value} (h : StepIn W lo x cs) (hm : ∀ k, IntBlk W lo k → W1.heap[k]? = W.heap[k]?) : StepIn W1 lo x cs := by
 obtain ⟨A, c, e, hl, hF⟩ := h
 refine ⟨A, c, e, hl, Kd.F_mono (Kd.F_step hF (fun k hk _ => hm k hk)) (fun k hk => ⟨hk.1, ?_⟩)⟩
 obtain ⟨cur, hc⟩ := hk.2
 exact ⟨cur, (hm k hk).trans hc⟩
theorem StepIn.of (x : TStep) {A : Option Addr} {c : Nat} (h : IntsIn W lo x.Load [.slice A x.Load.length c]) :
  StepIn W lo x [.int .i64 x.Visit.Kind, .int .i64 x.Visit.Item, .int .i64 x.Place, .int .i64 x.Arrival, .int .i64 x.Wait, .int .i64 x.Service, .slice A x.Load.length c, .int .i64 x.Time, .int .i64 x.Dist] := by
 obtain ⟨A', c', e, hl, hF⟩ := h
 simp only [List.cons.injEq, Value.slice.injEq, and_true, true_and] at e
 obtain ⟨rfl, rfl⟩ := e
 exact ⟨A, c, rfl, hl, hF⟩
theorem StepIn.one {x : TStep} {cs : List Value} (h : StepIn W lo x cs) : ∀ u ∈ cs, u.oneCell' = true := by
 obtain ⟨A, c, rfl, _⟩ := h
 intro u hu
 simp only [List.mem_cons, List.not_mem_nil, or_false] at hu
 rcases hu with rfl | rfl | rfl | rfl | rfl | rfl | rfl | rfl | rfl <;> rfl
def StepRow (W : World) (lo base : Nat) (v : Value) (xs : List TStep) : Prop := OwnRow (StepIn W lo) 91 9 W base v xs
theorem StepRow.step (h : StepRow W lo base v xs) (hi : ∀ k, IntBlk W lo k → W1.heap[k]? = W.heap[k]?) (hown : ∀ k, v.ownBlock = some k → W1.heap[k]? = W.heap[k]?) : StepRow W1 lo base v xs := by
 obtain ⟨inner, ho, hr⟩ := h
 exact ⟨inner, own_move ho hown, hr.imp_ (fun _ _ hk => hk.step hi)⟩
theorem StepRow.ne_typed (h : StepRow W lo base v xs) {g t : Nat} {cells : Array Value} (hb : W.heap[g]? = some (.cells cells t (0, 0))) (ht : 91 ≠ t) : some g ≠ v.ownBlock := OwnRow.ne_block h hb ht
theorem StepRow.ne_int (h : StepRow W lo base v xs) {k : Nat} (hk : IntBlk W lo k) : some k ≠ v.ownBlock := by
 obtain ⟨_, cur, hc⟩ := hk
 exact OwnRow.ne_block h hc (by decide)
theorem StepRow.own_lt (h : StepRow W lo base v xs) (k : Nat) (hk : v.ownBlock = some k) : base ≤ k ∧ k < W.heap.size := by
 obtain ⟨inner, ho, _⟩ := h
 exact ⟨own_base ho k hk, Go.Proofs.YtemjpgmfignhnaaW.PrintWords.own_lt ho k hk⟩
theorem StepRow.below (h : StepRow W lo base v xs) (hb : Below W.heap.size W W1) : StepRow W1 lo base v xs := h.step (fun k hk => hb.block k hk.lt) (fun k hk => hb.block k (h.own_lt k hk).2)
theorem StepRow.F (h : StepRow W lo base v xs) (hlb : lo ≤ base) : ∃ A c, v = .slice A xs.length c ∧ xs.length ≤ c ∧ Kd.F kStep W (fun k => lo ≤ k) A xs.length xs := by
 obtain ⟨A, c, e, hl, _⟩ := OwnRow.reads h
 refine ⟨A, c, e, hl, fun W' hW => ?_⟩
 have h2 : StepRow W' lo base v xs := h.step (fun k hk => hW k hk.1 hk.lt) (fun k hk => hW k (Nat.le_trans hlb (h.own_lt k hk).1) (h.own_lt k hk).2)
 obtain ⟨A2, c2, e2, _, hC⟩ := OwnRow.reads h2
 rw [e] at e2
 simp only [Value.slice.injEq] at e2
 obtain ⟨eA, _, _⟩ := e2
 rw [eA]
 exact hC.imp_ (Below.refl _ _) (fun y b hy => by
  obtain ⟨A3, c3, rfl, hl3, hF3⟩ := hy
  exact kStep_mk _ y A3 c3 hl3 (Kd.F_now hF3))
/-- The plan's box is block g; all other blocks that were there at wY are as they were; the steps' loads lie from lo on. -/
structure PlanS (wY : World) (g lo : Nat) (vehicle : Int) (sv : Value) (tm di wt se : Int) (steps : List TStep) (W : World) : Prop where
 glo : g < lo
 loy : lo ≤ wY.heap.size
 size : wY.heap.size ≤ W.heap.size
 os : W.os = wY.os
 tape : W.tape = wY.tape
 output : W.output = wY.output
 block : ∀ i, i < wY.heap.size → i ≠ g → W.heap[i]? = wY.heap[i]?
 out : W.heap[g]? = some (.cells #[.int .i64 vehicle, sv, .int .i64 tm, .int .i64 di, .int .i64 wt, .int .i64 se, .int .i64 0] 74 (0, 0))
 row : StepRow W lo wY.heap.size sv steps
theorem PlanS.start (hg : g < lo) (hl : lo ≤ wY.heap.size) (ho : wY.heap[g]? = some (.cells #[.int .i64 vehicle, .slice none 0 0, .int .i64 0, .int .i64 0, .int .i64 0, .int .i64 0, .int .i64 0] 74 (0, 0))) : PlanS wY g lo vehicle (.slice none 0 0) 0 0 0 0 [] wY :=
 ⟨hg, hl, Nat.le_refl _, rfl, rfl, rfl, fun _ _ _ => rfl, ho, OwnRow.none_ _ _ _ _ _⟩
theorem PlanS.below (h : PlanS wY g lo vehicle sv tm di wt se steps W) (hb : Below n w wY) (hn : n ≤ g) (hs : n ≤ wY.heap.size) : Below n w W :=
 ⟨h.os.trans hb.os, h.tape.trans hb.tape, h.output.trans hb.output, Nat.le_trans hb.size h.size, fun i hi => (h.block i (by omega) (by omega)).trans (hb.block i hi)⟩
theorem PlanS.ne (h : PlanS wY g lo vehicle sv tm di wt se steps W) : some g ≠ sv.ownBlock := h.row.ne_typed h.out (by decide)
theorem PlanS.blk (h : PlanS wY g lo vehicle sv tm di wt se steps W) {k : Nat} {o : Obj} (hk : wY.heap[k]? = some o) (hn : k ≠ g) : W.heap[k]? = some o := (h.block k (blk_lt hk) hn).trans hk
theorem PlanS.mono (h : PlanS wY g lo vehicle sv tm di wt se steps W) (hb : Below W.heap.size W W1) : PlanS wY g lo vehicle sv tm di wt se steps W1 :=
 ⟨h.glo, h.loy, Nat.le_trans h.size hb.size, hb.os.trans h.os, hb.tape.trans h.tape, hb.output.trans h.output, fun i hi hn => (hb.block i (Nat.lt_of_lt_of_le hi h.size)).trans (h.block i hi hn), blk_below h.out hb, h.row.below hb⟩
theorem PlanS.setAt (h : PlanS wY g lo vehicle sv tm di wt se steps W) (i : Nat) (u : Value) {tm' di' wt' se' : Int}
  (ho : (W.setCell ⟨g, i, none⟩ u).heap[g]? = some (.cells #[.int .i64 vehicle, sv, .int .i64 tm', .int .i64 di', .int .i64 wt', .int .i64 se', .int .i64 0] 74 (0, 0))) : PlanS wY g lo vehicle sv tm' di' wt' se' steps (W.setCell ⟨g, i, none⟩ u) := by
 have hb : Below g W (W.setCell ⟨g, i, none⟩ u) := by exact Below.setCell (Below.refl g W) (Nat.le_refl g) u
 refine ⟨h.glo, h.loy, Nat.le_trans h.size hb.size, hb.os.trans h.os, hb.tape.trans h.tape, hb.output.trans h.output, fun k hk hn => (Below.heap_setCell W ⟨g, i, none⟩ u k (fun e => hn e)).trans (h.block k hk hn), ho, h.row.step (fun k hk => ?_) (fun k hk => ?_)⟩
 ·exact Below.heap_setCell W ⟨g, i, none⟩ u k (fun e => by have h1 := hk.1; have h2 := h.glo; have e' : k = g := e; omega)
 ·exact Below.heap_setCell W ⟨g, i, none⟩ u k (fun e => h.ne (by rw [hk]; exact congrArg some (show g = k from e.symm)))
theorem PlanS.set_td (h : PlanS wY g lo vehicle sv tm di wt se steps W) (t d : Int) : PlanS wY g lo vehicle sv t d wt se steps ((W.setCell ⟨g, 2, none⟩ (.int .i64 t)).setCell ⟨g, 3, none⟩ (.int .i64 d)) := by
 have h2 := h.setAt 2 (.int .i64 t) (tm' := t) (di' := di) (wt' := wt) (se' := se) (by simpa using blk_set h.out 2 (.int .i64 t))
 exact h2.setAt 3 (.int .i64 d) (by simpa using blk_set h2.out 3 (.int .i64 d))
theorem PlanS.set_ws (h : PlanS wY g lo vehicle sv tm di wt se steps W) (t d : Int) : PlanS wY g lo vehicle sv tm di t d steps ((W.setCell ⟨g, 4, none⟩ (.int .i64 t)).setCell ⟨g, 5, none⟩ (.int .i64 d)) := by
 have h2 := h.setAt 4 (.int .i64 t) (tm' := tm) (di' := di) (wt' := t) (se' := se) (by simpa using blk_set h.out 4 (.int .i64 t))
 exact h2.setAt 5 (.int .i64 d) (by simpa using blk_set h2.out 5 (.int .i64 d))
theorem PlanS.appended {x : TStep} (h : PlanS wY g lo vehicle sv tm di wt se steps W) (ho : OwnRow (StepIn W lo) 91 9 W1 wY.heap.size v1 (steps ++ [x])) (hb : Below wY.heap.size W W1) (hg : W.grownBy W1 sv.ownBlock) :
  PlanS wY g lo vehicle v1 tm di wt se (steps ++ [x]) (W1.setCell ⟨g, 1, none⟩ v1) := by
 have hgy : g < wY.heap.size := Nat.lt_of_lt_of_le h.glo h.loy
 have hmv : ∀ k, IntBlk W lo k → W1.heap[k]? = W.heap[k]? := fun k hk => hg.block k hk.lt (h.row.ne_int hk)
 have hr : StepRow W1 lo wY.heap.size v1 (steps ++ [x]) := OwnRow.imp_ ho (fun _ _ hk => hk.step hmv)
 have hout : W1.heap[g]? = _ := (hb.block g hgy).trans h.out
 have hs : Below g W1 (W1.setCell ⟨g, 1, none⟩ v1) := by exact Below.setCell (Below.refl g W1) (Nat.le_refl g) v1
 refine ⟨h.glo, h.loy, Nat.le_trans (Nat.le_trans h.size hb.size) hs.size, hs.os.trans (hb.os.trans h.os), hs.tape.trans (hb.tape.trans h.tape), hs.output.trans (hb.output.trans h.output), fun k hk hn => (Below.heap_setCell W1 ⟨g, 1, none⟩ v1 k (fun e => hn e)).trans ((hb.block k hk).trans (h.block k hk hn)), by simpa using blk_set hout 1 v1, hr.step (fun k hk => ?_) (fun k hk => ?_)⟩
 ·exact Below.heap_setCell W1 ⟨g, 1, none⟩ v1 k (fun e => by have h1 := hk.1; have h2 := h.glo; have e' : k = g := e; omega)
 ·exact Below.heap_setCell W1 ⟨g, 1, none⟩ v1 k (fun e => by have h1 := (hr.own_lt k hk).1; have e' : k = g := e; omega)
theorem PlanS.int_ (h : PlanS wY g lo vehicle sv tm di wt se steps W) {x : List Int} {cs : List Value} (hx : IntsIn wY lo x cs) : IntsIn W lo x cs :=
 hx.step (fun k hk => h.block k hk.lt (by have h1 := hk.1; have h2 := h.glo; omega))
/-- A row of whole numbers from lo on reads as it did. -/
theorem PlanS.reads {x : List Int} {A : Option Addr} {m : Nat} (h : PlanS wY g lo vehicle sv tm di wt se steps W) (hx : Kd.F (Kd.int .i64) wY (fun k => lo ≤ k) A m x) : Kd.C (Kd.int .i64) W A m x :=
 Kd.F_now (Kd.F_step hx (fun k hk hs => h.block k hs (by have h2 := h.glo; have h3 : lo ≤ k := hk; omega)))
/-- An element of the row of loads. -/
theorem atLoad {ls : List (List Int)} {A : Option Addr} {m c : Nat} (h : LoadRow W base (.slice A m c) ls) (k : Nat) (hk : k < ls.length) :
  ∃ ad A' c', A = some ad ∧ W.cell? (ad.add k) = some (.slice A' ls[k].length c') ∧ IntsIn W base ls[k] [.slice A' ls[k].length c'] := by
 obtain ⟨A2, c2, e2, _, hC⟩ := OwnRow.reads h
 injection e2 with eA en ec
 subst eA en ec
 obtain ⟨ad, ea, hc⟩ := hC.2.2 (by omega)
 obtain ⟨cs, _, hR, hcell⟩ := hc k ls[k] (List.getElem?_eq_getElem hk)
 have hR' := hR
 obtain ⟨A', c', rfl, _, _⟩ := hR
 refine ⟨ad, A', c', ea, ?_, hR'⟩
 have := hcell 0 _ rfl
 rwa [show k * 1 + 0 = k by omega] at this
end
theorem sbuild_4 {ev : Operand → Value} {o : Oper} {w : World} {t0 t1 t2 t5 : Nat} {k i pl ar : Int} {A : Option Addr} {n c : Nat} (ho : o.op = .build 91 #[(0, .tmp t0), (1, .tmp t1), (2, .tmp t2), (5, .tmp t5)])
  (h0 : ev (.tmp t0) = .agg #[.int .i64 k, .int .i64 i]) (h1 : ev (.tmp t1) = .int .i64 pl) (h2 : ev (.tmp t2) = .int .i64 ar) (h3 : ev (.tmp t5) = .slice A n c) :
  Sem.run Try.prog (execOp ev o) w = .ok (Next.value (.agg #[.int .i64 k, .int .i64 i, .int .i64 pl, .int .i64 ar, .int .i64 0, .int .i64 0, .slice A n c, .int .i64 0, .int .i64 0])) w := by
 unfold execOp
 simp only [ho]
 go_simp
theorem sbuild_8 {ev : Operand → Value} {o : Oper} {w : World} {t0 t1 t2 t3 t4 t5 t6 t7 : Nat} {k i pl ar wt se ti di : Int} {A : Option Addr} {n c : Nat}
  (ho : o.op = .build 91 #[(0, .tmp t0), (1, .tmp t1), (2, .tmp t2), (3, .tmp t3), (4, .tmp t4), (5, .tmp t5), (6, .tmp t6), (7, .tmp t7)])
  (h0 : ev (.tmp t0) = .agg #[.int .i64 k, .int .i64 i]) (h1 : ev (.tmp t1) = .int .i64 pl) (h2 : ev (.tmp t2) = .int .i64 ar) (h3 : ev (.tmp t3) = .int .i64 wt) (h4 : ev (.tmp t4) = .int .i64 se) (h5 : ev (.tmp t5) = .slice A n c) (h6 : ev (.tmp t6) = .int .i64 ti) (h7 : ev (.tmp t7) = .int .i64 di) :
  Sem.run Try.prog (execOp ev o) w = .ok (Next.value (.agg #[.int .i64 k, .int .i64 i, .int .i64 pl, .int .i64 ar, .int .i64 wt, .int .i64 se, .slice A n c, .int .i64 ti, .int .i64 di])) w := by
 unfold execOp
 simp only [ho]
 go_simp
theorem sbuild_6 {ev : Operand → Value} {o : Oper} {w : World} {t0 t1 t2 t5 t6 t7 : Nat} {k i pl ar ti di : Int} {A : Option Addr} {n c : Nat}
  (ho : o.op = .build 91 #[(0, .tmp t0), (1, .tmp t1), (2, .tmp t2), (5, .tmp t5), (6, .tmp t6), (7, .tmp t7)])
  (h0 : ev (.tmp t0) = .agg #[.int .i64 k, .int .i64 i]) (h1 : ev (.tmp t1) = .int .i64 pl) (h2 : ev (.tmp t2) = .int .i64 ar) (h5 : ev (.tmp t5) = .slice A n c) (h6 : ev (.tmp t6) = .int .i64 ti) (h7 : ev (.tmp t7) = .int .i64 di) :
  Sem.run Try.prog (execOp ev o) w = .ok (Next.value (.agg #[.int .i64 k, .int .i64 i, .int .i64 pl, .int .i64 ar, .int .i64 0, .int .i64 0, .slice A n c, .int .i64 ti, .int .i64 di])) w := by
 unfold execOp
 simp only [ho]
 go_simp
theorem wp_sliceStepP {o : Oper} {a : Act} {w : World} {K : Act → World → Prop} {Q : Exit → Act → World → Prop} {t : Nat} {y0 y1 y2 y3 y4 y5 y7 y8 : Int} {A : Option Addr} {n c : Nat}
  (ho : o.op = .buildSlice 72 1 #[(0, .tmp t)]) (ht : a.tmps[t]? = some (.agg #[.int .i64 y0, .int .i64 y1, .int .i64 y2, .int .i64 y3, .int .i64 y4, .int .i64 y5, .slice A n c, .int .i64 y7, .int .i64 y8]))
  (h : K (a.put o.dst (.slice (some ⟨w.heap.size, 0, none⟩) 1 1)) (w.alloc (.cells #[.int .i64 y0, .int .i64 y1, .int .i64 y2, .int .i64 y3, .int .i64 y4, .int .i64 y5, .slice A n c, .int .i64 y7, .int .i64 y8] 91))) :
  Oper.wp Try.prog o a w K Q := by
 unfold Oper.wp execOp
 simp only [ho]
 go_simp
 exact h
theorem wpList_store7P {o : Oper} {rest : List Oper} {ops : Array Oper} {a : Act} {w : World} {Q : Exit → Act → World → Prop} {pa pv : Operand} {g : Nat} {d0 d1 d2 d3 d4 d5 d6 : Value} {x0 x2 x3 x4 x5 x6 : Int} {A : Option Addr} {n c tt : Nat}
  (hgd : o.guard = none) (ho : o.op = .store 74 pa pv) (hpa : a.eval pa = .pointer (some ⟨g, 0, none⟩)) (hpv : a.eval pv = .agg #[.int .i64 x0, .slice A n c, .int .i64 x2, .int .i64 x3, .int .i64 x4, .int .i64 x5, .int .i64 x6])
  (hb : w.heap[g]? = some (.cells #[d0, d1, d2, d3, d4, d5, d6] tt (0, 0)))
  (h : wpList Try.prog ops Q rest (a.put o.dst undef) (((((((w.setCell ⟨g, 0, none⟩ (.int .i64 x0)).setCell ⟨g, 1, none⟩ (.slice A n c)).setCell ⟨g, 2, none⟩ (.int .i64 x2)).setCell ⟨g, 3, none⟩ (.int .i64 x3)).setCell ⟨g, 4, none⟩ (.int .i64 x4)).setCell ⟨g, 5, none⟩ (.int .i64 x5)).setCell ⟨g, 6, none⟩ (.int .i64 x6))) :
  wpList Try.prog ops Q (o :: rest) a w := by
 unfold wpList
 rw [if_pos (by simp [Region.wanted, hgd])]
 exact .inl (wp_store7 ho hpa hpv hb h)
end Go.Proofs.Ytemjpgmfignhnaa
