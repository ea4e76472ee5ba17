/- Contract: a problem with its own lists.
Conditions: lists no longer than memory allows. -/
import Derived.Test.YtemjpgmfignhnaaM0
import Derived.Test.YtemjpgmfignhnaaGd
namespace Go.Proofs.Ytemjpgmfignhnaa
open Go.RowKit Go.Proofs.YtemjpgmfignhnaaW.PrintWords Go.Proofs.YtemjpgmfignhnaaW.PrintLast Go.Proofs.YtemjpgmfignhnaaW.PrintMore
set_option linter.unusedVariables false
set_option linter.unusedSimpArgs false
attribute [local go_sem] cell_growBy Option.some_or
theorem int_info : (Try.prog.info? 3).map (fun i => (i.zero, i.size, i.bytes)) = some (some (.int .i64 0), 1, 8) := by kernel_rfl
/-- Where a copied problem's lists lie. -/
structure OV where
 gt : Nat
 ct : Nat
 gd : Nat
 cd : Nat
 gv : Nat
 cv : Nat
 gj : Nat
 cj : Nat
 gs : Nat
 cs : Nat
 top : Nat
abbrev OV.pv (o : OV) : PV := ⟨some ⟨o.gt, 0, none⟩, o.ct, some ⟨o.gd, 0, none⟩, o.cd, some ⟨o.gv, 0, none⟩, o.cv, some ⟨o.gj, 0, none⟩, o.cj, some ⟨o.gs, 0, none⟩, o.cs⟩
/-- The lists lie in blocks from n to o.top, what they lead to below n or behind o.top. -/
structure OwnP (n : Nat) (o : OV) (p : TProblem) (w : World) : Prop where
 bt : n ≤ o.gt ∧ o.gt < o.top
 bd : n ≤ o.gd ∧ o.gd < o.top
 bv : n ≤ o.gv ∧ o.gv < o.top
 bj : n ≤ o.gj ∧ o.gj < o.top
 bs : n ≤ o.gs ∧ o.gs < o.top
 top : o.top ≤ w.heap.size
 ne : o.gv ≠ o.gj ∧ o.gv ≠ o.gs ∧ o.gj ≠ o.gs ∧ o.gt ≠ o.gv ∧ o.gt ≠ o.gj ∧ o.gt ≠ o.gs ∧ o.gd ≠ o.gv ∧ o.gd ≠ o.gj ∧ o.gd ≠ o.gs
 l1 : p.Time.Cells.length ≤ o.ct
 l2 : p.Dist.Cells.length ≤ o.cd
 l3 : p.Vehicles.length ≤ o.cv
 l4 : p.Jobs.length ≤ o.cj
 l5 : p.Shipments.length ≤ o.cs
 r1 : RowAt (Kd.int .i64) 3 w (fun k => k < n) o.gt p.Time.Cells
 r2 : RowAt (Kd.int .i64) 3 w (fun k => k < n) o.gd p.Dist.Cells
 r3 : RowAt kVehicle 89 w (fun k => k < n ∨ o.top ≤ k) o.gv p.Vehicles
 r4 : RowAt kJob 46 w (fun k => k < n ∨ o.top ≤ k) o.gj p.Jobs
 r5 : RowAt kShipment 139 w (fun k => k < n ∨ o.top ≤ k) o.gs p.Shipments
theorem OwnP.ok {n : Nat} {o : OV} {p : TProblem} {w : World} (h : OwnP n o p w) (hl : Lens p) : o.pv.Ok p w := ⟨h.l1, h.l2, h.l3, h.l4, h.l5, h.r1.reads hl.n1, h.r2.reads hl.n2, h.r3.reads hl.n3, h.r4.reads hl.n4, h.r5.reads hl.n5⟩
def CopiedPost (p : TProblem) (w : World) (e : Ending) (w' : World) : Prop := ∃ o : OV, e = .returned (o.pv.val p) ∧ OwnP w.heap.size o p w' ∧ Below w.heap.size w w'
theorem keeps_copied {α : Type} {d : Kd α} {xs : List α} {bp e base n : Nat} (hb : bp < base) (hn : n ≤ bp) : (Tell.sat (Copied d e base (fun k => k < n) xs)).Keeps bp := fun v w w' hk h => h.keep hk hb (fun k hk => by omega)
set_option maxHeartbeats 4000000 in
set_option maxRecDepth 100000 in
theorem copied_any (q : PV) (p : TProblem) (w : World) (hq : q.Ok p w) (hg : GProblem p) :
  Calls Try.prog 27 #[q.val p] w (CopiedPost p w) := by
 obtain ⟨a1, c1, a2, c2, a3, c3, a4, c4, a5, c5⟩ := q
 have HQ := Aside0.mk hq
 have HG := Aside0.mk hg
 have hlv : p.Vehicles.length ≤ 4611686018427387904 := by
  have := hg.2.2.2.1.2.1
  omega
 have hlj : p.Jobs.length ≤ 4611686018427387904 := by
  have := hg.2.2.2.2.1.2.1
  omega
 have hls : p.Shipments.length ≤ 4611686018427387904 := by
  have := hg.2.2.2.2.2.2.1
  omega
 clear hq hg
 unfold PV.val
 go_enter Try.func27, Try.ntmps27
 go_wp2
 have hbox : ((w.alloc (.cells #[.int .i64 p.Dims, .int .i64 p.Time.N, .slice a1 p.Time.Cells.length c1, .int .i64 p.Dist.N, .slice a2 p.Dist.Cells.length c2, .slice a3 p.Vehicles.length c3, .slice a4 p.Jobs.length c4, .slice a5 p.Shipments.length c5] 29)).alloc (.cells #[.int .i64 0, .int .i64 0, .slice none 0 0, .int .i64 0, .slice none 0 0, .slice none 0 0, .slice none 0 0, .slice none 0 0] 29)).heap[w.heap.size]? = _ := blk_alloc (blk_new _ _) _
 have hbel0 : Below w.heap.size w ((w.alloc (.cells #[.int .i64 p.Dims, .int .i64 p.Time.N, .slice a1 p.Time.Cells.length c1, .int .i64 p.Dist.N, .slice a2 p.Dist.Cells.length c2, .slice a3 p.Vehicles.length c3, .slice a4 p.Jobs.length c4, .slice a5 p.Shipments.length c5] 29)).alloc (.cells #[.int .i64 0, .int .i64 0, .slice none 0 0, .int .i64 0, .slice none 0 0, .slice none 0 0, .slice none 0 0, .slice none 0 0] 29)) := clb
 have hB : w.heap.size + 1 < ((w.alloc (.cells #[.int .i64 p.Dims, .int .i64 p.Time.N, .slice a1 p.Time.Cells.length c1, .int .i64 p.Dist.N, .slice a2 p.Dist.Cells.length c2, .slice a3 p.Vehicles.length c3, .slice a4 p.Jobs.length c4, .slice a5 p.Shipments.length c5] 29)).alloc (.cells #[.int .i64 0, .int .i64 0, .slice none 0 0, .int .i64 0, .slice none 0 0, .slice none 0 0, .slice none 0 0, .slice none 0 0] 29)).heap.size := (by show w.heap.size + 1 < ((w.heap.push _).push _).size; rw [Array.size_push, Array.size_push]; omega)
 have hres : ((w.alloc (.cells #[.int .i64 p.Dims, .int .i64 p.Time.N, .slice a1 p.Time.Cells.length c1, .int .i64 p.Dist.N, .slice a2 p.Dist.Cells.length c2, .slice a3 p.Vehicles.length c3, .slice a4 p.Jobs.length c4, .slice a5 p.Shipments.length c5] 29)).alloc (.cells #[.int .i64 0, .int .i64 0, .slice none 0 0, .int .i64 0, .slice none 0 0, .slice none 0 0, .slice none 0 0, .slice none 0 0] 29)).heap[w.heap.size + 1]? = some (.cells #[.int .i64 0, .int .i64 0, .slice none 0 0, .int .i64 0, .slice none 0 0, .slice none 0 0, .slice none 0 0, .slice none 0 0] 29 (0, 0)) := (by rw [show w.heap.size + 1 = (w.alloc (.cells #[.int .i64 p.Dims, .int .i64 p.Time.N, .slice a1 p.Time.Cells.length c1, .int .i64 p.Dist.N, .slice a2 p.Dist.Cells.length c2, .slice a3 p.Vehicles.length c3, .slice a4 p.Jobs.length c4, .slice a5 p.Shipments.length c5] 29)).heap.size from (Array.size_push ..).symm]; exact blk_new _ _)
 generalize (w.alloc (.cells #[.int .i64 p.Dims, .int .i64 p.Time.N, .slice a1 p.Time.Cells.length c1, .int .i64 p.Dist.N, .slice a2 p.Dist.Cells.length c2, .slice a3 p.Vehicles.length c3, .slice a4 p.Jobs.length c4, .slice a5 p.Shipments.length c5] 29)).alloc (.cells #[.int .i64 0, .int .i64 0, .slice none 0 0, .int .i64 0, .slice none 0 0, .slice none 0 0, .slice none 0 0, .slice none 0 0] 29) = W at *
 have hbel : ∀ w1, KeepP w.heap.size W w1 → Below w.heap.size w w1 := fun w1 h => h.over hbel0 (Nat.le_refl _)
 generalize hcur : #[Value.int .i64 p.Dims, .int .i64 p.Time.N, .slice a1 p.Time.Cells.length c1, .int .i64 p.Dist.N, .slice a2 p.Dist.Cells.length c2, .slice a3 p.Vehicles.length c3, .slice a4 p.Jobs.length c4, .slice a5 p.Shipments.length c5] = cur0 at *
 have hsz : cur0.size = 8 := by rw [← hcur]; rfl
 have o1 : cur0[2]? = some (.slice a1 p.Time.Cells.length c1) := by rw [← hcur]; rfl
 have o2 : cur0[4]? = some (.slice a2 p.Dist.Cells.length c2) := by rw [← hcur]; rfl
 refine wp_region_S (tells w.heap.size [.row 3 (W.heap.size), .is (.pointer (some ⟨w.heap.size, 1, none⟩)), .is (.pointer (some ⟨w.heap.size, 2, none⟩)), .is (.slice a1 p.Time.Cells.length c1), .sat (Copied (Kd.int .i64) 3 (W.heap.size) (fun k => k < w.heap.size) p.Time.Cells), .row 3 (W.heap.size), .is (.pointer (some ⟨w.heap.size, 3, none⟩)), .is (.pointer (some ⟨w.heap.size, 4, none⟩)), .is (.slice a2 p.Dist.Cells.length c2), .sat (Copied (Kd.int .i64) 3 (W.heap.size) (fun k => k < w.heap.size) p.Dist.Cells), .is (.pointer (some ⟨w.heap.size, 1, none⟩)), .is (.pointer (some ⟨w.heap.size, 2, none⟩)), .any, .is (.pointer (some ⟨w.heap.size, 3, none⟩)), .is (.pointer (some ⟨w.heap.size, 4, none⟩)), .any]) w.heap.size 29 cur0 [(12, 14), (15, 19)] (fun n => if n = 12 then 2 else 4) (fun n => if n = 14 then 4 else 9) [(1, .pointer (some ⟨w.heap.size, 0, none⟩))] (by kernel_rfl) (by kernel_rfl) (by first | rfl | decide | simp) (by kernel_rfl) (by kernel_rfl) hbox (by simp [hsz]) (by simp) (by simp) [1] rfl (by kernel_rfl) (by simp [go_sem]) (tells_keep (by simp [Tell.Keeps]; exact ⟨keeps_copied (by omega) (Nat.le_refl _), keeps_copied (by omega) (Nat.le_refl _)⟩)) ?_ ?_
 ·intro jj o ho
  match jj, ho with
  | 0, ho =>
   obtain rfl := Option.some.inj ho
   intro Q K listed a wx hA hdep hun hv hs
   unfold Oper.wp
   simp [execOp, go_sem]
   exact hv (by decide) _ _ (below_alloc (Below.refl _ _) _) (fun _ _ => ⟨⟨_, rfl, hA.grown.size, blk_new _ _⟩, (by omega)⟩)
  | 1, ho =>
   obtain rfl := Option.some.inj ho
   intro Q K listed a wx hA hdep hun hv hs
   have f1 : a.tmps.getD 1 undef = .pointer (some ⟨w.heap.size, 0, none⟩) := hA.base (1, _) (by simp)
   unfold Oper.wp
   simp [execOp, go_sem, f1]
   exact hv (by decide) _ _ (Below.refl _ _) (fun _ _ => rfl)
  | 2, ho =>
   obtain rfl := Option.some.inj ho
   intro Q K listed a wx hA hdep hun hv hs
   have f1 : a.tmps.getD 11 undef = .pointer (some ⟨w.heap.size, 1, none⟩) := hA.told 1 _ 11 rfl rfl (hdep 1 (by kernel_rfl))
   unfold Oper.wp
   simp [execOp, go_sem, f1]
   exact hv (by decide) _ _ (Below.refl _ _) (fun _ _ => rfl)
  | 3, ho =>
   obtain rfl := Option.some.inj ho
   intro Q K listed a wx hA hdep hun hv hs
   have f1 : a.tmps.getD 12 undef = .pointer (some ⟨w.heap.size, 2, none⟩) := hA.told 2 _ 12 rfl rfl (hdep 2 (by kernel_rfl))
   have hc : wx.cell? ⟨w.heap.size, 2, none⟩ = some (.slice a1 p.Time.Cells.length c1) := (hA.side.cell (12, 14) (by simp) (hun 12 (.inr (by kernel_rfl)))).trans o1
   unfold Oper.wp
   simp [execOp, go_sem, f1, hc]
   exact hv (by decide) _ _ (Below.refl _ _) (fun _ _ => rfl)
  | 4, ho =>
   obtain rfl := Option.some.inj ho
   intro Q K listed a wx hA hdep hun hv hs
   have fs : EmptyRow 3 (W.heap.size) (a.tmps.getD 10 undef) wx := (hA.told 0 _ 10 rfl rfl (hdep 0 (by kernel_rfl)) : EmptyRow _ _ _ _ ∧ _).1
   have f1 : a.tmps.getD 13 undef = .slice a1 p.Time.Cells.length c1 := hA.told 3 _ 13 rfl rfl (hdep 3 (by kernel_rfl))
   refine wp_copy (d := (Kd.int .i64)) (W0 := w) (.tmp 10) (.tmp 13) 22 3 (.int .i64 0) 8 rfl Try.underlying22 int_info rfl (by decide) (Kd.heap_int _) _ hA.grown.size fs _ _ f1 HQ.out.h1 (hbel wx hA.grown) (Nat.le_trans HG.out.2.1.2.2.1 (by decide)) HG.out.2.1.2.1 ?_
   intro v w2 hc hb2
   exact hv (by decide) _ _ hb2 (fun _ _ => hc)
  | 5, ho =>
   obtain rfl := Option.some.inj ho
   intro Q K listed a wx hA hdep hun hv hs
   unfold Oper.wp
   simp [execOp, go_sem]
   exact hv (by decide) _ _ (below_alloc (Below.refl _ _) _) (fun _ _ => ⟨⟨_, rfl, hA.grown.size, blk_new _ _⟩, (by omega)⟩)
  | 6, ho =>
   obtain rfl := Option.some.inj ho
   intro Q K listed a wx hA hdep hun hv hs
   have f1 : a.tmps.getD 1 undef = .pointer (some ⟨w.heap.size, 0, none⟩) := hA.base (1, _) (by simp)
   unfold Oper.wp
   simp [execOp, go_sem, f1]
   exact hv (by decide) _ _ (Below.refl _ _) (fun _ _ => rfl)
  | 7, ho =>
   obtain rfl := Option.some.inj ho
   intro Q K listed a wx hA hdep hun hv hs
   have f1 : a.tmps.getD 16 undef = .pointer (some ⟨w.heap.size, 3, none⟩) := hA.told 6 _ 16 rfl rfl (hdep 6 (by kernel_rfl))
   unfold Oper.wp
   simp [execOp, go_sem, f1]
   exact hv (by decide) _ _ (Below.refl _ _) (fun _ _ => rfl)
  | 8, ho =>
   obtain rfl := Option.some.inj ho
   intro Q K listed a wx hA hdep hun hv hs
   have f1 : a.tmps.getD 17 undef = .pointer (some ⟨w.heap.size, 4, none⟩) := hA.told 7 _ 17 rfl rfl (hdep 7 (by kernel_rfl))
   have hc : wx.cell? ⟨w.heap.size, 4, none⟩ = some (.slice a2 p.Dist.Cells.length c2) := (hA.side.cell (15, 19) (by simp) (hun 15 (.inr (by kernel_rfl)))).trans o2
   unfold Oper.wp
   simp [execOp, go_sem, f1, hc]
   exact hv (by decide) _ _ (Below.refl _ _) (fun _ _ => rfl)
  | 9, ho =>
   obtain rfl := Option.some.inj ho
   intro Q K listed a wx hA hdep hun hv hs
   have fs : EmptyRow 3 (W.heap.size) (a.tmps.getD 15 undef) wx := (hA.told 5 _ 15 rfl rfl (hdep 5 (by kernel_rfl)) : EmptyRow _ _ _ _ ∧ _).1
   have f1 : a.tmps.getD 18 undef = .slice a2 p.Dist.Cells.length c2 := hA.told 8 _ 18 rfl rfl (hdep 8 (by kernel_rfl))
   refine wp_copy (d := (Kd.int .i64)) (W0 := w) (.tmp 15) (.tmp 18) 22 3 (.int .i64 0) 8 rfl Try.underlying22 int_info rfl (by decide) (Kd.heap_int _) _ hA.grown.size fs _ _ f1 HQ.out.h2 (hbel wx hA.grown) (Nat.le_trans HG.out.2.2.1.2.2.1 (by decide)) HG.out.2.2.1.2.1 ?_
   intro v w2 hc hb2
   exact hv (by decide) _ _ hb2 (fun _ _ => hc)
  | 10, ho =>
   obtain rfl := Option.some.inj ho
   intro Q K listed a wx hA hdep hun hv hs
   have f1 : a.tmps.getD 1 undef = .pointer (some ⟨w.heap.size, 0, none⟩) := hA.base (1, _) (by simp)
   unfold Oper.wp
   simp [execOp, go_sem, f1]
   exact hv (by decide) _ _ (Below.refl _ _) (fun _ _ => rfl)
  | 11, ho =>
   obtain rfl := Option.some.inj ho
   intro Q K listed a wx hA hdep hun hv hs
   have f1 : a.tmps.getD 20 undef = .pointer (some ⟨w.heap.size, 1, none⟩) := hA.told 10 _ 20 rfl rfl (hdep 10 (by kernel_rfl))
   unfold Oper.wp
   simp [execOp, go_sem, f1]
   exact hv (by decide) _ _ (Below.refl _ _) (fun _ _ => rfl)
  | 12, ho =>
   obtain rfl := Option.some.inj ho
   intro Q K listed a wx hA hdep hun hv hs
   have f1 : a.tmps.getD 21 undef = .pointer (some ⟨w.heap.size, 2, none⟩) := hA.told 11 _ 21 rfl rfl (hdep 11 (by kernel_rfl))
   obtain ⟨gc, cc, hvv, _⟩ := (hA.told 4 _ 14 rfl rfl (hdep 4 (by kernel_rfl)) : Copied (Kd.int .i64) 3 (W.heap.size) (fun k => k < w.heap.size) p.Time.Cells _ _)
   have hc : wx.cell? ⟨w.heap.size, 2, none⟩ = some (.slice a1 p.Time.Cells.length c1) := (hA.side.cell (12, 14) (by simp) (hun 12 (.inl rfl))).trans o1
   have hfro : wx.frozen? ⟨w.heap.size, 2, none⟩ = false := hA.side.frozen _
   have hK := hs (12, 14) (by simp) rfl rfl
   rw [hvv] at hK
   unfold Oper.wp
   simp [execOp, go_sem, f1, hvv, hc, hfro]
   exact hK
  | 13, ho =>
   obtain rfl := Option.some.inj ho
   intro Q K listed a wx hA hdep hun hv hs
   have f1 : a.tmps.getD 1 undef = .pointer (some ⟨w.heap.size, 0, none⟩) := hA.base (1, _) (by simp)
   unfold Oper.wp
   simp [execOp, go_sem, f1]
   exact hv (by decide) _ _ (Below.refl _ _) (fun _ _ => rfl)
  | 14, ho =>
   obtain rfl := Option.some.inj ho
   intro Q K listed a wx hA hdep hun hv hs
   have f1 : a.tmps.getD 22 undef = .pointer (some ⟨w.heap.size, 3, none⟩) := hA.told 13 _ 22 rfl rfl (hdep 13 (by kernel_rfl))
   unfold Oper.wp
   simp [execOp, go_sem, f1]
   exact hv (by decide) _ _ (Below.refl _ _) (fun _ _ => rfl)
  | 15, ho =>
   obtain rfl := Option.some.inj ho
   intro Q K listed a wx hA hdep hun hv hs
   have f1 : a.tmps.getD 23 undef = .pointer (some ⟨w.heap.size, 4, none⟩) := hA.told 14 _ 23 rfl rfl (hdep 14 (by kernel_rfl))
   obtain ⟨gc, cc, hvv, _⟩ := (hA.told 9 _ 19 rfl rfl (hdep 9 (by kernel_rfl)) : Copied (Kd.int .i64) 3 (W.heap.size) (fun k => k < w.heap.size) p.Dist.Cells _ _)
   have hc : wx.cell? ⟨w.heap.size, 4, none⟩ = some (.slice a2 p.Dist.Cells.length c2) := (hA.side.cell (15, 19) (by simp) (hun 15 (.inl rfl))).trans o2
   have hfro : wx.frozen? ⟨w.heap.size, 4, none⟩ = false := hA.side.frozen _
   have hK := hs (15, 19) (by simp) rfl rfl
   rw [hvv] at hK
   unfold Oper.wp
   simp [execOp, go_sem, f1, hvv, hc, hfro]
   exact hK
  | _ + 16, ho => simp at ho
 ·intro u w1 hk hΦ hbp
  have z1 : Copied (Kd.int .i64) 3 W.heap.size (fun k => k < w.heap.size) p.Time.Cells (u 4) w1 := hΦ 4 _ 14 rfl rfl
  have z2 : Copied (Kd.int .i64) 3 W.heap.size (fun k => k < w.heap.size) p.Dist.Cells (u 9) w1 := hΦ 9 _ 19 rfl rfl
  clear hΦ
  subst hcur
  obtain ⟨gt, ct, ht1, ht2, ht3, ht4⟩ := z1
  obtain ⟨gd, cd, hd1, hd2, hd3, hd4⟩ := z2
  have hb2 : w1.heap[w.heap.size]? = some (.cells #[.int .i64 p.Dims, .int .i64 p.Time.N, .slice (some ⟨gt, 0, none⟩) p.Time.Cells.length ct, .int .i64 p.Dist.N, .slice (some ⟨gd, 0, none⟩) p.Dist.Cells.length cd, .slice a3 p.Vehicles.length c3, .slice a4 p.Jobs.length c4, .slice a5 p.Shipments.length c5] 29 (0, 0)) := by
   simp at hbp
   rw [hbp, ht1, hd1]
  clear hbp o1 o2 hsz hbox
  have hbel1 := hbel w1 hk
  have hB1 : w.heap.size + 1 < w1.heap.size := Nat.lt_of_lt_of_le hB hk.size
  have hres1 := (hk.block _ hB (by omega)).trans hres
  have hgt := Nat.lt_of_lt_of_le hB ht3
  have hgd := Nat.lt_of_lt_of_le hB hd3
  clear hbel hk ht3 hd3 ht1 hd1 hB hbel0 hres
  clear W
  simp only [putAll, Act.put, List.setIfInBounds_toArray, List.set_cons_succ, List.set_cons_zero, Nat.reduceAdd]
  generalize u 0 = v0, u 1 = v1, u 2 = v2, u 3 = v3, u 4 = v4, u 5 = v5, u 6 = v6, u 7 = v7, u 8 = v8, u 9 = v9, u 10 = v10, u 11 = v11, u 13 = v13, u 14 = v14
  clear u
  go_wp2
  have hbel : ∀ wx, KeepP w.heap.size w1 wx → Below w.heap.size w wx := fun wx h => h.over hbel1 (Nat.le_refl _)
  generalize hcur : #[Value.int .i64 p.Dims, .int .i64 p.Time.N, .slice (some ⟨gt, 0, none⟩) p.Time.Cells.length ct, .int .i64 p.Dist.N, .slice (some ⟨gd, 0, none⟩) p.Dist.Cells.length cd, .slice a3 p.Vehicles.length c3, .slice a4 p.Jobs.length c4, .slice a5 p.Shipments.length c5] = cur0 at hb2
  have hsz : cur0.size = 8 := by rw [← hcur]; rfl
  have o1 : cur0[5]? = some (.slice a3 p.Vehicles.length c3) := by rw [← hcur]; rfl
  have o2 : cur0[6]? = some (.slice a4 p.Jobs.length c4) := by rw [← hcur]; rfl
  have o3 : cur0[7]? = some (.slice a5 p.Shipments.length c5) := by rw [← hcur]; rfl
  refine wp_region_S (tells w.heap.size [.row 89 (w1.heap.size), .is (.pointer (some ⟨w.heap.size, 5, none⟩)), .is (.slice a3 p.Vehicles.length c3), .sat (Copied kVehicle 89 (w1.heap.size) (fun k => k < w.heap.size) p.Vehicles), .row 46 (w1.heap.size), .is (.pointer (some ⟨w.heap.size, 6, none⟩)), .is (.slice a4 p.Jobs.length c4), .sat (Copied kJob 46 (w1.heap.size) (fun k => k < w.heap.size) p.Jobs), .row 139 (w1.heap.size), .is (.pointer (some ⟨w.heap.size, 7, none⟩)), .is (.slice a5 p.Shipments.length c5), .sat (Copied kShipment 139 (w1.heap.size) (fun k => k < w.heap.size) p.Shipments), .is (.pointer (some ⟨w.heap.size, 5, none⟩)), .any, .is (.pointer (some ⟨w.heap.size, 6, none⟩)), .any, .is (.pointer (some ⟨w.heap.size, 7, none⟩)), .any]) w.heap.size 29 cur0 [(13, 27), (15, 31), (17, 35)] (fun n => if n = 13 then 5 else if n = 15 then 6 else 7) (fun n => if n = 27 then 3 else if n = 31 then 7 else 11) [(1, .pointer (some ⟨w.heap.size, 0, none⟩))] (by kernel_rfl) (by kernel_rfl) (by first | rfl | decide | simp) (by kernel_rfl) (by kernel_rfl) hb2 (by simp [hsz]) (by simp) (by simp) [1] rfl (by kernel_rfl) (by simp [go_sem]) (tells_keep (by simp [Tell.Keeps]; exact ⟨keeps_copied (by omega) (Nat.le_refl _), keeps_copied (by omega) (Nat.le_refl _), keeps_copied (by omega) (Nat.le_refl _)⟩)) ?_ ?_
  ·intro jj o ho
   match jj, ho with
   | 0, ho =>
    obtain rfl := Option.some.inj ho
    intro Q K listed a wx hA hdep hun hv hs
    unfold Oper.wp
    simp [execOp, go_sem]
    exact hv (by decide) _ _ (below_alloc (Below.refl _ _) _) (fun _ _ => ⟨⟨_, rfl, hA.grown.size, blk_new _ _⟩, (by omega)⟩)
   | 1, ho =>
    obtain rfl := Option.some.inj ho
    intro Q K listed a wx hA hdep hun hv hs
    have f1 : a.tmps.getD 1 undef = .pointer (some ⟨w.heap.size, 0, none⟩) := hA.base (1, _) (by simp)
    unfold Oper.wp
    simp [execOp, go_sem, f1]
    exact hv (by decide) _ _ (Below.refl _ _) (fun _ _ => rfl)
   | 2, ho =>
    obtain rfl := Option.some.inj ho
    intro Q K listed a wx hA hdep hun hv hs
    have f1 : a.tmps.getD 25 undef = .pointer (some ⟨w.heap.size, 5, none⟩) := hA.told 1 _ 25 rfl rfl (hdep 1 (by kernel_rfl))
    have hc : wx.cell? ⟨w.heap.size, 5, none⟩ = some (.slice a3 p.Vehicles.length c3) := (hA.side.cell (13, 27) (by simp) (hun 13 (.inr (by kernel_rfl)))).trans o1
    unfold Oper.wp
    simp [execOp, go_sem, f1, hc]
    exact hv (by decide) _ _ (Below.refl _ _) (fun _ _ => rfl)
   | 3, ho =>
    obtain rfl := Option.some.inj ho
    intro Q K listed a wx hA hdep hun hv hs
    have fs : EmptyRow 89 (w1.heap.size) (a.tmps.getD 24 undef) wx := (hA.told 0 _ 24 rfl rfl (hdep 0 (by kernel_rfl)) : EmptyRow _ _ _ _ ∧ _).1
    have f1 : a.tmps.getD 26 undef = .slice a3 p.Vehicles.length c3 := hA.told 2 _ 26 rfl rfl (hdep 2 (by kernel_rfl))
    refine wp_copy (d := kVehicle) (W0 := w) (.tmp 24) (.tmp 26) 25 89 _ 120 rfl Try.underlying25 infoVehicle rfl (by decide) heap_vehicle _ hA.grown.size fs _ _ f1 HQ.out.h3 (hbel wx hA.grown) (Nat.le_trans HG.out.2.2.2.1.2.1 (by decide)) HG.out.2.2.2.1.1 ?_
    intro v w2 hc hb2
    exact hv (by decide) _ _ hb2 (fun _ _ => hc)
   | 4, ho =>
    obtain rfl := Option.some.inj ho
    intro Q K listed a wx hA hdep hun hv hs
    unfold Oper.wp
    simp [execOp, go_sem]
    exact hv (by decide) _ _ (below_alloc (Below.refl _ _) _) (fun _ _ => ⟨⟨_, rfl, hA.grown.size, blk_new _ _⟩, (by omega)⟩)
   | 5, ho =>
    obtain rfl := Option.some.inj ho
    intro Q K listed a wx hA hdep hun hv hs
    have f1 : a.tmps.getD 1 undef = .pointer (some ⟨w.heap.size, 0, none⟩) := hA.base (1, _) (by simp)
    unfold Oper.wp
    simp [execOp, go_sem, f1]
    exact hv (by decide) _ _ (Below.refl _ _) (fun _ _ => rfl)
   | 6, ho =>
    obtain rfl := Option.some.inj ho
    intro Q K listed a wx hA hdep hun hv hs
    have f1 : a.tmps.getD 29 undef = .pointer (some ⟨w.heap.size, 6, none⟩) := hA.told 5 _ 29 rfl rfl (hdep 5 (by kernel_rfl))
    have hc : wx.cell? ⟨w.heap.size, 6, none⟩ = some (.slice a4 p.Jobs.length c4) := (hA.side.cell (15, 31) (by simp) (hun 15 (.inr (by kernel_rfl)))).trans o2
    unfold Oper.wp
    simp [execOp, go_sem, f1, hc]
    exact hv (by decide) _ _ (Below.refl _ _) (fun _ _ => rfl)
   | 7, ho =>
    obtain rfl := Option.some.inj ho
    intro Q K listed a wx hA hdep hun hv hs
    have fs : EmptyRow 46 (w1.heap.size) (a.tmps.getD 28 undef) wx := (hA.told 4 _ 28 rfl rfl (hdep 4 (by kernel_rfl)) : EmptyRow _ _ _ _ ∧ _).1
    have f1 : a.tmps.getD 30 undef = .slice a4 p.Jobs.length c4 := hA.told 6 _ 30 rfl rfl (hdep 6 (by kernel_rfl))
    refine wp_copy (d := kJob) (W0 := w) (.tmp 28) (.tmp 30) 26 46 _ 104 rfl Try.underlying26 infoJob rfl (by decide) heap_job _ hA.grown.size fs _ _ f1 HQ.out.h4 (hbel wx hA.grown) (Nat.le_trans HG.out.2.2.2.2.1.2.1 (by decide)) HG.out.2.2.2.2.1.1 ?_
    intro v w2 hc hb2
    exact hv (by decide) _ _ hb2 (fun _ _ => hc)
   | 8, ho =>
    obtain rfl := Option.some.inj ho
    intro Q K listed a wx hA hdep hun hv hs
    unfold Oper.wp
    simp [execOp, go_sem]
    exact hv (by decide) _ _ (below_alloc (Below.refl _ _) _) (fun _ _ => ⟨⟨_, rfl, hA.grown.size, blk_new _ _⟩, (by omega)⟩)
   | 9, ho =>
    obtain rfl := Option.some.inj ho
    intro Q K listed a wx hA hdep hun hv hs
    have f1 : a.tmps.getD 1 undef = .pointer (some ⟨w.heap.size, 0, none⟩) := hA.base (1, _) (by simp)
    unfold Oper.wp
    simp [execOp, go_sem, f1]
    exact hv (by decide) _ _ (Below.refl _ _) (fun _ _ => rfl)
   | 10, ho =>
    obtain rfl := Option.some.inj ho
    intro Q K listed a wx hA hdep hun hv hs
    have f1 : a.tmps.getD 33 undef = .pointer (some ⟨w.heap.size, 7, none⟩) := hA.told 9 _ 33 rfl rfl (hdep 9 (by kernel_rfl))
    have hc : wx.cell? ⟨w.heap.size, 7, none⟩ = some (.slice a5 p.Shipments.length c5) := (hA.side.cell (17, 35) (by simp) (hun 17 (.inr (by kernel_rfl)))).trans o3
    unfold Oper.wp
    simp [execOp, go_sem, f1, hc]
    exact hv (by decide) _ _ (Below.refl _ _) (fun _ _ => rfl)
   | 11, ho =>
    obtain rfl := Option.some.inj ho
    intro Q K listed a wx hA hdep hun hv hs
    have fs : EmptyRow 139 (w1.heap.size) (a.tmps.getD 32 undef) wx := (hA.told 8 _ 32 rfl rfl (hdep 8 (by kernel_rfl)) : EmptyRow _ _ _ _ ∧ _).1
    have f1 : a.tmps.getD 34 undef = .slice a5 p.Shipments.length c5 := hA.told 10 _ 34 rfl rfl (hdep 10 (by kernel_rfl))
    refine wp_copy (d := kShipment) (W0 := w) (.tmp 32) (.tmp 34) 27 139 _ 120 rfl Try.underlying27 infoShipment rfl (by decide) heap_shipment _ hA.grown.size fs _ _ f1 HQ.out.h5 (hbel wx hA.grown) (Nat.le_trans HG.out.2.2.2.2.2.2.1 (by decide)) HG.out.2.2.2.2.2.1 ?_
    intro v w2 hc hb2
    exact hv (by decide) _ _ hb2 (fun _ _ => hc)
   | 12, ho =>
    obtain rfl := Option.some.inj ho
    intro Q K listed a wx hA hdep hun hv hs
    have f1 : a.tmps.getD 1 undef = .pointer (some ⟨w.heap.size, 0, none⟩) := hA.base (1, _) (by simp)
    unfold Oper.wp
    simp [execOp, go_sem, f1]
    exact hv (by decide) _ _ (Below.refl _ _) (fun _ _ => rfl)
   | 13, ho =>
    obtain rfl := Option.some.inj ho
    intro Q K listed a wx hA hdep hun hv hs
    have f1 : a.tmps.getD 36 undef = .pointer (some ⟨w.heap.size, 5, none⟩) := hA.told 12 _ 36 rfl rfl (hdep 12 (by kernel_rfl))
    obtain ⟨gc, cc, hvv, _⟩ := (hA.told 3 _ 27 rfl rfl (hdep 3 (by kernel_rfl)) : Copied kVehicle 89 (w1.heap.size) (fun k => k < w.heap.size) p.Vehicles _ _)
    have hc : wx.cell? ⟨w.heap.size, 5, none⟩ = some (.slice a3 p.Vehicles.length c3) := (hA.side.cell (13, 27) (by simp) (hun 13 (.inl rfl))).trans o1
    have hfro : wx.frozen? ⟨w.heap.size, 5, none⟩ = false := hA.side.frozen _
    have hK := hs (13, 27) (by simp) rfl rfl
    rw [hvv] at hK
    unfold Oper.wp
    simp [execOp, go_sem, f1, hvv, hc, hfro]
    exact hK
   | 14, ho =>
    obtain rfl := Option.some.inj ho
    intro Q K listed a wx hA hdep hun hv hs
    have f1 : a.tmps.getD 1 undef = .pointer (some ⟨w.heap.size, 0, none⟩) := hA.base (1, _) (by simp)
    unfold Oper.wp
    simp [execOp, go_sem, f1]
    exact hv (by decide) _ _ (Below.refl _ _) (fun _ _ => rfl)
   | 15, ho =>
    obtain rfl := Option.some.inj ho
    intro Q K listed a wx hA hdep hun hv hs
    have f1 : a.tmps.getD 37 undef = .pointer (some ⟨w.heap.size, 6, none⟩) := hA.told 14 _ 37 rfl rfl (hdep 14 (by kernel_rfl))
    obtain ⟨gc, cc, hvv, _⟩ := (hA.told 7 _ 31 rfl rfl (hdep 7 (by kernel_rfl)) : Copied kJob 46 (w1.heap.size) (fun k => k < w.heap.size) p.Jobs _ _)
    have hc : wx.cell? ⟨w.heap.size, 6, none⟩ = some (.slice a4 p.Jobs.length c4) := (hA.side.cell (15, 31) (by simp) (hun 15 (.inl rfl))).trans o2
    have hfro : wx.frozen? ⟨w.heap.size, 6, none⟩ = false := hA.side.frozen _
    have hK := hs (15, 31) (by simp) rfl rfl
    rw [hvv] at hK
    unfold Oper.wp
    simp [execOp, go_sem, f1, hvv, hc, hfro]
    exact hK
   | 16, ho =>
    obtain rfl := Option.some.inj ho
    intro Q K listed a wx hA hdep hun hv hs
    have f1 : a.tmps.getD 1 undef = .pointer (some ⟨w.heap.size, 0, none⟩) := hA.base (1, _) (by simp)
    unfold Oper.wp
    simp [execOp, go_sem, f1]
    exact hv (by decide) _ _ (Below.refl _ _) (fun _ _ => rfl)
   | 17, ho =>
    obtain rfl := Option.some.inj ho
    intro Q K listed a wx hA hdep hun hv hs
    have f1 : a.tmps.getD 38 undef = .pointer (some ⟨w.heap.size, 7, none⟩) := hA.told 16 _ 38 rfl rfl (hdep 16 (by kernel_rfl))
    obtain ⟨gc, cc, hvv, _⟩ := (hA.told 11 _ 35 rfl rfl (hdep 11 (by kernel_rfl)) : Copied kShipment 139 (w1.heap.size) (fun k => k < w.heap.size) p.Shipments _ _)
    have hc : wx.cell? ⟨w.heap.size, 7, none⟩ = some (.slice a5 p.Shipments.length c5) := (hA.side.cell (17, 35) (by simp) (hun 17 (.inl rfl))).trans o3
    have hfro : wx.frozen? ⟨w.heap.size, 7, none⟩ = false := hA.side.frozen _
    have hK := hs (17, 35) (by simp) rfl rfl
    rw [hvv] at hK
    unfold Oper.wp
    simp [execOp, go_sem, f1, hvv, hc, hfro]
    exact hK
   | _ + 18, ho => simp at ho
  ·intro u w2 hk hΦ hbp
   have z1 : Copied kVehicle 89 w1.heap.size (fun k => k < w.heap.size) p.Vehicles (u 3) w2 := hΦ 3 _ 27 rfl rfl
   have z2 : Copied kJob 46 w1.heap.size (fun k => k < w.heap.size) p.Jobs (u 7) w2 := hΦ 7 _ 31 rfl rfl
   have z3 : Copied kShipment 139 w1.heap.size (fun k => k < w.heap.size) p.Shipments (u 11) w2 := hΦ 11 _ 35 rfl rfl
   clear hΦ
   subst hcur
   obtain ⟨gv, cv, hv1, hv2, hv3, hv4⟩ := z1
   obtain ⟨gj, cj, hj1, hj2, hj3, hj4⟩ := z2
   obtain ⟨gs, cs, hs1, hs2, hs3, hs4⟩ := z3
   have hb3 : w2.heap[w.heap.size]? = some (.cells #[.int .i64 p.Dims, .int .i64 p.Time.N, .slice (some ⟨gt, 0, none⟩) p.Time.Cells.length ct, .int .i64 p.Dist.N, .slice (some ⟨gd, 0, none⟩) p.Dist.Cells.length cd, .slice (some ⟨gv, 0, none⟩) p.Vehicles.length cv, .slice (some ⟨gj, 0, none⟩) p.Jobs.length cj, .slice (some ⟨gs, 0, none⟩) p.Shipments.length cs] 29 (0, 0)) := by
    simp at hbp
    rw [hbp, hv1, hj1, hs1]
   clear hbp o1 o2 o3 hsz hb2
   have hbel2 := hbel w2 hk
   have hB2 : w.heap.size + 1 < w2.heap.size := Nat.lt_of_lt_of_le hB1 hk.size
   have hres2 := (hk.block _ hB1 (by omega)).trans hres1
   have hgv := Nat.lt_of_lt_of_le hB1 hv3
   have hgj := Nat.lt_of_lt_of_le hB1 hj3
   have hgs := Nat.lt_of_lt_of_le hB1 hs3
   have ht5 := ht4.step (W1 := w2) (hk.block _ ht4.lt (by omega)) (fun k hk' hlt => hk.block k hlt (by omega))
   have hd5 := hd4.step (W1 := w2) (hk.block _ hd4.lt (by omega)) (fun k hk' hlt => hk.block k hlt (by omega))
   clear hbel hv3 hj3 hs3 hv1 hj1 hs1 hB1 hbel1 hres1 ht4 hd4 hk
   clear w1
   simp only [putAll, Act.put, List.setIfInBounds_toArray, List.set_cons_succ, List.set_cons_zero, Nat.reduceAdd]
   generalize u 0 = v15, u 1 = v16, u 2 = v17, u 3 = v18, u 4 = v19, u 5 = v20, u 6 = v21, u 7 = v22, u 8 = v23, u 9 = v24, u 10 = v25, u 11 = v26, u 12 = v27, u 14 = v28, u 16 = v29
   clear u
   have q3 : w2.cell? ⟨w.heap.size, 5, none⟩ = _ := blk_cell hb3 5
   simp only [List.getElem?_toArray, List.getElem?_cons_succ, List.getElem?_cons_zero] at q3
   go_wp2
   obtain ⟨n2, hn2⟩ : ∃ n2, n2 = w2.heap.size := ⟨_, rfl⟩
   have hgv2 : gv < n2 := hn2 ▸ hv4.lt
   have HV := Aside0.mk hv4.ix
   have HB0 := Aside0.mk hb3
   have HBL := Aside0.mk hbel2
   have hvj : gv ≠ gj := hv4.ne hj4 (by decide)
   have hvs : gv ≠ gs := hv4.ne hs4 (by decide)
   have hjs : gj ≠ gs := hj4.ne hs4 (by decide)
   have htv : gt ≠ gv := ht5.ne hv4 (by decide)
   have hdv : gd ≠ gv := hd5.ne hv4 (by decide)
   have htj : gt ≠ gj := ht5.ne hj4 (by decide)
   have hdj : gd ≠ gj := hd5.ne hj4 (by decide)
   have hts : gt ≠ gs := ht5.ne hs4 (by decide)
   have hds : gd ≠ gs := hd5.ne hs4 (by decide)
   have hgj2 : gj < n2 := hn2 ▸ hj4.lt
   have hgs2 : gs < n2 := hn2 ▸ hs4.lt
   have hgt2 : gt < n2 := hn2 ▸ ht5.lt
   have hgd2 : gd < n2 := hn2 ▸ hd5.lt
   have HWJ := Aside0.mk (show _ ∧ _ ∧ _ ∧ _ ∧ _ from ⟨hvj, hvs, hjs, hj4, hs4⟩)
   clear hv4 hb3 hbel2 q3 hj4 hs4 hvj hvs hjs
   go_loopw [42] (fun v wr => ∃ i : Nat, v = .int .i64 i ∧ i ≤ p.Vehicles.length ∧ Aside0 (KeepP gv w2 wr) ∧ Aside0 (RowIx kVehicle 89 wr (fun j k => k < w.heap.size ∨ (j < i ∧ n2 ≤ k)) gv p.Vehicles)) (fun v _ => p.Vehicles.length - (intOf v).toNat)
   case atStart => exact ⟨0, rfl, Nat.zero_le _, ⟨KeepP.of_below (Below.refl _ _)⟩, ⟨HV.out.mono (fun j k _ h => .inl h)⟩⟩
   case round =>
    clear HV
    obtain ⟨i, rfl, hi, HK, HV⟩ := hrel
    by_cases hlt : i < p.Vehicles.length
    ·have hbx := (HK.out.block w.heap.size (by omega) (by omega)).trans HB0.out
     have q3 : wr.cell? ⟨w.heap.size, 5, none⟩ = _ := blk_cell hbx 5
     simp only [List.getElem?_toArray, List.getElem?_cons_succ, List.getElem?_cons_zero] at q3
     have hbr := HK.out.over HBL.out (by omega)
     obtain ⟨x, hx⟩ : ∃ x, p.Vehicles[i]? = some x := ⟨_, List.getElem?_eq_getElem hlt⟩
     have HGX := Aside0.mk (HG.out.2.2.2.1.2.2 x (List.mem_of_getElem? hx))
     have hlb : x.Breaks.length ≤ 4611686018427387904 := by
      have := HGX.out.2.2.2.2.2.2.2.2.2.2.1
      omega
     obtain ⟨cur0, cells, hc0, hlen, hFK, hsz0, hat, hclose⟩ := HV.out.lens (fun m hm => by omega) i x hx
     have hK := hFK w (fun k hk _ => by
      rcases hk with hk | hk
      ·exact (hbr.block k hk).symm
      ·omega)
     obtain ⟨A2, k2, A10, k10, rfl, l2, g2, l10, g10⟩ := kVehicle_open hK
     have HX := Aside0.mk (show _ ∧ _ ∧ _ ∧ _ from ⟨l2, g2, l10, g10⟩)
     have o1 : cur0[i * 11 + 2]? = some (.slice A2 x.Cap.length k2) := hat 2 _ rfl
     have o2 : cur0[i * 11 + 10]? = some (.slice A10 x.Breaks.length k10) := hat 10 _ rfl
     have hsz : i * 11 + 11 ≤ cur0.size := hsz0
     have hbel : ∀ wx, KeepP gv wr wx → Below w.heap.size w wx := fun wx h => h.over hbr (by omega)
     have HCL := Aside0.mk (show _ ∧ _ from ⟨hat, hclose⟩)
     have hgvr : gv < wr.heap.size := Nat.lt_of_lt_of_le hgv2 (hn2 ▸ HK.out.size)
     have HBR := Aside0.mk (show _ ∧ _ from ⟨hc0, hbr⟩)
     have r0 : (0 : Int) ≤ (i : Int) := by omega
     have r1 : (i : Int) < (p.Vehicles.length : Int) := by omega
     clear hK l2 g2 l10 g10 hat hclose hFK hlen hx hbx hsz0 hc0 hbr
     go_wp2
     refine wp_region_S (tells gv [.is (.pointer (some ⟨gv, i * 11, none⟩)), .is (.pointer (some ⟨gv, i * 11, none⟩)), .row 3 (wr.heap.size), .is (.pointer (some ⟨gv, i * 11, none⟩)), .is (.pointer (some ⟨gv, i * 11, none⟩)), .is (.pointer (some ⟨gv, i * 11 + 2, none⟩)), .is (.slice A2 x.Cap.length k2), .sat (Copied (Kd.int .i64) 3 (wr.heap.size) (fun k => k < w.heap.size) x.Cap), .row 93 (wr.heap.size), .is (.pointer (some ⟨gv, i * 11, none⟩)), .is (.pointer (some ⟨gv, i * 11, none⟩)), .is (.pointer (some ⟨gv, i * 11 + 10, none⟩)), .is (.slice A10 x.Breaks.length k10), .sat (Copied kBreak 93 (wr.heap.size) (fun k => k < w.heap.size) x.Breaks), .is (.pointer (some ⟨gv, i * 11, none⟩)), .is (.pointer (some ⟨gv, i * 11 + 2, none⟩)), .any, .is (.pointer (some ⟨gv, i * 11, none⟩)), .is (.pointer (some ⟨gv, i * 11 + 10, none⟩)), .any]) gv 89 cur0 [(16, 56), (19, 62)] (fun n => if n = 16 then i * 11 + 2 else i * 11 + 10) (fun n => if n = 56 then 7 else 13) [(4, .pointer (some ⟨gv, i * 11, none⟩))] (by kernel_rfl) (by kernel_rfl) (by first | rfl | decide | simp) (by kernel_rfl) (by kernel_rfl) HBR.out.1 (by simp; omega) (by simp) (by simp) [4] rfl (by kernel_rfl) (by simp [go_sem]) (tells_keep (by simp [Tell.Keeps]; exact ⟨keeps_copied (by omega) (by omega), keeps_copied (by omega) (by omega)⟩)) ?_ ?_
     ·intro jj o ho
      match jj, ho with
      | 0, ho =>
       obtain rfl := Option.some.inj ho
       intro Q K listed a wx hA hdep hun hv hs
       have f1 : a.tmps.getD 4 undef = .pointer (some ⟨gv, i * 11, none⟩) := hA.base (4, _) (by simp)
       unfold Oper.wp
       simp [execOp, go_sem, f1]
       exact hv (by decide) _ _ (Below.refl _ _) (fun _ _ => rfl)
      | 1, ho =>
       obtain rfl := Option.some.inj ho
       intro Q K listed a wx hA hdep hun hv hs
       have f1 : a.tmps.getD 4 undef = .pointer (some ⟨gv, i * 11, none⟩) := hA.base (4, _) (by simp)
       unfold Oper.wp
       simp [execOp, go_sem, f1]
       exact hv (by decide) _ _ (Below.refl _ _) (fun _ _ => rfl)
      | 2, ho =>
       obtain rfl := Option.some.inj ho
       intro Q K listed a wx hA hdep hun hv hs
       unfold Oper.wp
       simp [execOp, go_sem]
       exact hv (by decide) _ _ (below_alloc (Below.refl _ _) _) (fun _ _ => ⟨⟨_, rfl, hA.grown.size, blk_new _ _⟩, (by omega)⟩)
      | 3, ho =>
       obtain rfl := Option.some.inj ho
       intro Q K listed a wx hA hdep hun hv hs
       have f1 : a.tmps.getD 4 undef = .pointer (some ⟨gv, i * 11, none⟩) := hA.base (4, _) (by simp)
       unfold Oper.wp
       simp [execOp, go_sem, f1]
       exact hv (by decide) _ _ (Below.refl _ _) (fun _ _ => rfl)
      | 4, ho =>
       obtain rfl := Option.some.inj ho
       intro Q K listed a wx hA hdep hun hv hs
       have f1 : a.tmps.getD 52 undef = .pointer (some ⟨gv, i * 11, none⟩) := hA.told 3 _ 52 rfl rfl (hdep 3 (by kernel_rfl))
       unfold Oper.wp
       simp [execOp, go_sem, f1]
       exact hv (by decide) _ _ (Below.refl _ _) (fun _ _ => rfl)
      | 5, ho =>
       obtain rfl := Option.some.inj ho
       intro Q K listed a wx hA hdep hun hv hs
       have f1 : a.tmps.getD 53 undef = .pointer (some ⟨gv, i * 11, none⟩) := hA.told 4 _ 53 rfl rfl (hdep 4 (by kernel_rfl))
       unfold Oper.wp
       simp [execOp, go_sem, f1]
       exact hv (by decide) _ _ (Below.refl _ _) (fun _ _ => rfl)
      | 6, ho =>
       obtain rfl := Option.some.inj ho
       intro Q K listed a wx hA hdep hun hv hs
       have f1 : a.tmps.getD 54 undef = .pointer (some ⟨gv, i * 11 + 2, none⟩) := hA.told 5 _ 54 rfl rfl (hdep 5 (by kernel_rfl))
       have hc : wx.cell? ⟨gv, i * 11 + 2, none⟩ = some (.slice A2 x.Cap.length k2) := (hA.side.cell (16, 56) (by simp) (hun 16 (.inr (by kernel_rfl)))).trans o1
       unfold Oper.wp
       simp [execOp, go_sem, f1, hc]
       exact hv (by decide) _ _ (Below.refl _ _) (fun _ _ => rfl)
      | 7, ho =>
       obtain rfl := Option.some.inj ho
       intro Q K listed a wx hA hdep hun hv hs
       have fs : EmptyRow 3 (wr.heap.size) (a.tmps.getD 51 undef) wx := (hA.told 2 _ 51 rfl rfl (hdep 2 (by kernel_rfl)) : EmptyRow _ _ _ _ ∧ _).1
       have f1 : a.tmps.getD 55 undef = .slice A2 x.Cap.length k2 := hA.told 6 _ 55 rfl rfl (hdep 6 (by kernel_rfl))
       refine wp_copy (d := (Kd.int .i64)) (W0 := w) (.tmp 51) (.tmp 55) 22 3 (.int .i64 0) 8 rfl Try.underlying22 int_info rfl (by decide) (Kd.heap_int _) _ hA.grown.size fs _ _ f1 HX.out.2.1 (hbel wx hA.grown) (Nat.le_trans HGX.out.2.2.1.2.1 (by decide)) HGX.out.2.2.1.1 ?_
       intro v w2 hc hb2
       exact hv (by decide) _ _ hb2 (fun _ _ => hc)
      | 8, ho =>
       obtain rfl := Option.some.inj ho
       intro Q K listed a wx hA hdep hun hv hs
       unfold Oper.wp
       simp [execOp, go_sem]
       exact hv (by decide) _ _ (below_alloc (Below.refl _ _) _) (fun _ _ => ⟨⟨_, rfl, hA.grown.size, blk_new _ _⟩, (by omega)⟩)
      | 9, ho =>
       obtain rfl := Option.some.inj ho
       intro Q K listed a wx hA hdep hun hv hs
       have f1 : a.tmps.getD 4 undef = .pointer (some ⟨gv, i * 11, none⟩) := hA.base (4, _) (by simp)
       unfold Oper.wp
       simp [execOp, go_sem, f1]
       exact hv (by decide) _ _ (Below.refl _ _) (fun _ _ => rfl)
      | 10, ho =>
       obtain rfl := Option.some.inj ho
       intro Q K listed a wx hA hdep hun hv hs
       have f1 : a.tmps.getD 58 undef = .pointer (some ⟨gv, i * 11, none⟩) := hA.told 9 _ 58 rfl rfl (hdep 9 (by kernel_rfl))
       unfold Oper.wp
       simp [execOp, go_sem, f1]
       exact hv (by decide) _ _ (Below.refl _ _) (fun _ _ => rfl)
      | 11, ho =>
       obtain rfl := Option.some.inj ho
       intro Q K listed a wx hA hdep hun hv hs
       have f1 : a.tmps.getD 59 undef = .pointer (some ⟨gv, i * 11, none⟩) := hA.told 10 _ 59 rfl rfl (hdep 10 (by kernel_rfl))
       unfold Oper.wp
       simp [execOp, go_sem, f1]
       exact hv (by decide) _ _ (Below.refl _ _) (fun _ _ => rfl)
      | 12, ho =>
       obtain rfl := Option.some.inj ho
       intro Q K listed a wx hA hdep hun hv hs
       have f1 : a.tmps.getD 60 undef = .pointer (some ⟨gv, i * 11 + 10, none⟩) := hA.told 11 _ 60 rfl rfl (hdep 11 (by kernel_rfl))
       have hc : wx.cell? ⟨gv, i * 11 + 10, none⟩ = some (.slice A10 x.Breaks.length k10) := (hA.side.cell (19, 62) (by simp) (hun 19 (.inr (by kernel_rfl)))).trans o2
       unfold Oper.wp
       simp [execOp, go_sem, f1, hc]
       exact hv (by decide) _ _ (Below.refl _ _) (fun _ _ => rfl)
      | 13, ho =>
       obtain rfl := Option.some.inj ho
       intro Q K listed a wx hA hdep hun hv hs
       have fs : EmptyRow 93 (wr.heap.size) (a.tmps.getD 57 undef) wx := (hA.told 8 _ 57 rfl rfl (hdep 8 (by kernel_rfl)) : EmptyRow _ _ _ _ ∧ _).1
       have f1 : a.tmps.getD 61 undef = .slice A10 x.Breaks.length k10 := hA.told 12 _ 61 rfl rfl (hdep 12 (by kernel_rfl))
       refine wp_copy (d := kBreak) (W0 := w) (.tmp 57) (.tmp 61) 87 93 _ 32 rfl Try.underlying87 infoBreak rfl (by decide) heap_break _ hA.grown.size fs _ _ f1 HX.out.2.2.2 (hbel wx hA.grown) (Nat.le_trans HGX.out.2.2.2.2.2.2.2.2.2.2.1 (by decide)) HGX.out.2.2.2.2.2.2.2.2.2.1 ?_
       intro v w2 hc hb2
       exact hv (by decide) _ _ hb2 (fun _ _ => hc)
      | 14, ho =>
       obtain rfl := Option.some.inj ho
       intro Q K listed a wx hA hdep hun hv hs
       have f1 : a.tmps.getD 49 undef = .pointer (some ⟨gv, i * 11, none⟩) := hA.told 0 _ 49 rfl rfl (hdep 0 (by kernel_rfl))
       unfold Oper.wp
       simp [execOp, go_sem, f1]
       exact hv (by decide) _ _ (Below.refl _ _) (fun _ _ => rfl)
      | 15, ho =>
       obtain rfl := Option.some.inj ho
       intro Q K listed a wx hA hdep hun hv hs
       have f1 : a.tmps.getD 63 undef = .pointer (some ⟨gv, i * 11, none⟩) := hA.told 14 _ 63 rfl rfl (hdep 14 (by kernel_rfl))
       unfold Oper.wp
       simp [execOp, go_sem, f1]
       exact hv (by decide) _ _ (Below.refl _ _) (fun _ _ => rfl)
      | 16, ho =>
       obtain rfl := Option.some.inj ho
       intro Q K listed a wx hA hdep hun hv hs
       have f1 : a.tmps.getD 64 undef = .pointer (some ⟨gv, i * 11 + 2, none⟩) := hA.told 15 _ 64 rfl rfl (hdep 15 (by kernel_rfl))
       obtain ⟨gc, cc, hvv, _⟩ := (hA.told 7 _ 56 rfl rfl (hdep 7 (by kernel_rfl)) : Copied (Kd.int .i64) 3 (wr.heap.size) (fun k => k < w.heap.size) x.Cap _ _)
       have hc : wx.cell? ⟨gv, i * 11 + 2, none⟩ = some (.slice A2 x.Cap.length k2) := (hA.side.cell (16, 56) (by simp) (hun 16 (.inl rfl))).trans o1
       have hfro : wx.frozen? ⟨gv, i * 11 + 2, none⟩ = false := hA.side.frozen _
       have hK := hs (16, 56) (by simp) rfl rfl
       rw [hvv] at hK
       unfold Oper.wp
       simp [execOp, go_sem, f1, hvv, hc, hfro]
       exact hK
      | 17, ho =>
       obtain rfl := Option.some.inj ho
       intro Q K listed a wx hA hdep hun hv hs
       have f1 : a.tmps.getD 50 undef = .pointer (some ⟨gv, i * 11, none⟩) := hA.told 1 _ 50 rfl rfl (hdep 1 (by kernel_rfl))
       unfold Oper.wp
       simp [execOp, go_sem, f1]
       exact hv (by decide) _ _ (Below.refl _ _) (fun _ _ => rfl)
      | 18, ho =>
       obtain rfl := Option.some.inj ho
       intro Q K listed a wx hA hdep hun hv hs
       have f1 : a.tmps.getD 65 undef = .pointer (some ⟨gv, i * 11, none⟩) := hA.told 17 _ 65 rfl rfl (hdep 17 (by kernel_rfl))
       unfold Oper.wp
       simp [execOp, go_sem, f1]
       exact hv (by decide) _ _ (Below.refl _ _) (fun _ _ => rfl)
      | 19, ho =>
       obtain rfl := Option.some.inj ho
       intro Q K listed a wx hA hdep hun hv hs
       have f1 : a.tmps.getD 66 undef = .pointer (some ⟨gv, i * 11 + 10, none⟩) := hA.told 18 _ 66 rfl rfl (hdep 18 (by kernel_rfl))
       obtain ⟨gc, cc, hvv, _⟩ := (hA.told 13 _ 62 rfl rfl (hdep 13 (by kernel_rfl)) : Copied kBreak 93 (wr.heap.size) (fun k => k < w.heap.size) x.Breaks _ _)
       have hc : wx.cell? ⟨gv, i * 11 + 10, none⟩ = some (.slice A10 x.Breaks.length k10) := (hA.side.cell (19, 62) (by simp) (hun 19 (.inl rfl))).trans o2
       have hfro : wx.frozen? ⟨gv, i * 11 + 10, none⟩ = false := hA.side.frozen _
       have hK := hs (19, 62) (by simp) rfl rfl
       rw [hvv] at hK
       unfold Oper.wp
       simp [execOp, go_sem, f1, hvv, hc, hfro]
       exact hK
      | _ + 20, ho => simp at ho
     ·intro u w3 hk hΦ hbp
      have z1 : Copied (Kd.int .i64) 3 wr.heap.size (fun k => k < w.heap.size) x.Cap (u 7) w3 := hΦ 7 _ 56 rfl rfl
      have z2 : Copied kBreak 93 wr.heap.size (fun k => k < w.heap.size) x.Breaks (u 13) w3 := hΦ 13 _ 62 rfl rfl
      clear hΦ
      obtain ⟨gc, cc, hc1, hc2, hc3, hc4⟩ := z1
      obtain ⟨gb, cb, hb1, hb2, hb3, hb4⟩ := z2
      have hcur : w3.heap[gv]? = some (.cells ((cur0.setIfInBounds (i * 11 + 2) (.slice (some ⟨gc, 0, none⟩) x.Cap.length cc)).setIfInBounds (i * 11 + 10) (.slice (some ⟨gb, 0, none⟩) x.Breaks.length cb)) 89 (0, 0)) := by
       simp at hbp
       rw [hbp, hc1, hb1]
      clear hbp o1 o2
      have q10 : w3.cell? ⟨gv, i * 11 + 10, none⟩ = some (.slice (some ⟨gb, 0, none⟩) x.Breaks.length cb) := by
       rw [blk_cell hcur, Array.getElem?_setIfInBounds_self_of_lt (by rw [Array.size_setIfInBounds]; omega)]
      have hbe3 := hbel w3 hk
      have hgb3 := hb4.lt
      have hcb : gc ≠ gb := hc4.ne hb4 (by decide)
      have hgc3 := hc4.lt
      have HR3 := Aside0.mk (show _ ∧ _ ∧ _ ∧ _ from ⟨hk, hcur, hc4, hbe3⟩)
      have HI := Aside0.mk hb4.ix
      clear hbel hb1 hc1 hb4 hk hc4 hbe3
      obtain ⟨wo, rfl⟩ : ∃ wo : World, wo = wr := ⟨_, rfl⟩
      simp only [putAll, Act.put, List.setIfInBounds_toArray, List.set_cons_succ, List.set_cons_zero, Nat.reduceAdd]
      generalize u 0 = x0, u 1 = x1, u 2 = x2, u 3 = x3, u 4 = x4, u 5 = x5, u 6 = x6, u 7 = x7, u 8 = x8, u 9 = x9, u 10 = x10, u 11 = x11, u 12 = x12, u 13 = x13, u 14 = x14, u 15 = x15, u 17 = x17, u 18 = x18
      clear u
      go_wp2
      clear q10 r0 r1
      go_loopw [72] (fun v wr => ∃ k : Nat, v = .int .i64 k ∧ k ≤ x.Breaks.length ∧ Aside0 (KeepP gb w3 wr) ∧ Aside0 (RowIx kBreak 93 wr (fun j m => m < w.heap.size ∨ (j < k ∧ w3.heap.size ≤ m)) gb x.Breaks)) (fun v _ => x.Breaks.length - (intOf v).toNat)
      case atStart => exact ⟨0, rfl, Nat.zero_le _, ⟨KeepP.of_below (Below.refl _ _)⟩, ⟨HI.out.mono (fun j k _ h => .inl h)⟩⟩
      case round =>
       clear HI
       obtain ⟨k, rfl, hki, HKi, HI⟩ := hrel
       by_cases hlk : k < x.Breaks.length
       ·have hbr := HKi.out.over HR3.out.2.2.2 (by omega)
        obtain ⟨y, hy⟩ : ∃ y, x.Breaks[k]? = some y := ⟨_, List.getElem?_eq_getElem hlk⟩
        have HGY := Aside0.mk (HGX.out.2.2.2.2.2.2.2.2.2.2.2 y (List.mem_of_getElem? hy))
        obtain ⟨cur1, cells1, hc0, hlen, hFK, hsz0, hat, hclose⟩ := HI.out.lens (fun m hm => by omega) k y hy
        have hK := hFK w (fun m hm _ => by
         rcases hm with hm | hm
         ·exact (hbr.block m hm).symm
         ·omega)
        obtain ⟨Aw, kw, rfl, lw, gw⟩ := kBreak_open hK
        have HY := Aside0.mk (show _ ∧ _ from ⟨lw, gw⟩)
        have o1 : cur1[k * 2]? = some (.slice Aw y.Windows.length kw) := hat 0 _ rfl
        have hsz1 : k * 2 + 2 ≤ cur1.size := hsz0
        have hhead : ∀ wx, KeepP gb wr wx → wx.cell? ⟨gv, i * 11 + 10, none⟩ = some (.slice (some ⟨gb, 0, none⟩) x.Breaks.length cb) := by
         intro wx hx
         have h1 := (hx.block gv (by have := HKi.out.size; omega) (by omega)).trans ((HKi.out.block gv (by omega) (by omega)).trans HR3.out.2.1)
         rw [blk_cell h1, Array.getElem?_setIfInBounds_self_of_lt (by rw [Array.size_setIfInBounds]; omega)]
        have hbel : ∀ wx, KeepP gb wr wx → Below w.heap.size w wx := fun wx h => h.over hbr (by omega)
        have HCL1 := Aside0.mk (show _ ∧ _ from ⟨hat, hclose⟩)
        have hgbr : gb < wr.heap.size := Nat.lt_of_lt_of_le hgb3 HKi.out.size
        have HBR1 := Aside0.mk (show _ ∧ _ from ⟨hc0, hbr⟩)
        have r0 : (0 : Int) ≤ (k : Int) := by omega
        have r1 : (k : Int) < (x.Breaks.length : Int) := by omega
        clear hK lw gw hat hclose hFK hlen hy hsz0 hc0 hbr
        go_wp2
        refine wp_region_S (tells gb [.is (.pointer (some ⟨gv, i * 11, none⟩)), .is (.pointer (some ⟨gv, i * 11, none⟩)), .is (.pointer (some ⟨gv, i * 11 + 10, none⟩)), .is (.slice (some ⟨gb, 0, none⟩) x.Breaks.length cb), .is (.int .i64 k), .row 40 (wr.heap.size), .is (.pointer (some ⟨gv, i * 11, none⟩)), .is (.pointer (some ⟨gv, i * 11, none⟩)), .is (.pointer (some ⟨gv, i * 11 + 10, none⟩)), .is (.slice (some ⟨gb, 0, none⟩) x.Breaks.length cb), .is (.int .i64 k), .is (.pointer (some ⟨gb, k * 2, none⟩)), .is (.pointer (some ⟨gb, k * 2, none⟩)), .is (.slice Aw y.Windows.length kw), .sat (Copied kWindow 40 (wr.heap.size) (fun k => k < w.heap.size) y.Windows), .is (.pointer (some ⟨gb, k * 2, none⟩)), .is (.pointer (some ⟨gb, k * 2, none⟩)), .any]) gb 93 cur1 [(17, 89)] (fun n =>  k * 2) (fun n =>  14) [(4, .pointer (some ⟨gv, i * 11, none⟩)), (5, .int .i64 k)] (by kernel_rfl) (by kernel_rfl) (by first | rfl | decide | simp) (by kernel_rfl) (by kernel_rfl) HBR1.out.1 (by simp; omega) (by simp) (by simp) [4, 5] rfl (by kernel_rfl) (by simp [go_sem]) (tells_keep (by simp [Tell.Keeps]; exact keeps_copied (by omega) (by omega))) ?_ ?_
        ·intro jj o ho
         match jj, ho with
         | 0, ho =>
          obtain rfl := Option.some.inj ho
          intro Q K listed a wx hA hdep hun hv hs
          have f1 : a.tmps.getD 4 undef = .pointer (some ⟨gv, i * 11, none⟩) := hA.base (4, _) (by simp)
          unfold Oper.wp
          simp [execOp, go_sem, f1]
          exact hv (by decide) _ _ (Below.refl _ _) (fun _ _ => rfl)
         | 1, ho =>
          obtain rfl := Option.some.inj ho
          intro Q K listed a wx hA hdep hun hv hs
          have f1 : a.tmps.getD 75 undef = .pointer (some ⟨gv, i * 11, none⟩) := hA.told 0 _ 75 rfl rfl (hdep 0 (by kernel_rfl))
          unfold Oper.wp
          simp [execOp, go_sem, f1]
          exact hv (by decide) _ _ (Below.refl _ _) (fun _ _ => rfl)
         | 2, ho =>
          obtain rfl := Option.some.inj ho
          intro Q K listed a wx hA hdep hun hv hs
          have f1 : a.tmps.getD 76 undef = .pointer (some ⟨gv, i * 11, none⟩) := hA.told 1 _ 76 rfl rfl (hdep 1 (by kernel_rfl))
          unfold Oper.wp
          simp [execOp, go_sem, f1]
          exact hv (by decide) _ _ (Below.refl _ _) (fun _ _ => rfl)
         | 3, ho =>
          obtain rfl := Option.some.inj ho
          intro Q K listed a wx hA hdep hun hv hs
          have f1 : a.tmps.getD 77 undef = .pointer (some ⟨gv, i * 11 + 10, none⟩) := hA.told 2 _ 77 rfl rfl (hdep 2 (by kernel_rfl))
          have hc : wx.cell? ⟨gv, i * 11 + 10, none⟩ = some (.slice (some ⟨gb, 0, none⟩) x.Breaks.length cb) := hhead wx hA.grown
          unfold Oper.wp
          simp [execOp, go_sem, f1, hc]
          exact hv (by decide) _ _ (Below.refl _ _) (fun _ _ => rfl)
         | 4, ho =>
          obtain rfl := Option.some.inj ho
          intro Q K listed a wx hA hdep hun hv hs
          have f1 : a.tmps.getD 5 undef = .int .i64 k := hA.base (5, _) (by simp)
          unfold Oper.wp
          simp [execOp, go_sem, f1]
          exact hv (by decide) _ _ (Below.refl _ _) (fun _ _ => rfl)
         | 5, ho =>
          obtain rfl := Option.some.inj ho
          intro Q K listed a wx hA hdep hun hv hs
          unfold Oper.wp
          simp [execOp, go_sem]
          exact hv (by decide) _ _ (below_alloc (Below.refl _ _) _) (fun _ _ => ⟨⟨_, rfl, hA.grown.size, blk_new _ _⟩, (by omega)⟩)
         | 6, ho =>
          obtain rfl := Option.some.inj ho
          intro Q K listed a wx hA hdep hun hv hs
          have f1 : a.tmps.getD 4 undef = .pointer (some ⟨gv, i * 11, none⟩) := hA.base (4, _) (by simp)
          unfold Oper.wp
          simp [execOp, go_sem, f1]
          exact hv (by decide) _ _ (Below.refl _ _) (fun _ _ => rfl)
         | 7, ho =>
          obtain rfl := Option.some.inj ho
          intro Q K listed a wx hA hdep hun hv hs
          have f1 : a.tmps.getD 81 undef = .pointer (some ⟨gv, i * 11, none⟩) := hA.told 6 _ 81 rfl rfl (hdep 6 (by kernel_rfl))
          unfold Oper.wp
          simp [execOp, go_sem, f1]
          exact hv (by decide) _ _ (Below.refl _ _) (fun _ _ => rfl)
         | 8, ho =>
          obtain rfl := Option.some.inj ho
          intro Q K listed a wx hA hdep hun hv hs
          have f1 : a.tmps.getD 82 undef = .pointer (some ⟨gv, i * 11, none⟩) := hA.told 7 _ 82 rfl rfl (hdep 7 (by kernel_rfl))
          unfold Oper.wp
          simp [execOp, go_sem, f1]
          exact hv (by decide) _ _ (Below.refl _ _) (fun _ _ => rfl)
         | 9, ho =>
          obtain rfl := Option.some.inj ho
          intro Q K listed a wx hA hdep hun hv hs
          have f1 : a.tmps.getD 83 undef = .pointer (some ⟨gv, i * 11 + 10, none⟩) := hA.told 8 _ 83 rfl rfl (hdep 8 (by kernel_rfl))
          have hc : wx.cell? ⟨gv, i * 11 + 10, none⟩ = some (.slice (some ⟨gb, 0, none⟩) x.Breaks.length cb) := hhead wx hA.grown
          unfold Oper.wp
          simp [execOp, go_sem, f1, hc]
          exact hv (by decide) _ _ (Below.refl _ _) (fun _ _ => rfl)
         | 10, ho =>
          obtain rfl := Option.some.inj ho
          intro Q K listed a wx hA hdep hun hv hs
          have f1 : a.tmps.getD 5 undef = .int .i64 k := hA.base (5, _) (by simp)
          unfold Oper.wp
          simp [execOp, go_sem, f1]
          exact hv (by decide) _ _ (Below.refl _ _) (fun _ _ => rfl)
         | 11, ho =>
          obtain rfl := Option.some.inj ho
          intro Q K listed a wx hA hdep hun hv hs
          have f1 : a.tmps.getD 84 undef = .slice (some ⟨gb, 0, none⟩) x.Breaks.length cb := hA.told 9 _ 84 rfl rfl (hdep 9 (by kernel_rfl))
          have f2 : a.tmps.getD 85 undef = .int .i64 k := hA.told 10 _ 85 rfl rfl (hdep 10 (by kernel_rfl))
          unfold Oper.wp
          simp [execOp, go_sem, f1, f2, r0, r1]
          exact hv (by decide) _ _ (Below.refl _ _) (fun _ _ => rfl)
         | 12, ho =>
          obtain rfl := Option.some.inj ho
          intro Q K listed a wx hA hdep hun hv hs
          have f1 : a.tmps.getD 86 undef = .pointer (some ⟨gb, k * 2, none⟩) := hA.told 11 _ 86 rfl rfl (hdep 11 (by kernel_rfl))
          unfold Oper.wp
          simp [execOp, go_sem, f1]
          exact hv (by decide) _ _ (Below.refl _ _) (fun _ _ => rfl)
         | 13, ho =>
          obtain rfl := Option.some.inj ho
          intro Q K listed a wx hA hdep hun hv hs
          have f1 : a.tmps.getD 87 undef = .pointer (some ⟨gb, k * 2, none⟩) := hA.told 12 _ 87 rfl rfl (hdep 12 (by kernel_rfl))
          have hc : wx.cell? ⟨gb, k * 2, none⟩ = some (.slice Aw y.Windows.length kw) := (hA.side.cell (17, 89) (by simp) (hun 17 (.inr (by kernel_rfl)))).trans o1
          unfold Oper.wp
          simp [execOp, go_sem, f1, hc]
          exact hv (by decide) _ _ (Below.refl _ _) (fun _ _ => rfl)
         | 14, ho =>
          obtain rfl := Option.some.inj ho
          intro Q K listed a wx hA hdep hun hv hs
          have fs : EmptyRow 40 (wr.heap.size) (a.tmps.getD 80 undef) wx := (hA.told 5 _ 80 rfl rfl (hdep 5 (by kernel_rfl)) : EmptyRow _ _ _ _ ∧ _).1
          have f1 : a.tmps.getD 88 undef = .slice Aw y.Windows.length kw := hA.told 13 _ 88 rfl rfl (hdep 13 (by kernel_rfl))
          refine wp_copy (d := kWindow) (W0 := w) (.tmp 80) (.tmp 88) 41 40 _ 16 rfl Try.underlying41 infoWindow rfl (by decide) heap_window _ hA.grown.size fs _ _ f1 HY.out.2 (hbel wx hA.grown) (Nat.le_trans HGY.out.1.2.1 (by decide)) HGY.out.1.1 ?_
          intro v w2 hc hb2
          exact hv (by decide) _ _ hb2 (fun _ _ => hc)
         | 15, ho =>
          obtain rfl := Option.some.inj ho
          intro Q K listed a wx hA hdep hun hv hs
          have f1 : a.tmps.getD 78 undef = .slice (some ⟨gb, 0, none⟩) x.Breaks.length cb := hA.told 3 _ 78 rfl rfl (hdep 3 (by kernel_rfl))
          have f2 : a.tmps.getD 79 undef = .int .i64 k := hA.told 4 _ 79 rfl rfl (hdep 4 (by kernel_rfl))
          unfold Oper.wp
          simp [execOp, go_sem, f1, f2, r0, r1]
          exact hv (by decide) _ _ (Below.refl _ _) (fun _ _ => rfl)
         | 16, ho =>
          obtain rfl := Option.some.inj ho
          intro Q K listed a wx hA hdep hun hv hs
          have f1 : a.tmps.getD 90 undef = .pointer (some ⟨gb, k * 2, none⟩) := hA.told 15 _ 90 rfl rfl (hdep 15 (by kernel_rfl))
          unfold Oper.wp
          simp [execOp, go_sem, f1]
          exact hv (by decide) _ _ (Below.refl _ _) (fun _ _ => rfl)
         | 17, ho =>
          obtain rfl := Option.some.inj ho
          intro Q K listed a wx hA hdep hun hv hs
          have f1 : a.tmps.getD 91 undef = .pointer (some ⟨gb, k * 2, none⟩) := hA.told 16 _ 91 rfl rfl (hdep 16 (by kernel_rfl))
          obtain ⟨gc, cc, hvv, _⟩ := (hA.told 14 _ 89 rfl rfl (hdep 14 (by kernel_rfl)) : Copied kWindow 40 (wr.heap.size) (fun k => k < w.heap.size) y.Windows _ _)
          have hc : wx.cell? ⟨gb, k * 2, none⟩ = some (.slice Aw y.Windows.length kw) := (hA.side.cell (17, 89) (by simp) (hun 17 (.inl rfl))).trans o1
          have hfro : wx.frozen? ⟨gb, k * 2, none⟩ = false := hA.side.frozen _
          have hK := hs (17, 89) (by simp) rfl rfl
          rw [hvv] at hK
          unfold Oper.wp
          simp [execOp, go_sem, f1, hvv, hc, hfro]
          exact hK
         | _ + 18, ho => simp at ho
        ·intro u w5 hk hΦ hbp
         have z1 : Copied kWindow 40 wr.heap.size (fun k => k < w.heap.size) y.Windows (u 14) w5 := hΦ 14 _ 89 rfl rfl
         clear hΦ
         obtain ⟨gw, cw, hw1, hw2, hw3, hw4⟩ := z1
         have hcur1 : w5.heap[gb]? = some (.cells (cur1.setIfInBounds (k * 2) (.slice (some ⟨gw, 0, none⟩) y.Windows.length cw)) 93 (0, 0)) := by
          simp at hbp
          rw [hbp, hw1]
         clear hbp o1
         have hlw : y.Windows.length ≤ 4611686018427387904 := by
          have := HGY.out.1.2.1
          omega
         have hI2 := HCL1.out.2 w5 _ [.slice (some ⟨gw, 0, none⟩) y.Windows.length cw, .int .i64 y.Service] (fun m => m < w.heap.size ∨ w3.heap.size ≤ m) hcur1 (by simp)
          (fun m hm => Array.getElem?_setIfInBounds_ne (by have e : kBreak.sz = 2 := rfl; rw [e] at hm; omega)) rfl
          (fun m v hv => by
           match m, hv with
           | 0, hv => rw [← Option.some.inj hv]; exact Array.getElem?_setIfInBounds_self_of_lt (by omega)
           | 1, hv => rw [Array.getElem?_setIfInBounds_ne (by have e : kBreak.sz = 2 := rfl; rw [e]; omega)]; exact HCL1.out.1 1 v hv)
          (fun m hm hlt => hk.block m hlt hm)
          (fun W' hW' => kBreak_mk W' y (some ⟨gw, 0, none⟩) cw hw2 ((hw4.step (hW' gw (.inr (by have := HKi.out.size; omega)) hw4.lt) (fun m hm hlt => hW' m (.inl hm) hlt)).reads hlw))
         have HI2 : Aside0 (RowIx kBreak 93 w5 (fun j m => m < w.heap.size ∨ (j < k + 1 ∧ w3.heap.size ≤ m)) gb x.Breaks) := ⟨hI2.mono (fun j m _ h => by
          by_cases e : j = k
          ·simp only [e, if_pos] at h
           rcases h with h | h
           ·exact .inl h
           ·exact .inr ⟨by omega, h⟩
          ·simp only [if_neg e] at h
           rcases h with h | ⟨h1, h2⟩
           ·exact .inl h
           ·exact .inr ⟨by omega, h2⟩)⟩
         have HK2 := Aside0.mk (HKi.out.trans hk)
         clear hw4 hI2 hcur1 hk hw1
         simp only [putAll, Act.put, List.setIfInBounds_toArray, List.set_cons_succ, List.set_cons_zero, Nat.reduceAdd]
         generalize u 0 = y0, u 1 = y1, u 2 = y2, u 3 = y3, u 4 = y4, u 5 = y5, u 6 = y6, u 7 = y7, u 8 = y8, u 9 = y9, u 10 = y10, u 11 = y11, u 12 = y12, u 13 = y13, u 14 = y14, u 15 = y15, u 16 = y16
         clear u
         clear hhead hbel
         go_wp2
         go_roundw
         case rel => exact ⟨k + 1, by go_num, by omega, HK2, HI2⟩
         case measure => simp [intOf]; omega
       ·obtain rfl : k = x.Breaks.length := by omega
        have HK2 := Aside0.mk ((HK.out.trans HR3.out.1).skip HKi.out (by have := HK.out.size; omega))
        have hgvc := (HKi.out.block gv (by omega) (by omega)).trans HR3.out.2.1
        have hcap : x.Cap.length ≤ 4611686018427387904 := by
         have := HGX.out.2.2.1.2.1
         omega
        have hc6 := HR3.out.2.2.1.step (W1 := wr) (HKi.out.block gc hgc3 hcb) (fun m hm hlt => HKi.out.block m hlt (by omega))
        have hw0 : n2 ≤ wo.heap.size := hn2 ▸ HK.out.size
        have e11 : kVehicle.sz = 11 := rfl
        have hI3 := HCL.out.2 wr _ [.int .i64 x.Start, .int .i64 x.End, .slice (some ⟨gc, 0, none⟩) x.Cap.length cc, .int .u64 x.Skills, .int .i64 x.Shift.From, .int .i64 x.Shift.To, .int .i64 x.Fixed, .int .i64 x.PerTime, .int .i64 x.PerDist, .int .i64 x.MaxTasks, .slice (some ⟨gb, 0, none⟩) x.Breaks.length cb] (fun m => m < w.heap.size ∨ n2 ≤ m) hgvc (by simp)
         (fun m hm => by rw [e11] at hm; rw [Array.getElem?_setIfInBounds_ne (by omega), Array.getElem?_setIfInBounds_ne (by omega)]) rfl
         (fun m v hv => by
          have h := HCL.out.1 m v
          rw [e11] at h ⊢
          match m, h, hv with
          | 2, h, hv => rw [Array.getElem?_setIfInBounds_ne (by omega), ← Option.some.inj hv]; exact Array.getElem?_setIfInBounds_self_of_lt (by omega)
          | 10, h, hv => rw [← Option.some.inj hv]; exact Array.getElem?_setIfInBounds_self_of_lt (by rw [Array.size_setIfInBounds]; omega)
          | 0, h, hv | 1, h, hv | 3, h, hv | 4, h, hv | 5, h, hv | 6, h, hv | 7, h, hv | 8, h, hv | 9, h, hv =>
           rw [Array.getElem?_setIfInBounds_ne (by omega), Array.getElem?_setIfInBounds_ne (by omega)]
           exact h hv
          | _ + 11, h, hv => simp at hv)
         (fun m hm hlt => (HKi.out.block m (Nat.lt_of_lt_of_le hlt HR3.out.1.size) (by omega)).trans (HR3.out.1.block m hlt hm))
         (fun W' hW' => kVehicle_mk W' x (some ⟨gc, 0, none⟩) cc hc2 ((hc6.step (hW' gc (.inr (by omega)) hc6.lt) (fun m hm hlt => hW' m (.inl hm) hlt)).reads hcap)
          (some ⟨gb, 0, none⟩) cb hb2 ((HI.out.step (hW' gb (.inr (by omega)) HI.out.lt) (fun j m hm hlt => hW' m (by rcases hm with hm | ⟨_, hm⟩ <;> omega) hlt)).reads hlb))
        have HV2 : Aside0 (RowIx kVehicle 89 wr (fun j m => m < w.heap.size ∨ (j < i + 1 ∧ n2 ≤ m)) gv p.Vehicles) := ⟨hI3.mono (fun j m _ h => by
         by_cases e : j = i
         ·simp only [e, if_pos] at h
          rcases h with h | h
          ·exact .inl h
          ·exact .inr ⟨by omega, h⟩
         ·simp only [if_neg e] at h
          rcases h with h | ⟨h1, h2⟩
          ·exact .inl h
          ·exact .inr ⟨by omega, h2⟩)⟩
        clear hgvc hcap hc6 hw0 e11 hI3
        go_wp2
        go_roundw
        case rel => exact ⟨i + 1, by go_num, by omega, HK2, HV2⟩
        case measure => simp [intOf]; omega
    ·obtain rfl : i = p.Vehicles.length := by omega
     have hbx := (HK.out.block w.heap.size (by omega) (by omega)).trans HB0.out
     have q4 : wr.cell? ⟨w.heap.size, 6, none⟩ = _ := blk_cell hbx 6
     simp only [List.getElem?_toArray, List.getElem?_cons_succ, List.getElem?_cons_zero] at q4
     go_wp2
     have hvj : gv ≠ gj := HWJ.out.1
     have hvs : gv ≠ gs := HWJ.out.2.1
     have hjs : gj ≠ gs := HWJ.out.2.2.1
     have HW := Aside0.mk (HV.out.at_ (o := fun k => k < w.heap.size ∨ n2 ≤ k) (fun j k hj h => by omega))
     have HB2 := Aside0.mk hbx
     have HBL2 := Aside0.mk (HK.out.over HBL.out (by omega))
     have HJ2 := Aside0.mk (HWJ.out.2.2.2.1.step (W1 := wr) (HK.out.block gj HWJ.out.2.2.2.1.lt (fun h => hvj h.symm)) (fun k hk hlt => HK.out.block k hlt (by omega)))
     have HS2 := Aside0.mk (HWJ.out.2.2.2.2.step (W1 := wr) (HK.out.block gs HWJ.out.2.2.2.2.lt (fun h => hvs h.symm)) (fun k hk hlt => HK.out.block k hlt (by omega)))
     have HT2 := Aside0.mk (ht5.step (W1 := wr) (HK.out.block gt ht5.lt htv) (fun k hk hlt => HK.out.block k hlt (by omega)))
     have HD2 := Aside0.mk (hd5.step (W1 := wr) (HK.out.block gd hd5.lt hdv) (fun k hk hlt => HK.out.block k hlt (by omega)))
     have HR2 := Aside0.mk ((HK.out.block _ (by omega) (by omega)).trans hres2)
     have hno : n2 ≤ wr.heap.size := hn2 ▸ HK.out.size
     have hbo := Nat.lt_of_lt_of_le hB2 HK.out.size
     clear hbx q4 HK HV HB0 HBL hi hlt ht5 hd5 hres2 hB2 HWJ hn2
     obtain ⟨wo, rfl⟩ : ∃ wo : World, wo = wr := ⟨_, rfl⟩
     have HV := Aside0.mk HJ2.out.ix
     have HB0 := HB2
     have HBL := HBL2
     have HR := HR2
     have HT := HT2
     have HD := HD2
     have HS := HS2
     clear HB2 HBL2 HR2 HT2 HD2 HS2 HJ2
     go_loopw [97] (fun v wr => ∃ i : Nat, v = .int .i64 i ∧ i ≤ p.Jobs.length ∧ Aside0 (KeepP gj wo wr) ∧ Aside0 (RowIx kJob 46 wr (fun j k => k < w.heap.size ∨ (j < i ∧ n2 ≤ k)) gj p.Jobs)) (fun v _ => p.Jobs.length - (intOf v).toNat)
     case atStart => exact ⟨0, rfl, Nat.zero_le _, ⟨KeepP.of_below (Below.refl _ _)⟩, ⟨HV.out.mono (fun j k _ h => .inl h)⟩⟩
     case round =>
      clear HV
      obtain ⟨i, rfl, hi, HK, HV⟩ := hrel
      by_cases hlt : i < p.Jobs.length
      ·have hbx := (HK.out.block w.heap.size (by omega) (by omega)).trans HB0.out
       have q3 : wr.cell? ⟨w.heap.size, 6, none⟩ = _ := blk_cell hbx 6
       simp only [List.getElem?_toArray, List.getElem?_cons_succ, List.getElem?_cons_zero] at q3
       have hbr := HK.out.over HBL.out (by omega)
       obtain ⟨x, hx⟩ : ∃ x, p.Jobs[i]? = some x := ⟨_, List.getElem?_eq_getElem hlt⟩
       have HGX := Aside0.mk (HG.out.2.2.2.2.1.2.2 x (List.mem_of_getElem? hx))
       obtain ⟨cur0, cells, hc0, hlen, hFK, hsz0, hat, hclose⟩ := HV.out.lens (fun m hm => by omega) i x hx
       have hK := hFK w (fun k hk _ => by
        rcases hk with hk | hk
        ·exact (hbr.block k hk).symm
        ·omega)
       obtain ⟨A2, k2, A3, k3, A4, k4, rfl, l1, g1, l2, g2, l3, g3⟩ := kJob_open hK
       have HX := Aside0.mk (show _ ∧ _ ∧ _ ∧ _ ∧ _ ∧ _ from ⟨l1, g1, l2, g2, l3, g3⟩)
       have o1 : cur0[i * 7 + 3]? = some (.slice A3 x.Drop.length k3) := hat 3 _ rfl
       have o2 : cur0[i * 7 + 4]? = some (.slice A4 x.Pick.length k4) := hat 4 _ rfl
       have o3 : cur0[i * 7 + 2]? = some (.slice A2 x.Stop.Windows.length k2) := hat 2 _ rfl
       have hsz : i * 7 + 7 ≤ cur0.size := hsz0
       have hbel : ∀ wx, KeepP gj wr wx → Below w.heap.size w wx := fun wx h => h.over hbr (by omega)
       have HCL := Aside0.mk (show _ ∧ _ from ⟨hat, hclose⟩)
       have hgvr : gj < wr.heap.size := Nat.lt_of_lt_of_le (by omega) HK.out.size
       have HBR := Aside0.mk (show _ ∧ _ from ⟨hc0, hbr⟩)
       have r0 : (0 : Int) ≤ (i : Int) := by omega
       have r1 : (i : Int) < (p.Jobs.length : Int) := by omega
       clear hK l1 g1 l2 g2 l3 g3 hat hclose hFK hlen hx hbx hsz0 hc0 hbr
       go_wp2
       refine wp_region_S (tells gj [.is (.pointer (some ⟨gj, i * 7, none⟩)), .is (.pointer (some ⟨gj, i * 7, none⟩)), .is (.pointer (some ⟨gj, i * 7, none⟩)), .row 3 (wr.heap.size), .is (.pointer (some ⟨gj, i * 7, none⟩)), .is (.pointer (some ⟨gj, i * 7, none⟩)), .is (.pointer (some ⟨gj, i * 7 + 3, none⟩)), .is (.slice A3 x.Drop.length k3), .sat (Copied (Kd.int .i64) 3 (wr.heap.size) (fun k => k < w.heap.size) x.Drop), .row 3 (wr.heap.size), .is (.pointer (some ⟨gj, i * 7, none⟩)), .is (.pointer (some ⟨gj, i * 7, none⟩)), .is (.pointer (some ⟨gj, i * 7 + 4, none⟩)), .is (.slice A4 x.Pick.length k4), .sat (Copied (Kd.int .i64) 3 (wr.heap.size) (fun k => k < w.heap.size) x.Pick), .row 40 (wr.heap.size), .is (.pointer (some ⟨gj, i * 7, none⟩)), .is (.pointer (some ⟨gj, i * 7, none⟩)), .is (.pointer (some ⟨gj, i * 7, none⟩)), .is (.pointer (some ⟨gj, i * 7 + 2, none⟩)), .is (.slice A2 x.Stop.Windows.length k2), .sat (Copied kWindow 40 (wr.heap.size) (fun k => k < w.heap.size) x.Stop.Windows), .is (.pointer (some ⟨gj, i * 7, none⟩)), .is (.pointer (some ⟨gj, i * 7 + 3, none⟩)), .any, .is (.pointer (some ⟨gj, i * 7, none⟩)), .is (.pointer (some ⟨gj, i * 7 + 4, none⟩)), .any, .is (.pointer (some ⟨gj, i * 7, none⟩)), .is (.pointer (some ⟨gj, i * 7, none⟩)), .is (.pointer (some ⟨gj, i * 7 + 2, none⟩)), .any]) gj 46 cur0 [(24, 112), (27, 118), (31, 125)] (fun n => if n = 24 then i * 7 + 3 else if n = 27 then i * 7 + 4 else i * 7 + 2) (fun n => if n = 112 then 8 else if n = 118 then 14 else 21) [(7, .pointer (some ⟨gj, i * 7, none⟩))] (by kernel_rfl) (by kernel_rfl) (by first | rfl | decide | simp) (by kernel_rfl) (by kernel_rfl) HBR.out.1 (by simp; omega) (by simp) (by simp) [7] rfl (by kernel_rfl) (by simp [go_sem]) (tells_keep (by simp [Tell.Keeps]; exact ⟨keeps_copied (by omega) (by omega), keeps_copied (by omega) (by omega), keeps_copied (by omega) (by omega)⟩)) ?_ ?_
       ·intro jj o ho
        match jj, ho with
        | 0, ho =>
         obtain rfl := Option.some.inj ho
         intro Q K listed a wx hA hdep hun hv hs
         have f1 : a.tmps.getD 7 undef = .pointer (some ⟨gj, i * 7, none⟩) := hA.base (7, _) (by simp)
         unfold Oper.wp
         simp [execOp, go_sem, f1]
         exact hv (by decide) _ _ (Below.refl _ _) (fun _ _ => rfl)
        | 1, ho =>
         obtain rfl := Option.some.inj ho
         intro Q K listed a wx hA hdep hun hv hs
         have f1 : a.tmps.getD 7 undef = .pointer (some ⟨gj, i * 7, none⟩) := hA.base (7, _) (by simp)
         unfold Oper.wp
         simp [execOp, go_sem, f1]
         exact hv (by decide) _ _ (Below.refl _ _) (fun _ _ => rfl)
        | 2, ho =>
         obtain rfl := Option.some.inj ho
         intro Q K listed a wx hA hdep hun hv hs
         have f1 : a.tmps.getD 7 undef = .pointer (some ⟨gj, i * 7, none⟩) := hA.base (7, _) (by simp)
         unfold Oper.wp
         simp [execOp, go_sem, f1]
         exact hv (by decide) _ _ (Below.refl _ _) (fun _ _ => rfl)
        | 3, ho =>
         obtain rfl := Option.some.inj ho
         intro Q K listed a wx hA hdep hun hv hs
         unfold Oper.wp
         simp [execOp, go_sem]
         exact hv (by decide) _ _ (below_alloc (Below.refl _ _) _) (fun _ _ => ⟨⟨_, rfl, hA.grown.size, blk_new _ _⟩, (by omega)⟩)
        | 4, ho =>
         obtain rfl := Option.some.inj ho
         intro Q K listed a wx hA hdep hun hv hs
         have f1 : a.tmps.getD 7 undef = .pointer (some ⟨gj, i * 7, none⟩) := hA.base (7, _) (by simp)
         unfold Oper.wp
         simp [execOp, go_sem, f1]
         exact hv (by decide) _ _ (Below.refl _ _) (fun _ _ => rfl)
        | 5, ho =>
         obtain rfl := Option.some.inj ho
         intro Q K listed a wx hA hdep hun hv hs
         have f1 : a.tmps.getD 108 undef = .pointer (some ⟨gj, i * 7, none⟩) := hA.told 4 _ 108 rfl rfl (hdep 4 (by kernel_rfl))
         unfold Oper.wp
         simp [execOp, go_sem, f1]
         exact hv (by decide) _ _ (Below.refl _ _) (fun _ _ => rfl)
        | 6, ho =>
         obtain rfl := Option.some.inj ho
         intro Q K listed a wx hA hdep hun hv hs
         have f1 : a.tmps.getD 109 undef = .pointer (some ⟨gj, i * 7, none⟩) := hA.told 5 _ 109 rfl rfl (hdep 5 (by kernel_rfl))
         unfold Oper.wp
         simp [execOp, go_sem, f1]
         exact hv (by decide) _ _ (Below.refl _ _) (fun _ _ => rfl)
        | 7, ho =>
         obtain rfl := Option.some.inj ho
         intro Q K listed a wx hA hdep hun hv hs
         have f1 : a.tmps.getD 110 undef = .pointer (some ⟨gj, i * 7 + 3, none⟩) := hA.told 6 _ 110 rfl rfl (hdep 6 (by kernel_rfl))
         have hc : wx.cell? ⟨gj, i * 7 + 3, none⟩ = some (.slice A3 x.Drop.length k3) := (hA.side.cell (24, 112) (by simp) (hun 24 (.inr (by kernel_rfl)))).trans o1
         unfold Oper.wp
         simp [execOp, go_sem, f1, hc]
         exact hv (by decide) _ _ (Below.refl _ _) (fun _ _ => rfl)
        | 8, ho =>
         obtain rfl := Option.some.inj ho
         intro Q K listed a wx hA hdep hun hv hs
         have fs : EmptyRow 3 (wr.heap.size) (a.tmps.getD 107 undef) wx := (hA.told 3 _ 107 rfl rfl (hdep 3 (by kernel_rfl)) : EmptyRow _ _ _ _ ∧ _).1
         have f1 : a.tmps.getD 111 undef = .slice A3 x.Drop.length k3 := hA.told 7 _ 111 rfl rfl (hdep 7 (by kernel_rfl))
         refine wp_copy (d := (Kd.int .i64)) (W0 := w) (.tmp 107) (.tmp 111) 22 3 (.int .i64 0) 8 rfl Try.underlying22 int_info rfl (by decide) (Kd.heap_int _) _ hA.grown.size fs _ _ f1 HX.out.2.2.2.1 (hbel wx hA.grown) (Nat.le_trans HGX.out.2.1.2.1 (by decide)) HGX.out.2.1.1 ?_
         intro v w2 hc hb2
         exact hv (by decide) _ _ hb2 (fun _ _ => hc)
        | 9, ho =>
         obtain rfl := Option.some.inj ho
         intro Q K listed a wx hA hdep hun hv hs
         unfold Oper.wp
         simp [execOp, go_sem]
         exact hv (by decide) _ _ (below_alloc (Below.refl _ _) _) (fun _ _ => ⟨⟨_, rfl, hA.grown.size, blk_new _ _⟩, (by omega)⟩)
        | 10, ho =>
         obtain rfl := Option.some.inj ho
         intro Q K listed a wx hA hdep hun hv hs
         have f1 : a.tmps.getD 7 undef = .pointer (some ⟨gj, i * 7, none⟩) := hA.base (7, _) (by simp)
         unfold Oper.wp
         simp [execOp, go_sem, f1]
         exact hv (by decide) _ _ (Below.refl _ _) (fun _ _ => rfl)
        | 11, ho =>
         obtain rfl := Option.some.inj ho
         intro Q K listed a wx hA hdep hun hv hs
         have f1 : a.tmps.getD 114 undef = .pointer (some ⟨gj, i * 7, none⟩) := hA.told 10 _ 114 rfl rfl (hdep 10 (by kernel_rfl))
         unfold Oper.wp
         simp [execOp, go_sem, f1]
         exact hv (by decide) _ _ (Below.refl _ _) (fun _ _ => rfl)
        | 12, ho =>
         obtain rfl := Option.some.inj ho
         intro Q K listed a wx hA hdep hun hv hs
         have f1 : a.tmps.getD 115 undef = .pointer (some ⟨gj, i * 7, none⟩) := hA.told 11 _ 115 rfl rfl (hdep 11 (by kernel_rfl))
         unfold Oper.wp
         simp [execOp, go_sem, f1]
         exact hv (by decide) _ _ (Below.refl _ _) (fun _ _ => rfl)
        | 13, ho =>
         obtain rfl := Option.some.inj ho
         intro Q K listed a wx hA hdep hun hv hs
         have f1 : a.tmps.getD 116 undef = .pointer (some ⟨gj, i * 7 + 4, none⟩) := hA.told 12 _ 116 rfl rfl (hdep 12 (by kernel_rfl))
         have hc : wx.cell? ⟨gj, i * 7 + 4, none⟩ = some (.slice A4 x.Pick.length k4) := (hA.side.cell (27, 118) (by simp) (hun 27 (.inr (by kernel_rfl)))).trans o2
         unfold Oper.wp
         simp [execOp, go_sem, f1, hc]
         exact hv (by decide) _ _ (Below.refl _ _) (fun _ _ => rfl)
        | 14, ho =>
         obtain rfl := Option.some.inj ho
         intro Q K listed a wx hA hdep hun hv hs
         have fs : EmptyRow 3 (wr.heap.size) (a.tmps.getD 113 undef) wx := (hA.told 9 _ 113 rfl rfl (hdep 9 (by kernel_rfl)) : EmptyRow _ _ _ _ ∧ _).1
         have f1 : a.tmps.getD 117 undef = .slice A4 x.Pick.length k4 := hA.told 13 _ 117 rfl rfl (hdep 13 (by kernel_rfl))
         refine wp_copy (d := (Kd.int .i64)) (W0 := w) (.tmp 113) (.tmp 117) 22 3 (.int .i64 0) 8 rfl Try.underlying22 int_info rfl (by decide) (Kd.heap_int _) _ hA.grown.size fs _ _ f1 HX.out.2.2.2.2.2 (hbel wx hA.grown) (Nat.le_trans HGX.out.2.2.1.2.1 (by decide)) HGX.out.2.2.1.1 ?_
         intro v w2 hc hb2
         exact hv (by decide) _ _ hb2 (fun _ _ => hc)
        | 15, ho =>
         obtain rfl := Option.some.inj ho
         intro Q K listed a wx hA hdep hun hv hs
         unfold Oper.wp
         simp [execOp, go_sem]
         exact hv (by decide) _ _ (below_alloc (Below.refl _ _) _) (fun _ _ => ⟨⟨_, rfl, hA.grown.size, blk_new _ _⟩, (by omega)⟩)
        | 16, ho =>
         obtain rfl := Option.some.inj ho
         intro Q K listed a wx hA hdep hun hv hs
         have f1 : a.tmps.getD 7 undef = .pointer (some ⟨gj, i * 7, none⟩) := hA.base (7, _) (by simp)
         unfold Oper.wp
         simp [execOp, go_sem, f1]
         exact hv (by decide) _ _ (Below.refl _ _) (fun _ _ => rfl)
        | 17, ho =>
         obtain rfl := Option.some.inj ho
         intro Q K listed a wx hA hdep hun hv hs
         have f1 : a.tmps.getD 120 undef = .pointer (some ⟨gj, i * 7, none⟩) := hA.told 16 _ 120 rfl rfl (hdep 16 (by kernel_rfl))
         unfold Oper.wp
         simp [execOp, go_sem, f1]
         exact hv (by decide) _ _ (Below.refl _ _) (fun _ _ => rfl)
        | 18, ho =>
         obtain rfl := Option.some.inj ho
         intro Q K listed a wx hA hdep hun hv hs
         have f1 : a.tmps.getD 121 undef = .pointer (some ⟨gj, i * 7, none⟩) := hA.told 17 _ 121 rfl rfl (hdep 17 (by kernel_rfl))
         unfold Oper.wp
         simp [execOp, go_sem, f1]
         exact hv (by decide) _ _ (Below.refl _ _) (fun _ _ => rfl)
        | 19, ho =>
         obtain rfl := Option.some.inj ho
         intro Q K listed a wx hA hdep hun hv hs
         have f1 : a.tmps.getD 122 undef = .pointer (some ⟨gj, i * 7, none⟩) := hA.told 18 _ 122 rfl rfl (hdep 18 (by kernel_rfl))
         unfold Oper.wp
         simp [execOp, go_sem, f1]
         exact hv (by decide) _ _ (Below.refl _ _) (fun _ _ => rfl)
        | 20, ho =>
         obtain rfl := Option.some.inj ho
         intro Q K listed a wx hA hdep hun hv hs
         have f1 : a.tmps.getD 123 undef = .pointer (some ⟨gj, i * 7 + 2, none⟩) := hA.told 19 _ 123 rfl rfl (hdep 19 (by kernel_rfl))
         have hc : wx.cell? ⟨gj, i * 7 + 2, none⟩ = some (.slice A2 x.Stop.Windows.length k2) := (hA.side.cell (31, 125) (by simp) (hun 31 (.inr (by kernel_rfl)))).trans o3
         unfold Oper.wp
         simp [execOp, go_sem, f1, hc]
         exact hv (by decide) _ _ (Below.refl _ _) (fun _ _ => rfl)
        | 21, ho =>
         obtain rfl := Option.some.inj ho
         intro Q K listed a wx hA hdep hun hv hs
         have fs : EmptyRow 40 (wr.heap.size) (a.tmps.getD 119 undef) wx := (hA.told 15 _ 119 rfl rfl (hdep 15 (by kernel_rfl)) : EmptyRow _ _ _ _ ∧ _).1
         have f1 : a.tmps.getD 124 undef = .slice A2 x.Stop.Windows.length k2 := hA.told 20 _ 124 rfl rfl (hdep 20 (by kernel_rfl))
         refine wp_copy (d := kWindow) (W0 := w) (.tmp 119) (.tmp 124) 41 40 _ 16 rfl Try.underlying41 infoWindow rfl (by decide) heap_window _ hA.grown.size fs _ _ f1 HX.out.2.1 (hbel wx hA.grown) (Nat.le_trans HGX.out.1.2.2.2.1 (by decide)) HGX.out.1.2.2.1 ?_
         intro v w2 hc hb2
         exact hv (by decide) _ _ hb2 (fun _ _ => hc)
        | 22, ho =>
         obtain rfl := Option.some.inj ho
         intro Q K listed a wx hA hdep hun hv hs
         have f1 : a.tmps.getD 104 undef = .pointer (some ⟨gj, i * 7, none⟩) := hA.told 0 _ 104 rfl rfl (hdep 0 (by kernel_rfl))
         unfold Oper.wp
         simp [execOp, go_sem, f1]
         exact hv (by decide) _ _ (Below.refl _ _) (fun _ _ => rfl)
        | 23, ho =>
         obtain rfl := Option.some.inj ho
         intro Q K listed a wx hA hdep hun hv hs
         have f1 : a.tmps.getD 126 undef = .pointer (some ⟨gj, i * 7, none⟩) := hA.told 22 _ 126 rfl rfl (hdep 22 (by kernel_rfl))
         unfold Oper.wp
         simp [execOp, go_sem, f1]
         exact hv (by decide) _ _ (Below.refl _ _) (fun _ _ => rfl)
        | 24, ho =>
         obtain rfl := Option.some.inj ho
         intro Q K listed a wx hA hdep hun hv hs
         have f1 : a.tmps.getD 127 undef = .pointer (some ⟨gj, i * 7 + 3, none⟩) := hA.told 23 _ 127 rfl rfl (hdep 23 (by kernel_rfl))
         obtain ⟨gc, cc, hvv, _⟩ := (hA.told 8 _ 112 rfl rfl (hdep 8 (by kernel_rfl)) : Copied (Kd.int .i64) 3 (wr.heap.size) (fun k => k < w.heap.size) x.Drop _ _)
         have hc : wx.cell? ⟨gj, i * 7 + 3, none⟩ = some (.slice A3 x.Drop.length k3) := (hA.side.cell (24, 112) (by simp) (hun 24 (.inl rfl))).trans o1
         have hfro : wx.frozen? ⟨gj, i * 7 + 3, none⟩ = false := hA.side.frozen _
         have hK := hs (24, 112) (by simp) rfl rfl
         rw [hvv] at hK
         unfold Oper.wp
         simp [execOp, go_sem, f1, hvv, hc, hfro]
         exact hK
        | 25, ho =>
         obtain rfl := Option.some.inj ho
         intro Q K listed a wx hA hdep hun hv hs
         have f1 : a.tmps.getD 105 undef = .pointer (some ⟨gj, i * 7, none⟩) := hA.told 1 _ 105 rfl rfl (hdep 1 (by kernel_rfl))
         unfold Oper.wp
         simp [execOp, go_sem, f1]
         exact hv (by decide) _ _ (Below.refl _ _) (fun _ _ => rfl)
        | 26, ho =>
         obtain rfl := Option.some.inj ho
         intro Q K listed a wx hA hdep hun hv hs
         have f1 : a.tmps.getD 128 undef = .pointer (some ⟨gj, i * 7, none⟩) := hA.told 25 _ 128 rfl rfl (hdep 25 (by kernel_rfl))
         unfold Oper.wp
         simp [execOp, go_sem, f1]
         exact hv (by decide) _ _ (Below.refl _ _) (fun _ _ => rfl)
        | 27, ho =>
         obtain rfl := Option.some.inj ho
         intro Q K listed a wx hA hdep hun hv hs
         have f1 : a.tmps.getD 129 undef = .pointer (some ⟨gj, i * 7 + 4, none⟩) := hA.told 26 _ 129 rfl rfl (hdep 26 (by kernel_rfl))
         obtain ⟨gc, cc, hvv, _⟩ := (hA.told 14 _ 118 rfl rfl (hdep 14 (by kernel_rfl)) : Copied (Kd.int .i64) 3 (wr.heap.size) (fun k => k < w.heap.size) x.Pick _ _)
         have hc : wx.cell? ⟨gj, i * 7 + 4, none⟩ = some (.slice A4 x.Pick.length k4) := (hA.side.cell (27, 118) (by simp) (hun 27 (.inl rfl))).trans o2
         have hfro : wx.frozen? ⟨gj, i * 7 + 4, none⟩ = false := hA.side.frozen _
         have hK := hs (27, 118) (by simp) rfl rfl
         rw [hvv] at hK
         unfold Oper.wp
         simp [execOp, go_sem, f1, hvv, hc, hfro]
         exact hK
        | 28, ho =>
         obtain rfl := Option.some.inj ho
         intro Q K listed a wx hA hdep hun hv hs
         have f1 : a.tmps.getD 106 undef = .pointer (some ⟨gj, i * 7, none⟩) := hA.told 2 _ 106 rfl rfl (hdep 2 (by kernel_rfl))
         unfold Oper.wp
         simp [execOp, go_sem, f1]
         exact hv (by decide) _ _ (Below.refl _ _) (fun _ _ => rfl)
        | 29, ho =>
         obtain rfl := Option.some.inj ho
         intro Q K listed a wx hA hdep hun hv hs
         have f1 : a.tmps.getD 130 undef = .pointer (some ⟨gj, i * 7, none⟩) := hA.told 28 _ 130 rfl rfl (hdep 28 (by kernel_rfl))
         unfold Oper.wp
         simp [execOp, go_sem, f1]
         exact hv (by decide) _ _ (Below.refl _ _) (fun _ _ => rfl)
        | 30, ho =>
         obtain rfl := Option.some.inj ho
         intro Q K listed a wx hA hdep hun hv hs
         have f1 : a.tmps.getD 131 undef = .pointer (some ⟨gj, i * 7, none⟩) := hA.told 29 _ 131 rfl rfl (hdep 29 (by kernel_rfl))
         unfold Oper.wp
         simp [execOp, go_sem, f1]
         exact hv (by decide) _ _ (Below.refl _ _) (fun _ _ => rfl)
        | 31, ho =>
         obtain rfl := Option.some.inj ho
         intro Q K listed a wx hA hdep hun hv hs
         have f1 : a.tmps.getD 132 undef = .pointer (some ⟨gj, i * 7 + 2, none⟩) := hA.told 30 _ 132 rfl rfl (hdep 30 (by kernel_rfl))
         obtain ⟨gc, cc, hvv, _⟩ := (hA.told 21 _ 125 rfl rfl (hdep 21 (by kernel_rfl)) : Copied kWindow 40 (wr.heap.size) (fun k => k < w.heap.size) x.Stop.Windows _ _)
         have hc : wx.cell? ⟨gj, i * 7 + 2, none⟩ = some (.slice A2 x.Stop.Windows.length k2) := (hA.side.cell (31, 125) (by simp) (hun 31 (.inl rfl))).trans o3
         have hfro : wx.frozen? ⟨gj, i * 7 + 2, none⟩ = false := hA.side.frozen _
         have hK := hs (31, 125) (by simp) rfl rfl
         rw [hvv] at hK
         unfold Oper.wp
         simp [execOp, go_sem, f1, hvv, hc, hfro]
         exact hK
        | _ + 32, ho => simp at ho
       ·intro u w3 hk hΦ hbp
        have z1 : Copied (Kd.int .i64) 3 wr.heap.size (fun k => k < w.heap.size) x.Drop (u 8) w3 := hΦ 8 _ 112 rfl rfl
        have z2 : Copied (Kd.int .i64) 3 wr.heap.size (fun k => k < w.heap.size) x.Pick (u 14) w3 := hΦ 14 _ 118 rfl rfl
        have z3 : Copied kWindow 40 wr.heap.size (fun k => k < w.heap.size) x.Stop.Windows (u 21) w3 := hΦ 21 _ 125 rfl rfl
        clear hΦ
        obtain ⟨ga, ca, ha1, ha2, ha3, ha4⟩ := z1
        obtain ⟨gb, cb, hb1, hb2, hb3, hb4⟩ := z2
        obtain ⟨gc, cc, hc1, hc2, hc3, hc4⟩ := z3
        have hcur : w3.heap[gj]? = some (.cells (((cur0.setIfInBounds (i * 7 + 3) (.slice (some ⟨ga, 0, none⟩) x.Drop.length ca)).setIfInBounds (i * 7 + 4) (.slice (some ⟨gb, 0, none⟩) x.Pick.length cb)).setIfInBounds (i * 7 + 2) (.slice (some ⟨gc, 0, none⟩) x.Stop.Windows.length cc)) 46 (0, 0)) := by
         simp at hbp
         rw [hbp, ha1, hb1, hc1]
        clear hbp o1 o2 o3
        have f1 : x.Drop.length ≤ 4611686018427387904 := by have := HGX.out.2.1.2.1; omega
        have f2 : x.Pick.length ≤ 4611686018427387904 := by have := HGX.out.2.2.1.2.1; omega
        have f3 : x.Stop.Windows.length ≤ 4611686018427387904 := by have := HGX.out.1.2.2.2.1; omega
        have hw0 : n2 ≤ wr.heap.size := Nat.le_trans hno HK.out.size
        have esz : kJob.sz = 7 := rfl
        have hI3 := HCL.out.2 w3 _ [.int .i64 x.Stop.Place, .int .i64 x.Stop.Service, .slice (some ⟨gc, 0, none⟩) x.Stop.Windows.length cc, .slice (some ⟨ga, 0, none⟩) x.Drop.length ca, .slice (some ⟨gb, 0, none⟩) x.Pick.length cb, .int .u64 x.Skills, .int .i64 x.Priority] (fun m => m < w.heap.size ∨ n2 ≤ m) hcur (by simp)
         (fun m hm => by rw [esz] at hm; rw [Array.getElem?_setIfInBounds_ne (by omega), Array.getElem?_setIfInBounds_ne (by omega), Array.getElem?_setIfInBounds_ne (by omega)]) rfl
         (fun m v hv => by
          have h := HCL.out.1 m v
          rw [esz] at h ⊢
          match m, h, hv with
          | 3, h, hv => rw [Array.getElem?_setIfInBounds_ne (by omega)]; rw [Array.getElem?_setIfInBounds_ne (by omega)]; rw [← Option.some.inj hv]; exact Array.getElem?_setIfInBounds_self_of_lt (by (try simp only [Array.size_setIfInBounds]); omega)
          | 4, h, hv => rw [Array.getElem?_setIfInBounds_ne (by omega)]; rw [← Option.some.inj hv]; exact Array.getElem?_setIfInBounds_self_of_lt (by (try simp only [Array.size_setIfInBounds]); omega)
          | 2, h, hv => rw [← Option.some.inj hv]; exact Array.getElem?_setIfInBounds_self_of_lt (by (try simp only [Array.size_setIfInBounds]); omega)
          | 0, h, hv | 1, h, hv | 5, h, hv | 6, h, hv =>
           rw [Array.getElem?_setIfInBounds_ne (by omega), Array.getElem?_setIfInBounds_ne (by omega), Array.getElem?_setIfInBounds_ne (by omega)]
           exact h hv
          | _ + 7, h, hv => simp at hv)
         (fun m hm hlt => hk.block m hlt hm)
         (fun W' hW' => kJob_mk W' x (some ⟨gc, 0, none⟩) cc hc2 ((hc4.step (hW' gc (.inr (by omega)) hc4.lt) (fun m hm hlt => hW' m (.inl hm) hlt)).reads f3) (some ⟨ga, 0, none⟩) ca ha2 ((ha4.step (hW' ga (.inr (by omega)) ha4.lt) (fun m hm hlt => hW' m (.inl hm) hlt)).reads f1) (some ⟨gb, 0, none⟩) cb hb2 ((hb4.step (hW' gb (.inr (by omega)) hb4.lt) (fun m hm hlt => hW' m (.inl hm) hlt)).reads f2))
        have HV2 : Aside0 (RowIx kJob 46 w3 (fun j m => m < w.heap.size ∨ (j < i + 1 ∧ n2 ≤ m)) gj p.Jobs) := ⟨hI3.mono (fun j m _ h => by
         by_cases e : j = i
         ·simp only [e, if_pos] at h
          rcases h with h | h
          ·exact .inl h
          ·exact .inr ⟨by omega, h⟩
         ·simp only [if_neg e] at h
          rcases h with h | ⟨h1, h2⟩
          ·exact .inl h
          ·exact .inr ⟨by omega, h2⟩)⟩
        have HK2 := Aside0.mk (HK.out.trans hk)
        clear hcur hw0 esz hI3 hbel ha4 hb4 hc4 hk ha1 hb1 hc1
        simp only [putAll, Act.put, List.setIfInBounds_toArray, List.set_cons_succ, List.set_cons_zero, Nat.reduceAdd]
        generalize u 0 = x0, u 1 = x1, u 2 = x2, u 3 = x3, u 4 = x4, u 5 = x5, u 6 = x6, u 7 = x7, u 8 = x8, u 9 = x9, u 10 = x10, u 11 = x11, u 12 = x12, u 13 = x13, u 14 = x14, u 15 = x15, u 16 = x16, u 17 = x17, u 18 = x18, u 19 = x19, u 20 = x20, u 21 = x21, u 22 = x22, u 23 = x23, u 25 = x25, u 26 = x26, u 28 = x28, u 29 = x29, u 30 = x30
        clear u r0 r1
        go_wp2
        go_roundw
        case rel => exact ⟨i + 1, by go_num, by omega, HK2, HV2⟩
        case measure => simp [intOf]; omega
      ·obtain rfl : i = p.Jobs.length := by omega
       have hbx := (HK.out.block w.heap.size (by omega) (by omega)).trans HB0.out
       have q4 : wr.cell? ⟨w.heap.size, 7, none⟩ = _ := blk_cell hbx 7
       simp only [List.getElem?_toArray, List.getElem?_cons_succ, List.getElem?_cons_zero] at q4
       go_wp2
       have HB1 := HB0
       have HBL1 := HBL
       have HJ := Aside0.mk (HV.out.at_ (o := fun k => k < w.heap.size ∨ n2 ≤ k) (fun j k hj h => by omega))
       have HB2 := Aside0.mk hbx
       have HBL2 := Aside0.mk (HK.out.over HBL.out (by omega))
       have HS2 := Aside0.mk (HS.out.step (W1 := wr) (HK.out.block gs HS.out.lt (fun h => hjs h.symm)) (fun k hk hlt => HK.out.block k hlt (by omega)))
       have HT2 := Aside0.mk (HT.out.step (W1 := wr) (HK.out.block gt HT.out.lt (by omega)) (fun k hk hlt => HK.out.block k hlt (by omega)))
       have HD2 := Aside0.mk (HD.out.step (W1 := wr) (HK.out.block gd HD.out.lt (by omega)) (fun k hk hlt => HK.out.block k hlt (by omega)))
       have HW2 := Aside0.mk (HW.out.step (W1 := wr) (HK.out.block gv HW.out.lt hvj) (fun k hk hlt => HK.out.block k hlt (by omega)))
       have HR2 := Aside0.mk ((HK.out.block _ (by omega) (by omega)).trans HR.out)
       have hno2 := Nat.le_trans hno HK.out.size
       have hbo2 := Nat.lt_of_lt_of_le hbo HK.out.size
       clear hbx q4 HK HV HS HT HD HW HR HB0 HB1 HBL HBL1 hno hbo hi hlt
       obtain ⟨wo, rfl⟩ : ∃ wo : World, wo = wr := ⟨_, rfl⟩
       have HV := Aside0.mk HS2.out.ix
       have HB0 := HB2
       have HBL := HBL2
       have HR := HR2
       have HT := HT2
       have HD := HD2
       have HW := HW2
       have hno := hno2
       have hbo := hbo2
       clear HB2 HBL2 HR2 HT2 HD2 HW2 hno2 hbo2 HS2
       go_loopw [137] (fun v wr => ∃ i : Nat, v = .int .i64 i ∧ i ≤ p.Shipments.length ∧ Aside0 (KeepP gs wo wr) ∧ Aside0 (RowIx kShipment 139 wr (fun j k => k < w.heap.size ∨ (j < i ∧ n2 ≤ k)) gs p.Shipments)) (fun v _ => p.Shipments.length - (intOf v).toNat)
       case atStart => exact ⟨0, rfl, Nat.zero_le _, ⟨KeepP.of_below (Below.refl _ _)⟩, ⟨HV.out.mono (fun j k _ h => .inl h)⟩⟩
       case round =>
        clear HV
        obtain ⟨i, rfl, hi, HK, HV⟩ := hrel
        by_cases hlt : i < p.Shipments.length
        ·have hbx := (HK.out.block w.heap.size (by omega) (by omega)).trans HB0.out
         have q3 : wr.cell? ⟨w.heap.size, 7, none⟩ = _ := blk_cell hbx 7
         simp only [List.getElem?_toArray, List.getElem?_cons_succ, List.getElem?_cons_zero] at q3
         have hbr := HK.out.over HBL.out (by omega)
         obtain ⟨x, hx⟩ : ∃ x, p.Shipments[i]? = some x := ⟨_, List.getElem?_eq_getElem hlt⟩
         have HGX := Aside0.mk (HG.out.2.2.2.2.2.2.2 x (List.mem_of_getElem? hx))
         obtain ⟨cur0, cells, hc0, hlen, hFK, hsz0, hat, hclose⟩ := HV.out.lens (fun m hm => by omega) i x hx
         have hK := hFK w (fun k hk _ => by
          rcases hk with hk | hk
          ·exact (hbr.block k hk).symm
          ·omega)
         obtain ⟨A2, k2, A5, k5, A6, k6, rfl, l1, g1, l2, g2, l3, g3⟩ := kShipment_open hK
         have HX := Aside0.mk (show _ ∧ _ ∧ _ ∧ _ ∧ _ ∧ _ from ⟨l1, g1, l2, g2, l3, g3⟩)
         have o1 : cur0[i * 9 + 6]? = some (.slice A6 x.Amount.length k6) := hat 6 _ rfl
         have o2 : cur0[i * 9 + 2]? = some (.slice A2 x.Pickup.Windows.length k2) := hat 2 _ rfl
         have o3 : cur0[i * 9 + 5]? = some (.slice A5 x.Delivery.Windows.length k5) := hat 5 _ rfl
         have hsz : i * 9 + 9 ≤ cur0.size := hsz0
         have hbel : ∀ wx, KeepP gs wr wx → Below w.heap.size w wx := fun wx h => h.over hbr (by omega)
         have HCL := Aside0.mk (show _ ∧ _ from ⟨hat, hclose⟩)
         have hgvr : gs < wr.heap.size := Nat.lt_of_lt_of_le (by omega) HK.out.size
         have HBR := Aside0.mk (show _ ∧ _ from ⟨hc0, hbr⟩)
         have r0 : (0 : Int) ≤ (i : Int) := by omega
         have r1 : (i : Int) < (p.Shipments.length : Int) := by omega
         clear hK l1 g1 l2 g2 l3 g3 hat hclose hFK hlen hx hbx hsz0 hc0 hbr
         go_wp2
         refine wp_region_S (tells gs [.is (.pointer (some ⟨gs, i * 9, none⟩)), .is (.pointer (some ⟨gs, i * 9, none⟩)), .is (.pointer (some ⟨gs, i * 9, none⟩)), .row 3 (wr.heap.size), .is (.pointer (some ⟨gs, i * 9, none⟩)), .is (.pointer (some ⟨gs, i * 9, none⟩)), .is (.pointer (some ⟨gs, i * 9 + 6, none⟩)), .is (.slice A6 x.Amount.length k6), .sat (Copied (Kd.int .i64) 3 (wr.heap.size) (fun k => k < w.heap.size) x.Amount), .row 40 (wr.heap.size), .is (.pointer (some ⟨gs, i * 9, none⟩)), .is (.pointer (some ⟨gs, i * 9, none⟩)), .is (.pointer (some ⟨gs, i * 9, none⟩)), .is (.pointer (some ⟨gs, i * 9 + 2, none⟩)), .is (.slice A2 x.Pickup.Windows.length k2), .sat (Copied kWindow 40 (wr.heap.size) (fun k => k < w.heap.size) x.Pickup.Windows), .row 40 (wr.heap.size), .is (.pointer (some ⟨gs, i * 9, none⟩)), .is (.pointer (some ⟨gs, i * 9, none⟩)), .is (.pointer (some ⟨gs, i * 9 + 3, none⟩)), .is (.pointer (some ⟨gs, i * 9 + 5, none⟩)), .is (.slice A5 x.Delivery.Windows.length k5), .sat (Copied kWindow 40 (wr.heap.size) (fun k => k < w.heap.size) x.Delivery.Windows), .is (.pointer (some ⟨gs, i * 9, none⟩)), .is (.pointer (some ⟨gs, i * 9 + 6, none⟩)), .any, .is (.pointer (some ⟨gs, i * 9, none⟩)), .is (.pointer (some ⟨gs, i * 9, none⟩)), .is (.pointer (some ⟨gs, i * 9 + 2, none⟩)), .any, .is (.pointer (some ⟨gs, i * 9, none⟩)), .is (.pointer (some ⟨gs, i * 9 + 3, none⟩)), .is (.pointer (some ⟨gs, i * 9 + 5, none⟩)), .any]) gs 139 cur0 [(25, 152), (29, 159), (33, 166)] (fun n => if n = 25 then i * 9 + 6 else if n = 29 then i * 9 + 2 else i * 9 + 5) (fun n => if n = 152 then 8 else if n = 159 then 15 else 22) [(9, .pointer (some ⟨gs, i * 9, none⟩))] (by kernel_rfl) (by kernel_rfl) (by first | rfl | decide | simp) (by kernel_rfl) (by kernel_rfl) HBR.out.1 (by simp; omega) (by simp) (by simp) [9] rfl (by kernel_rfl) (by simp [go_sem]) (tells_keep (by simp [Tell.Keeps]; exact ⟨keeps_copied (by omega) (by omega), keeps_copied (by omega) (by omega), keeps_copied (by omega) (by omega)⟩)) ?_ ?_
         ·intro jj o ho
          match jj, ho with
          | 0, ho =>
           obtain rfl := Option.some.inj ho
           intro Q K listed a wx hA hdep hun hv hs
           have f1 : a.tmps.getD 9 undef = .pointer (some ⟨gs, i * 9, none⟩) := hA.base (9, _) (by simp)
           unfold Oper.wp
           simp [execOp, go_sem, f1]
           exact hv (by decide) _ _ (Below.refl _ _) (fun _ _ => rfl)
          | 1, ho =>
           obtain rfl := Option.some.inj ho
           intro Q K listed a wx hA hdep hun hv hs
           have f1 : a.tmps.getD 9 undef = .pointer (some ⟨gs, i * 9, none⟩) := hA.base (9, _) (by simp)
           unfold Oper.wp
           simp [execOp, go_sem, f1]
           exact hv (by decide) _ _ (Below.refl _ _) (fun _ _ => rfl)
          | 2, ho =>
           obtain rfl := Option.some.inj ho
           intro Q K listed a wx hA hdep hun hv hs
           have f1 : a.tmps.getD 9 undef = .pointer (some ⟨gs, i * 9, none⟩) := hA.base (9, _) (by simp)
           unfold Oper.wp
           simp [execOp, go_sem, f1]
           exact hv (by decide) _ _ (Below.refl _ _) (fun _ _ => rfl)
          | 3, ho =>
           obtain rfl := Option.some.inj ho
           intro Q K listed a wx hA hdep hun hv hs
           unfold Oper.wp
           simp [execOp, go_sem]
           exact hv (by decide) _ _ (below_alloc (Below.refl _ _) _) (fun _ _ => ⟨⟨_, rfl, hA.grown.size, blk_new _ _⟩, (by omega)⟩)
          | 4, ho =>
           obtain rfl := Option.some.inj ho
           intro Q K listed a wx hA hdep hun hv hs
           have f1 : a.tmps.getD 9 undef = .pointer (some ⟨gs, i * 9, none⟩) := hA.base (9, _) (by simp)
           unfold Oper.wp
           simp [execOp, go_sem, f1]
           exact hv (by decide) _ _ (Below.refl _ _) (fun _ _ => rfl)
          | 5, ho =>
           obtain rfl := Option.some.inj ho
           intro Q K listed a wx hA hdep hun hv hs
           have f1 : a.tmps.getD 148 undef = .pointer (some ⟨gs, i * 9, none⟩) := hA.told 4 _ 148 rfl rfl (hdep 4 (by kernel_rfl))
           unfold Oper.wp
           simp [execOp, go_sem, f1]
           exact hv (by decide) _ _ (Below.refl _ _) (fun _ _ => rfl)
          | 6, ho =>
           obtain rfl := Option.some.inj ho
           intro Q K listed a wx hA hdep hun hv hs
           have f1 : a.tmps.getD 149 undef = .pointer (some ⟨gs, i * 9, none⟩) := hA.told 5 _ 149 rfl rfl (hdep 5 (by kernel_rfl))
           unfold Oper.wp
           simp [execOp, go_sem, f1]
           exact hv (by decide) _ _ (Below.refl _ _) (fun _ _ => rfl)
          | 7, ho =>
           obtain rfl := Option.some.inj ho
           intro Q K listed a wx hA hdep hun hv hs
           have f1 : a.tmps.getD 150 undef = .pointer (some ⟨gs, i * 9 + 6, none⟩) := hA.told 6 _ 150 rfl rfl (hdep 6 (by kernel_rfl))
           have hc : wx.cell? ⟨gs, i * 9 + 6, none⟩ = some (.slice A6 x.Amount.length k6) := (hA.side.cell (25, 152) (by simp) (hun 25 (.inr (by kernel_rfl)))).trans o1
           unfold Oper.wp
           simp [execOp, go_sem, f1, hc]
           exact hv (by decide) _ _ (Below.refl _ _) (fun _ _ => rfl)
          | 8, ho =>
           obtain rfl := Option.some.inj ho
           intro Q K listed a wx hA hdep hun hv hs
           have fs : EmptyRow 3 (wr.heap.size) (a.tmps.getD 147 undef) wx := (hA.told 3 _ 147 rfl rfl (hdep 3 (by kernel_rfl)) : EmptyRow _ _ _ _ ∧ _).1
           have f1 : a.tmps.getD 151 undef = .slice A6 x.Amount.length k6 := hA.told 7 _ 151 rfl rfl (hdep 7 (by kernel_rfl))
           refine wp_copy (d := (Kd.int .i64)) (W0 := w) (.tmp 147) (.tmp 151) 22 3 (.int .i64 0) 8 rfl Try.underlying22 int_info rfl (by decide) (Kd.heap_int _) _ hA.grown.size fs _ _ f1 HX.out.2.2.2.2.2 (hbel wx hA.grown) (Nat.le_trans HGX.out.2.2.1.2.1 (by decide)) HGX.out.2.2.1.1 ?_
           intro v w2 hc hb2
           exact hv (by decide) _ _ hb2 (fun _ _ => hc)
          | 9, ho =>
           obtain rfl := Option.some.inj ho
           intro Q K listed a wx hA hdep hun hv hs
           unfold Oper.wp
           simp [execOp, go_sem]
           exact hv (by decide) _ _ (below_alloc (Below.refl _ _) _) (fun _ _ => ⟨⟨_, rfl, hA.grown.size, blk_new _ _⟩, (by omega)⟩)
          | 10, ho =>
           obtain rfl := Option.some.inj ho
           intro Q K listed a wx hA hdep hun hv hs
           have f1 : a.tmps.getD 9 undef = .pointer (some ⟨gs, i * 9, none⟩) := hA.base (9, _) (by simp)
           unfold Oper.wp
           simp [execOp, go_sem, f1]
           exact hv (by decide) _ _ (Below.refl _ _) (fun _ _ => rfl)
          | 11, ho =>
           obtain rfl := Option.some.inj ho
           intro Q K listed a wx hA hdep hun hv hs
           have f1 : a.tmps.getD 154 undef = .pointer (some ⟨gs, i * 9, none⟩) := hA.told 10 _ 154 rfl rfl (hdep 10 (by kernel_rfl))
           unfold Oper.wp
           simp [execOp, go_sem, f1]
           exact hv (by decide) _ _ (Below.refl _ _) (fun _ _ => rfl)
          | 12, ho =>
           obtain rfl := Option.some.inj ho
           intro Q K listed a wx hA hdep hun hv hs
           have f1 : a.tmps.getD 155 undef = .pointer (some ⟨gs, i * 9, none⟩) := hA.told 11 _ 155 rfl rfl (hdep 11 (by kernel_rfl))
           unfold Oper.wp
           simp [execOp, go_sem, f1]
           exact hv (by decide) _ _ (Below.refl _ _) (fun _ _ => rfl)
          | 13, ho =>
           obtain rfl := Option.some.inj ho
           intro Q K listed a wx hA hdep hun hv hs
           have f1 : a.tmps.getD 156 undef = .pointer (some ⟨gs, i * 9, none⟩) := hA.told 12 _ 156 rfl rfl (hdep 12 (by kernel_rfl))
           unfold Oper.wp
           simp [execOp, go_sem, f1]
           exact hv (by decide) _ _ (Below.refl _ _) (fun _ _ => rfl)
          | 14, ho =>
           obtain rfl := Option.some.inj ho
           intro Q K listed a wx hA hdep hun hv hs
           have f1 : a.tmps.getD 157 undef = .pointer (some ⟨gs, i * 9 + 2, none⟩) := hA.told 13 _ 157 rfl rfl (hdep 13 (by kernel_rfl))
           have hc : wx.cell? ⟨gs, i * 9 + 2, none⟩ = some (.slice A2 x.Pickup.Windows.length k2) := (hA.side.cell (29, 159) (by simp) (hun 29 (.inr (by kernel_rfl)))).trans o2
           unfold Oper.wp
           simp [execOp, go_sem, f1, hc]
           exact hv (by decide) _ _ (Below.refl _ _) (fun _ _ => rfl)
          | 15, ho =>
           obtain rfl := Option.some.inj ho
           intro Q K listed a wx hA hdep hun hv hs
           have fs : EmptyRow 40 (wr.heap.size) (a.tmps.getD 153 undef) wx := (hA.told 9 _ 153 rfl rfl (hdep 9 (by kernel_rfl)) : EmptyRow _ _ _ _ ∧ _).1
           have f1 : a.tmps.getD 158 undef = .slice A2 x.Pickup.Windows.length k2 := hA.told 14 _ 158 rfl rfl (hdep 14 (by kernel_rfl))
           refine wp_copy (d := kWindow) (W0 := w) (.tmp 153) (.tmp 158) 41 40 _ 16 rfl Try.underlying41 infoWindow rfl (by decide) heap_window _ hA.grown.size fs _ _ f1 HX.out.2.1 (hbel wx hA.grown) (Nat.le_trans HGX.out.1.2.2.2.1 (by decide)) HGX.out.1.2.2.1 ?_
           intro v w2 hc hb2
           exact hv (by decide) _ _ hb2 (fun _ _ => hc)
          | 16, ho =>
           obtain rfl := Option.some.inj ho
           intro Q K listed a wx hA hdep hun hv hs
           unfold Oper.wp
           simp [execOp, go_sem]
           exact hv (by decide) _ _ (below_alloc (Below.refl _ _) _) (fun _ _ => ⟨⟨_, rfl, hA.grown.size, blk_new _ _⟩, (by omega)⟩)
          | 17, ho =>
           obtain rfl := Option.some.inj ho
           intro Q K listed a wx hA hdep hun hv hs
           have f1 : a.tmps.getD 9 undef = .pointer (some ⟨gs, i * 9, none⟩) := hA.base (9, _) (by simp)
           unfold Oper.wp
           simp [execOp, go_sem, f1]
           exact hv (by decide) _ _ (Below.refl _ _) (fun _ _ => rfl)
          | 18, ho =>
           obtain rfl := Option.some.inj ho
           intro Q K listed a wx hA hdep hun hv hs
           have f1 : a.tmps.getD 161 undef = .pointer (some ⟨gs, i * 9, none⟩) := hA.told 17 _ 161 rfl rfl (hdep 17 (by kernel_rfl))
           unfold Oper.wp
           simp [execOp, go_sem, f1]
           exact hv (by decide) _ _ (Below.refl _ _) (fun _ _ => rfl)
          | 19, ho =>
           obtain rfl := Option.some.inj ho
           intro Q K listed a wx hA hdep hun hv hs
           have f1 : a.tmps.getD 162 undef = .pointer (some ⟨gs, i * 9, none⟩) := hA.told 18 _ 162 rfl rfl (hdep 18 (by kernel_rfl))
           unfold Oper.wp
           simp [execOp, go_sem, f1]
           exact hv (by decide) _ _ (Below.refl _ _) (fun _ _ => rfl)
          | 20, ho =>
           obtain rfl := Option.some.inj ho
           intro Q K listed a wx hA hdep hun hv hs
           have f1 : a.tmps.getD 163 undef = .pointer (some ⟨gs, i * 9 + 3, none⟩) := hA.told 19 _ 163 rfl rfl (hdep 19 (by kernel_rfl))
           unfold Oper.wp
           simp [execOp, go_sem, f1]
           exact hv (by decide) _ _ (Below.refl _ _) (fun _ _ => rfl)
          | 21, ho =>
           obtain rfl := Option.some.inj ho
           intro Q K listed a wx hA hdep hun hv hs
           have f1 : a.tmps.getD 164 undef = .pointer (some ⟨gs, i * 9 + 5, none⟩) := hA.told 20 _ 164 rfl rfl (hdep 20 (by kernel_rfl))
           have hc : wx.cell? ⟨gs, i * 9 + 5, none⟩ = some (.slice A5 x.Delivery.Windows.length k5) := (hA.side.cell (33, 166) (by simp) (hun 33 (.inr (by kernel_rfl)))).trans o3
           unfold Oper.wp
           simp [execOp, go_sem, f1, hc]
           exact hv (by decide) _ _ (Below.refl _ _) (fun _ _ => rfl)
          | 22, ho =>
           obtain rfl := Option.some.inj ho
           intro Q K listed a wx hA hdep hun hv hs
           have fs : EmptyRow 40 (wr.heap.size) (a.tmps.getD 160 undef) wx := (hA.told 16 _ 160 rfl rfl (hdep 16 (by kernel_rfl)) : EmptyRow _ _ _ _ ∧ _).1
           have f1 : a.tmps.getD 165 undef = .slice A5 x.Delivery.Windows.length k5 := hA.told 21 _ 165 rfl rfl (hdep 21 (by kernel_rfl))
           refine wp_copy (d := kWindow) (W0 := w) (.tmp 160) (.tmp 165) 41 40 _ 16 rfl Try.underlying41 infoWindow rfl (by decide) heap_window _ hA.grown.size fs _ _ f1 HX.out.2.2.2.1 (hbel wx hA.grown) (Nat.le_trans HGX.out.2.1.2.2.2.1 (by decide)) HGX.out.2.1.2.2.1 ?_
           intro v w2 hc hb2
           exact hv (by decide) _ _ hb2 (fun _ _ => hc)
          | 23, ho =>
           obtain rfl := Option.some.inj ho
           intro Q K listed a wx hA hdep hun hv hs
           have f1 : a.tmps.getD 144 undef = .pointer (some ⟨gs, i * 9, none⟩) := hA.told 0 _ 144 rfl rfl (hdep 0 (by kernel_rfl))
           unfold Oper.wp
           simp [execOp, go_sem, f1]
           exact hv (by decide) _ _ (Below.refl _ _) (fun _ _ => rfl)
          | 24, ho =>
           obtain rfl := Option.some.inj ho
           intro Q K listed a wx hA hdep hun hv hs
           have f1 : a.tmps.getD 167 undef = .pointer (some ⟨gs, i * 9, none⟩) := hA.told 23 _ 167 rfl rfl (hdep 23 (by kernel_rfl))
           unfold Oper.wp
           simp [execOp, go_sem, f1]
           exact hv (by decide) _ _ (Below.refl _ _) (fun _ _ => rfl)
          | 25, ho =>
           obtain rfl := Option.some.inj ho
           intro Q K listed a wx hA hdep hun hv hs
           have f1 : a.tmps.getD 168 undef = .pointer (some ⟨gs, i * 9 + 6, none⟩) := hA.told 24 _ 168 rfl rfl (hdep 24 (by kernel_rfl))
           obtain ⟨gc, cc, hvv, _⟩ := (hA.told 8 _ 152 rfl rfl (hdep 8 (by kernel_rfl)) : Copied (Kd.int .i64) 3 (wr.heap.size) (fun k => k < w.heap.size) x.Amount _ _)
           have hc : wx.cell? ⟨gs, i * 9 + 6, none⟩ = some (.slice A6 x.Amount.length k6) := (hA.side.cell (25, 152) (by simp) (hun 25 (.inl rfl))).trans o1
           have hfro : wx.frozen? ⟨gs, i * 9 + 6, none⟩ = false := hA.side.frozen _
           have hK := hs (25, 152) (by simp) rfl rfl
           rw [hvv] at hK
           unfold Oper.wp
           simp [execOp, go_sem, f1, hvv, hc, hfro]
           exact hK
          | 26, ho =>
           obtain rfl := Option.some.inj ho
           intro Q K listed a wx hA hdep hun hv hs
           have f1 : a.tmps.getD 145 undef = .pointer (some ⟨gs, i * 9, none⟩) := hA.told 1 _ 145 rfl rfl (hdep 1 (by kernel_rfl))
           unfold Oper.wp
           simp [execOp, go_sem, f1]
           exact hv (by decide) _ _ (Below.refl _ _) (fun _ _ => rfl)
          | 27, ho =>
           obtain rfl := Option.some.inj ho
           intro Q K listed a wx hA hdep hun hv hs
           have f1 : a.tmps.getD 169 undef = .pointer (some ⟨gs, i * 9, none⟩) := hA.told 26 _ 169 rfl rfl (hdep 26 (by kernel_rfl))
           unfold Oper.wp
           simp [execOp, go_sem, f1]
           exact hv (by decide) _ _ (Below.refl _ _) (fun _ _ => rfl)
          | 28, ho =>
           obtain rfl := Option.some.inj ho
           intro Q K listed a wx hA hdep hun hv hs
           have f1 : a.tmps.getD 170 undef = .pointer (some ⟨gs, i * 9, none⟩) := hA.told 27 _ 170 rfl rfl (hdep 27 (by kernel_rfl))
           unfold Oper.wp
           simp [execOp, go_sem, f1]
           exact hv (by decide) _ _ (Below.refl _ _) (fun _ _ => rfl)
          | 29, ho =>
           obtain rfl := Option.some.inj ho
           intro Q K listed a wx hA hdep hun hv hs
           have f1 : a.tmps.getD 171 undef = .pointer (some ⟨gs, i * 9 + 2, none⟩) := hA.told 28 _ 171 rfl rfl (hdep 28 (by kernel_rfl))
           obtain ⟨gc, cc, hvv, _⟩ := (hA.told 15 _ 159 rfl rfl (hdep 15 (by kernel_rfl)) : Copied kWindow 40 (wr.heap.size) (fun k => k < w.heap.size) x.Pickup.Windows _ _)
           have hc : wx.cell? ⟨gs, i * 9 + 2, none⟩ = some (.slice A2 x.Pickup.Windows.length k2) := (hA.side.cell (29, 159) (by simp) (hun 29 (.inl rfl))).trans o2
           have hfro : wx.frozen? ⟨gs, i * 9 + 2, none⟩ = false := hA.side.frozen _
           have hK := hs (29, 159) (by simp) rfl rfl
           rw [hvv] at hK
           unfold Oper.wp
           simp [execOp, go_sem, f1, hvv, hc, hfro]
           exact hK
          | 30, ho =>
           obtain rfl := Option.some.inj ho
           intro Q K listed a wx hA hdep hun hv hs
           have f1 : a.tmps.getD 146 undef = .pointer (some ⟨gs, i * 9, none⟩) := hA.told 2 _ 146 rfl rfl (hdep 2 (by kernel_rfl))
           unfold Oper.wp
           simp [execOp, go_sem, f1]
           exact hv (by decide) _ _ (Below.refl _ _) (fun _ _ => rfl)
          | 31, ho =>
           obtain rfl := Option.some.inj ho
           intro Q K listed a wx hA hdep hun hv hs
           have f1 : a.tmps.getD 172 undef = .pointer (some ⟨gs, i * 9, none⟩) := hA.told 30 _ 172 rfl rfl (hdep 30 (by kernel_rfl))
           unfold Oper.wp
           simp [execOp, go_sem, f1]
           exact hv (by decide) _ _ (Below.refl _ _) (fun _ _ => rfl)
          | 32, ho =>
           obtain rfl := Option.some.inj ho
           intro Q K listed a wx hA hdep hun hv hs
           have f1 : a.tmps.getD 173 undef = .pointer (some ⟨gs, i * 9 + 3, none⟩) := hA.told 31 _ 173 rfl rfl (hdep 31 (by kernel_rfl))
           unfold Oper.wp
           simp [execOp, go_sem, f1]
           exact hv (by decide) _ _ (Below.refl _ _) (fun _ _ => rfl)
          | 33, ho =>
           obtain rfl := Option.some.inj ho
           intro Q K listed a wx hA hdep hun hv hs
           have f1 : a.tmps.getD 174 undef = .pointer (some ⟨gs, i * 9 + 5, none⟩) := hA.told 32 _ 174 rfl rfl (hdep 32 (by kernel_rfl))
           obtain ⟨gc, cc, hvv, _⟩ := (hA.told 22 _ 166 rfl rfl (hdep 22 (by kernel_rfl)) : Copied kWindow 40 (wr.heap.size) (fun k => k < w.heap.size) x.Delivery.Windows _ _)
           have hc : wx.cell? ⟨gs, i * 9 + 5, none⟩ = some (.slice A5 x.Delivery.Windows.length k5) := (hA.side.cell (33, 166) (by simp) (hun 33 (.inl rfl))).trans o3
           have hfro : wx.frozen? ⟨gs, i * 9 + 5, none⟩ = false := hA.side.frozen _
           have hK := hs (33, 166) (by simp) rfl rfl
           rw [hvv] at hK
           unfold Oper.wp
           simp [execOp, go_sem, f1, hvv, hc, hfro]
           exact hK
          | _ + 34, ho => simp at ho
         ·intro u w3 hk hΦ hbp
          have z1 : Copied (Kd.int .i64) 3 wr.heap.size (fun k => k < w.heap.size) x.Amount (u 8) w3 := hΦ 8 _ 152 rfl rfl
          have z2 : Copied kWindow 40 wr.heap.size (fun k => k < w.heap.size) x.Pickup.Windows (u 15) w3 := hΦ 15 _ 159 rfl rfl
          have z3 : Copied kWindow 40 wr.heap.size (fun k => k < w.heap.size) x.Delivery.Windows (u 22) w3 := hΦ 22 _ 166 rfl rfl
          clear hΦ
          obtain ⟨ga, ca, ha1, ha2, ha3, ha4⟩ := z1
          obtain ⟨gb, cb, hb1, hb2, hb3, hb4⟩ := z2
          obtain ⟨gc, cc, hc1, hc2, hc3, hc4⟩ := z3
          have hcur : w3.heap[gs]? = some (.cells (((cur0.setIfInBounds (i * 9 + 6) (.slice (some ⟨ga, 0, none⟩) x.Amount.length ca)).setIfInBounds (i * 9 + 2) (.slice (some ⟨gb, 0, none⟩) x.Pickup.Windows.length cb)).setIfInBounds (i * 9 + 5) (.slice (some ⟨gc, 0, none⟩) x.Delivery.Windows.length cc)) 139 (0, 0)) := by
           simp at hbp
           rw [hbp, ha1, hb1, hc1]
          clear hbp o1 o2 o3
          have f1 : x.Amount.length ≤ 4611686018427387904 := by have := HGX.out.2.2.1.2.1; omega
          have f2 : x.Pickup.Windows.length ≤ 4611686018427387904 := by have := HGX.out.1.2.2.2.1; omega
          have f3 : x.Delivery.Windows.length ≤ 4611686018427387904 := by have := HGX.out.2.1.2.2.2.1; omega
          have hw0 : n2 ≤ wr.heap.size := Nat.le_trans hno HK.out.size
          have esz : kShipment.sz = 9 := rfl
          have hI3 := HCL.out.2 w3 _ [.int .i64 x.Pickup.Place, .int .i64 x.Pickup.Service, .slice (some ⟨gb, 0, none⟩) x.Pickup.Windows.length cb, .int .i64 x.Delivery.Place, .int .i64 x.Delivery.Service, .slice (some ⟨gc, 0, none⟩) x.Delivery.Windows.length cc, .slice (some ⟨ga, 0, none⟩) x.Amount.length ca, .int .u64 x.Skills, .int .i64 x.Priority] (fun m => m < w.heap.size ∨ n2 ≤ m) hcur (by simp)
           (fun m hm => by rw [esz] at hm; rw [Array.getElem?_setIfInBounds_ne (by omega), Array.getElem?_setIfInBounds_ne (by omega), Array.getElem?_setIfInBounds_ne (by omega)]) rfl
           (fun m v hv => by
            have h := HCL.out.1 m v
            rw [esz] at h ⊢
            match m, h, hv with
            | 6, h, hv => rw [Array.getElem?_setIfInBounds_ne (by omega)]; rw [Array.getElem?_setIfInBounds_ne (by omega)]; rw [← Option.some.inj hv]; exact Array.getElem?_setIfInBounds_self_of_lt (by (try simp only [Array.size_setIfInBounds]); omega)
            | 2, h, hv => rw [Array.getElem?_setIfInBounds_ne (by omega)]; rw [← Option.some.inj hv]; exact Array.getElem?_setIfInBounds_self_of_lt (by (try simp only [Array.size_setIfInBounds]); omega)
            | 5, h, hv => rw [← Option.some.inj hv]; exact Array.getElem?_setIfInBounds_self_of_lt (by (try simp only [Array.size_setIfInBounds]); omega)
            | 0, h, hv | 1, h, hv | 3, h, hv | 4, h, hv | 7, h, hv | 8, h, hv =>
             rw [Array.getElem?_setIfInBounds_ne (by omega), Array.getElem?_setIfInBounds_ne (by omega), Array.getElem?_setIfInBounds_ne (by omega)]
             exact h hv
            | _ + 9, h, hv => simp at hv)
           (fun m hm hlt => hk.block m hlt hm)
           (fun W' hW' => kShipment_mk W' x (some ⟨gb, 0, none⟩) cb hb2 ((hb4.step (hW' gb (.inr (by omega)) hb4.lt) (fun m hm hlt => hW' m (.inl hm) hlt)).reads f2) (some ⟨gc, 0, none⟩) cc hc2 ((hc4.step (hW' gc (.inr (by omega)) hc4.lt) (fun m hm hlt => hW' m (.inl hm) hlt)).reads f3) (some ⟨ga, 0, none⟩) ca ha2 ((ha4.step (hW' ga (.inr (by omega)) ha4.lt) (fun m hm hlt => hW' m (.inl hm) hlt)).reads f1))
          have HV2 : Aside0 (RowIx kShipment 139 w3 (fun j m => m < w.heap.size ∨ (j < i + 1 ∧ n2 ≤ m)) gs p.Shipments) := ⟨hI3.mono (fun j m _ h => by
           by_cases e : j = i
           ·simp only [e, if_pos] at h
            rcases h with h | h
            ·exact .inl h
            ·exact .inr ⟨by omega, h⟩
           ·simp only [if_neg e] at h
            rcases h with h | ⟨h1, h2⟩
            ·exact .inl h
            ·exact .inr ⟨by omega, h2⟩)⟩
          have HK2 := Aside0.mk (HK.out.trans hk)
          clear hcur hw0 esz hI3 hbel ha4 hb4 hc4 hk ha1 hb1 hc1
          simp only [putAll, Act.put, List.setIfInBounds_toArray, List.set_cons_succ, List.set_cons_zero, Nat.reduceAdd]
          generalize u 0 = x0, u 1 = x1, u 2 = x2, u 3 = x3, u 4 = x4, u 5 = x5, u 6 = x6, u 7 = x7, u 8 = x8, u 9 = x9, u 10 = x10, u 11 = x11, u 12 = x12, u 13 = x13, u 14 = x14, u 15 = x15, u 16 = x16, u 17 = x17, u 18 = x18, u 19 = x19, u 20 = x20, u 21 = x21, u 22 = x22, u 23 = x23, u 24 = x24, u 26 = x26, u 27 = x27, u 28 = x28, u 30 = x30, u 31 = x31, u 32 = x32
          clear u r0 r1
          go_wp2
          go_roundw
          case rel => exact ⟨i + 1, by go_num, by omega, HK2, HV2⟩
          case measure => simp [intOf]; omega
        ·obtain rfl : i = p.Shipments.length := by omega
         have hbx := (HK.out.block w.heap.size (by omega) (by omega)).trans HB0.out
         obtain ⟨d0, d1, d2, d3, d4, d5, d6, d7⟩ := cells8 hbx
         have hrs := (HK.out.block (w.heap.size + 1) (by omega) (by omega)).trans HR.out
         obtain ⟨e0, e1, e2, e3, e4, e5, e6, e7⟩ := cells8 hrs
         have hfro := fun n => blk_frozen hrs n
         go_wp2
         have HJ := Aside0.mk (show _ ∧ _ from ⟨HJ.out, hno⟩)
         have HE := Aside0.mk (show _ ∧ _ ∧ _ ∧ _ ∧ _ ∧ _ ∧ _ ∧ _ from ⟨HK.out, HV.out, HT.out, HD.out, HW.out, HBL.out, hbo, hno⟩)
         refine bodyPost_ret (v := PV.val ⟨some ⟨gt, 0, none⟩, ct, some ⟨gd, 0, none⟩, cd, some ⟨gv, 0, none⟩, cv, some ⟨gj, 0, none⟩, cj, some ⟨gs, 0, none⟩, cs⟩ p) (by simp [results, Try.results27, go_sem, *]) rfl ?_
         generalize hWE : (((((((((World.setCell wr ⟨w.heap.size + 1, 0, none⟩ _).setCell _ _).setCell _ _).setCell _ _).setCell _ _).setCell _ _).setCell _ _).setCell _ _)) = WE
         have hk8 : KeepP (w.heap.size + 1) wr WE := by
          rw [← hWE]
          exact (((((((KeepP.set 0 _).trans (KeepP.set 1 _)).trans (KeepP.set 2 _)).trans (KeepP.set 3 _)).trans (KeepP.set 4 _)).trans (KeepP.set 5 _)).trans (KeepP.set 6 _)).trans (KeepP.set 7 _)
         clear hWE
         have HJo := HJ.out.1
         obtain ⟨hK, hV, hT, hD, hW, hB, hb, hn⟩ := HE.out
         have hV2 := hV.at_ (o := fun k => k < w.heap.size ∨ n2 ≤ k) (fun j k hj h => by omega)
         have hT2 := hT.step (W1 := wr) (hK.block gt hT.lt (by omega)) (fun k hk hlt => hK.block k hlt (by omega))
         have hD2 := hD.step (W1 := wr) (hK.block gd hD.lt (by omega)) (fun k hk hlt => hK.block k hlt (by omega))
         have hW2 := hW.step (W1 := wr) (hK.block gv hW.lt (by omega)) (fun k hk hlt => hK.block k hlt (by omega))
         have hJ2 := HJo.step (W1 := wr) (hK.block gj HJo.lt (by omega)) (fun k hk hlt => hK.block k hlt (by omega))
         have hBr := hK.over hB (by omega)
         refine ⟨⟨gt, ct, gd, cd, gv, cv, gj, cj, gs, cs, n2⟩, rfl, ⟨(by dsimp only; omega), (by dsimp only; omega), (by dsimp only; omega), (by dsimp only; omega), (by dsimp only; omega), Nat.le_trans hn (Nat.le_trans hK.size hk8.size), (by dsimp only; omega), by assumption, by assumption, by assumption, by assumption, by assumption,
          hT2.step (hk8.block _ hT2.lt (by omega)) (fun k hk hlt => hk8.block k hlt (by omega)), hD2.step (hk8.block _ hD2.lt (by omega)) (fun k hk hlt => hk8.block k hlt (by omega)), hW2.step (hk8.block _ hW2.lt (by omega)) (fun k hk hlt => hk8.block k hlt (by omega)),
          hJ2.step (hk8.block _ hJ2.lt (by omega)) (fun k hk hlt => hk8.block k hlt (by omega)), hV2.step (hk8.block _ hV2.lt (by omega)) (fun k hk hlt => hk8.block k hlt (by omega))⟩, hk8.over hBr (by omega)⟩
end Go.Proofs.Ytemjpgmfignhnaa
