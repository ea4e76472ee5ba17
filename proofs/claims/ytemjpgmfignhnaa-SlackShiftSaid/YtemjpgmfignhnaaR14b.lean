/- Contract: the latest times of a plan's steps. The program's Latest.
Conditions: a lawful problem, a plan of a vehicle that is there, of at least two steps. -/
import Derived.Test.YtemjpgmfignhnaaR14a
import Derived.Test.YtemjpgmfignhnaaR13c
namespace Go.Proofs.Ytemjpgmfignhnaa
open Go.RowKit Go.Proofs.YtemjpgmfignhnaaW.PrintWords Go.Proofs.YtemjpgmfignhnaaW.PrintLast Go.Proofs.YtemjpgmfignhnaaW.PrintMore
set_option linter.unusedVariables false
set_option linter.unusedSimpArgs false
attribute [local go_sem] cell_growBy Option.some_or
theorem lastTo_false (t : Int) (l : List TWindow) : ∀ k, (lastTo t l k).2 = false → (lastTo t l k).1 = 0
  | 0, _ => rfl
  | k + 1, h => by
    unfold lastTo at h ⊢
    split
    · rename_i hc
      rw [if_pos hc] at h
      cases h
    · rename_i hc
      rw [if_neg hc] at h
      exact lastTo_false t l k h
structure StepOk (p : TProblem) (v : TVehicle) (x : TVisit) : Prop where
  win : WinOk (stopE p v x).1.Windows ∨ (stopE p v x).1.Windows = []
  ser : 0 ≤ (stopE p v x).1.Service ∧ (stopE p v x).1.Service ≤ 1000000
  brk : x.Kind = 4 → 0 ≤ x.Item ∧ x.Item < v.Breaks.length
theorem stepOk {p : TProblem} (law : Law p) {v : TVehicle} (hv : VehOk p v) {x : TVisit} (h4 : x.Kind = 4 → 0 ≤ x.Item ∧ x.Item < v.Breaks.length) : StepOk p v x := by
  cases hs : (stopE p v x).2 with
  | true =>
    have := stopE_ok law hv h4 hs
    exact ⟨.inl this.win, this.ser, h4⟩
  | false =>
    have e : (stopE p v x).1 = zStop := by
      unfold stopE at hs ⊢
      split
      · rename_i k4
        rw [if_pos k4] at hs
        cases hs
      · rename_i k4
        rw [if_neg k4] at hs
        unfold stopS at hs ⊢
        split
        · rename_i h
          rw [if_pos h] at hs
          cases hs
        · rfl
    rw [show StepOk p v x ↔ StepOk p v x from Iff.rfl]
    exact ⟨.inr (by rw [e]; rfl), by rw [e]; decide, h4⟩
theorem lastS_in {l : List TWindow} (hw : WinOk l ∨ l = []) (L : Int) : 0 ≤ (lastS L l).1 ∧ (lastS L l).1 ≤ 1000000 := by
  cases h : (lastS L l).2 with
  | false =>
    have : (lastS L l).1 = 0 := lastTo_false L l l.length h
    omega
  | true =>
    rcases hw with hw | rfl
    · have := lastS_le hw h
      omega
    · cases h
theorem late_head {p : TProblem} {v : TVehicle} (hsh : 0 ≤ v.Shift.To ∧ v.Shift.To ≤ 1000000) : ∀ (l : List TStep), l ≠ [] → (∀ s ∈ l, StepOk p v s.Visit) → 0 ≤ (lateS p v l).headD 0 ∧ (lateS p v l).headD 0 ≤ 1000000
  | [], h, _ => absurd rfl h
  | [a], _, _ => hsh
  | a :: b :: r, _, h => by
    rw [lateS, List.headD_cons]
    exact lastS_in (h a List.mem_cons_self).win _
theorem lateS_at (p : TProblem) (v : TVehicle) (l : List TStep) (k : Nat) (h : k + 1 < l.length) : lateS p v (l.drop k) = (lastS ((lateS p v (l.drop (k + 1))).headD 0 - cellS p.Time l[k].Place l[k + 1].Place - (stopE p v l[k].Visit).1.Service) (stopE p v l[k].Visit).1.Windows).1 :: lateS p v (l.drop (k + 1)) := by
  rw [List.drop_eq_getElem_cons (show k < l.length by omega), List.drop_eq_getElem_cons h, lateS]
theorem latestS_at (p : TProblem) (v : TVehicle) (l : List TStep) (h : 1 < l.length) : latestS p v l = ((lateS p v (l.drop 1)).headD 0 - cellS p.Time l[0].Place l[1].Place) :: lateS p v (l.drop 1) := by
  match l, h with
  | a :: b :: r, _ => rfl
theorem slackStop_n (q : PV) (p : TProblem) (st : List TStep) (n : Nat) (hn : n = st.length) (xv xt xd xw xs xc : Int) (A : Option Addr) (c : Nat) (i : Nat) (w : World) (hlp : Good p) (law : Law p) (hq : q.Ok p w) (hr : Kd.C kStep w A st.length st) (hv0 : 0 ≤ xv) (hv1 : xv < (p.Vehicles.length : Int)) (hi : i < st.length)
    (hl : st.length ≤ 200) (hbr : st[i].Visit.Kind = 4 → 0 ≤ st[i].Visit.Item ∧ st[i].Visit.Item < (rdVehicle p.Vehicles xv).Breaks.length) :
    Calls Try.prog 108 #[q.val p, .agg #[.int .i64 xv, .slice A n c, .int .i64 xt, .int .i64 xd, .int .i64 xw, .int .i64 xs, .int .i64 xc], .int .i64 i] w (StopRet (stopE p (rdVehicle p.Vehicles xv) st[i].Visit).1 w) := by
  subst hn
  exact slackStop_any q p st xv xt xd xw xs xc A c i w hlp law hq hr hv0 hv1 hi hl hbr
/-- The times are handed back, in memory of the call's own. -/
def IntsOwn (xs : List Int) (w : World) (e : Ending) (w' : World) : Prop :=
  ∃ A c, e = .returned (.slice A xs.length c) ∧ xs.length ≤ c ∧ Kd.C (Kd.int .i64) w' A xs.length xs ∧ Below w.heap.size w w'
set_option maxHeartbeats 16000000 in
set_option maxRecDepth 100000 in
theorem slackLatest_any (q : PV) (p : TProblem) (st : List TStep) (xv xt xd xw xs xc : Int) (A : Option Addr) (c : Nat) (w : World) (hlp : Good p) (law : Law p) (hq : q.Ok p w) (hr : Kd.C kStep w A st.length st) (hv0 : 0 ≤ xv) (hv1 : xv < (p.Vehicles.length : Int)) (h2 : 2 ≤ st.length)
    (hl : st.length ≤ 200) (hbr : ∀ s ∈ st, s.Visit.Kind = 4 → 0 ≤ s.Visit.Item ∧ s.Visit.Item < (rdVehicle p.Vehicles xv).Breaks.length) :
    Calls Try.prog 66 #[q.val p, .agg #[.int .i64 xv, .slice A st.length c, .int .i64 xt, .int .i64 xd, .int .i64 xw, .int .i64 xs, .int .i64 xc]] w (IntsOwn (latestS p (rdVehicle p.Vehicles xv) st) w) := by
  have HQ := Aside0.mk hq
  have HR := Aside0.mk hr
  have VOK := Aside0.mk (law.veh _ (rdVeh_mem p.Vehicles xv hv0 hv1))
  have hnv := law.nv
  obtain ⟨m, hm⟩ : ∃ m, st.length = m + 2 := ⟨st.length - 2, by omega⟩
  have HM := Aside0.mk hm
  have HSS := Aside0.mk (fun (i : Nat) (hi : i < st.length) W (hb : Below w.heap.size w W) => slackStop_n q p st (m + 2) hm.symm xv xt xd xw xs xc A c i W hlp law (hq.below hb) (Kd.C_below hr hb) hv0 hv1 hi hl (hbr _ (List.getElem_mem hi)))
  have hM1 := Aside0.mk (fun (i j : Int) W (hb : Below w.heap.size w W) => cell_any p.Time q.a1 q.c1 i j W (matOk_of law.mt law.n0 law.n1) (hq.below hb).h1)
  obtain ⟨av, AC, cC, AB, cB, eav, v0, v1, v2, v3, v4, v5, v6, v7, v8, v9, v10, lC, gC, lB, gB⟩ := atVehicle hq.h3 xv hv0 hv1
  generalize rdVehicle p.Vehicles xv = v at *
  have HOK : Aside0 (∀ s ∈ st, StepOk p v s.Visit) := ⟨fun s hs => stepOk law VOK.out (hbr s hs)⟩
  have LAW := Aside0.mk law
  have V5 := Aside0.mk v5
  obtain ⟨ad, _, _, ea, x0, x1, -⟩ := atNStep hr 0 (by omega)
  subst ea
  obtain ⟨a1, c1, a2, c2, a3, c3, a4, c4, a5, c5⟩ := q
  have eav' : a3 = some av := eav
  subst eav'
  clear hq hlp law eav lC gC lB gB v0 v1 v2 v3 v4 v5 v6 v7 v8 v9 v10 x0 x1 hr hbr h2
  unfold PV.val at HSS ⊢
  rw [hm] at hl ⊢
  clear hm
  have d0 : decide (((m + 2 : Nat) : Int) < 2) = false := decide_eq_false (by omega)
  have d1 : decide (xv < 0) = false := decide_eq_false (by omega)
  have d2 : decide ((p.Vehicles.length : Int) ≤ xv) = false := decide_eq_false (by omega)
  have e1 : IntKind.i64.wrap (((m + 2 : Nat) : Int) - 1) = ((m + 1 : Nat) : Int) := by rw [show ((m + 2 : Nat) : Int) - 1 = ((m + 1 : Nat) : Int) by omega]; exact IntWalk.i64_in _ (by omega)
  have e2 : IntKind.i64.wrap (((m + 2 : Nat) : Int) - 2) = (m : Int) := by rw [show ((m + 2 : Nat) : Int) - 2 = (m : Int) by omega]; exact IntWalk.i64_in _ (by omega)
  go_enter Try.func66, Try.ntmps66
  go_upto_region 4 with fail
  refine gen_wp (fun W => Below w.heap.size w W ∧ W.heap[w.heap.size]? = some (.cells #[.int .i64 p.Dims, .int .i64 p.Time.N, .slice a1 p.Time.Cells.length c1, .int .i64 p.Dist.N, .slice a2 p.Dist.Cells.length c2, .slice (some av) p.Vehicles.length c3, .slice a4 p.Jobs.length c4, .slice a5 p.Shipments.length c5] 29) ∧ W.heap[w.heap.size + 1]? = some (.cells #[.int .i64 xv, .slice (some ad) (m + 2) c, .int .i64 xt, .int .i64 xd, .int .i64 xw, .int .i64 xs, .int .i64 xc] 74)) ⟨(by repeat (first | exact Below.refl _ _ | apply below_alloc | apply pw_below_drewN | apply below_drew1 | apply below_drew | (refine Below.setCell ?_ (by (try simp); (try omega)) _) | (refine below_to ?_ HB6.out) | (refine below_to ?_ HB5.out) | (refine below_to ?_ HB4.out) | (refine below_to ?_ HB3.out) | (refine below_to ?_ HB2.out) | (refine below_to ?_ HB1.out))), blk_alloc (blk_new _ _) _, blk_is (by simp)⟩ (fun wk HK => ?_)
  have HBk := Aside0.mk HK.out.1
  go_upto_region 5 with ((with_reducible refine gate_dst (N := 29) rfl ?_); refine Kd.R_make (Kd.int .i64) (w0 := wk) wk.heap.size 3 rfl (N := 29) rfl 22 (.tmp 28) (.tmp 28) rfl ((m + 2 : Nat) : Int) rfl rfl Try.underlying22 (.int .i64 0) 8 (by kernel_rfl) rfl (by decide) (by decide) 0 (ok := fun _ => True) (okp := fun _ => False) rfl (fun _ h => h.elim) trivial (by omega) (by simp; omega) (Below.refl _ _) (Nat.le_refl _) ?_; intro v1 w1 ho hb hg hat; simp only [Int.toNat_natCast] at ho; have HU0 := Aside0.mk ho; have HBU := Aside0.mk hb; have HAT := Aside0.mk hat; clear ho hb hg hat)
  obtain ⟨gN, cN, rfl⟩ : ∃ gN cN, v1 = .slice (some ⟨gN, 0, none⟩) (m + 2) cN := by
    obtain ⟨_, inner, hown, _⟩ := HU0.out
    obtain ⟨b, hb, _⟩ := HAT.out
    rcases hown.2 with ⟨h0, _⟩ | ⟨g, cap, cur, hv, _⟩
    · rw [h0] at hb
      cases hb
    · exact ⟨g, cap, by simpa using hv⟩
  have HN0 : Aside0 ((Kd.int .i64).R 3 w1 wk.heap.size (fun k => k = gN) (.slice (some ⟨gN, 0, none⟩) (m + 2) cN) (List.replicate (m + 2) 0)) := ⟨Kd.R_of_own (Kd.own_of_R HU0.out) (fun k hk => by simpa [Value.ownBlock] using hk.symm)⟩
  have hgN : wk.heap.size ≤ gN := own_base (Kd.own_of_R HN0.out) gN (by simp [Value.ownBlock])
  have hgl : gN < w1.heap.size := own_lt (Kd.own_of_R HN0.out) gN (by simp [Value.ownBlock])
  obtain ⟨cl, hcl⟩ := own_typed (Kd.own_of_R HN0.out) gN (by simp [Value.ownBlock])
  clear HAT HU0
  have HBw1 : Aside0 (Below w.heap.size w w1) := ⟨below_to HBk.out HBU.out⟩
  have hpb := blk_below HK.out.2.1 HBU.out
  have hlb := blk_below HK.out.2.2 HBU.out
  have p0 := blk_cell hpb 0; have p1 := blk_cell hpb 1; have p2 := blk_cell hpb 2; have p3 := blk_cell hpb 3; have p4 := blk_cell hpb 4; have p5 := blk_cell hpb 5; have p6 := blk_cell hpb 6; have p7 := blk_cell hpb 7; simp only [List.getElem?_toArray, List.getElem?_cons_succ, List.getElem?_cons_zero] at p0 p1 p2 p3 p4 p5 p6 p7; have hpw := blk_lt hpb
  have l0 := blk_cell hlb 0; have l1 := blk_cell hlb 1; have l2 := blk_cell hlb 2; have l3 := blk_cell hlb 3; have l4 := blk_cell hlb 4; have l5 := blk_cell hlb 5; have l6 := blk_cell hlb 6; simp only [List.getElem?_toArray, List.getElem?_cons_succ, List.getElem?_cons_zero] at l0 l1 l2 l3 l4 l5 l6; have hlw := blk_lt hlb
  have v5 := pw_cell_below HBw1.out V5.out
  obtain ⟨xN, fN⟩ := Kd.R_celln 0 HN0.out ((m + 1 : Nat) : Int) (by omega) (by omega)
  simp only [Int.toNat_natCast] at xN fN
  have r0 : (0 : Int) ≤ ((m + 1 : Nat) : Int) := by omega
  have r1 : ((m + 1 : Nat) : Int) < ((m + 2 : Nat) : Int) := by omega
  have hsh := VOK.out.shift
  have hsh' : 0 ≤ v.Shift.To ∧ v.Shift.To ≤ 1000000 := by omega
  go_upto_region 6 with fail
  refine gen_wp (fun W => (Kd.int .i64).R 3 W wk.heap.size (fun k => k = gN) (.slice (some ⟨gN, 0, none⟩) (m + 2) cN) (List.replicate (m + 1) 0 ++ lateS p v (st.drop (m + 1))) ∧ Below wk.heap.size wk W) ⟨by
    have h := Kd.R_putn HN0.out ((m + 1 : Nat) : Int) v.Shift.To
    rw [Int.toNat_natCast] at h
    have e : (List.replicate (m + 2) (0 : Int)).set (m + 1) v.Shift.To = List.replicate (m + 1) 0 ++ lateS p v (st.drop (m + 1)) := by
      rw [List.drop_eq_getElem_cons (show m + 1 < st.length by have := HM.out; omega), List.drop_of_length_le (by have := HM.out; omega), List.replicate_succ', List.set_append_right _ _ (by simp)]
      simp [lateS]
    rw [← e]
    exact h, Below.setCell HBU.out hgN _⟩ (fun wL HL => ?_)
  have HNL := Aside0.mk HL.out.1
  have HBL := Aside0.mk HL.out.2
  clear HL HN0 HBU hpb hlb p0 p1 p2 p3 p4 p5 p6 p7 hpw l0 l1 l2 l3 l4 l5 l6 hlw v5 xN fN r0 r1 hgl hcl HBw1 d0 d1 d2 e1
  go_wp2
  go_loopw [7] (fun vi wr => ∃ i : Nat, i ≤ m ∧ vi = .int .i64 i ∧ Aside0 ((Kd.int .i64).R 3 wr wk.heap.size (fun k => k = gN) (.slice (some ⟨gN, 0, none⟩) (m + 2) cN) (List.replicate (i + 1) 0 ++ lateS p v (st.drop (i + 1)))) ∧ Aside0 (Below wk.heap.size wk wr)) (fun vi _ => (intOf vi).toNat)
  case atStart => exact ⟨m, Nat.le_refl _, rfl, HNL, HBL⟩
  case round =>
    clear HNL HBL e2
    obtain ⟨i, hi, rfl, HN, HWk⟩ := hrel
    have HBw : Aside0 (Below w.heap.size w wr) := ⟨below_to HBk.out HWk.out⟩
    have HPB : Aside0 (wr.heap[w.heap.size]? = some (.cells #[.int .i64 p.Dims, .int .i64 p.Time.N, .slice a1 p.Time.Cells.length c1, .int .i64 p.Dist.N, .slice a2 p.Dist.Cells.length c2, .slice (some av) p.Vehicles.length c3, .slice a4 p.Jobs.length c4, .slice a5 p.Shipments.length c5] 29)) := ⟨blk_below HK.out.2.1 HWk.out⟩
    have HLB : Aside0 (wr.heap[w.heap.size + 1]? = some (.cells #[.int .i64 xv, .slice (some ad) (m + 2) c, .int .i64 xt, .int .i64 xd, .int .i64 xw, .int .i64 xs, .int .i64 xc] 74)) := ⟨blk_below HK.out.2.2 HWk.out⟩
    have hlen : st.length = m + 2 := HM.out
    have hil : i + 1 < st.length := by omega
    obtain ⟨hh0, hh1⟩ := late_head (p := p) hsh' (st.drop (i + 1)) (by intro h; have := congrArg List.length h; rw [List.length_drop] at this; simp at this; omega) (fun s hs => HOK.out s (List.mem_of_mem_drop hs))
    have hcl := LAW.out.time st[i].Place st[i + 1].Place
    have HSO := Aside0.mk (HOK.out _ (List.getElem_mem (show i < st.length by omega)))
    have HLA := Aside0.mk (lateS_at p v st i hil)
    have HSI := Aside0.mk (fun W hb => HSS.out i (by omega) W hb)
    have erd : rdOf 0 (List.replicate (i + 1) 0 ++ lateS p v (st.drop (i + 1))) ((i + 1 : Nat) : Int) = (lateS p v (st.drop (i + 1))).headD 0 := by
      simp only [rdOf, Int.toNat_natCast]
      rw [List.getD_eq_getElem?_getD, List.getElem?_append_right (by simp), List.length_replicate, Nat.sub_self, List.headD_eq_head?_getD, List.head?_eq_getElem?]
    generalize hH : (lateS p v (st.drop (i + 1))).headD 0 = H at *
    have HHH := Aside0.mk hH
    clear hH
    have hpb := HPB.out
    have hlb := HLB.out
    have p0 := blk_cell hpb 0; have p1 := blk_cell hpb 1; have p2 := blk_cell hpb 2; have p3 := blk_cell hpb 3; have p4 := blk_cell hpb 4; have p5 := blk_cell hpb 5; have p6 := blk_cell hpb 6; have p7 := blk_cell hpb 7; simp only [List.getElem?_toArray, List.getElem?_cons_succ, List.getElem?_cons_zero] at p0 p1 p2 p3 p4 p5 p6 p7; have hpw := blk_lt hpb
    have l0 := blk_cell hlb 0; have l1 := blk_cell hlb 1; have l2 := blk_cell hlb 2; have l3 := blk_cell hlb 3; have l4 := blk_cell hlb 4; have l5 := blk_cell hlb 5; have l6 := blk_cell hlb 6; simp only [List.getElem?_toArray, List.getElem?_cons_succ, List.getElem?_cons_zero] at l0 l1 l2 l3 l4 l5 l6; have hlw := blk_lt hlb
    obtain ⟨ad1, _, _, ea1, -, -, x2, -⟩ := atNStep (Kd.C_below HR.out HBw.out) i (by omega)
    obtain rfl := Option.some.inj ea1
    obtain ⟨ad1, _, _, ea2, -, -, y2, -⟩ := atNStep (Kd.C_below HR.out HBw.out) (i + 1) hil
    obtain rfl := Option.some.inj ea2
    have hgl : gN < wr.heap.size := own_lt (Kd.own_of_R HN.out) gN (by simp [Value.ownBlock])
    obtain ⟨xN, fN⟩ := Kd.R_celln 0 HN.out ((i + 1 : Nat) : Int) (by omega) (by omega)
    rw [erd] at xN
    simp only [Int.toNat_natCast] at xN fN
    have hba := World.block_lt_of_cell? _ _ x2
    have hbb := World.block_lt_of_cell? _ _ y2
    have d3 : decide ((0 : Int) ≤ (i : Int)) = true := decide_eq_true (by omega)
    have r0 : (0 : Int) ≤ (i : Int) := by omega
    have r1 : (i : Int) < ((m + 2 : Nat) : Int) := by omega
    have r2 : (0 : Int) ≤ (i : Int) + 1 := by omega
    have r3 : (i : Int) + 1 < ((m + 2 : Nat) : Int) := by omega
    have r4 : (i : Int) < (m : Int) + 2 := by omega
    have r5 : (i : Int) + 1 < (m : Int) + 2 := by omega
    have e4 : IntKind.i64.wrap ((i : Int) + 1) = (i : Int) + 1 := IntWalk.i64_in _ (by omega)
    have e5 : IntKind.i64.wrap (H - cellS p.Time st[i].Place st[i + 1].Place) = H - cellS p.Time st[i].Place st[i + 1].Place := IntWalk.i64_in _ (by omega)
    clear hpb hlb ea1 ea2 erd
    go_upto_region 9 with fail
    go_cut [8] (fun s8 wx => s8 = .int .i64 (H - cellS p.Time st[i].Place st[i + 1].Place) ∧ Aside0 (Below wr.heap.size wr wx))
    case first =>
      go_region_held3 (fun W' => Below wr.heap.size wr W' ∧ ∀ a : Addr, a.block < wr.heap.size → W'.cell? a = wr.cell? a) (first | exact hl_start _ | exact hl_of (by repeat (first | exact Below.refl _ _ | apply below_alloc | apply below_drew | (refine Below.setCell ?_ (by first | (simp; done) | (simp; omega) | (dsimp only; omega)) _) | (refine below_to ?_ (by assumption)))))
          (first
            | (go_at_call 30; with_reducible refine (hM1.out st[i].Place st[i + 1].Place _ (below_to HBw.out (And.left (show Below wr.heap.size wr _ ∧ _ from by assumption)))).mono ?_; rintro e w4 ⟨rfl, hb⟩; obtain ⟨qcs, qfs⟩ := bcell hb))
      all_goals
        go_wp2_with fail
        go_meet
        exact ⟨rfl, ⟨(And.left (show Below wr.heap.size wr _ ∧ _ from by assumption))⟩⟩
    case rest =>
      obtain ⟨rfl, HBc⟩ := hcut
      have HNc := Aside0.mk (Kd.R_below HN.out HBc.out)
      have HWc : Aside0 (Below wk.heap.size wk wc) := ⟨below_to HWk.out HBc.out⟩
      have HBwc : Aside0 (Below w.heap.size w wc) := ⟨below_to HBw.out HBc.out⟩
      clear p0 p1 p2 p3 p4 p5 p6 p7 hpw l0 l1 l2 l3 l4 l5 l6 hlw x2 y2 xN fN hba hbb hgl e5 r2 r3
      obtain ⟨xN, fN⟩ := Kd.R_celln 0 HNc.out ((i : Nat) : Int) (by omega) (by omega)
      simp only [Int.toNat_natCast] at xN fN
      have hgl : gN < wc.heap.size := own_lt (Kd.own_of_R HNc.out) gN (by simp [Value.ownBlock])
      by_cases hi0 : i = 0
      · subst hi0
        have hfin : (List.replicate (0 + 1) (0 : Int) ++ lateS p v (st.drop (0 + 1))).set 0 (H - cellS p.Time st[0].Place st[0 + 1].Place) = latestS p v st := by
          rw [latestS_at p v st (by omega), ← HHH.out]
          rfl
        have hR2 := Kd.R_putn HNc.out ((0 : Nat) : Int) (H - cellS p.Time st[0].Place st[0 + 1].Place)
        rw [Int.toNat_natCast, hfin] at hR2
        obtain ⟨AF, cF, eF, hleF, hCF⟩ := Kd.R_reads hR2
        simp only [Value.slice.injEq] at eF
        obtain ⟨rfl, eL, rfl⟩ := eF
        have HCF := Aside0.mk hCF
        have HLE := Aside0.mk hleF
        have EL := Aside0.mk eL
        have r9 : (0 : Int) < (m : Int) + 2 := by omega
        clear hR2 hfin hCF hleF eL HSI HLA
        go_wp2
        go_ret
        exact ⟨some ⟨gN, 0, none⟩, cN, by rw [← EL.out]; rfl, HLE.out, HCF.out, Below.setCell HBwc.out (by have := HBk.out.size; show w.heap.size ≤ gN; omega) _⟩
      · have d4 : ((i : Int) == 0) = false := by simp; omega
        have hpb := blk_below HPB.out HBc.out
        have hlb := blk_below HLB.out HBc.out
        have p0 := blk_cell hpb 0; have p1 := blk_cell hpb 1; have p2 := blk_cell hpb 2; have p3 := blk_cell hpb 3; have p4 := blk_cell hpb 4; have p5 := blk_cell hpb 5; have p6 := blk_cell hpb 6; have p7 := blk_cell hpb 7; simp only [List.getElem?_toArray, List.getElem?_cons_succ, List.getElem?_cons_zero] at p0 p1 p2 p3 p4 p5 p6 p7; have hpw := blk_lt hpb
        have l0 := blk_cell hlb 0; have l1 := blk_cell hlb 1; have l2 := blk_cell hlb 2; have l3 := blk_cell hlb 3; have l4 := blk_cell hlb 4; have l5 := blk_cell hlb 5; have l6 := blk_cell hlb 6; simp only [List.getElem?_toArray, List.getElem?_cons_succ, List.getElem?_cons_zero] at l0 l1 l2 l3 l4 l5 l6; have hlw := blk_lt hlb
        have hser := HSO.out.ser
        have hlin := lastS_in HSO.out.win (H - cellS p.Time st[i].Place st[i + 1].Place - (stopE p v st[i].Visit).1.Service)
        have e6 : IntKind.i64.wrap (H - cellS p.Time st[i].Place st[i + 1].Place - (stopE p v st[i].Visit).1.Service) = H - cellS p.Time st[i].Place st[i + 1].Place - (stopE p v st[i].Visit).1.Service := IntWalk.i64_in _ (by omega)
        have e7 : IntKind.i64.wrap ((i : Int) - 1) = ((i - 1 : Nat) : Int) := by rw [show (i : Int) - 1 = ((i - 1 : Nat) : Int) by omega]; exact IntWalk.i64_in _ (by omega)
        have hwn : (stopE p v st[i].Visit).1.Windows.length ≤ 4 := by
          rcases HSO.out.win with h | h
          · exact h.len
          · rw [h]; decide
        generalize (stopE p v st[i].Visit).1 = sE at *
        clear hpb hlb
        go_wp2_with (first
          | (go_at_call 108; refine (HSI.out _ HBwc.out).mono ?_; rintro e w5 ⟨A5, k5, rfl, hle5, hC5, hb5⟩; obtain ⟨qc5, qf5⟩ := bcell hb5; have hs5 := hb5.size)
          | (go_at_call 110; refine (last_any sE.Windows A5 k5 _ _ (Kd.C_below hC5 (by repeat (first | with_reducible exact Below.refl _ _ | with_reducible apply below_alloc | with_reducible apply below_drew | with_reducible apply pw_below_drewN | (with_reducible refine Below.setCell ?_ (by first | (simp; done) | (simp; omega) | (dsimp only; omega)) _) | (with_reducible refine below_to ?_ (by assumption))))) (by omega)).mono ?_; rintro e w6 ⟨rfl, hb6⟩; have hB6 : Below wc.heap.size wc w6 := (by repeat (first | with_reducible exact Below.refl _ _ | with_reducible apply below_alloc | with_reducible apply below_drew | with_reducible apply pw_below_drewN | (with_reducible refine Below.setCell ?_ (by first | (simp; done) | (simp; omega) | (dsimp only; omega)) _) | (with_reducible refine below_to ?_ (by assumption)))); have HB6 := Aside0.mk hB6; obtain ⟨xN6, fN6⟩ := Kd.R_celln 0 (Kd.R_below HNc.out hB6) ((i : Nat) : Int) (by omega) (by omega); simp only [Int.toNat_natCast] at xN6 fN6; clear hB6 hb6))
        have hset : (List.replicate (i + 1) (0 : Int) ++ lateS p v (st.drop (i + 1))).set i (lastS (H - cellS p.Time st[i].Place st[i + 1].Place - sE.Service) sE.Windows).1 = List.replicate (i - 1 + 1) 0 ++ lateS p v (st.drop (i - 1 + 1)) := by
          rw [show i - 1 + 1 = i by omega, HLA.out, List.set_append_left _ _ (by simp), List.replicate_succ', List.set_append_right _ _ (by simp)]
          simp
        have HNn := Kd.R_putn (Kd.R_below HNc.out HB6.out) ((i : Nat) : Int) (lastS (H - cellS p.Time st[i].Place st[i + 1].Place - sE.Service) sE.Windows).1
        rw [Int.toNat_natCast, hset] at HNn
        go_roundw
        case rel => exact ⟨i - 1, by omega, by go_num, ⟨HNn⟩, ⟨Below.setCell (below_to HWc.out HB6.out) hgN _⟩⟩
        case measure => simp [intOf]; omega
end Go.Proofs.Ytemjpgmfignhnaa
