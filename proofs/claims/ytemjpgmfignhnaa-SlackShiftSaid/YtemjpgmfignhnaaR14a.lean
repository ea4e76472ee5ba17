/- Contract: where a plan's step is, and when. The program's stop of slack.
Conditions: a lawful problem, a plan of a vehicle that is there. -/
import Derived.Test.YtemjpgmfignhnaaR13hz
import Derived.Test.YtemjpgmfignhnaaR13s
import Derived.Test.YtemjpgmfignhnaaTail
namespace Go.Proofs.Ytemjpgmfignhnaa
open Go.RowKit Go.Proofs.YtemjpgmfignhnaaW.PrintWords Go.Proofs.YtemjpgmfignhnaaW.PrintLast Go.Proofs.YtemjpgmfignhnaaW.PrintMore
set_option linter.unusedVariables false
set_option linter.unusedSimpArgs false
attribute [local go_sem] cell_growBy Option.some_or
/-- A stop is handed back. -/
def StopRet (s : TStop) (w : World) (e : Ending) (w' : World) : Prop :=
  ∃ A c, e = .returned (.agg #[.int .i64 s.Place, .int .i64 s.Service, .slice A s.Windows.length c]) ∧ s.Windows.length ≤ c ∧ Kd.C kWindow w' A s.Windows.length s.Windows ∧ Below w.heap.size w w'
theorem ret_stopG {fn : Func} (hf : fn.results = #[.cell 6 43]) (s : TStop) (w WF : World) (a : Act) (g : Nat) (A : Option Addr) (c : Nat)
    (hz : WF.heap[g]? = some (.cells #[.int .i64 s.Place, .int .i64 s.Service, .slice A s.Windows.length c] 43 (0, 0)))
    (h6 : a.tmps[6]? = some (.pointer (some ⟨g, 0, none⟩))) (hd : a.defers = []) (hl : s.Windows.length ≤ c) (hC : Kd.C kWindow WF A s.Windows.length s.Windows) (hb : Below w.heap.size w WF) :
    bodyPost Try.prog fn (StopRet s w) .ret a WF := by
  have f0 := blk_cell hz 0
  have f1 := blk_cell hz 1
  have f2 := blk_cell hz 2
  simp only [List.getElem?_toArray, List.getElem?_cons_succ, List.getElem?_cons_zero] at f0 f1 f2
  refine bodyPost_ret (v := .agg #[.int .i64 s.Place, .int .i64 s.Service, .slice A s.Windows.length c]) ?_ hd ⟨A, c, rfl, hl, hC, hb⟩
  simp only [results, hf]
  simp [h6, go_sem, f0, f1, f2]
/-- Windows lead nowhere: a row of them hangs on its own block alone. -/
theorem rowWin_far {W : World} {ok : Nat → Prop} {g e : Nat} {xs : List TWindow} (h : RowAt kWindow e W ok g xs) {p : Addr} (hg : g ≠ p.block) (u : Value) : RowAt kWindow e (W.setCell p u) ok g xs := by
  obtain ⟨cur, inner, hc, ht, hr⟩ := h
  refine ⟨cur, inner, (Below.heap_setCell W p u g hg).trans hc, ht, hr.imp_ (fun x cs hk => ?_)⟩
  have hK := kWindow_open (Kd.FK_now hk)
  subst hK
  exact fun W' _ => kWindow_mk W' x
set_option maxHeartbeats 16000000 in
set_option maxRecDepth 100000 in
theorem slackStop_any (q : PV) (p : TProblem) (st : List TStep) (xv xt xd xw xs xc : Int) (A : Option Addr) (c : Nat) (i : Nat) (w : World) (hlp : Good p) (law : Law p) (hq : q.Ok p w) (hr : Kd.C kStep w A st.length st) (hv0 : 0 ≤ xv) (hv1 : xv < (p.Vehicles.length : Int)) (hi : i < st.length)
    (hl : st.length ≤ 200) (hbr : st[i].Visit.Kind = 4 → 0 ≤ st[i].Visit.Item ∧ st[i].Visit.Item < (rdVehicle p.Vehicles xv).Breaks.length) :
    Calls Try.prog 108 #[q.val p, .agg #[.int .i64 xv, .slice A st.length c, .int .i64 xt, .int .i64 xd, .int .i64 xw, .int .i64 xs, .int .i64 xc], .int .i64 i] w (StopRet (stopE p (rdVehicle p.Vehicles xv) st[i].Visit).1 w) := by
  have HQ := Aside0.mk hq
  have hwl := law.stopLen' st[i].Visit
  have HMS := Aside0.mk (fun W (hb : Below w.heap.size w W) => modStop_any q p st[i].Visit W hlp.toLens (hq.below hb) (fun _ => ⟨by omega, by unfold maxLen; omega⟩))
  obtain ⟨av, AC, cC, AB, cB, eav, v0, v1, v2, v3, v4, v5, v6, v7, v8, v9, v10, lC, gC, lB, gB⟩ := atVehicle hq.h3 xv hv0 hv1
  obtain ⟨ad, A6, c6, ea, x0, x1, -⟩ := atNStep hr i hi
  subst ea
  generalize rdVehicle p.Vehicles xv = v at *
  generalize hx : st[i].Visit = x at *
  have HVB := Aside0.mk gB
  have hwx := hwl
  obtain ⟨a1, c1, a2, c2, a3, c3, a4, c4, a5, c5⟩ := q
  have eav' : a3 = some av := eav
  subst eav'
  have r0 : (0 : Int) ≤ (i : Int) := by omega
  have r1 : (i : Int) < (st.length : Int) := by omega
  have x0' := alloc_cell (alloc_cell (alloc_cell x0 (.cells #[.int .i64 p.Dims, .int .i64 p.Time.N, .slice a1 p.Time.Cells.length c1, .int .i64 p.Dist.N, .slice a2 p.Dist.Cells.length c2, .slice (some av) p.Vehicles.length c3, .slice a4 p.Jobs.length c4, .slice a5 p.Shipments.length c5] 29)) (.cells #[.int .i64 xv, .slice (some ad) st.length c, .int .i64 xt, .int .i64 xd, .int .i64 xw, .int .i64 xs, .int .i64 xc] 74)) (.cells #[.int .i64 0, .int .i64 0, .slice none 0 0] 43)
  have x1' := alloc_cell (alloc_cell (alloc_cell x1 (.cells #[.int .i64 p.Dims, .int .i64 p.Time.N, .slice a1 p.Time.Cells.length c1, .int .i64 p.Dist.N, .slice a2 p.Dist.Cells.length c2, .slice (some av) p.Vehicles.length c3, .slice a4 p.Jobs.length c4, .slice a5 p.Shipments.length c5] 29)) (.cells #[.int .i64 xv, .slice (some ad) st.length c, .int .i64 xt, .int .i64 xd, .int .i64 xw, .int .i64 xs, .int .i64 xc] 74)) (.cells #[.int .i64 0, .int .i64 0, .slice none 0 0] 43)
  have v10' := alloc_cell (alloc_cell (alloc_cell (alloc_cell v10 (.cells #[.int .i64 p.Dims, .int .i64 p.Time.N, .slice a1 p.Time.Cells.length c1, .int .i64 p.Dist.N, .slice a2 p.Dist.Cells.length c2, .slice (some av) p.Vehicles.length c3, .slice a4 p.Jobs.length c4, .slice a5 p.Shipments.length c5] 29)) (.cells #[.int .i64 xv, .slice (some ad) st.length c, .int .i64 xt, .int .i64 xd, .int .i64 xw, .int .i64 xs, .int .i64 xc] 74)) (.cells #[.int .i64 0, .int .i64 0, .slice none 0 0] 43)) (.cells #[.int .i64 x.Kind, .int .i64 x.Item] 57)
  have V10 := Aside0.mk v10
  clear hq hlp law eav lC gC lB gB v0 v1 v2 v3 v4 v5 v6 v7 v8 v9 v10 x0 x1 hr hwl
  unfold PV.val at HMS ⊢
  by_cases k4 : x.Kind = 4
  · have d4 : (x.Kind == 4) = true := by simp [k4]
    have es : stopE p v x = (⟨0, (rdBreak v.Breaks x.Item).Service, (rdBreak v.Breaks x.Item).Windows⟩, true) := by unfold stopE; rw [if_pos k4]
    obtain ⟨i0, i1⟩ := hbr k4
    obtain ⟨ab, A0, c0, eab, b0', b1', lb, gb⟩ := atBreak HVB.out x.Item i0 i1
    subst eab
    have HEB := Aside0.mk (show _ ∧ _ from ⟨lb, gb⟩)
    have Y := Aside0.mk (show _ ∧ _ from ⟨b0', b1'⟩)
    have d5 : decide (x.Item < 0) = false := decide_eq_false (by omega)
    have d6 : decide ((v.Breaks.length : Int) ≤ x.Item) = false := decide_eq_false (by omega)
    rw [es]
    clear es k4 lb gb b0' b1' hbr HMS
    go_enter Try.func108, Try.ntmps108
    go_upto_region 6 with fail
    refine gen_wp (fun W => Below w.heap.size w W ∧ W.heap[w.heap.size + 1 + 1]? = some (.cells #[.int .i64 0, .int .i64 0, .slice none 0 0] 43) ∧ W.heap[w.heap.size + 1 + 1 + 1]? = some (.cells #[.int .i64 x.Kind, .int .i64 x.Item] 57)) ⟨(by repeat (first | exact Below.refl _ _ | apply below_alloc | apply pw_below_drewN | apply below_drew1 | apply below_drew | (refine Below.setCell ?_ (by (try simp); (try omega)) _) | (refine below_to ?_ HB6.out) | (refine below_to ?_ HB5.out) | (refine below_to ?_ HB4.out) | (refine below_to ?_ HB3.out) | (refine below_to ?_ HB2.out) | (refine below_to ?_ HB1.out))), blk_alloc (blk_is (by simp)) _, blk_is (by simp)⟩ (fun wS HS => ?_)
    clear x0' x1' v10'
    have hsb := HS.out.2.1
    have hxb := HS.out.2.2
    have b0 := blk_cell hsb 0; have b1 := blk_cell hsb 1; have b2 := blk_cell hsb 2; simp only [List.getElem?_toArray, List.getElem?_cons_succ, List.getElem?_cons_zero] at b0 b1 b2; have bz := fun i => blk_frozen hsb i; have hbw := blk_lt hsb
    have q0 := blk_cell hxb 0; have q1 := blk_cell hxb 1; simp only [List.getElem?_toArray, List.getElem?_cons_succ, List.getElem?_cons_zero] at q0 q1; have hqw := blk_lt hxb
    have y0 := pw_cell_below HS.out.1 Y.out.1
    have y1 := pw_cell_below HS.out.1 Y.out.2
    have hba := World.block_lt_of_cell? _ _ y0
    have hbb : (⟨(ab.add (x.Item.toNat * 2)).block, (ab.add (x.Item.toNat * 2)).off + 1, none⟩ : Addr).block < wS.heap.size := hba
    clear hsb hxb
    refine wp_region_tailH (S := fun W' => Below wS.heap.size wS W' ∧ ∀ a : Addr, a.block < wS.heap.size → W'.cell? a = wS.cell? a) 13 (by kernel_rfl) (by kernel_rfl) (by kernel_rfl) (hl_start _) (fun hHeld => ?_)
    simp only [List.take_succ_cons, List.take_zero, List.drop_succ_cons, List.drop_zero]
    refine wpAnyH_take (i := 0) (oi := _) (v := ?_) (by simp only [List.getElem?_toArray, List.getElem?_cons_succ, List.getElem?_cons_zero]; rfl) (by kernel_rfl) (by kernel_rfl) (by kernel_rfl) (tail_hQ (by exact fun _ _ _ h => h)) (Or.inl ⟨by rfl, ?_⟩) (by assumption) ?_
    rotate_left
    focus (intro w hSw; (try dsimp only at hSw); go_simp; (try with_reducible rfl); done)
    (try simp only [Act.put, List.setIfInBounds_toArray, List.set_cons_zero, List.set_cons_succ])
    refine wpAnyH_take (i := 1) (oi := _) (v := ?_) (by simp only [List.getElem?_toArray, List.getElem?_cons_succ, List.getElem?_cons_zero]; rfl) (by kernel_rfl) (by kernel_rfl) (by kernel_rfl) (tail_hQ (by exact fun _ _ _ h => h)) (Or.inl ⟨by rfl, ?_⟩) (by assumption) ?_
    rotate_left
    focus (intro w hSw; (try dsimp only at hSw); go_simp; (try with_reducible rfl); done)
    (try simp only [Act.put, List.setIfInBounds_toArray, List.set_cons_zero, List.set_cons_succ])
    refine wpAnyH_take (i := 2) (oi := _) (v := ?_) (by simp only [List.getElem?_toArray, List.getElem?_cons_succ, List.getElem?_cons_zero]; rfl) (by kernel_rfl) (by kernel_rfl) (by kernel_rfl) (tail_hQ (by exact fun _ _ _ h => h)) (Or.inl ⟨by rfl, ?_⟩) (by assumption) ?_
    rotate_left
    focus (intro w hSw; (try dsimp only at hSw); go_simp; (try with_reducible rfl); done)
    (try simp only [Act.put, List.setIfInBounds_toArray, List.set_cons_zero, List.set_cons_succ])
    refine wpAnyH_take (i := 3) (oi := _) (v := ?_) (by simp only [List.getElem?_toArray, List.getElem?_cons_succ, List.getElem?_cons_zero]; rfl) (by kernel_rfl) (by kernel_rfl) (by kernel_rfl) (tail_hQ (by exact fun _ _ _ h => h)) (Or.inl ⟨by rfl, ?_⟩) (by assumption) ?_
    rotate_left
    focus (intro w hSw; (try dsimp only at hSw); go_simp; (try with_reducible rfl); done)
    (try simp only [Act.put, List.setIfInBounds_toArray, List.set_cons_zero, List.set_cons_succ])
    refine wpAnyH_take (i := 4) (oi := _) (v := ?_) (by simp only [List.getElem?_toArray, List.getElem?_cons_succ, List.getElem?_cons_zero]; rfl) (by kernel_rfl) (by kernel_rfl) (by kernel_rfl) (tail_hQ (by exact fun _ _ _ h => h)) (Or.inl ⟨by rfl, ?_⟩) (by assumption) ?_
    rotate_left
    focus (intro w hSw; (try dsimp only at hSw); go_simp; (try with_reducible rfl); done)
    (try simp only [Act.put, List.setIfInBounds_toArray, List.set_cons_zero, List.set_cons_succ])
    refine wpAnyH_take (i := 5) (oi := _) (v := ?_) (by simp only [List.getElem?_toArray, List.getElem?_cons_succ, List.getElem?_cons_zero]; rfl) (by kernel_rfl) (by kernel_rfl) (by kernel_rfl) (tail_hQ (by exact fun _ _ _ h => h)) (Or.inl ⟨by rfl, ?_⟩) (by assumption) ?_
    rotate_left
    focus (intro w hSw; (try dsimp only at hSw); go_simp; (try with_reducible rfl); done)
    (try simp only [Act.put, List.setIfInBounds_toArray, List.set_cons_zero, List.set_cons_succ])
    refine wpAnyH_take (i := 6) (oi := _) (v := ?_) (by simp only [List.getElem?_toArray, List.getElem?_cons_succ, List.getElem?_cons_zero]; rfl) (by kernel_rfl) (by kernel_rfl) (by kernel_rfl) (tail_hQ (by exact fun _ _ _ h => h)) (Or.inl ⟨by rfl, ?_⟩) (by assumption) ?_
    rotate_left
    focus (intro w hSw; (try dsimp only at hSw); go_simp; (try with_reducible rfl); done)
    (try simp only [Act.put, List.setIfInBounds_toArray, List.set_cons_zero, List.set_cons_succ])
    refine wpAnyH_take (i := 7) (oi := _) (v := ?_) (by simp only [List.getElem?_toArray, List.getElem?_cons_succ, List.getElem?_cons_zero]; rfl) (by kernel_rfl) (by kernel_rfl) (by kernel_rfl) (tail_hQ (by exact fun _ _ _ h => h)) (Or.inl ⟨by rfl, ?_⟩) (by assumption) ?_
    rotate_left
    focus (intro w hSw; (try dsimp only at hSw); go_simp; (try with_reducible rfl); done)
    (try simp only [Act.put, List.setIfInBounds_toArray, List.set_cons_zero, List.set_cons_succ])
    refine wpAnyH_take (i := 8) (oi := _) (v := ?_) (by simp only [List.getElem?_toArray, List.getElem?_cons_succ, List.getElem?_cons_zero]; rfl) (by kernel_rfl) (by kernel_rfl) (by kernel_rfl) (tail_hQ (by exact fun _ _ _ h => h)) (Or.inl ⟨by rfl, ?_⟩) (by assumption) ?_
    rotate_left
    focus (intro w hSw; (try dsimp only at hSw); go_simp; (try with_reducible rfl); done)
    (try simp only [Act.put, List.setIfInBounds_toArray, List.set_cons_zero, List.set_cons_succ])
    refine wpAnyH_take (i := 9) (oi := _) (v := ?_) (by simp only [List.getElem?_toArray, List.getElem?_cons_succ, List.getElem?_cons_zero]; rfl) (by kernel_rfl) (by kernel_rfl) (by kernel_rfl) (tail_hQ (by exact fun _ _ _ h => h)) (Or.inl ⟨by rfl, ?_⟩) (by assumption) ?_
    rotate_left
    focus (intro w hSw; (try dsimp only at hSw); go_simp; (try with_reducible rfl); done)
    (try simp only [Act.put, List.setIfInBounds_toArray, List.set_cons_zero, List.set_cons_succ])
    refine wpAnyH_take (i := 10) (oi := _) (v := ?_) (by simp only [List.getElem?_toArray, List.getElem?_cons_succ, List.getElem?_cons_zero]; rfl) (by kernel_rfl) (by kernel_rfl) (by kernel_rfl) (tail_hQ (by exact fun _ _ _ h => h)) (Or.inl ⟨by rfl, ?_⟩) (by assumption) ?_
    rotate_left
    focus (intro w hSw; (try dsimp only at hSw); go_simp; (try with_reducible rfl); done)
    (try simp only [Act.put, List.setIfInBounds_toArray, List.set_cons_zero, List.set_cons_succ])
    refine wpAnyH_take (i := 11) (oi := _) (v := ?_) (by simp only [List.getElem?_toArray, List.getElem?_cons_succ, List.getElem?_cons_zero]; rfl) (by kernel_rfl) (by kernel_rfl) (by kernel_rfl) (tail_hQ (by exact fun _ _ _ h => h)) (Or.inl ⟨by rfl, ?_⟩) (by assumption) ?_
    rotate_left
    focus (intro w hSw; (try dsimp only at hSw); go_simp; (try with_reducible rfl); done)
    (try simp only [Act.put, List.setIfInBounds_toArray, List.set_cons_zero, List.set_cons_succ])
    refine wpAnyH_take (i := 12) (oi := _) (v := ?_) (by simp only [List.getElem?_toArray, List.getElem?_cons_succ, List.getElem?_cons_zero]; rfl) (by kernel_rfl) (by kernel_rfl) (by kernel_rfl) (tail_hQ (by exact fun _ _ _ h => h)) (Or.inl ⟨by rfl, ?_⟩) (by assumption) ?_
    rotate_left
    focus (intro w hSw; (try dsimp only at hSw); go_simp; (try with_reducible rfl); done)
    (try simp only [Act.put, List.setIfInBounds_toArray, List.set_cons_zero, List.set_cons_succ])
    refine wpAnyH_tail (by kernel_rfl) ?_ _
    go_wp2
    exact ret_stopG (by rfl) ⟨0, (rdBreak v.Breaks x.Item).Service, (rdBreak v.Breaks x.Item).Windows⟩ w _ _ (w.heap.size + 1 + 1) A0 c0 (blk_set3 HS.out.2.1 _ _ _) rfl rfl HEB.out.1 (Kd.C_below HEB.out.2 (below_drew (Below.setCell (Below.setCell (Below.setCell HS.out.1 (by simp; omega) _) (by simp; omega) _) (by simp; omega) _))) (below_drew (Below.setCell (Below.setCell (Below.setCell HS.out.1 (by simp; omega) _) (by simp; omega) _) (by simp; omega) _))
  · have d4 : (x.Kind == 4) = false := by simp [k4]
    have es : stopE p v x = stopS p x := by unfold stopE; rw [if_neg k4]
    rw [es]
    clear es k4 hbr v10'
    go_enter Try.func108, Try.ntmps108
    go_wp2_with (go_at_call 36; refine (HMS.out _ (by repeat (first | exact Below.refl _ _ | apply below_alloc | apply pw_below_drewN | apply below_drew1 | apply below_drew | (refine Below.setCell ?_ (by (try simp); (try omega)) _) | (refine below_to ?_ HB6.out) | (refine below_to ?_ HB5.out) | (refine below_to ?_ HB4.out) | (refine below_to ?_ HB3.out) | (refine below_to ?_ HB2.out) | (refine below_to ?_ HB1.out)))).mono ?_; rintro e w3 ⟨A3, k3, rfl, hle, hb, hrow⟩; have HB3 := Aside0.mk hb; have HRW := Aside0.mk hrow; have hs3 := blk_below (show (World.heap _)[w.heap.size + 1 + 1]? = some (.cells #[.int .i64 0, .int .i64 0, .slice none 0 0] 43) from blk_alloc (blk_is (by simp)) _) hb; have b0 := blk_cell hs3 0; have b1 := blk_cell hs3 1; have b2 := blk_cell hs3 2; simp only [List.getElem?_toArray, List.getElem?_cons_succ, List.getElem?_cons_zero] at b0 b1 b2; have bz := fun i => blk_frozen hs3 i; have hbw := blk_lt hs3; clear hb hrow)
    have hw3 := HB3.out.size
    (try simp at hw3)
    have hCC : ∀ W, Below w3.heap.size w3 W → ∀ u0 u1 u2, Kd.C kWindow (((W.setCell ⟨w.heap.size + 1 + 1, 0, none⟩ u0).setCell ⟨w.heap.size + 1 + 1, 1, none⟩ u1).setCell ⟨w.heap.size + 1 + 1, 2, none⟩ u2) A3 (stopS p x).1.Windows.length (stopS p x).1.Windows := by
      intro W hW u0 u1 u2
      rcases HRW.out with ⟨h1, h2⟩ | ⟨g, h1, h2, h3⟩
      · rw [h1, h2]; exact Kd.C_nil _ _
      · rw [h1]
        have hg : g ≠ w.heap.size + 1 + 1 := by simp at h2; omega
        exact RowAt.reads (rowWin_far (rowWin_far (rowWin_far (h3.below hW) hg u0) hg u1) hg u2) (by omega)
    have hbel : ∀ u0 u1 u2, Below w.heap.size w (((w3.setCell ⟨w.heap.size + 1 + 1, 0, none⟩ u0).setCell ⟨w.heap.size + 1 + 1, 1, none⟩ u1).setCell ⟨w.heap.size + 1 + 1, 2, none⟩ u2) := fun u0 u1 u2 =>
      Below.setCell (Below.setCell (Below.setCell (below_to (by repeat (first | exact Below.refl _ _ | apply below_alloc | apply pw_below_drewN | apply below_drew1 | apply below_drew | (refine Below.setCell ?_ (by (try simp); (try omega)) _) | (refine below_to ?_ HB6.out) | (refine below_to ?_ HB5.out) | (refine below_to ?_ HB4.out) | (refine below_to ?_ HB3.out) | (refine below_to ?_ HB2.out) | (refine below_to ?_ HB1.out))) HB3.out) (by simp; omega) _) (by simp; omega) _) (by simp; omega) _
    exact ret_stopG (by rfl) (stopS p x).1 w _ _ (w.heap.size + 1 + 1) A3 k3 (blk_alloc (blk_set3 hs3 _ _ _) _) rfl rfl hle (Kd.C_below (hCC w3 (Below.refl _ _) _ _ _) (below_alloc (Below.refl _ _) _)) (below_alloc (hbel _ _ _) _)
end Go.Proofs.Ytemjpgmfignhnaa
