/- Where a visit is, and where its windows lie: in memory as it was at an earlier world.
Conditions: lists no longer than memory allows. -/
import Derived.Test.YtemjpgmfignhnaaM0
import Derived.Test.YtemjpgmfignhnaaM1
import Derived.Test.YtemjpgmfignhnaaM7
import Derived.Test.YtemjpgmfignhnaaM5
namespace Go.Proofs.Ytemjpgmfignhnaa
open Go.RowKit Go.Proofs.YtemjpgmfignhnaaW.PrintWords Go.Proofs.YtemjpgmfignhnaaW.PrintLast Go.Proofs.YtemjpgmfignhnaaW.PrintMore
set_option linter.unusedVariables false
set_option linter.unusedSimpArgs false
attribute [local go_sem] cell_growBy Option.some_or
theorem blk_set3 {W : World} {g t : Nat} {c0 c1 c2 : Value} (h : W.heap[g]? = some (.cells #[c0, c1, c2] t (0, 0))) (u0 u1 u2 : Value) :
  (((W.setCell ⟨g, 0, none⟩ u0).setCell ⟨g, 1, none⟩ u1).setCell ⟨g, 2, none⟩ u2).heap[g]? = some (.cells #[u0, u1, u2] t (0, 0)) := by
 have h := blk_set (blk_set (blk_set h 0 u0) 1 u1) 2 u2
 simpa using h
theorem gen_wp {P : Program} {c : Code} {Q : Exit → Act → World → Prop} {a : Act} {W : World} (R : World → Prop) (hR : R W) (h : ∀ WF, Aside0 (R WF) → c.wp P Q a WF) : c.wp P Q a W := h W ⟨hR⟩
def StopAt (s : TStop × Bool) (w0 w : World) (e : Ending) (w' : World) : Prop :=
 ∃ A c, e = .returned (.tuple #[.agg #[.int .i64 s.1.Place, .int .i64 s.1.Service, .slice A s.1.Windows.length c], .bool s.2]) ∧ s.1.Windows.length ≤ c ∧ Kd.C kWindow w0 A s.1.Windows.length s.1.Windows ∧ Below w.heap.size w w'
set_option maxHeartbeats 4000000 in
set_option maxRecDepth 100000 in
theorem refStop_at (q : PV) (p : TProblem) (v : TVisit) (w0 w : World) (hl : Lens p) (hq0 : q.Ok p w0) (hb0 : Below w0.heap.size w0 w) :
  Calls Try.prog 37 #[q.val p, .agg #[.int .i64 v.Kind, .int .i64 v.Item]] w (StopAt (stopS p v) w0 w) := by
 have hq := hq0.below hb0
 have HQ0 := Aside0.mk hq0
 have HB00 := Aside0.mk hb0
 have HL := Aside0.mk hl
 have HQ := Aside0.mk hq
 clear hl hq hq0 hb0
 cases hb : (taskOf v).2 && thereB p (taskOf v).1 with
 | false =>
  have es : stopS p v = (zStop, false) := by simp [stopS, hb]
  rw [es]
  obtain ⟨k, item⟩ := v
  unfold PV.val
  cases ht : (taskOf ⟨k, item⟩).2 with
  | false =>
   have E := Aside0.mk ht
   clear ht hb es
   go_enter Try.func37, Try.ntmps37
   go_wp2_with (go_at_call 43; refine (refOf_any ⟨k, item⟩ _).mono ?_; rw [E.out]; rintro e w1 ⟨rfl, hb⟩; have HB1 := Aside0.mk hb; obtain ⟨qc1, qf1⟩ := bcell hb; have hs1 := hb.size; (try simp at hs1); (try have z01 : w.heap.size < w1.heap.size := (by omega)); (try have z11 : w.heap.size + 1 < w1.heap.size := (by omega)); (try have z21 : w.heap.size + 1 + 1 < w1.heap.size := (by omega)); (try have z31 : w.heap.size + 1 + 1 + 1 < w1.heap.size := (by omega)); (try have z41 : w.heap.size + 1 + 1 + 1 + 1 < w1.heap.size := (by omega)); clear hs1 hb; skip)
   exact bodyPost_ret (v := .tuple #[.agg #[.int .i64 0, .int .i64 0, .slice none 0 0], .bool false]) (by simp [results, Try.results37, go_sem, *]) rfl ⟨none, 0, rfl, Nat.le_refl _, Kd.C_nil _ _, clb⟩
  | true =>
   have E := Aside0.mk ht
   have E2 : Aside0 (thereB p (taskOf ⟨k, item⟩).1 = false) := ⟨by simpa [ht] using hb⟩
   clear ht hb es
   go_enter Try.func37, Try.ntmps37
   go_wp2_with (first
    | (go_at_call 43; refine (refOf_any ⟨k, item⟩ _).mono ?_; rw [E.out]; rintro e w1 ⟨rfl, hb⟩; have HB1 := Aside0.mk hb; obtain ⟨qc1, qf1⟩ := bcell hb; have hs1 := hb.size; (try simp at hs1); (try have z01 : w.heap.size < w1.heap.size := (by omega)); (try have z11 : w.heap.size + 1 < w1.heap.size := (by omega)); (try have z21 : w.heap.size + 1 + 1 < w1.heap.size := (by omega)); (try have z31 : w.heap.size + 1 + 1 + 1 < w1.heap.size := (by omega)); (try have z41 : w.heap.size + 1 + 1 + 1 + 1 < w1.heap.size := (by omega)); clear hs1 hb; skip)
    | (go_at_call 44; refine (refThere_any q p (taskOf ⟨k, item⟩).1 _ HL.out).mono ?_; rw [E2.out]; rintro e w2 ⟨rfl, hb⟩; have HB2 := Aside0.mk hb; obtain ⟨qc2, qf2⟩ := bcell hb; have hs2 := hb.size; (try simp at hs2); (try have z02 : w.heap.size < w2.heap.size := (by omega)); (try have z12 : w.heap.size + 1 < w2.heap.size := (by omega)); (try have z22 : w.heap.size + 1 + 1 < w2.heap.size := (by omega)); (try have z32 : w.heap.size + 1 + 1 + 1 < w2.heap.size := (by omega)); (try have z42 : w.heap.size + 1 + 1 + 1 + 1 < w2.heap.size := (by omega)); clear hs2 hb; skip))
   exact bodyPost_ret (v := .tuple #[.agg #[.int .i64 0, .int .i64 0, .slice none 0 0], .bool false]) (by simp [results, Try.results37, go_sem, *]) rfl ⟨none, 0, rfl, Nat.le_refl _, Kd.C_nil _ _, clb⟩
 | true =>
  obtain ⟨k, item⟩ := v
  simp only [Bool.and_eq_true] at hb
  obtain ⟨ht, hth⟩ := hb
  obtain ⟨a1, c1, a2, c2, a3, c3, a4, c4, a5, c5⟩ := q
  by_cases h1 : k = 1
  ·subst h1
   have e1 : taskOf ⟨1, item⟩ = (⟨false, item⟩, true) := by simp [taskOf]
   have es : stopS p ⟨1, item⟩ = ((rdJob p.Jobs item).Stop, true) := by simp [stopS, ht, hth]
   rw [es]
   have hr : 0 ≤ item ∧ item < p.Jobs.length := by
    rw [e1] at hth
    have := upB_true (show upB item ((p.Jobs.length : Int) - 1) = true from hth)
    omega
   obtain ⟨ad, A2, c2_, A3, c3_, A4, c4_, ea, y0, y1, y2, -, -, -, -, l2, g2, -, -, -, -⟩ := atJob HQ0.out.h4 item hr.1 hr.2
   have ea' : a4 = some ad := ea
   subst ea'
   have y0 := pw_cell_below HB00.out y0
   have y1 := pw_cell_below HB00.out y1
   have y2 := pw_cell_below HB00.out y2
   have X0 := stays y0
   have X1 := stays y1
   have X2 := stays y2
   have T : Aside0 (thereB p ⟨false, item⟩ = true) := ⟨by rw [e1] at hth; exact hth⟩
   have r1 := hr.1
   have r2 := hr.2
   have E := Aside0.mk e1
   have HE := Aside0.mk (show _ ∧ _ from ⟨l2, g2⟩)
   clear y0 y1 y2 l2 g2 hr hth ht es e1 ea
   unfold PV.val
   go_enter Try.func37, Try.ntmps37
   go_wp2_with (first
    | (go_at_call 43; refine (refOf_any ⟨1, item⟩ _).mono ?_; rw [E.out]; rintro e w1 ⟨rfl, hb⟩; have HB1 := Aside0.mk hb; obtain ⟨qc1, qf1⟩ := bcell hb; have hs1 := hb.size; (try simp at hs1); (try have z01 : w.heap.size < w1.heap.size := (by omega)); (try have z11 : w.heap.size + 1 < w1.heap.size := (by omega)); (try have z21 : w.heap.size + 1 + 1 < w1.heap.size := (by omega)); (try have z31 : w.heap.size + 1 + 1 + 1 < w1.heap.size := (by omega)); (try have z41 : w.heap.size + 1 + 1 + 1 + 1 < w1.heap.size := (by omega)); clear hs1 hb; skip)
    | (go_at_call 44; refine (refThere_any ⟨a1, c1, a2, c2, a3, c3, some ad, c4, a5, c5⟩ p ⟨false, item⟩ _ HL.out).mono ?_; rw [T.out]; rintro e w2 ⟨rfl, hb⟩; have HB2 := Aside0.mk hb; obtain ⟨qc2, qf2⟩ := bcell hb; have hs2 := hb.size; (try simp at hs2); (try have z02 : w.heap.size < w2.heap.size := (by omega)); (try have z12 : w.heap.size + 1 < w2.heap.size := (by omega)); (try have z22 : w.heap.size + 1 + 1 < w2.heap.size := (by omega)); (try have z32 : w.heap.size + 1 + 1 + 1 < w2.heap.size := (by omega)); (try have z42 : w.heap.size + 1 + 1 + 1 + 1 < w2.heap.size := (by omega)); clear hs2 hb; have g0 := X0.out w2 clb; have g1 := X1.out w2 clb; have g2 := X2.out w2 clb))
   exact bodyPost_ret (v := .tuple #[.agg #[.int .i64 ((rdJob p.Jobs item).Stop).Place, .int .i64 ((rdJob p.Jobs item).Stop).Service, .slice A2 ((rdJob p.Jobs item).Stop).Windows.length c2_], .bool true]) (by simp [results, Try.results37, go_sem, *]) rfl ⟨_, _, rfl, HE.out.1, HE.out.2, clb⟩
  by_cases h2 : k = 2
  ·subst h2
   have e1 : taskOf ⟨2, item⟩ = (⟨true, item⟩, true) := by simp [taskOf]
   have es : stopS p ⟨2, item⟩ = ((rdShipment p.Shipments item).Pickup, true) := by simp [stopS, ht, hth]
   rw [es]
   have hr : 0 ≤ item ∧ item < p.Shipments.length := by
    rw [e1] at hth
    have := upB_true (show upB item ((p.Shipments.length : Int) - 1) = true from hth)
    omega
   obtain ⟨ad, A2, c2_, A3, c3_, A4, c4_, ea, y0, y1, y2, -, -, -, -, -, -, l2, g2, -, -, -, -⟩ := atShipment HQ0.out.h5 item hr.1 hr.2
   have ea' : a5 = some ad := ea
   subst ea'
   have y0 := pw_cell_below HB00.out y0
   have y1 := pw_cell_below HB00.out y1
   have y2 := pw_cell_below HB00.out y2
   have X0 := stays y0
   have X1 := stays y1
   have X2 := stays y2
   have T : Aside0 (thereB p ⟨true, item⟩ = true) := ⟨by rw [e1] at hth; exact hth⟩
   have r1 := hr.1
   have r2 := hr.2
   have E := Aside0.mk e1
   have HE := Aside0.mk (show _ ∧ _ from ⟨l2, g2⟩)
   clear y0 y1 y2 l2 g2 hr hth ht es e1 ea
   unfold PV.val
   go_enter Try.func37, Try.ntmps37
   go_wp2_with (first
    | (go_at_call 43; refine (refOf_any ⟨2, item⟩ _).mono ?_; rw [E.out]; rintro e w1 ⟨rfl, hb⟩; have HB1 := Aside0.mk hb; obtain ⟨qc1, qf1⟩ := bcell hb; have hs1 := hb.size; (try simp at hs1); (try have z01 : w.heap.size < w1.heap.size := (by omega)); (try have z11 : w.heap.size + 1 < w1.heap.size := (by omega)); (try have z21 : w.heap.size + 1 + 1 < w1.heap.size := (by omega)); (try have z31 : w.heap.size + 1 + 1 + 1 < w1.heap.size := (by omega)); (try have z41 : w.heap.size + 1 + 1 + 1 + 1 < w1.heap.size := (by omega)); clear hs1 hb; skip)
    | (go_at_call 44; refine (refThere_any ⟨a1, c1, a2, c2, a3, c3, a4, c4, some ad, c5⟩ p ⟨true, item⟩ _ HL.out).mono ?_; rw [T.out]; rintro e w2 ⟨rfl, hb⟩; have HB2 := Aside0.mk hb; obtain ⟨qc2, qf2⟩ := bcell hb; have hs2 := hb.size; (try simp at hs2); (try have z02 : w.heap.size < w2.heap.size := (by omega)); (try have z12 : w.heap.size + 1 < w2.heap.size := (by omega)); (try have z22 : w.heap.size + 1 + 1 < w2.heap.size := (by omega)); (try have z32 : w.heap.size + 1 + 1 + 1 < w2.heap.size := (by omega)); (try have z42 : w.heap.size + 1 + 1 + 1 + 1 < w2.heap.size := (by omega)); clear hs2 hb; have g0 := X0.out w2 clb; have g1 := X1.out w2 clb; have g2 := X2.out w2 clb))
   exact bodyPost_ret (v := .tuple #[.agg #[.int .i64 ((rdShipment p.Shipments item).Pickup).Place, .int .i64 ((rdShipment p.Shipments item).Pickup).Service, .slice A2 ((rdShipment p.Shipments item).Pickup).Windows.length c2_], .bool true]) (by simp [results, Try.results37, go_sem, *]) rfl ⟨_, _, rfl, HE.out.1, HE.out.2, clb⟩
  by_cases h3 : k = 3
  ·subst h3
   have e1 : taskOf ⟨3, item⟩ = (⟨true, item⟩, true) := by simp [taskOf]
   have es : stopS p ⟨3, item⟩ = ((rdShipment p.Shipments item).Delivery, true) := by simp [stopS, ht, hth]
   rw [es]
   have hr : 0 ≤ item ∧ item < p.Shipments.length := by
    rw [e1] at hth
    have := upB_true (show upB item ((p.Shipments.length : Int) - 1) = true from hth)
    omega
   obtain ⟨ad, A0, c0_, A2, c2_, A4, c4_, ea, -, -, -, y0, y1, y2, -, -, -, -, -, l2, g2, -, -⟩ := atShipment HQ0.out.h5 item hr.1 hr.2
   have ea' : a5 = some ad := ea
   subst ea'
   have y0 := pw_cell_below HB00.out y0
   have y1 := pw_cell_below HB00.out y1
   have y2 := pw_cell_below HB00.out y2
   have X0 := stays y0
   have X1 := stays y1
   have X2 := stays y2
   have T : Aside0 (thereB p ⟨true, item⟩ = true) := ⟨by rw [e1] at hth; exact hth⟩
   have r1 := hr.1
   have r2 := hr.2
   have E := Aside0.mk e1
   have HE := Aside0.mk (show _ ∧ _ from ⟨l2, g2⟩)
   clear y0 y1 y2 l2 g2 hr hth ht es e1 ea
   unfold PV.val
   go_enter Try.func37, Try.ntmps37
   go_wp2_with (first
    | (go_at_call 43; refine (refOf_any ⟨3, item⟩ _).mono ?_; rw [E.out]; rintro e w1 ⟨rfl, hb⟩; have HB1 := Aside0.mk hb; obtain ⟨qc1, qf1⟩ := bcell hb; have hs1 := hb.size; (try simp at hs1); (try have z01 : w.heap.size < w1.heap.size := (by omega)); (try have z11 : w.heap.size + 1 < w1.heap.size := (by omega)); (try have z21 : w.heap.size + 1 + 1 < w1.heap.size := (by omega)); (try have z31 : w.heap.size + 1 + 1 + 1 < w1.heap.size := (by omega)); (try have z41 : w.heap.size + 1 + 1 + 1 + 1 < w1.heap.size := (by omega)); clear hs1 hb; skip)
    | (go_at_call 44; refine (refThere_any ⟨a1, c1, a2, c2, a3, c3, a4, c4, some ad, c5⟩ p ⟨true, item⟩ _ HL.out).mono ?_; rw [T.out]; rintro e w2 ⟨rfl, hb⟩; have HB2 := Aside0.mk hb; obtain ⟨qc2, qf2⟩ := bcell hb; have hs2 := hb.size; (try simp at hs2); (try have z02 : w.heap.size < w2.heap.size := (by omega)); (try have z12 : w.heap.size + 1 < w2.heap.size := (by omega)); (try have z22 : w.heap.size + 1 + 1 < w2.heap.size := (by omega)); (try have z32 : w.heap.size + 1 + 1 + 1 < w2.heap.size := (by omega)); (try have z42 : w.heap.size + 1 + 1 + 1 + 1 < w2.heap.size := (by omega)); clear hs2 hb; have g0 := X0.out w2 clb; have g1 := X1.out w2 clb; have g2 := X2.out w2 clb))
   exact bodyPost_ret (v := .tuple #[.agg #[.int .i64 ((rdShipment p.Shipments item).Delivery).Place, .int .i64 ((rdShipment p.Shipments item).Delivery).Service, .slice A2 ((rdShipment p.Shipments item).Delivery).Windows.length c2_], .bool true]) (by simp [results, Try.results37, go_sem, *]) rfl ⟨_, _, rfl, HE.out.1, HE.out.2, clb⟩
  rw [taskOf_none h1 h2 h3] at ht
  cases ht
end Go.Proofs.Ytemjpgmfignhnaa
/- A region that draws its order, whose last operations wait for all that stand ahead of them: its head is walked by a condition S on the worlds, its tail one after the other behind it (S is not asked for there).
Conditions: the head's operations have slots of their own and no guards. -/
namespace Go.Proofs.Ytemjpgmfignhnaa
open Go.RowKit Go.Proofs.YtemjpgmfignhnaaW.PrintWords Go.Proofs.YtemjpgmfignhnaaW.PrintLast Go.Proofs.YtemjpgmfignhnaaW.PrintMore
set_option linter.unusedVariables false
set_option linter.unusedSimpArgs false
section
variable {P : Program} {md : Region.Mode} {Q : Exit → Act → World → Prop}
/-- What is asked behind the head: the tail. -/
def TailQ (P : Program) (full : Array Oper) (tail : List Oper) (Q : Exit → Act → World → Prop) : Exit → Act → World → Prop
 | .normal, a, w => wpList P full Q tail a w
 | e, a, w => Q e a w
theorem Oper.wp_tailQ {o : Oper} {full : Array Oper} {tail : List Oper} {a : Act} {w : World} {K K' : Act → World → Prop} (h : ∀ a w, K a w → K' a w) (hh : o.wp P a w K (TailQ P full tail Q)) : o.wp P a w K' Q := by
 unfold Oper.wp at *
 generalize (execOp a.eval o).run P w = r at *
 cases r with
 | ok n w' =>
  cases n <;> simp only [Oper.upon] at hh ⊢ <;>
   first
    | exact h _ _ hh
    | exact Calls.mono hh (fun e w'' he => by cases e <;> first | exact h _ _ he | exact he)
    | exact Rows.mono hh (fun _ _ he => h _ _ he)
 | halt x w' => cases x <;> simp only [Oper.upon] at hh ⊢ <;> exact hh
structure Twin (full : Array Oper) (n : Nat) (lf lh : Array Bool) : Prop where
 sf : lf.size = full.size
 sh : lh.size = n
 same : ∀ i, i < n → lf[i]? = lh[i]?
theorem Twin.set {full : Array Oper} {n i : Nat} {lf lh : Array Bool} (h : Twin full n lf lh) : Twin full n (lf.setIfInBounds i true) (lh.setIfInBounds i true) := by
 refine ⟨by simp [h.sf], by simp [h.sh], fun j hj => ?_⟩
 simp only [Array.getElem?_setIfInBounds, h.same j hj]
 by_cases e : i = j
 ·subst e
  have h1 := h.same i hj
  rw [if_pos rfl, if_pos rfl]
  have hl : i < lh.size := by rw [h.sh]; exact hj
  have hf : i < lf.size := by
   rcases Nat.lt_or_ge i lf.size with h' | h'
   ·exact h'
   ·rw [Array.getElem?_eq_none h', Array.getElem?_eq_getElem hl] at h1
    cases h1
  simp [hl, hf]
 ·rw [if_neg e, if_neg e]
theorem Twin.getD {full : Array Oper} {n i : Nat} {lf lh : Array Bool} (h : Twin full n lf lh) (hi : i < n) (d : Bool) : lf.getD i d = lh.getD i d := by
 simp only [Array.getD_eq_getD_getElem?, h.same i hi]
theorem Twin.ready {full head : Array Oper} {n i : Nat} {lf lh : Array Bool} (h : Twin full n lf lh) (hB : headB md full n = true) (hh : ∀ i, i < n → head[i]? = full[i]?) (hi : i < n) (hr : i ∈ Region.ready md full lf) : i ∈ Region.ready md head lh := by
 obtain ⟨h1, o, ho, h2⟩ := mem_ready.1 hr
 obtain ⟨o', d, ho', _⟩ := headB_spec hB i hi
 obtain rfl : o = o' := Option.some.inj (ho.symm.trans ho'.at_)
 exact mem_ready.2 ⟨by rw [← h.getD hi]; exact h1, o, by rw [hh i hi]; exact ho, fun e he hb => by rw [← h.getD (Nat.lt_trans (ho'.back e he) hi)]; exact h2 e he hb⟩
theorem twin_any {full : Array Oper} {tail : List Oper} {head : Array Oper} {n g : Nat} (hB : headB md full n = true) (hn : n ≤ full.size) (hh : ∀ i, i < n → head[i]? = full[i]?)
  (hwait : ∀ listed, HeadInv md full n listed → (∃ i, i < n ∧ listed.getD i true = false) → ∀ t, n ≤ t → t ∉ Region.ready md full listed)
  (hend : ∀ listed a w, HeadInv md full n listed → (∀ i, i < n → listed.getD i false = true) → wpList P full Q tail a w → wpAny P md full Q g listed a w) :
  ∀ (f : Nat) (lh lf : Array Bool) (a : Act) (w : World), Twin full n lf lh → HeadInv md full n lf → unl lf n = f → wpAny P md head (TailQ P full tail Q) f lh a w → wpAny P md full Q (f + g) lf a w
 | 0, lh, lf, a, w, tw, inv, hu, h => by
  rw [Nat.zero_add]
  exact hend lf a w inv (unl_zero n hu) h.2
 | f + 1, lh, lf, a, w, tw, inv, hu, h => by
  rw [show f + 1 + g = (f + g) + 1 by omega]
  obtain ⟨i0, hi0, hun0, hall0⟩ := unl_pos (listed := lf) n (by omega)
  have hls : lf.size = full.size := inv.size
  have hr0 : i0 ∈ Region.ready md full lf := by
   obtain ⟨o, d, ho, _⟩ := headB_spec hB i0 hi0
   exact mem_ready.2 ⟨getD_in (by omega) hun0, o, ho.at_, fun e he _ => hall0 _ (ho.back e he)⟩
  refine ⟨fun h => absurd hr0 (by rw [h]; simp), fun i hi => ?_⟩
  have hin : i < n := by
   rcases Nat.lt_or_ge i n with h' | h'
   ·exact h'
   ·exact absurd hi (hwait lf inv ⟨i0, hi0, getD_in (by omega) hun0⟩ i h')
  obtain ⟨o, d, ho, _⟩ := headB_spec hB i hin
  have hun := (mem_ready.1 hi).1
  have hK : ∀ a' w', wpAny P md head (TailQ P full tail Q) f (lh.setIfInBounds i true) a' w' → wpAny P md full Q (f + g) (lf.setIfInBounds i true) a' w' := by
   intro a' w' h'
   refine twin_any hB hn hh hwait hend f _ _ a' w' tw.set (inv.set hi hin) ?_ h'
   have := unl_set (show i < lf.size by omega) (getD_both hun) n hin
   omega
  have h1 := h.2 i (tw.ready hB hh hin hi)
  unfold wpOp at h1 ⊢
  rw [hh i hin] at h1
  simp only [ho.at_] at h1 ⊢
  have hw1 : Region.wanted o (yielded head a.tmps) = true := by simp [Region.wanted, ho.guard]
  have hw2 : Region.wanted o (yielded full a.tmps) = true := by simp [Region.wanted, ho.guard]
  rw [if_pos hw1] at h1
  rw [if_pos hw2]
  exact h1.imp (Oper.wp_tailQ hK) (fun h => ⟨h.1, h.2⟩)
/-- The beginning: the head's operations alone are left to walk, under S. -/
theorem wp_region_tailH {S : World → Prop} {id : Nat} {a0 : Act} {w : World} {l : List Oper} (n : Nat) (hm : P.follows .mixedOrders = true) (hH : headB .any l.toArray n = true) (hT : tailB .any l.toArray n = true) (hS : S w.drew)
  (h : S w.drew → wpAnyH P .any (l.take n).toArray (TailQ P l.toArray (l.drop n) Q) S n (Array.replicate n false) a0 w.drew) : (Code.region id l.toArray true).wp P Q a0 w := by
 simp only [tailB, Bool.and_eq_true, decide_eq_true_eq, Bool.or_eq_true] at hT
 obtain ⟨⟨hn, hsc⟩, hseq⟩ := hT
 refine wp_region_any hm ?_
 have inv0 : HeadInv .any l.toArray n (Array.replicate l.toArray.size false) :=
  ⟨by simp, fun j oj _ hl => (by rw [getD_replicate_false] at hl; cases hl), fun t _ ht => getD_in (by simpa using ht) (getD_replicate_false _ _)⟩
 have hunl : ∀ m, unl (Array.replicate l.toArray.size false) m = m := by
  intro m
  induction m with
  | zero => rfl
  | succ m ih => rw [unl, ih, getD_replicate_false]; rfl
 have hwait : ∀ listed, HeadInv .any l.toArray n listed → (∃ i, i < n ∧ listed.getD i true = false) → ∀ t, n ≤ t → t ∉ Region.ready .any l.toArray listed := by
  intro listed inv ⟨i, hi, hun⟩ t ht hr
  rcases hsc with hsc | ⟨hs, hc⟩
  ·obtain ⟨_, o, ho, _⟩ := mem_ready.1 hr
   have := (Array.getElem?_eq_some_iff.1 ho).1
   omega
  ·have hlt : n < l.toArray.size := by
    obtain ⟨_, o, ho, _⟩ := mem_ready.1 hr
    have := (Array.getElem?_eq_some_iff.1 ho).1
    omega
   exact tail_waits hs hc hlt inv _ i rfl hi hun t ht hr
 have H := twin_any (P := P) (Q := Q) (md := .any) (full := l.toArray) (tail := l.drop n) (head := (l.take n).toArray) (n := n) (g := l.toArray.size - n) hH hn (fun i hi => by simp [List.getElem?_take, hi]) hwait ?_ n
  (Array.replicate n false) (Array.replicate l.toArray.size false) a0 w.drew ⟨by simp, by simp, fun i hi => by simp at hn; simp [Array.getElem?_replicate, hi, show i < l.length by omega]⟩ inv0 (hunl n) (wpAny_of_held _ _ _ _ (h hS))
 ·rwa [show n + (l.toArray.size - n) = l.toArray.size by omega] at H
 ·intro listed a w' inv hall hr
  have hls : listed = (Array.range l.toArray.size).map fun i => decide (i < n) := by
   refine Array.ext (by simp [inv.size]) fun k h1 h2 => ?_
   simp only [Array.getElem_map, Array.getElem_range]
   by_cases hk : k < n
   ·have := hall k hk
    simp [h1] at this
    simp [hk, this]
   ·have := inv.tail k (by omega) (by rw [← inv.size]; exact h1)
    simp [h1] at this
    simp [hk, this]
  have := wpAny_of_seq (P := P) (md := .any) (ops := l.toArray) (Q' := Q) (l.drop n) n listed a w' (fun j => by simp [List.getElem?_drop]) (by rw [show (l.drop n).length = l.toArray.size - n by simp, hls]; exact hseq) hr
  rwa [show (l.drop n).length = l.toArray.size - n by simp] at this
theorem tail_hQ {full : Array Oper} {tail : List Oper} {d : Option Tmp} {v : Value} (h : ∀ c a w, Q (.panic c) (a.put d v) w → Q (.panic c) a w) (c : List PanicEntry) (a : Act) (w : World) (k : TailQ P full tail Q (.panic c) (a.put d v) w) : TailQ P full tail Q (.panic c) a w := h c a w k
/-- The head is done. -/
theorem wpAnyH_tail {S : World → Prop} {ops full : Array Oper} {tail : List Oper} {listed : Array Bool} {a : Act} {w : World} (hr : Region.ready md ops listed = []) (h : wpList P full Q tail a w) (f : Nat) : wpAnyH P md ops (TailQ P full tail Q) S f listed a w :=
 wpAnyH_done hr h f
end
end Go.Proofs.Ytemjpgmfignhnaa

/- Contract: where a plan's step is, and when. The program's stop of slack.
Conditions: a lawful problem, a plan of a vehicle that is there. -/
namespace Go.Proofs.Ytemjpgmfignhnaa
open Go.RowKit Go.Proofs.YtemjpgmfignhnaaW.PrintWords Go.Proofs.YtemjpgmfignhnaaW.PrintLast Go.Proofs.YtemjpgmfignhnaaW.PrintMore
set_option linter.unusedVariables false
set_option linter.unusedSimpArgs false
attribute [local go_sem] cell_growBy Option.some_or
end Go.Proofs.Ytemjpgmfignhnaa

/- Contract: the latest times of a plan's steps. The program's Latest.
Conditions: a lawful problem, a plan of a vehicle that is there, of at least two steps. -/
namespace Go.Proofs.Ytemjpgmfignhnaa
open Go.RowKit Go.Proofs.YtemjpgmfignhnaaW.PrintWords Go.Proofs.YtemjpgmfignhnaaW.PrintLast Go.Proofs.YtemjpgmfignhnaaW.PrintMore
set_option linter.unusedVariables false
set_option linter.unusedSimpArgs false
attribute [local go_sem] cell_growBy Option.some_or
structure StepOk (p : TProblem) (v : TVehicle) (x : TVisit) : Prop where
 win : WinOk (stopE p v x).1.Windows ∨ (stopE p v x).1.Windows = []
 ser : 0 ≤ (stopE p v x).1.Service ∧ (stopE p v x).1.Service ≤ 1000000
 brk : x.Kind = 4 → 0 ≤ x.Item ∧ x.Item < v.Breaks.length
end Go.Proofs.Ytemjpgmfignhnaa

/- Contract: where the vehicle is, at the start, at each visit, at the end. The program's places.
Conditions: a lawful problem, at most 200 visits. -/
namespace Go.Proofs.Ytemjpgmfignhnaa
open Go.RowKit Go.Proofs.YtemjpgmfignhnaaW.PrintWords Go.Proofs.YtemjpgmfignhnaaW.PrintLast Go.Proofs.YtemjpgmfignhnaaW.PrintMore
set_option linter.unusedVariables false
set_option linter.unusedSimpArgs false
attribute [local go_sem] cell_growBy Option.some_or
theorem placesS_step (p : TProblem) : ∀ (l : List TVisit) (a : Int) (k : Nat) (h : k < l.length), (a :: placesS p a l).getD (k + 1) 0 = toS p ((a :: placesS p a l).getD k 0) l[k]
 | x :: l, a, 0, _ => rfl
 | x :: l, a, k + 1, h => by
  have := placesS_step p l (toS p a x) k (by simpa using h)
  simpa [placesS] using this
theorem placesS_take (p : TProblem) (l : List TVisit) (a : Int) (k : Nat) (h : k < l.length) : (a :: placesS p a l).take (k + 1 + 1) = (a :: placesS p a l).take (k + 1) ++ [toS p ((a :: placesS p a l).getD k 0) l[k]] := by
 rw [← placesS_step p l a k h]
 have hl : k + 1 < (a :: placesS p a l).length := by rw [List.length_cons, placesS_length]; omega
 rw [List.take_succ_eq_append_getElem hl]
 simp [List.getElem?_eq_getElem hl]
/-- Whole numbers are handed back, in new memory. -/
def IntsF (xs : List Int) (w : World) (e : Ending) (w' : World) : Prop :=
 ∃ A c, e = .returned (.slice A xs.length c) ∧ xs.length ≤ c ∧ Kd.F (Kd.int .i64) w' (fun k => w.heap.size ≤ k) A xs.length xs ∧ (∀ ad, A = some ad → w.heap.size ≤ ad.block) ∧ Below w.heap.size w w'
set_option maxHeartbeats 16000000 in
set_option maxRecDepth 100000 in
theorem planPlaces_any (q : PV) (p : TProblem) (v : TVehicle) (AC AB : Option Addr) (cC cB : Nat) (l : List TVisit) (A : Option Addr) (c : Nat) (w : World) (hlp : Good p) (law : Law p) (hq : q.Ok p w) (hr : Kd.C kVisit w A l.length l) (hl : l.length ≤ 200) :
  Calls Try.prog 121 #[q.val p, vehVal v AC AB cC cB, .slice A l.length c] w (IntsF (v.Start :: (placesS p v.Start l ++ [v.End])) w) := by
 have HR := Aside0.mk hr
 have HMS := Aside0.mk (fun (x : TVisit) W (hb : Below w.heap.size w W) => modStop_any q p x W hlp.toLens (hq.below hb) (fun _ => ⟨by have := law.stopLen' x; omega, by have := law.stopLen' x; unfold maxLen; omega⟩))
 obtain ⟨a1, c1, a2, c2, a3, c3, a4, c4, a5, c5⟩ := q
 have hpl := placesS_length p l v.Start
 have HPL := Aside0.mk hpl
 clear hr hq law hlp hpl
 unfold PV.val at HMS ⊢
 unfold vehVal
 go_enter Try.func121, Try.ntmps121
 go_upto_region 1 with fail
 refine gen_wp (fun W => Below w.heap.size w W ∧ W.heap[w.heap.size]? = some (.cells #[.int .i64 p.Dims, .int .i64 p.Time.N, .slice a1 p.Time.Cells.length c1, .int .i64 p.Dist.N, .slice a2 p.Dist.Cells.length c2, .slice a3 p.Vehicles.length c3, .slice a4 p.Jobs.length c4, .slice a5 p.Shipments.length c5] 29) ∧ W.heap[w.heap.size + 1]? = some (.cells #[.int .i64 v.Start, .int .i64 v.End, .slice AC v.Cap.length cC, .int .u64 v.Skills, .int .i64 v.Shift.From, .int .i64 v.Shift.To, .int .i64 v.Fixed, .int .i64 v.PerTime, .int .i64 v.PerDist, .int .i64 v.MaxTasks, .slice AB v.Breaks.length cB] 89)) ⟨clb, blk_alloc (blk_new _ _) _, blk_is (by simp)⟩ (fun wk HK => ?_)
 have hvb := HK.out.2.2
 have v0 := blk_cell hvb 0
 simp only [List.getElem?_toArray, List.getElem?_cons_succ, List.getElem?_cons_zero] at v0
 clear hvb
 have HO : Aside0 ((Kd.int .i64).R 3 (wk.alloc (.cells #[.int .i64 v.Start] 3)) wk.heap.size (fun _ => True) (.slice (some ⟨wk.heap.size, 0, none⟩) 1 1) [v.Start]) :=
  ⟨Kd.R_of_own (World.ownsRow_lit (base := wk.heap.size) (e := 3) (size := 1) wk #[.int .i64 v.Start] 1 (Nat.le_refl _) (by simp [maxLen]) (by simp)) (fun _ _ => trivial)⟩
 go_wp2
 go_loopw [7, 18] (fun vo vi wr => ∃ k : Nat, k ≤ l.length ∧ vi = .int .i64 k ∧ Aside0 ((Kd.int .i64).R 3 wr wk.heap.size (fun _ => True) vo ((v.Start :: placesS p v.Start l).take (k + 1))) ∧ Aside0 (Below wk.heap.size wk wr)) (fun _ vi _ => l.length - (intOf vi).toNat)
 case atStart => exact ⟨0, Nat.zero_le _, rfl, ⟨by simpa using HO.out⟩, ⟨below_alloc (Below.refl _ _) _⟩⟩
 case round =>
  clear HO v0
  obtain ⟨k, hk, rfl, HO, HW⟩ := hrel
  have HB0 : Aside0 (Below w.heap.size w wr) := ⟨below_to HK.out.1 HW.out⟩
  have hpb := blk_below HK.out.2.1 HW.out
  have hvb := blk_below HK.out.2.2 HW.out
  have p0 := blk_cell hpb 0; have p1 := blk_cell hpb 1; have p2 := blk_cell hpb 2; have p3 := blk_cell hpb 3; have p4 := blk_cell hpb 4; have p5 := blk_cell hpb 5; have p6 := blk_cell hpb 6; have p7 := blk_cell hpb 7; have hpw := blk_lt hpb
  have v1 := blk_cell hvb 1
  simp only [List.getElem?_toArray, List.getElem?_cons_succ, List.getElem?_cons_zero] at p0 p1 p2 p3 p4 p5 p6 p7 v1
  have hvw := blk_lt hvb
  clear hpb hvb
  have hlen : ((v.Start :: placesS p v.Start l).take (k + 1)).length = k + 1 := by rw [List.length_take, List.length_cons, HPL.out]; omega
  obtain ⟨A', c', e', hle, hC⟩ := Kd.R_reads HO.out
  rw [hlen] at e'
  subst e'
  have HLEN := Aside0.mk hlen
  by_cases hlt : k < l.length
  ·obtain ⟨ad, ea, x0, x1⟩ := atNVisit (Kd.C_below HR.out HB0.out) k hlt
   subst ea
   have r0 : (0 : Int) ≤ (k : Int) := by omega
   have r1 : (k : Int) < (l.length : Int) := by omega
   have r2 : (k : Int) < (k : Int) + 1 := by omega
   obtain ⟨ad', ea', y0⟩ := Kd.at_int hC (k : Int) r0 (by rw [hlen]; omega)
   subst ea'
   have ey : rd ((v.Start :: placesS p v.Start l).take (k + 1)) (k : Int) = (v.Start :: placesS p v.Start l).getD k 0 := by
    have h : ((v.Start :: placesS p v.Start l).take (k + 1))[k]? = (v.Start :: placesS p v.Start l)[k]? := by rw [List.getElem?_take, if_pos (Nat.lt_succ_self k)]
    rw [rd, Int.toNat_natCast, List.getD_eq_getElem?_getD, List.getD_eq_getElem?_getD, h]
   rw [ey] at y0
   simp only [Int.toNat_natCast] at y0
   have HT := Aside0.mk (placesS_take p l v.Start k hlt)
   generalize (v.Start :: placesS p v.Start l).getD k 0 = a at *
   generalize hx : l[k] = x at *
   clear hlen hC hle ey
   have hba := World.block_lt_of_cell? _ _ y0
   cases hs2 : (stopS p x).2
   ·have et : toS p a x = a := by simp [toS, hs2]
    rw [et] at HT
    clear et
    go_wp2_with (first
     | (go_at_call 36; refine (HMS.out x _ (below_to HB0.out chn)).mono ?_; rintro e w3 ⟨A3, k3, rfl, hle3, hb, hrow⟩; rw [hs2]; obtain ⟨qc3, qf3⟩ := bcell hb; have hB3 : Below wr.heap.size wr w3 := chn; have HB3 := Aside0.mk hB3; have hs3 := hb.size; clear hrow hle3 hB3)
     | (at_builtin; go_loud (refine Kd.R_append (Kd.int .i64) (w0 := wk) wk.heap.size rfl (.tmp 36) (.tmp 38) 22 3 (.int .i64 0) 8 rfl Try.underlying22 (by kernel_rfl) rfl (by decide) (by decide) (.slice (some ad') (k + 1) c') ((v.Start :: placesS p v.Start l).take (k + 1)) a _ (fun _ => True) (fun _ => False) rfl (by rw [World.size_alloc]; rfl) rfl (fun _ h => h.elim) (fun _ _ => trivial) (Kd.R_below HO.out (below_to HB3.out chn)) (below_to HW.out (below_to HB3.out chn)) (below_to HW.out (below_to HB3.out chn)).size (by rw [HLEN.out]; omega) ?_; intro v1 w4 ho hb hg hat; have HO2 := Aside0.mk ho; have HB4 := Aside0.mk hb; clear ho hb hg hat)))
    go_roundw
    case rel => exact ⟨k + 1, by omega, by go_num, ⟨by rw [HT.out]; exact HO2.out⟩, HB4⟩
    case measure => simp [intOf]; omega
   ·have et : toS p a x = (stopS p x).1.Place := by simp [toS, hs2]
    rw [et] at HT
    clear et
    go_wp2_with (first
     | (go_at_call 36; refine (HMS.out x _ (below_to HB0.out chn)).mono ?_; rintro e w3 ⟨A3, k3, rfl, hle3, hb, hrow⟩; rw [hs2]; obtain ⟨qc3, qf3⟩ := bcell hb; have hB3 : Below wr.heap.size wr w3 := chn; have HB3 := Aside0.mk hB3; have hs3 := hb.size; clear hrow hle3 hB3)
     | (at_builtin; go_loud (refine Kd.R_append (Kd.int .i64) (w0 := wk) wk.heap.size rfl (.tmp 36) (.tmp 38) 22 3 (.int .i64 0) 8 rfl Try.underlying22 (by kernel_rfl) rfl (by decide) (by decide) (.slice (some ad') (k + 1) c') ((v.Start :: placesS p v.Start l).take (k + 1)) (stopS p x).1.Place _ (fun _ => True) (fun _ => False) rfl (by rw [World.size_alloc]; rfl) rfl (fun _ h => h.elim) (fun _ _ => trivial) (Kd.R_below HO.out (below_to HB3.out chn)) (below_to HW.out (below_to HB3.out chn)) (below_to HW.out (below_to HB3.out chn)).size (by rw [HLEN.out]; omega) ?_; intro v1 w4 ho hb hg hat; have HO2 := Aside0.mk ho; have HB4 := Aside0.mk hb; clear ho hb hg hat)))
    go_roundw
    case rel => exact ⟨k + 1, by omega, by go_num, ⟨by rw [HT.out]; exact HO2.out⟩, HB4⟩
    case measure => simp [intOf]; omega
  ·obtain rfl : k = l.length := by omega
   have hfull : (v.Start :: placesS p v.Start l).take (l.length + 1) = v.Start :: placesS p v.Start l := by rw [List.take_of_length_le]; rw [List.length_cons, HPL.out]; omega
   have hof := HO.out
   rw [hfull] at hof
   have HOF := Aside0.mk hof
   have HL2 : Aside0 ((v.Start :: placesS p v.Start l).length = l.length + 1) := ⟨by rw [List.length_cons, HPL.out]⟩
   clear hof hfull hlen hC hle
   go_wp2_with (at_builtin; refine Kd.R_append (Kd.int .i64) (w0 := wk) (W := wr) wk.heap.size rfl (.tmp 41) (.tmp 44) 22 3 (.int .i64 0) 8 rfl Try.underlying22 (by kernel_rfl) rfl (by decide) (by decide) (.slice A' (l.length + 1) c') (v.Start :: placesS p v.Start l) v.End _ (fun _ => True) (fun _ => False) rfl rfl rfl (fun _ h => h.elim) (fun _ _ => trivial) HOF.out HW.out HW.out.size (by rw [HL2.out]; omega) ?_; intro v1 w4 ho hb hg hat; have HO2 := Aside0.mk ho; have HB4 := Aside0.mk hb; clear ho hb hg hat)
   obtain ⟨AF, cF, eF, hleF, hCF⟩ := Kd.R_reads HO2.out
   subst eF
   have hb0 := (Kd.R_bound HO2.out).1
   have hF := Kd.R_F (Kd.R_bound HO2.out)
   have HCF := Aside0.mk (Kd.F_mono hF (ok' := fun k => w.heap.size ≤ k) (fun k hk => Nat.le_trans HK.out.1.size hk.2.1))
   have HBF : Aside0 (∀ ad, AF = some ad → w.heap.size ≤ ad.block) := ⟨fun ad e => by
    subst e
    exact Nat.le_trans HK.out.1.size (hb0 ad.block rfl).2.1⟩
   clear hCF hF hb0
   go_ret
   exact ⟨AF, cF, rfl, hleF, HCF.out, HBF.out, below_to HK.out.1 HB4.out⟩
end Go.Proofs.Ytemjpgmfignhnaa
