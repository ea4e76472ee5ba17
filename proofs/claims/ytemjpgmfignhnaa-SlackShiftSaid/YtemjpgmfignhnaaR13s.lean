/- Where a visit is, and where its windows lie: in memory as it was at an earlier world.
Conditions: lists no longer than memory allows. -/
import Derived.Test.YtemjpgmfignhnaaM1
import Derived.Test.YtemjpgmfignhnaaPlanEnd
namespace Go.Proofs.Ytemjpgmfignhnaa
open Go.RowKit Go.Proofs.YtemjpgmfignhnaaW.PrintWords Go.Proofs.YtemjpgmfignhnaaW.PrintLast Go.Proofs.YtemjpgmfignhnaaW.PrintMore
set_option linter.unusedVariables false
set_option linter.unusedSimpArgs false
attribute [local go_sem] cell_growBy Option.some_or
theorem blk_set3 {W : World} {g t : Nat} {c0 c1 c2 : Value} (h : W.heap[g]? = some (.cells #[c0, c1, c2] t (0, 0))) (u0 u1 u2 : Value) :
    (((W.setCell ⟨g, 0, none⟩ u0).setCell ⟨g, 1, none⟩ u1).setCell ⟨g, 2, none⟩ u2).heap[g]? = some (.cells #[u0, u1, u2] t (0, 0)) := by
  have h := blk_set (blk_set (blk_set h 0 u0) 1 u1) 2 u2
  simpa using h
theorem gen_wp {P : Program} {c : Code} {Q : Exit → Act → World → Prop} {a : Act} {W : World} (R : World → Prop) (hR : R W) (h : ∀ WF, Aside0 (R WF) → c.wp P Q a WF) : c.wp P Q a W := h W ⟨hR⟩
def StopAt (s : TStop × Bool) (w0 w : World) (e : Ending) (w' : World) : Prop :=
  ∃ A c, e = .returned (.tuple #[.agg #[.int .i64 s.1.Place, .int .i64 s.1.Service, .slice A s.1.Windows.length c], .bool s.2]) ∧ s.1.Windows.length ≤ c ∧ Kd.C kWindow w0 A s.1.Windows.length s.1.Windows ∧ Below w.heap.size w w'
set_option maxHeartbeats 4000000 in
set_option maxRecDepth 100000 in
theorem refStop_at (q : PV) (p : TProblem) (v : TVisit) (w0 w : World) (hl : Lens p) (hq0 : q.Ok p w0) (hb0 : Below w0.heap.size w0 w) :
    Calls Try.prog 37 #[q.val p, .agg #[.int .i64 v.Kind, .int .i64 v.Item]] w (StopAt (stopS p v) w0 w) := by
  have hq := hq0.below hb0
  have HQ0 := Aside0.mk hq0
  have HB00 := Aside0.mk hb0
  have HL := Aside0.mk hl
  have HQ := Aside0.mk hq
  clear hl hq hq0 hb0
  cases hb : (taskOf v).2 && thereB p (taskOf v).1 with
  | false =>
    have es : stopS p v = (zStop, false) := by simp [stopS, hb]
    rw [es]
    obtain ⟨k, item⟩ := v
    unfold PV.val
    cases ht : (taskOf ⟨k, item⟩).2 with
    | false =>
      have E := Aside0.mk ht
      clear ht hb es
      go_enter Try.func37, Try.ntmps37
      go_wp2_with (go_at_call 43; refine (refOf_any ⟨k, item⟩ _).mono ?_; rw [E.out]; rintro e w1 ⟨rfl, hb⟩; have HB1 := Aside0.mk hb; obtain ⟨qc1, qf1⟩ := bcell hb; have hs1 := hb.size; (try simp at hs1); (try have z01 : w.heap.size < w1.heap.size := (by omega)); (try have z11 : w.heap.size + 1 < w1.heap.size := (by omega)); (try have z21 : w.heap.size + 1 + 1 < w1.heap.size := (by omega)); (try have z31 : w.heap.size + 1 + 1 + 1 < w1.heap.size := (by omega)); (try have z41 : w.heap.size + 1 + 1 + 1 + 1 < w1.heap.size := (by omega)); clear hs1 hb; skip)
      exact bodyPost_ret (v := .tuple #[.agg #[.int .i64 0, .int .i64 0, .slice none 0 0], .bool false]) (by simp [results, Try.results37, go_sem, *]) rfl ⟨none, 0, rfl, Nat.le_refl _, Kd.C_nil _ _, (by repeat (first | exact Below.refl _ _ | apply below_alloc | apply pw_below_drewN | apply below_drew1 | apply below_drew | (refine Below.setCell ?_ (by (try simp); (try omega)) _) | (refine below_to ?_ HB6.out) | (refine below_to ?_ HB5.out) | (refine below_to ?_ HB4.out) | (refine below_to ?_ HB3.out) | (refine below_to ?_ HB2.out) | (refine below_to ?_ HB1.out)))⟩
    | true =>
      have E := Aside0.mk ht
      have E2 : Aside0 (thereB p (taskOf ⟨k, item⟩).1 = false) := ⟨by simpa [ht] using hb⟩
      clear ht hb es
      go_enter Try.func37, Try.ntmps37
      go_wp2_with (first
        | (go_at_call 43; refine (refOf_any ⟨k, item⟩ _).mono ?_; rw [E.out]; rintro e w1 ⟨rfl, hb⟩; have HB1 := Aside0.mk hb; obtain ⟨qc1, qf1⟩ := bcell hb; have hs1 := hb.size; (try simp at hs1); (try have z01 : w.heap.size < w1.heap.size := (by omega)); (try have z11 : w.heap.size + 1 < w1.heap.size := (by omega)); (try have z21 : w.heap.size + 1 + 1 < w1.heap.size := (by omega)); (try have z31 : w.heap.size + 1 + 1 + 1 < w1.heap.size := (by omega)); (try have z41 : w.heap.size + 1 + 1 + 1 + 1 < w1.heap.size := (by omega)); clear hs1 hb; skip)
        | (go_at_call 44; refine (refThere_any q p (taskOf ⟨k, item⟩).1 _ HL.out).mono ?_; rw [E2.out]; rintro e w2 ⟨rfl, hb⟩; have HB2 := Aside0.mk hb; obtain ⟨qc2, qf2⟩ := bcell hb; have hs2 := hb.size; (try simp at hs2); (try have z02 : w.heap.size < w2.heap.size := (by omega)); (try have z12 : w.heap.size + 1 < w2.heap.size := (by omega)); (try have z22 : w.heap.size + 1 + 1 < w2.heap.size := (by omega)); (try have z32 : w.heap.size + 1 + 1 + 1 < w2.heap.size := (by omega)); (try have z42 : w.heap.size + 1 + 1 + 1 + 1 < w2.heap.size := (by omega)); clear hs2 hb; skip))
      exact bodyPost_ret (v := .tuple #[.agg #[.int .i64 0, .int .i64 0, .slice none 0 0], .bool false]) (by simp [results, Try.results37, go_sem, *]) rfl ⟨none, 0, rfl, Nat.le_refl _, Kd.C_nil _ _, (by repeat (first | exact Below.refl _ _ | apply below_alloc | apply pw_below_drewN | apply below_drew1 | apply below_drew | (refine Below.setCell ?_ (by (try simp); (try omega)) _) | (refine below_to ?_ HB6.out) | (refine below_to ?_ HB5.out) | (refine below_to ?_ HB4.out) | (refine below_to ?_ HB3.out) | (refine below_to ?_ HB2.out) | (refine below_to ?_ HB1.out)))⟩
  | true =>
    obtain ⟨k, item⟩ := v
    simp only [Bool.and_eq_true] at hb
    obtain ⟨ht, hth⟩ := hb
    obtain ⟨a1, c1, a2, c2, a3, c3, a4, c4, a5, c5⟩ := q
    by_cases h1 : k = 1
    · subst h1
      have e1 : taskOf ⟨1, item⟩ = (⟨false, item⟩, true) := by simp [taskOf]
      have es : stopS p ⟨1, item⟩ = ((rdJob p.Jobs item).Stop, true) := by simp [stopS, ht, hth]
      rw [es]
      have hr : 0 ≤ item ∧ item < p.Jobs.length := by
        rw [e1] at hth
        have := upB_true (show upB item ((p.Jobs.length : Int) - 1) = true from hth)
        omega
      obtain ⟨ad, A2, c2_, A3, c3_, A4, c4_, ea, y0, y1, y2, -, -, -, -, l2, g2, -, -, -, -⟩ := atJob HQ0.out.h4 item hr.1 hr.2
      have ea' : a4 = some ad := ea
      subst ea'
      have y0 := pw_cell_below HB00.out y0
      have y1 := pw_cell_below HB00.out y1
      have y2 := pw_cell_below HB00.out y2
      have X0 := stays y0
      have X1 := stays y1
      have X2 := stays y2
      have T : Aside0 (thereB p ⟨false, item⟩ = true) := ⟨by rw [e1] at hth; exact hth⟩
      have r1 := hr.1
      have r2 := hr.2
      have E := Aside0.mk e1
      have HE := Aside0.mk (show _ ∧ _ from ⟨l2, g2⟩)
      clear y0 y1 y2 l2 g2 hr hth ht es e1 ea
      unfold PV.val
      go_enter Try.func37, Try.ntmps37
      go_wp2_with (first
        | (go_at_call 43; refine (refOf_any ⟨1, item⟩ _).mono ?_; rw [E.out]; rintro e w1 ⟨rfl, hb⟩; have HB1 := Aside0.mk hb; obtain ⟨qc1, qf1⟩ := bcell hb; have hs1 := hb.size; (try simp at hs1); (try have z01 : w.heap.size < w1.heap.size := (by omega)); (try have z11 : w.heap.size + 1 < w1.heap.size := (by omega)); (try have z21 : w.heap.size + 1 + 1 < w1.heap.size := (by omega)); (try have z31 : w.heap.size + 1 + 1 + 1 < w1.heap.size := (by omega)); (try have z41 : w.heap.size + 1 + 1 + 1 + 1 < w1.heap.size := (by omega)); clear hs1 hb; skip)
        | (go_at_call 44; refine (refThere_any ⟨a1, c1, a2, c2, a3, c3, some ad, c4, a5, c5⟩ p ⟨false, item⟩ _ HL.out).mono ?_; rw [T.out]; rintro e w2 ⟨rfl, hb⟩; have HB2 := Aside0.mk hb; obtain ⟨qc2, qf2⟩ := bcell hb; have hs2 := hb.size; (try simp at hs2); (try have z02 : w.heap.size < w2.heap.size := (by omega)); (try have z12 : w.heap.size + 1 < w2.heap.size := (by omega)); (try have z22 : w.heap.size + 1 + 1 < w2.heap.size := (by omega)); (try have z32 : w.heap.size + 1 + 1 + 1 < w2.heap.size := (by omega)); (try have z42 : w.heap.size + 1 + 1 + 1 + 1 < w2.heap.size := (by omega)); clear hs2 hb; have g0 := X0.out w2 (by repeat (first | exact Below.refl _ _ | apply below_alloc | apply pw_below_drewN | apply below_drew1 | apply below_drew | (refine Below.setCell ?_ (by (try simp); (try omega)) _) | (refine below_to ?_ HB6.out) | (refine below_to ?_ HB5.out) | (refine below_to ?_ HB4.out) | (refine below_to ?_ HB3.out) | (refine below_to ?_ HB2.out) | (refine below_to ?_ HB1.out))); have g1 := X1.out w2 (by repeat (first | exact Below.refl _ _ | apply below_alloc | apply pw_below_drewN | apply below_drew1 | apply below_drew | (refine Below.setCell ?_ (by (try simp); (try omega)) _) | (refine below_to ?_ HB6.out) | (refine below_to ?_ HB5.out) | (refine below_to ?_ HB4.out) | (refine below_to ?_ HB3.out) | (refine below_to ?_ HB2.out) | (refine below_to ?_ HB1.out))); have g2 := X2.out w2 (by repeat (first | exact Below.refl _ _ | apply below_alloc | apply pw_below_drewN | apply below_drew1 | apply below_drew | (refine Below.setCell ?_ (by (try simp); (try omega)) _) | (refine below_to ?_ HB6.out) | (refine below_to ?_ HB5.out) | (refine below_to ?_ HB4.out) | (refine below_to ?_ HB3.out) | (refine below_to ?_ HB2.out) | (refine below_to ?_ HB1.out)))))
      exact bodyPost_ret (v := .tuple #[.agg #[.int .i64 ((rdJob p.Jobs item).Stop).Place, .int .i64 ((rdJob p.Jobs item).Stop).Service, .slice A2 ((rdJob p.Jobs item).Stop).Windows.length c2_], .bool true]) (by simp [results, Try.results37, go_sem, *]) rfl ⟨_, _, rfl, HE.out.1, HE.out.2, (by repeat (first | exact Below.refl _ _ | apply below_alloc | apply pw_below_drewN | apply below_drew1 | apply below_drew | (refine Below.setCell ?_ (by (try simp); (try omega)) _) | (refine below_to ?_ HB6.out) | (refine below_to ?_ HB5.out) | (refine below_to ?_ HB4.out) | (refine below_to ?_ HB3.out) | (refine below_to ?_ HB2.out) | (refine below_to ?_ HB1.out)))⟩
    by_cases h2 : k = 2
    · subst h2
      have e1 : taskOf ⟨2, item⟩ = (⟨true, item⟩, true) := by simp [taskOf]
      have es : stopS p ⟨2, item⟩ = ((rdShipment p.Shipments item).Pickup, true) := by simp [stopS, ht, hth]
      rw [es]
      have hr : 0 ≤ item ∧ item < p.Shipments.length := by
        rw [e1] at hth
        have := upB_true (show upB item ((p.Shipments.length : Int) - 1) = true from hth)
        omega
      obtain ⟨ad, A2, c2_, A3, c3_, A4, c4_, ea, y0, y1, y2, -, -, -, -, -, -, l2, g2, -, -, -, -⟩ := atShipment HQ0.out.h5 item hr.1 hr.2
      have ea' : a5 = some ad := ea
      subst ea'
      have y0 := pw_cell_below HB00.out y0
      have y1 := pw_cell_below HB00.out y1
      have y2 := pw_cell_below HB00.out y2
      have X0 := stays y0
      have X1 := stays y1
      have X2 := stays y2
      have T : Aside0 (thereB p ⟨true, item⟩ = true) := ⟨by rw [e1] at hth; exact hth⟩
      have r1 := hr.1
      have r2 := hr.2
      have E := Aside0.mk e1
      have HE := Aside0.mk (show _ ∧ _ from ⟨l2, g2⟩)
      clear y0 y1 y2 l2 g2 hr hth ht es e1 ea
      unfold PV.val
      go_enter Try.func37, Try.ntmps37
      go_wp2_with (first
        | (go_at_call 43; refine (refOf_any ⟨2, item⟩ _).mono ?_; rw [E.out]; rintro e w1 ⟨rfl, hb⟩; have HB1 := Aside0.mk hb; obtain ⟨qc1, qf1⟩ := bcell hb; have hs1 := hb.size; (try simp at hs1); (try have z01 : w.heap.size < w1.heap.size := (by omega)); (try have z11 : w.heap.size + 1 < w1.heap.size := (by omega)); (try have z21 : w.heap.size + 1 + 1 < w1.heap.size := (by omega)); (try have z31 : w.heap.size + 1 + 1 + 1 < w1.heap.size := (by omega)); (try have z41 : w.heap.size + 1 + 1 + 1 + 1 < w1.heap.size := (by omega)); clear hs1 hb; skip)
        | (go_at_call 44; refine (refThere_any ⟨a1, c1, a2, c2, a3, c3, a4, c4, some ad, c5⟩ p ⟨true, item⟩ _ HL.out).mono ?_; rw [T.out]; rintro e w2 ⟨rfl, hb⟩; have HB2 := Aside0.mk hb; obtain ⟨qc2, qf2⟩ := bcell hb; have hs2 := hb.size; (try simp at hs2); (try have z02 : w.heap.size < w2.heap.size := (by omega)); (try have z12 : w.heap.size + 1 < w2.heap.size := (by omega)); (try have z22 : w.heap.size + 1 + 1 < w2.heap.size := (by omega)); (try have z32 : w.heap.size + 1 + 1 + 1 < w2.heap.size := (by omega)); (try have z42 : w.heap.size + 1 + 1 + 1 + 1 < w2.heap.size := (by omega)); clear hs2 hb; have g0 := X0.out w2 (by repeat (first | exact Below.refl _ _ | apply below_alloc | apply pw_below_drewN | apply below_drew1 | apply below_drew | (refine Below.setCell ?_ (by (try simp); (try omega)) _) | (refine below_to ?_ HB6.out) | (refine below_to ?_ HB5.out) | (refine below_to ?_ HB4.out) | (refine below_to ?_ HB3.out) | (refine below_to ?_ HB2.out) | (refine below_to ?_ HB1.out))); have g1 := X1.out w2 (by repeat (first | exact Below.refl _ _ | apply below_alloc | apply pw_below_drewN | apply below_drew1 | apply below_drew | (refine Below.setCell ?_ (by (try simp); (try omega)) _) | (refine below_to ?_ HB6.out) | (refine below_to ?_ HB5.out) | (refine below_to ?_ HB4.out) | (refine below_to ?_ HB3.out) | (refine below_to ?_ HB2.out) | (refine below_to ?_ HB1.out))); have g2 := X2.out w2 (by repeat (first | exact Below.refl _ _ | apply below_alloc | apply pw_below_drewN | apply below_drew1 | apply below_drew | (refine Below.setCell ?_ (by (try simp); (try omega)) _) | (refine below_to ?_ HB6.out) | (refine below_to ?_ HB5.out) | (refine below_to ?_ HB4.out) | (refine below_to ?_ HB3.out) | (refine below_to ?_ HB2.out) | (refine below_to ?_ HB1.out)))))
      exact bodyPost_ret (v := .tuple #[.agg #[.int .i64 ((rdShipment p.Shipments item).Pickup).Place, .int .i64 ((rdShipment p.Shipments item).Pickup).Service, .slice A2 ((rdShipment p.Shipments item).Pickup).Windows.length c2_], .bool true]) (by simp [results, Try.results37, go_sem, *]) rfl ⟨_, _, rfl, HE.out.1, HE.out.2, (by repeat (first | exact Below.refl _ _ | apply below_alloc | apply pw_below_drewN | apply below_drew1 | apply below_drew | (refine Below.setCell ?_ (by (try simp); (try omega)) _) | (refine below_to ?_ HB6.out) | (refine below_to ?_ HB5.out) | (refine below_to ?_ HB4.out) | (refine below_to ?_ HB3.out) | (refine below_to ?_ HB2.out) | (refine below_to ?_ HB1.out)))⟩
    by_cases h3 : k = 3
    · subst h3
      have e1 : taskOf ⟨3, item⟩ = (⟨true, item⟩, true) := by simp [taskOf]
      have es : stopS p ⟨3, item⟩ = ((rdShipment p.Shipments item).Delivery, true) := by simp [stopS, ht, hth]
      rw [es]
      have hr : 0 ≤ item ∧ item < p.Shipments.length := by
        rw [e1] at hth
        have := upB_true (show upB item ((p.Shipments.length : Int) - 1) = true from hth)
        omega
      obtain ⟨ad, A0, c0_, A2, c2_, A4, c4_, ea, -, -, -, y0, y1, y2, -, -, -, -, -, l2, g2, -, -⟩ := atShipment HQ0.out.h5 item hr.1 hr.2
      have ea' : a5 = some ad := ea
      subst ea'
      have y0 := pw_cell_below HB00.out y0
      have y1 := pw_cell_below HB00.out y1
      have y2 := pw_cell_below HB00.out y2
      have X0 := stays y0
      have X1 := stays y1
      have X2 := stays y2
      have T : Aside0 (thereB p ⟨true, item⟩ = true) := ⟨by rw [e1] at hth; exact hth⟩
      have r1 := hr.1
      have r2 := hr.2
      have E := Aside0.mk e1
      have HE := Aside0.mk (show _ ∧ _ from ⟨l2, g2⟩)
      clear y0 y1 y2 l2 g2 hr hth ht es e1 ea
      unfold PV.val
      go_enter Try.func37, Try.ntmps37
      go_wp2_with (first
        | (go_at_call 43; refine (refOf_any ⟨3, item⟩ _).mono ?_; rw [E.out]; rintro e w1 ⟨rfl, hb⟩; have HB1 := Aside0.mk hb; obtain ⟨qc1, qf1⟩ := bcell hb; have hs1 := hb.size; (try simp at hs1); (try have z01 : w.heap.size < w1.heap.size := (by omega)); (try have z11 : w.heap.size + 1 < w1.heap.size := (by omega)); (try have z21 : w.heap.size + 1 + 1 < w1.heap.size := (by omega)); (try have z31 : w.heap.size + 1 + 1 + 1 < w1.heap.size := (by omega)); (try have z41 : w.heap.size + 1 + 1 + 1 + 1 < w1.heap.size := (by omega)); clear hs1 hb; skip)
        | (go_at_call 44; refine (refThere_any ⟨a1, c1, a2, c2, a3, c3, a4, c4, some ad, c5⟩ p ⟨true, item⟩ _ HL.out).mono ?_; rw [T.out]; rintro e w2 ⟨rfl, hb⟩; have HB2 := Aside0.mk hb; obtain ⟨qc2, qf2⟩ := bcell hb; have hs2 := hb.size; (try simp at hs2); (try have z02 : w.heap.size < w2.heap.size := (by omega)); (try have z12 : w.heap.size + 1 < w2.heap.size := (by omega)); (try have z22 : w.heap.size + 1 + 1 < w2.heap.size := (by omega)); (try have z32 : w.heap.size + 1 + 1 + 1 < w2.heap.size := (by omega)); (try have z42 : w.heap.size + 1 + 1 + 1 + 1 < w2.heap.size := (by omega)); clear hs2 hb; have g0 := X0.out w2 (by repeat (first | exact Below.refl _ _ | apply below_alloc | apply pw_below_drewN | apply below_drew1 | apply below_drew | (refine Below.setCell ?_ (by (try simp); (try omega)) _) | (refine below_to ?_ HB6.out) | (refine below_to ?_ HB5.out) | (refine below_to ?_ HB4.out) | (refine below_to ?_ HB3.out) | (refine below_to ?_ HB2.out) | (refine below_to ?_ HB1.out))); have g1 := X1.out w2 (by repeat (first | exact Below.refl _ _ | apply below_alloc | apply pw_below_drewN | apply below_drew1 | apply below_drew | (refine Below.setCell ?_ (by (try simp); (try omega)) _) | (refine below_to ?_ HB6.out) | (refine below_to ?_ HB5.out) | (refine below_to ?_ HB4.out) | (refine below_to ?_ HB3.out) | (refine below_to ?_ HB2.out) | (refine below_to ?_ HB1.out))); have g2 := X2.out w2 (by repeat (first | exact Below.refl _ _ | apply below_alloc | apply pw_below_drewN | apply below_drew1 | apply below_drew | (refine Below.setCell ?_ (by (try simp); (try omega)) _) | (refine below_to ?_ HB6.out) | (refine below_to ?_ HB5.out) | (refine below_to ?_ HB4.out) | (refine below_to ?_ HB3.out) | (refine below_to ?_ HB2.out) | (refine below_to ?_ HB1.out)))))
      exact bodyPost_ret (v := .tuple #[.agg #[.int .i64 ((rdShipment p.Shipments item).Delivery).Place, .int .i64 ((rdShipment p.Shipments item).Delivery).Service, .slice A2 ((rdShipment p.Shipments item).Delivery).Windows.length c2_], .bool true]) (by simp [results, Try.results37, go_sem, *]) rfl ⟨_, _, rfl, HE.out.1, HE.out.2, (by repeat (first | exact Below.refl _ _ | apply below_alloc | apply pw_below_drewN | apply below_drew1 | apply below_drew | (refine Below.setCell ?_ (by (try simp); (try omega)) _) | (refine below_to ?_ HB6.out) | (refine below_to ?_ HB5.out) | (refine below_to ?_ HB4.out) | (refine below_to ?_ HB3.out) | (refine below_to ?_ HB2.out) | (refine below_to ?_ HB1.out)))⟩
    rw [taskOf_none h1 h2 h3] at ht
    cases ht
end Go.Proofs.Ytemjpgmfignhnaa
