/- Fit with a shift that begins later, in plain words; a vehicle's cell written in a problem of one's own.
Conditions: a lawful problem. -/
import Derived.Test.YtemjpgmfignhnaaP13y
import Derived.Test.YtemjpgmfignhnaaPut
namespace Go.Proofs.Ytemjpgmfignhnaa
open Go.RowKit Go.Proofs.YtemjpgmfignhnaaW.PrintWords Go.Proofs.YtemjpgmfignhnaaW.PrintLast Go.Proofs.YtemjpgmfignhnaaW.PrintMore
set_option linter.unusedVariables false
set_option linter.unusedSimpArgs false
theorem u64_nnz (x : Int) : 0 ≤ IntKind.u64.wrap x := by
 simp only [IntKind.wrap, IntKind.signed, IntKind.bits]
 simp
 omega
theorem mod_inz (x m : Int) (hm : 0 < m) (h : m ≤ 1000000) : 0 ≤ wrap64 ((IntKind.u64.wrap x).tmod m) ∧ wrap64 ((IntKind.u64.wrap x).tmod m) < m := by
 have h0 := Int.tmod_nonneg m (u64_nnz x)
 have h1 := Int.tmod_lt_of_pos (IntKind.u64.wrap x) hm
 rw [IntWalk.wrap64_in _ (by omega)]
 exact ⟨h0, h1⟩
theorem fit_early {p : TProblem} (law : Law p) {k : Nat} (hk : k < p.Vehicles.length) {m : Int} (h0 : 0 ≤ m) {l : List TVisit} (hb : (rdVehicle p.Vehicles k).Breaks.length = 0) (h : (fitS (fromP p k m) k l).2 = 0) :
  (fitS p k l).2 = 0 ∧ (fitS p k l).1.Cost = (fitS (fromP p k m) k l).1.Cost ∧ (fitS p k l).1.Steps.length = (fitS (fromP p k m) k l).1.Steps.length ∧
   ∀ (i : Nat) (a b : TStep), (fitS p k l).1.Steps[i]? = some a → (fitS (fromP p k m) k l).1.Steps[i]? = some b → a.Arrival ≤ b.Arrival ∧ a.Time = b.Time := by
 have hv : ¬ ((k : Int) < 0 ∨ (p.Vehicles.length : Int) ≤ k) := by omega
 have hv2 : ¬ ((k : Int) < 0 ∨ ((fromP p k m).Vehicles.length : Int) ≤ k) := by simp [fromP]; omega
 have hb2 : (rdVehicle (fromP p k m).Vehicles k).Breaks.length = 0 := by rw [fromP_rd hk]; exact hb
 unfold fitS at h ⊢
 rw [if_neg hv2] at h
 rw [if_neg hv, if_neg hv2]
 by_cases ha : l.any (fun x => decide (x.Kind = 4)) = true
 ·rw [if_pos ha] at h
  cases h
 ·rw [if_neg ha, if_pos hb2] at h
  rw [if_neg ha, if_neg ha, if_pos hb, if_pos hb2]
  exact ofS_early law hk h0 h
theorem fromP_val (q : PV) (p : TProblem) (k : Nat) (m : Int) : q.val (fromP p k m) = q.val p := by simp [PV.val, fromP]
theorem fromP_good {p : TProblem} (h : Good p) (k : Nat) (hk : k < p.Vehicles.length) (m : Int) : Good (fromP p k m) := by
 have hm : ∀ v ∈ (fromP p k m).Vehicles, ∃ u ∈ p.Vehicles, v.Cap = u.Cap ∧ v.Breaks = u.Breaks ∧ v.Skills = u.Skills := by
  intro v hv
  rcases List.mem_or_eq_of_mem_set hv with hv | rfl
  ·exact ⟨v, hv, rfl, rfl, rfl⟩
  ·exact ⟨rdVehicle p.Vehicles k, rdVeh_mem _ _ (by omega) (by omega), rfl, rfl, rfl⟩
 refine ⟨⟨h.n1, h.n2, by simpa [fromP] using h.n3, h.n4, h.n5⟩, h.nsum, fun v hv => ?_, h.gj, h.gs⟩
 obtain ⟨u, hu, e1, e2, e3⟩ := hm v hv
 rw [e1, e2, e3]
 exact h.gv u hu
theorem OwnP.from_ {n : Nat} {o : OV} {p : TProblem} {w : World} (h : OwnP n o p w) (k : Nat) (hk : k < p.Vehicles.length) (m : Int) :
  OwnP n o (fromP p k m) (w.setCell ⟨o.gv, k * 11 + 4, none⟩ (.int .i64 ((rdVehicle p.Vehicles k).Shift.From + m))) := by
 have hv1 := h.bv.1
 have hv2 := h.bv.2
 have hne := h.ne
 have ht := h.bt
 have hd := h.bd
 have hj := h.bj
 have hs := h.bs
 have hlow : ∀ m, m < n → m ≠ o.gv := fun m hm => by omega
 have hlow2 : ∀ m, m < n ∨ o.top ≤ m → m ≠ o.gv := fun m hm => by omega
 refine ⟨h.bt, h.bd, h.bv, h.bj, h.bs, ?_, h.ne, h.l1, h.l2, ?_, h.l4, h.l5, h.r1.keep_set (p := ⟨o.gv, k * 11 + 4, none⟩) (by show o.gt ≠ o.gv; omega) hlow _, h.r2.keep_set (p := ⟨o.gv, k * 11 + 4, none⟩) (by show o.gd ≠ o.gv; omega) hlow _, ?_, h.r4.keep_set (p := ⟨o.gv, k * 11 + 4, none⟩) (by show o.gj ≠ o.gv; omega) hlow2 _, h.r5.keep_set (p := ⟨o.gv, k * 11 + 4, none⟩) (by show o.gs ≠ o.gv; omega) hlow2 _⟩
 ·simpa using h.top
 ·simpa [fromP] using h.l3
 ·have e0 : p.Vehicles[k]? = some (rdVehicle p.Vehicles k) := by simp [rdVehicle, List.getElem?_eq_getElem hk]
  refine RowIx.at_ (ok := fun _ k => k < n ∨ o.top ≤ k) (RowIx.put h.r3.ix (fun m hm => by omega) k 4 _ (fromVeh (rdVehicle p.Vehicles k) m) e0 (by decide) _ (fun W' cs hK => ?_)) (fun _ _ _ h => h)
  obtain ⟨A2, c2, A10, c10, rfl, l2, g2, l10, g10⟩ := kVehicle_open hK
  exact kVehicle_mk W' (fromVeh (rdVehicle p.Vehicles k) m) A2 c2 l2 g2 A10 c10 l10 g10
end Go.Proofs.Ytemjpgmfignhnaa
