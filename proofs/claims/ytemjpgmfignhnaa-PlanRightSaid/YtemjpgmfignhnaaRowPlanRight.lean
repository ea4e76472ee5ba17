/- PlanRight holds for every input. The arguments are opened as lists and numbers, the walk's contract is called, and they read afterwards as before.
Conditions: none beyond the given row's. -/
import Derived.Test.YtemjpgmfignhnaaRows
import Derived.Test.YtemjpgmfignhnaaGoodOf
import Derived.Test.YtemjpgmfignhnaaFactsA
import Derived.Test.YtemjpgmfignhnaaW13f
import Derived.WalkKit
import Derived.ProofKit
import Derived.OpenShut
import Derived.ShutString
import Derived.ChangeOld
import Derived.Below
import Derived.SizedLaws
import Derived.ChangeSlices
import Derived.KernelRfl
namespace Go.Proofs.Ytemjpgmfignhnaa.RowPlanRight
open Go.ChangeShapes Go.WideShapes Go.ChangeAt Go.RowKit Go.Proofs.YtemjpgmfignhnaaW.PrintWords Go.Proofs.Ytemjpgmfignhnaa.Bridge Go.Proofs.Ytemjpgmfignhnaa
open Go.ChangeMaps (open_string shut_string)
set_option linter.unusedVariables false
set_option linter.unusedSimpArgs false
theorem own : ownKnob Try.prog.godebug = none := by kernel_rfl
theorem laidOut : laidOutB Try.prog = true := by kernel_rfl
theorem sized {H : Type} {P : Program} {ts : List TypeId} {ds : List (DataW H)} {j : Nat} {t : TypeId} {d : DataW H} (hsz : (DataW.weightsEach P ts ds).all (· ≤ reachBytes) = true) (ht : ts[j]? = some t) (hd : ds[j]? = some d) : ∀ n ∈ d.weights P t, n ≤ reachBytes := fun n hn => by
 have := List.all_eq_true.1 hsz _ (DataW.weights_mem_each ht hd n hn)
 simpa using this
set_option maxRecDepth 100000 in
theorem lifted (os : Os) (started : os.Started) (H : Type) (enc : TypeId × Value → H) :
  ReturnsInHanded {} Try.checked os 12 .any (Rows.planRightSpec.pre6 enc Try.prog Try.f12 Rows.planRightRow.domain false) (Rows.planRightSpec.post enc Try.prog Try.f12 false true false false) := by
 refine returnsInHanded_of_change_sized (C := Try.checked) own started (by kernel_rfl) Try.func12
  (ChangeSpec.witness6 (enc := enc) (C := Try.checked) false ⟨#[], #[.agg #[.int .i64 0, .int .i64 0, .slice none 0 0, .int .i64 0, .slice none 0 0, .slice none 0 0, .slice none 0 0, .slice none 0 0], .int .i64 0, .slice none 0 0], []⟩ 8 (by kernel_rfl) (by kernel_rfl) (by kernel_rfl) (by kernel_rfl)) ?_
 intro W base args ds gs before hval0 hW hcnd hsz0 _
 have hsz : (DataW.weightsEach Try.prog (Try.f12.params.toList ++ Rows.planRightSpec.plain.varTypes Try.prog) (ds ++ gs)).all (· ≤ reachBytes) = true := hsz0
 have hval : ∀ (j : Nat) t v, Try.f12.params[j]? = some t → args[j]? = some v → Value.okWide Try.prog W .any base t v := hval0
 have hW' := hW
 obtain ⟨p, q, hA0, hV, rfl, hfz, hnd⟩ := hW
 have hA : DataW.TrodAll enc Try.prog W 0 (fun _ => true) true Try.f12.params.toList args.toList ds p := hA0
 rw [Try.params12] at hA hval hsz
 obtain ⟨v0, vs0, d0, ds0, p0, q0, hargs, rfl, rfl, h0, r0⟩ := trodAll_cons hA
 obtain ⟨v1, vs1, d1, ds1, p1, q1, rfl, rfl, rfl, h1, r1⟩ := trodAll_cons r0
 obtain ⟨v2, vs2, d2, ds2, p2, q2, rfl, rfl, rfl, h2, r2⟩ := trodAll_cons r1
 obtain ⟨rfl, rfl, rfl⟩ := trodAll_nil r2
 obtain rfl : args = #[v0, v1, v2] := by cases args; simp_all
 obtain ⟨rfl, rfl⟩ := trodVars_none hV
 obtain ⟨cs0, rfl, cz0⟩ := okWide_struct Try.underlying29 (hval 0 29 v0 rfl rfl)
 have k0 := h0
 have lt0 : ∀ x ∈ p0, x.block < W.heap.size := by obtain ⟨m, hm⟩ := k0; exact DataW.trod_lt m _ _ _ hm
 obtain ⟨x0, hK0, hG0⟩ : ∃ x : TProblem, kProblem.K W x cs0.toList ∧ GProblem x := by
  obtain ⟨fuel, hf⟩ := h0
  exact (datProblem : Rd enc Try.prog W 29 kProblem _) fuel _ _ _ hf (sized hsz (j := 0) rfl rfl)
 obtain ⟨A0_2, c0_2, A0_4, c0_4, A0_5, c0_5, A0_6, c0_6, A0_7, c0_7, e0, l0_2, g0_2, l0_4, g0_4, l0_5, g0_5, l0_6, g0_6, l0_7, g0_7⟩ := kProblem_open hK0
 obtain rfl : cs0 = #[.int .i64 x0.Dims, .int .i64 x0.Time.N, .slice A0_2 x0.Time.Cells.length c0_2, .int .i64 x0.Dist.N, .slice A0_4 x0.Dist.Cells.length c0_4, .slice A0_5 x0.Vehicles.length c0_5, .slice A0_6 x0.Jobs.length c0_6, .slice A0_7 x0.Shipments.length c0_7] := by cases cs0; simpa using e0
 obtain ⟨a1, rfl, rfl, rfl, w1⟩ := open_int Try.underlying3 (hval 1 3 v1 rfl rfl) h1
 obtain ⟨a2, len2, cap2, rfl⟩ := okWide_slice Try.underlying63 (hval 2 63 v2 rfl rfl)
 have k2 := h2
 have lt2 : ∀ x ∈ p2, x.block < W.heap.size := by obtain ⟨m, hm⟩ := k2; exact DataW.trod_lt m _ _ _ hm
 obtain ⟨l2, hc2, hK2, hG2⟩ : ∃ l : (List TVisit), l.length = len2 ∧ (len2 ≤ cap2 ∧ Kd.C kVisit W a2 len2 l) ∧ (l.length ≤ maxLen ∧ l.length * 16 ≤ 140737488351232 ∧ ∀ y ∈ l, GVisit y) := by
  obtain ⟨fuel, hf⟩ := h2
  obtain ⟨l, ⟨B, c, hcs, hl, hC⟩, hG⟩ := ((rd_slice (B := 16) Try.underlying63 (by kernel_rfl) (by kernel_rfl) datVisit) : Rd enc Try.prog W 63 (Kd.slice 57 kVisit) _) fuel _ _ _ hf (sized hsz (j := 2) rfl rfl)
  simp only [Value.cells, List.cons.injEq, Value.slice.injEq, and_true] at hcs
  obtain ⟨rfl, rfl, rfl⟩ := hcs
  exact ⟨l, rfl, ⟨hl, hC⟩, hG⟩
 subst hc2
 clear hA0 hval0 hsz0 hsz
 refine (planRightLaw_row ⟨A0_2, c0_2, A0_4, c0_4, A0_5, c0_5, A0_6, c0_6, A0_7, c0_7⟩ x0 a1 l2 a2 cap2 W hG0 ⟨l0_2, l0_4, l0_5, l0_6, l0_7, g0_2, g0_4, g0_5, g0_6, g0_7⟩ w1 hG2 hK2.1 hK2.2).mono fun e W' ⟨he, bel⟩ => ?_
 subst he
 exact ⟨_, rfl, _, _, _, [], _, [], hW', trodAll_mk1 (shut_bool Try.underlying4 _), (trodAll_cons_mk (Below.trod laidOut (by kernel_rfl) (of_decide_eq_true (by kernel_rfl)) k0 bel lt0) (trodAll_cons_mk (shut_int Try.underlying3 w1) (trodAll_cons_mk (Below.trod laidOut (by kernel_rfl) (of_decide_eq_true (by kernel_rfl)) k2 bel lt2) trodAll_mk0))), rfl, bel.frame _, fun h => by cases h⟩
set_option maxHeartbeats 8000000 in
theorem closed : joinedFacts Try.pinned.checked.prog 12 Try.f12 Rows.planRightSpec Rows.planRightRow = true := by
 unfold joinedFacts
 repeat' (with_reducible refine FactsA.and_mk ?_ ?_)
 all_goals (first | (with_reducible first | exact FactsA.p1 | exact FactsA.p2 | exact FactsA.p3 | exact FactsA.p4 | exact FactsA.p6 | exact FactsA.p7) | (rw [FactsA.p5]; as_aux_lemma => kernel_rfl) | (rw [FactsA.p8]; as_aux_lemma => kernel_rfl) | (rw [FactsA.p9]; as_aux_lemma => kernel_rfl) | (as_aux_lemma => kernel_rfl))
theorem over : Rows.planRightRow.holds Try.pinned (OpenSpec.ofChange Rows.planRightSpec) :=
 OpenClaim.holds_of_wide 12 Try.f12 rfl rfl rfl rfl rfl rfl rfl ⟨rfl, rfl, rfl, rfl, rfl⟩ rfl rfl rfl rfl rfl (by kernel_rfl) Try.func12 closed
  (of_decide_eq_true (by kernel_rfl)) (by unfold Func.isWrapper; first | (rw [if_pos (by decide +kernel)]; kernel_rfl) | (rw [if_neg (by decide +kernel)]; exact ⟨rfl, rfl⟩))
  (fun os started H enc _ => lifted os started H enc)
theorem proved : Rows.PlanRightSaid := over
#print axioms proved
end Go.Proofs.Ytemjpgmfignhnaa.RowPlanRight
namespace Go.Proofs.Ytemjpgmfignhnaa
/-- The row, under a short name, for the claim. -/
theorem planRight_holds : Rows.PlanRightSaid := RowPlanRight.proved
end Go.Proofs.Ytemjpgmfignhnaa
