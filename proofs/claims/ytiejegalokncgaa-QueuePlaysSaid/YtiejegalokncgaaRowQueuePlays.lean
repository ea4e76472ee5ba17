/- QueuePlays holds for every input. The arguments are opened as lists and numbers, the walk's contract is called, and they read afterwards as before.
Conditions: none beyond the given row's. -/
import Derived.Test.YtiejegalokncgaaRows
import Derived.Test.YtiejegalokncgaaGoodOf
import Derived.Test.YtiejegalokncgaaFactsA
import Derived.Test.YtiejegalokncgaaL04g
import Derived.WalkKit
import Derived.ProofKit
import Derived.OpenShut
import Derived.ShutString
import Derived.ChangeOld
import Derived.Below
import Derived.SizedLaws
import Derived.ChangeSlices
import Derived.KernelRfl
namespace Go.Proofs.Ytiejegalokncgaa.RowQueuePlays
open Go.ChangeShapes Go.WideShapes Go.ChangeAt Go.RowKit Go.Proofs.YtiejegalokncgaaW.PrintWords Go.Proofs.Ytiejegalokncgaa.Bridge Go.Proofs.Ytiejegalokncgaa
open Go.ChangeMaps (open_string shut_string)
set_option linter.unusedVariables false
set_option linter.unusedSimpArgs false
theorem own : ownKnob Try.prog.godebug = none := by kernel_rfl
theorem laidOut : laidOutB Try.prog = true := by kernel_rfl
theorem sized {H : Type} {P : Program} {ts : List TypeId} {ds : List (DataW H)} {j : Nat} {t : TypeId} {d : DataW H} (hsz : (DataW.weightsEach P ts ds).all (· ≤ reachBytes) = true) (ht : ts[j]? = some t) (hd : ds[j]? = some d) : ∀ n ∈ d.weights P t, n ≤ reachBytes := fun n hn => by
  have := List.all_eq_true.1 hsz _ (DataW.weights_mem_each ht hd n hn)
  simpa using this
set_option maxRecDepth 100000 in
theorem lifted (os : Os) (started : os.Started) (H : Type) (enc : TypeId × Value → H) :
    ReturnsInHanded {} Try.checked os 5 .any (Rows.queuePlaysSpec.pre6 enc Try.prog Try.f5 Rows.queuePlaysRow.domain false) (Rows.queuePlaysSpec.post enc Try.prog Try.f5 false true false false) := by
  refine returnsInHanded_of_change_sized (C := Try.checked) own started (by kernel_rfl) Try.func5
    (ChangeSpec.witness6 (enc := enc) (C := Try.checked) false ⟨#[], #[.slice none 0 0], []⟩ 8 (by kernel_rfl) (by kernel_rfl) (by kernel_rfl) (by kernel_rfl)) ?_
  intro W base args ds gs before hval0 hW hcnd hsz0 _
  have hsz : (DataW.weightsEach Try.prog (Try.f5.params.toList ++ Rows.queuePlaysSpec.plain.varTypes Try.prog) (ds ++ gs)).all (· ≤ reachBytes) = true := hsz0
  have hval : ∀ (j : Nat) t v, Try.f5.params[j]? = some t → args[j]? = some v → Value.okWide Try.prog W .any base t v := hval0
  have hW' := hW
  obtain ⟨p, q, hA0, hV, rfl, hfz, hnd⟩ := hW
  have hA : DataW.TrodAll enc Try.prog W 0 (fun _ => true) true Try.f5.params.toList args.toList ds p := hA0
  rw [Try.params5] at hA hval hsz
  obtain ⟨v0, vs0, d0, ds0, p0, q0, hargs, rfl, rfl, h0, r0⟩ := trodAll_cons hA
  obtain ⟨rfl, rfl, rfl⟩ := trodAll_nil r0
  obtain rfl : args = #[v0] := by cases args; simp_all
  obtain ⟨rfl, rfl⟩ := trodVars_none hV
  obtain ⟨a0, len0, cap0, rfl⟩ := okWide_slice Try.underlying33 (hval 0 33 v0 rfl rfl)
  have k0 := h0
  have lt0 : ∀ x ∈ p0, x.block < W.heap.size := by obtain ⟨m, hm⟩ := k0; exact DataW.trod_lt m _ _ _ hm
  obtain ⟨l0, hc0, hK0, hG0⟩ : ∃ l : (List TAct), l.length = len0 ∧ (len0 ≤ cap0 ∧ Kd.C kAct W a0 len0 l) ∧ (l.length ≤ maxLen ∧ l.length * 24 ≤ 140737488351232 ∧ ∀ y ∈ l, GAct y) := by
    obtain ⟨fuel, hf⟩ := h0
    obtain ⟨l, ⟨B, c, hcs, hl, hC⟩, hG⟩ := ((rd_slice (B := 24) Try.underlying33 (by kernel_rfl) (by kernel_rfl) datAct) : Rd enc Try.prog W 33 (Kd.slice 39 kAct) _) fuel _ _ _ hf (sized hsz (j := 0) rfl rfl)
    simp only [Value.cells, List.cons.injEq, Value.slice.injEq, and_true] at hcs
    obtain ⟨rfl, rfl, rfl⟩ := hcs
    exact ⟨l, rfl, ⟨hl, hC⟩, hG⟩
  subst hc0
  clear hA0 hval0 hsz0 hsz
  refine (queuePlays_row l0 a0 cap0 W hG0 hK0.1 hK0.2).mono fun e W' ⟨he, bel⟩ => ?_
  subst he
  exact ⟨_, rfl, _, _, _, [], _, [], hW', trodAll_mk1 (shut_bool Try.underlying4 _), (trodAll_cons_mk (Below.trod laidOut (by kernel_rfl) (of_decide_eq_true (by kernel_rfl)) k0 bel lt0) trodAll_mk0), rfl, bel.frame _, fun h => by cases h⟩
set_option maxHeartbeats 8000000 in
theorem closed : joinedFacts Try.pinned.checked.prog 5 Try.f5 Rows.queuePlaysSpec Rows.queuePlaysRow = true := by
  unfold joinedFacts
  repeat' (with_reducible refine FactsA.and_mk ?_ ?_)
  all_goals (first | (with_reducible first | exact FactsA.p1 | exact FactsA.p2 | exact FactsA.p3 | exact FactsA.p4 | exact FactsA.p6 | exact FactsA.p7) | (rw [FactsA.p5]; as_aux_lemma => kernel_rfl) | (rw [FactsA.p8]; as_aux_lemma => kernel_rfl) | (rw [FactsA.p9]; as_aux_lemma => kernel_rfl) | (as_aux_lemma => kernel_rfl))
theorem over : Rows.queuePlaysRow.holds Try.pinned (OpenSpec.ofChange Rows.queuePlaysSpec) :=
  OpenClaim.holds_of_wide 5 Try.f5 rfl rfl rfl rfl rfl rfl rfl ⟨rfl, rfl, rfl, rfl, rfl⟩ rfl rfl rfl rfl rfl (by kernel_rfl) Try.func5 closed
    (of_decide_eq_true (by kernel_rfl)) (by unfold Func.isWrapper; first | (rw [if_pos (by decide +kernel)]; kernel_rfl) | (rw [if_neg (by decide +kernel)]; exact ⟨rfl, rfl⟩))
    (fun os started H enc _ => lifted os started H enc)
theorem proved : Rows.QueuePlaysSaid := over
#print axioms proved
end Go.Proofs.Ytiejegalokncgaa.RowQueuePlays
namespace Go.Proofs.Ytiejegalokncgaa
/-- The row, under a short name, for the claim. -/
theorem queuePlays_holds : Rows.QueuePlaysSaid := RowQueuePlays.proved
end Go.Proofs.Ytiejegalokncgaa
