/- HoursChecks holds for every input. The arguments are opened as the printed kinds, the printed contract is called, and they read afterwards as before.
Conditions: none beyond the given row's. -/
import Derived.Test.YtoinhkilgijilaaRows
import Derived.Test.YtoinhkilgijilaaKHoursChecks
import Derived.Test.YtoinhkilgijilaaLHoursChecks
import Derived.WalkKit
import Derived.ProofKit
import Derived.OpenShut
import Derived.ShutString
import Derived.ChangeOld
import Derived.Below
import Derived.SizedLaws
import Derived.ChangeSlices
import Derived.KernelRfl
namespace Go.Proofs.Ytoinhkilgijilaa.RowHoursChecks
open Go.ChangeShapes Go.WideShapes Go.ChangeAt Go.RowKit Go.Proofs.YtoinhkilgijilaaW.PrintWords Go.Proofs.Ytoinhkilgijilaa.Bridge Go.Proofs.Ytoinhkilgijilaa.PHoursChecks
open Go.ChangeMaps (open_string shut_string)
set_option linter.unusedVariables false
set_option linter.unusedSimpArgs false
theorem own : ownKnob Try.prog.godebug = none := by kernel_rfl
theorem laidOut : laidOutB Try.prog = true := by kernel_rfl
theorem sized {H : Type} {P : Program} {ts : List TypeId} {ds : List (DataW H)} {j : Nat} {t : TypeId} {d : DataW H} (hsz : (DataW.weightsEach P ts ds).all (· ≤ reachBytes) = true) (ht : ts[j]? = some t) (hd : ds[j]? = some d) : ∀ n ∈ d.weights P t, n ≤ reachBytes := fun n hn => by
  have := List.all_eq_true.1 hsz _ (DataW.weights_mem_each ht hd n hn)
  simpa using this
set_option maxRecDepth 100000 in
theorem lifted (os : Os) (started : os.Started) (H : Type) (enc : TypeId × Value → H) :
    ReturnsInHanded {} Try.checked os 6 .any (Rows.hoursChecksSpec.pre6 enc Try.prog Try.f6 Rows.hoursChecksRow.domain false) (Rows.hoursChecksSpec.post enc Try.prog Try.f6 false true false false) := by
  refine returnsInHanded_of_change_sized (C := Try.checked) own started (by kernel_rfl) Try.func6
    (ChangeSpec.witness6 (enc := enc) (C := Try.checked) false ⟨#[], #[.slice none 0 0], []⟩ 8 (by kernel_rfl) (by kernel_rfl) (by kernel_rfl) (by kernel_rfl)) ?_
  intro W base args ds gs before hval0 hW hcnd hsz0 _
  have hsz : (DataW.weightsEach Try.prog (Try.f6.params.toList ++ Rows.hoursChecksSpec.plain.varTypes Try.prog) (ds ++ gs)).all (· ≤ reachBytes) = true := hsz0
  have hval : ∀ (j : Nat) t v, Try.f6.params[j]? = some t → args[j]? = some v → Value.okWide Try.prog W .any base t v := hval0
  have hW' := hW
  obtain ⟨p, q, hA0, hV, rfl, hfz, hnd⟩ := hW
  have hA : DataW.TrodAll enc Try.prog W 0 (fun _ => true) true Try.f6.params.toList args.toList ds p := hA0
  rw [Try.params6] at hA hval hsz
  obtain ⟨v0, vs0, d0, ds0, p0, q0, hargs, rfl, rfl, h0, r0⟩ := trodAll_cons hA
  obtain ⟨rfl, rfl, rfl⟩ := trodAll_nil r0
  obtain rfl : args = #[v0] := by cases args; simp_all
  obtain ⟨rfl, rfl⟩ := trodVars_none hV
  obtain ⟨a0, len0, cap0, rfl⟩ := okWide_slice Try.underlying22 (hval 0 22 v0 rfl rfl)
  have k0 := h0
  have lt0 : ∀ x ∈ p0, x.block < W.heap.size := by obtain ⟨m, hm⟩ := k0; exact DataW.trod_lt m _ _ _ hm
  obtain ⟨l0, hc0, hK0, hG0⟩ : ∃ l : (List S32), l.length = len0 ∧ (len0 ≤ cap0 ∧ Kd.C k32 W a0 len0 l) ∧ (l.length ≤ maxLen ∧ l.length * 16 ≤ 140737488351232 ∧ ∀ y ∈ l, G32 y) := by
    obtain ⟨fuel, hf⟩ := h0
    obtain ⟨l, ⟨B, c, hcs, hl, hC⟩, hG⟩ := ((rd_slice (B := 16) Try.underlying22 (by kernel_rfl) (by kernel_rfl) (rd32 (H := H) (enc := enc) (W := W))) : Rd enc Try.prog W 22 (Kd.slice 32 k32) _) fuel _ _ _ hf (sized hsz (j := 0) rfl rfl)
    simp only [Value.cells, List.cons.injEq, Value.slice.injEq, and_true] at hcs
    obtain ⟨rfl, rfl, rfl⟩ := hcs
    exact ⟨l, rfl, ⟨hl, hC⟩, hG⟩
  subst hc0
  clear hA0 hval0 hsz0 hsz
  obtain ⟨k, h⟩ := law l0 hG0
  refine (haulierlaw11_HoursChecks.calls k a0 cap0 l0 true W hK0.2 hK0.1 h).mono fun e W' ⟨he, bel⟩ => ?_
  subst he
  exact ⟨_, rfl, _, _, _, [], _, [], hW', trodAll_mk1 (shut_bool Try.underlying4 _), (trodAll_cons_mk (Below.trod laidOut (by kernel_rfl) (of_decide_eq_true (by kernel_rfl)) k0 bel lt0) trodAll_mk0), rfl, bel.frame _, fun h => by cases h⟩
theorem over : Rows.hoursChecksRow.holds Try.pinned (OpenSpec.ofChange Rows.hoursChecksSpec) :=
  OpenClaim.holds_of_wide 6 Try.f6 rfl rfl rfl rfl rfl rfl rfl ⟨rfl, rfl, rfl, rfl, rfl⟩ rfl rfl rfl rfl rfl (by kernel_rfl) Try.func6 (by kernel_rfl)
    (of_decide_eq_true (by kernel_rfl)) (by unfold Func.isWrapper; first | (rw [if_pos (by decide +kernel)]; kernel_rfl) | (rw [if_neg (by decide +kernel)]; exact ⟨rfl, rfl⟩))
    (fun os started H enc _ => lifted os started H enc)
theorem proved : Rows.HoursChecksSaid := over
#print axioms proved
end Go.Proofs.Ytoinhkilgijilaa.RowHoursChecks
namespace Go.Proofs.Ytoinhkilgijilaa
/-- The row, under a short name, for the claim. -/
theorem hoursChecks_holds : Rows.HoursChecksSaid := RowHoursChecks.proved
end Go.Proofs.Ytoinhkilgijilaa
