/- A problem that reads as data is good: its inner lists are no longer than memory allows.
Conditions: none. -/
import Derived.Test.YtemjpgmfignhnaaGd
import Derived.Test.YtemjpgmfignhnaaM2
namespace Go.Proofs.Ytemjpgmfignhnaa
open Go.RowKit Go.Proofs.YtemjpgmfignhnaaW.PrintWords Go.Proofs.YtemjpgmfignhnaaW.PrintLast Go.Proofs.YtemjpgmfignhnaaW.PrintMore
set_option linter.unusedVariables false
theorem wf_u64 {x : Int} (h : (Lit.int .u64 x).wf = true) : 0 ≤ x ∧ x < 18446744073709551616 := by
 simp [Lit.wf, IntKind.min, IntKind.max, IntKind.signed, IntKind.bits] at h
 omega
theorem len_of {n b : Nat} (hb : 0 < b) (h : n * b ≤ 140737488351232) : n ≤ 140737488351232 := Nat.le_trans (Nat.le_mul_of_pos_right n hb) h
theorem good_of {p : TProblem} (h : GProblem p) : Good p := by
 obtain ⟨_, ⟨_, _, t2, _⟩, ⟨_, _, d2, _⟩, ⟨_, v2, v3⟩, ⟨_, j2, j3⟩, ⟨_, s2, s3⟩⟩ := h
 have a1 := len_of (by decide) t2
 have a2 := len_of (by decide) d2
 have a3 := len_of (by decide) v2
 have a4 := len_of (by decide) j2
 have a5 := len_of (by decide) s2
 refine ⟨⟨by omega, by omega, by omega, by omega, by omega⟩, by omega, fun v hv => ?_, fun j hj => ?_, fun s hs => ?_⟩
 ·obtain ⟨_, _, ⟨_, c2, _⟩, sk, _, _, _, _, _, ⟨_, b2, b3⟩⟩ := v3 v hv
  have b := len_of (by decide) b2
  have c := len_of (by decide) c2
  refine ⟨by omega, by omega, fun x hx => ?_, (wf_u64 sk).1, (wf_u64 sk).2⟩
  obtain ⟨⟨_, w2, _⟩, _⟩ := b3 x hx
  have := len_of (by decide) w2
  omega
 ·obtain ⟨⟨_, _, _, w2, _⟩, ⟨_, c2, _⟩, ⟨_, e2, _⟩, sk, _⟩ := j3 j hj
  have a := len_of (by decide) w2
  have b := len_of (by decide) c2
  have c := len_of (by decide) e2
  exact ⟨by omega, by omega, by omega, (wf_u64 sk).1, (wf_u64 sk).2⟩
 ·obtain ⟨⟨_, _, _, w2, _⟩, ⟨_, _, _, x2, _⟩, ⟨_, c2, _⟩, sk, _⟩ := s3 s hs
  have a := len_of (by decide) w2
  have b := len_of (by decide) x2
  have c := len_of (by decide) c2
  exact ⟨by omega, by omega, by omega, (wf_u64 sk).1, (wf_u64 sk).2⟩
end Go.Proofs.Ytemjpgmfignhnaa
