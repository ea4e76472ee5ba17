/-
  No cell of these rows narrows 'for every input' (looked for: loops, veiled, ifaces, maps, wideKeys, modest, calm, conditions, laid).
  DERIVED. THE GIVEN ROWS OF THIS SEAT. 4 by the template 'for every input the law returns true; each argument reads behind the call as it read before'; 0 by the template 'total and deterministic' (their statements: YtoinhkilgijilaaTotals.lean).
  GIVEN WITH THE SEED: the statements are not yours to turn. If you find one false, say at which input.
  Laid BY PROGRAM, IN A SANDBOX (cutbox-rows.mjs): the forced cells as the released guide's own fill.sh prints them over the translation 15c9ed6e94d751fd… (all of the seat's roots in one cut). By AI agents, Wed Nov 11 2026. No macro, syntax, notation, axiom, sorry.
-/
import Derived.Test.YtoinhkilgijilaaChecked
import GoSem.Claim
import GoSem.ClaimJoined
import GoSem.ClaimMapViews
import Derived.JoinedTies
import Derived.KernelRfl
namespace Go.Proofs.Ytoinhkilgijilaa
/- THE CELL 'sum', in the pinned program and in every row, IS THE sha256 OF THE DUMP (.gsa) THAT YtoinhkilgijilaaProg.lean LOADS. Nothing in Lean hashes anything: it is a label: what it is worth is what the hold of that sum in a sandbox is worth. -/
noncomputable def Try.pinned : Pinned := { name := "ytoinhkilgijilaa", sum := "15c9ed6e94d751fd5b4ceda15323afdc4c5e5affa0dd9d3577e37d1c04308c8b", checked := Try.checked }
namespace Rows
def none {H : Type} : Left H := { results := [], args := [] }

/-- 'haulierlaw11.HoursFinds': WHATEVER THE INPUT: true; the input reads as it did. -/
def hoursFindsSpec : ChangeSpec := { name := "hoursFinds", fn := fun _ => fun
  | [d1, d2] => { results := [.lit (.bool true)], args := [d1, d2] }
  | _ => none }
def hoursFindsRow : OpenClaim := { program := "ytoinhkilgijilaa", sum := "15c9ed6e94d751fd5b4ceda15323afdc4c5e5affa0dd9d3577e37d1c04308c8b", func := "haulier/haulierlaw11.HoursFinds", spec := "hoursFinds", apart := false }
def HoursFindsSaid : Prop := hoursFindsRow.holds Try.pinned (OpenSpec.ofChange hoursFindsSpec)

/-- ITS FALSE NEIGHBOUR: 'it returns false'. Refute it at one input. -/
def hoursFindsWrong : ChangeSpec := { name := "hoursFinds", fn := fun _ => fun
  | [d1, d2] => { results := [.lit (.bool false)], args := [d1, d2] }
  | _ => none }
def HoursFindsWrongFalsely : Prop := hoursFindsRow.holds Try.pinned (OpenSpec.ofChange hoursFindsWrong)

/-- 'haulierlaw11.HoursNear': WHATEVER THE INPUT: true; the input reads as it did. -/
def hoursNearSpec : ChangeSpec := { name := "hoursNear", fn := fun _ => fun
  | [d1, d2, d3] => { results := [.lit (.bool true)], args := [d1, d2, d3] }
  | _ => none }
def hoursNearRow : OpenClaim := { program := "ytoinhkilgijilaa", sum := "15c9ed6e94d751fd5b4ceda15323afdc4c5e5affa0dd9d3577e37d1c04308c8b", func := "haulier/haulierlaw11.HoursNear", spec := "hoursNear", apart := false }
def HoursNearSaid : Prop := hoursNearRow.holds Try.pinned (OpenSpec.ofChange hoursNearSpec)

/-- ITS FALSE NEIGHBOUR: 'it returns false'. Refute it at one input. -/
def hoursNearWrong : ChangeSpec := { name := "hoursNear", fn := fun _ => fun
  | [d1, d2, d3] => { results := [.lit (.bool false)], args := [d1, d2, d3] }
  | _ => none }
def HoursNearWrongFalsely : Prop := hoursNearRow.holds Try.pinned (OpenSpec.ofChange hoursNearWrong)

/-- 'haulierlaw11.HoursWider': WHATEVER THE INPUT: true; the input reads as it did. -/
def hoursWiderSpec : ChangeSpec := { name := "hoursWider", fn := fun _ => fun
  | [d1, d2, d3, d4] => { results := [.lit (.bool true)], args := [d1, d2, d3, d4] }
  | _ => none }
def hoursWiderRow : OpenClaim := { program := "ytoinhkilgijilaa", sum := "15c9ed6e94d751fd5b4ceda15323afdc4c5e5affa0dd9d3577e37d1c04308c8b", func := "haulier/haulierlaw11.HoursWider", spec := "hoursWider", apart := false }
def HoursWiderSaid : Prop := hoursWiderRow.holds Try.pinned (OpenSpec.ofChange hoursWiderSpec)

/-- ITS FALSE NEIGHBOUR: 'it returns false'. Refute it at one input. -/
def hoursWiderWrong : ChangeSpec := { name := "hoursWider", fn := fun _ => fun
  | [d1, d2, d3, d4] => { results := [.lit (.bool false)], args := [d1, d2, d3, d4] }
  | _ => none }
def HoursWiderWrongFalsely : Prop := hoursWiderRow.holds Try.pinned (OpenSpec.ofChange hoursWiderWrong)

/-- 'haulierlaw11.HoursChecks': WHATEVER THE INPUT: true; the input reads as it did. -/
def hoursChecksSpec : ChangeSpec := { name := "hoursChecks", fn := fun _ => fun
  | [d] => { results := [.lit (.bool true)], args := [d] }
  | _ => none }
def hoursChecksRow : OpenClaim := { program := "ytoinhkilgijilaa", sum := "15c9ed6e94d751fd5b4ceda15323afdc4c5e5affa0dd9d3577e37d1c04308c8b", func := "haulier/haulierlaw11.HoursChecks", spec := "hoursChecks", apart := false }
def HoursChecksSaid : Prop := hoursChecksRow.holds Try.pinned (OpenSpec.ofChange hoursChecksSpec)

/-- ITS FALSE NEIGHBOUR: 'it returns false'. Refute it at one input. -/
def hoursChecksWrong : ChangeSpec := { name := "hoursChecks", fn := fun _ => fun
  | [d] => { results := [.lit (.bool false)], args := [d] }
  | _ => none }
def HoursChecksWrongFalsely : Prop := hoursChecksRow.holds Try.pinned (OpenSpec.ofChange hoursChecksWrong)

/- THE SECOND FORM. 'bulk': how many values and letters a reading holds, each counted each time it is reached (what is shared counts as often as it is met; a slice's spare places count too). A statement '..UptoSaid' is the law's where the arguments, and the package variables that the reading takes, are together of bulk at most 1048576: NARROWER than '..Said'. Prove '..Said' where nothing that the law and all that it calls make is longer than what came in: it says more and counts as full. Else prove '..UptoSaid'. A law counts once. -/
mutual
def uptoBulk {H : Type} : DataW H → Nat
  | .lit (.string bytes) => bytes.length + 1
  | .lit _ => 1
  | .nil => 1
  | .ptr d => uptoBulk d + 1
  | .slice elems spare => uptoBulkAll elems + uptoBulkAll spare + 1
  | .agg parts => uptoBulkAll parts + 1
  | .iface _ d => uptoBulk d + 1
  | .map entries => uptoBulkEntries entries + 1
  | .held _ => 1
def uptoBulkAll {H : Type} : List (DataW H) → Nat
  | [] => 0
  | d :: r => uptoBulk d + uptoBulkAll r
def uptoBulkEntries {H : Type} : List (Lit × DataW H) → Nat
  | [] => 0
  | x :: r => uptoBulkEntry x + uptoBulkEntries r
def uptoBulkEntry {H : Type} : Lit × DataW H → Nat
  | (.string bytes, d) => bytes.length + uptoBulk d + 1
  | (_, d) => uptoBulk d + 1
 end
def uptoSmall : (H : Type) → List (DataW H) → Bool := fun _ ds => decide (uptoBulkAll ds ≤ 1048576)
def OpenSpec.upto (s : _root_.Go.ChangeSpec) : _root_.Go.OpenSpec := { _root_.Go.OpenSpec.ofChange s with cond := some uptoSmall }

/-- 'haulierlaw11.HoursFinds', WHERE WHAT IT READS IS OF BULK AT MOST 1048576: true; the input reads as it did. -/
def hoursFindsUptoRow : OpenClaim := { program := "ytoinhkilgijilaa", sum := "15c9ed6e94d751fd5b4ceda15323afdc4c5e5affa0dd9d3577e37d1c04308c8b", func := "haulier/haulierlaw11.HoursFinds", spec := "hoursFinds", apart := false, narrowed := true }
def HoursFindsUptoSaid : Prop := hoursFindsUptoRow.holds Try.pinned (OpenSpec.upto hoursFindsSpec)

/-- 'haulierlaw11.HoursNear', WHERE WHAT IT READS IS OF BULK AT MOST 1048576: true; the input reads as it did. -/
def hoursNearUptoRow : OpenClaim := { program := "ytoinhkilgijilaa", sum := "15c9ed6e94d751fd5b4ceda15323afdc4c5e5affa0dd9d3577e37d1c04308c8b", func := "haulier/haulierlaw11.HoursNear", spec := "hoursNear", apart := false, narrowed := true }
def HoursNearUptoSaid : Prop := hoursNearUptoRow.holds Try.pinned (OpenSpec.upto hoursNearSpec)

/-- 'haulierlaw11.HoursWider', WHERE WHAT IT READS IS OF BULK AT MOST 1048576: true; the input reads as it did. -/
def hoursWiderUptoRow : OpenClaim := { program := "ytoinhkilgijilaa", sum := "15c9ed6e94d751fd5b4ceda15323afdc4c5e5affa0dd9d3577e37d1c04308c8b", func := "haulier/haulierlaw11.HoursWider", spec := "hoursWider", apart := false, narrowed := true }
def HoursWiderUptoSaid : Prop := hoursWiderUptoRow.holds Try.pinned (OpenSpec.upto hoursWiderSpec)

/-- 'haulierlaw11.HoursChecks', WHERE WHAT IT READS IS OF BULK AT MOST 1048576: true; the input reads as it did. -/
def hoursChecksUptoRow : OpenClaim := { program := "ytoinhkilgijilaa", sum := "15c9ed6e94d751fd5b4ceda15323afdc4c5e5affa0dd9d3577e37d1c04308c8b", func := "haulier/haulierlaw11.HoursChecks", spec := "hoursChecks", apart := false, narrowed := true }
def HoursChecksUptoSaid : Prop := hoursChecksUptoRow.holds Try.pinned (OpenSpec.upto hoursChecksSpec)

end Rows
end Go.Proofs.Ytoinhkilgijilaa
