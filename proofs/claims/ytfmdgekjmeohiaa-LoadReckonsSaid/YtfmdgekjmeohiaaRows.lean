/-
  No cell of these rows narrows 'for every input' (looked for: loops, veiled, ifaces, maps, wideKeys, modest, calm, conditions, laid).
  DERIVED. THE GIVEN ROWS OF THIS SEAT. 4 by the template 'for every input the law returns true; each argument reads behind the call as it read before'; 0 by the template 'total and deterministic' (their statements: YtfmdgekjmeohiaaTotals.lean).
  GIVEN WITH THE SEED: the statements are not yours to turn. If you find one false, say at which input.
  Laid BY PROGRAM, IN A SANDBOX (cutbox-rows.mjs): the forced cells as the released guide's own fill.sh prints them over the translation f4372401192936a2… (all of the seat's roots in one cut). By AI agents, Wed Nov 11 2026. No macro, syntax, notation, axiom, sorry.
-/
import Derived.Test.YtfmdgekjmeohiaaChecked
import GoSem.Claim
import GoSem.ClaimJoined
import GoSem.ClaimMapViews
import Derived.JoinedTies
import Derived.KernelRfl
namespace Go.Proofs.Ytfmdgekjmeohiaa
/- THE CELL 'sum', in the pinned program and in every row, IS THE sha256 OF THE DUMP (.gsa) THAT YtfmdgekjmeohiaaProg.lean LOADS. Nothing in Lean hashes anything: it is a label: what it is worth is what the hold of that sum in a sandbox is worth. -/
noncomputable def Try.pinned : Pinned := { name := "ytfmdgekjmeohiaa", sum := "f4372401192936a2afded1a45fc5de77c4b586268d57723dd2266a8798169a5e", checked := Try.checked }
namespace Rows
def none {H : Type} : Left H := { results := [], args := [] }

/-- 'haulierlaw09.LoadUnder': WHATEVER THE INPUT: true; the input reads as it did. -/
def loadUnderSpec : ChangeSpec := { name := "loadUnder", fn := fun _ => fun
  | [d1, d2, d3] => { results := [.lit (.bool true)], args := [d1, d2, d3] }
  | _ => none }
def loadUnderRow : OpenClaim := { program := "ytfmdgekjmeohiaa", sum := "f4372401192936a2afded1a45fc5de77c4b586268d57723dd2266a8798169a5e", func := "haulier/haulierlaw09.LoadUnder", spec := "loadUnder", unfollowed := true, recurses := true, apart := false }
def LoadUnderSaid : Prop := loadUnderRow.holds Try.pinned (OpenSpec.ofChange loadUnderSpec)

/-- ITS FALSE NEIGHBOUR: 'it returns false'. Refute it at one input. -/
def loadUnderWrong : ChangeSpec := { name := "loadUnder", fn := fun _ => fun
  | [d1, d2, d3] => { results := [.lit (.bool false)], args := [d1, d2, d3] }
  | _ => none }
def LoadUnderWrongFalsely : Prop := loadUnderRow.holds Try.pinned (OpenSpec.ofChange loadUnderWrong)

/-- 'haulierlaw09.LoadBack': WHATEVER THE INPUT: true; the input reads as it did. -/
def loadBackSpec : ChangeSpec := { name := "loadBack", fn := fun _ => fun
  | [d1, d2] => { results := [.lit (.bool true)], args := [d1, d2] }
  | _ => none }
def loadBackRow : OpenClaim := { program := "ytfmdgekjmeohiaa", sum := "f4372401192936a2afded1a45fc5de77c4b586268d57723dd2266a8798169a5e", func := "haulier/haulierlaw09.LoadBack", spec := "loadBack", unfollowed := true, recurses := true, apart := false }
def LoadBackSaid : Prop := loadBackRow.holds Try.pinned (OpenSpec.ofChange loadBackSpec)

/-- ITS FALSE NEIGHBOUR: 'it returns false'. Refute it at one input. -/
def loadBackWrong : ChangeSpec := { name := "loadBack", fn := fun _ => fun
  | [d1, d2] => { results := [.lit (.bool false)], args := [d1, d2] }
  | _ => none }
def LoadBackWrongFalsely : Prop := loadBackRow.holds Try.pinned (OpenSpec.ofChange loadBackWrong)

/-- 'haulierlaw09.LoadReckons': WHATEVER THE INPUT: true; the input reads as it did. -/
def loadReckonsSpec : ChangeSpec := { name := "loadReckons", fn := fun _ => fun
  | [d1, d2, d3] => { results := [.lit (.bool true)], args := [d1, d2, d3] }
  | _ => none }
def loadReckonsRow : OpenClaim := { program := "ytfmdgekjmeohiaa", sum := "f4372401192936a2afded1a45fc5de77c4b586268d57723dd2266a8798169a5e", func := "haulier/haulierlaw09.LoadReckons", spec := "loadReckons", unfollowed := true, recurses := true, apart := false }
def LoadReckonsSaid : Prop := loadReckonsRow.holds Try.pinned (OpenSpec.ofChange loadReckonsSpec)

/-- ITS FALSE NEIGHBOUR: 'it returns false'. Refute it at one input. -/
def loadReckonsWrong : ChangeSpec := { name := "loadReckons", fn := fun _ => fun
  | [d1, d2, d3] => { results := [.lit (.bool false)], args := [d1, d2, d3] }
  | _ => none }
def LoadReckonsWrongFalsely : Prop := loadReckonsRow.holds Try.pinned (OpenSpec.ofChange loadReckonsWrong)

/-- 'haulierlaw09.LoadZero': WHATEVER THE INPUT: true; the input reads as it did. -/
def loadZeroSpec : ChangeSpec := { name := "loadZero", fn := fun _ => fun
  | [d1, d2] => { results := [.lit (.bool true)], args := [d1, d2] }
  | _ => none }
def loadZeroRow : OpenClaim := { program := "ytfmdgekjmeohiaa", sum := "f4372401192936a2afded1a45fc5de77c4b586268d57723dd2266a8798169a5e", func := "haulier/haulierlaw09.LoadZero", spec := "loadZero", unfollowed := true, recurses := true, apart := false }
def LoadZeroSaid : Prop := loadZeroRow.holds Try.pinned (OpenSpec.ofChange loadZeroSpec)

/-- ITS FALSE NEIGHBOUR: 'it returns false'. Refute it at one input. -/
def loadZeroWrong : ChangeSpec := { name := "loadZero", fn := fun _ => fun
  | [d1, d2] => { results := [.lit (.bool false)], args := [d1, d2] }
  | _ => none }
def LoadZeroWrongFalsely : Prop := loadZeroRow.holds Try.pinned (OpenSpec.ofChange loadZeroWrong)

/- THE SECOND FORM. 'bulk': how many values and letters a reading holds, each counted each time it is reached (what is shared counts as often as it is met; a slice's spare places count too). A statement '..UptoSaid' is the law's where the arguments, and the package variables that the reading takes, are together of bulk at most 1048576: NARROWER than '..Said'. Prove '..Said' where nothing that the law and all that it calls make is longer than what came in: it says more and counts as full. Else prove '..UptoSaid'. A law counts once. -/
mutual
def uptoBulk {H : Type} : DataW H → Nat
  | .lit (.string bytes) => bytes.length + 1
  | .lit _ => 1
  | .nil => 1
  | .ptr d => uptoBulk d + 1
  | .slice elems spare => uptoBulkAll elems + uptoBulkAll spare + 1
  | .agg parts => uptoBulkAll parts + 1
  | .iface _ d => uptoBulk d + 1
  | .map entries => uptoBulkEntries entries + 1
  | .held _ => 1
def uptoBulkAll {H : Type} : List (DataW H) → Nat
  | [] => 0
  | d :: r => uptoBulk d + uptoBulkAll r
def uptoBulkEntries {H : Type} : List (Lit × DataW H) → Nat
  | [] => 0
  | x :: r => uptoBulkEntry x + uptoBulkEntries r
def uptoBulkEntry {H : Type} : Lit × DataW H → Nat
  | (.string bytes, d) => bytes.length + uptoBulk d + 1
  | (_, d) => uptoBulk d + 1
 end
def uptoSmall : (H : Type) → List (DataW H) → Bool := fun _ ds => decide (uptoBulkAll ds ≤ 1048576)
def OpenSpec.upto (s : _root_.Go.ChangeSpec) : _root_.Go.OpenSpec := { _root_.Go.OpenSpec.ofChange s with cond := some uptoSmall }

/-- 'haulierlaw09.LoadUnder', WHERE WHAT IT READS IS OF BULK AT MOST 1048576: true; the input reads as it did. -/
def loadUnderUptoRow : OpenClaim := { program := "ytfmdgekjmeohiaa", sum := "f4372401192936a2afded1a45fc5de77c4b586268d57723dd2266a8798169a5e", func := "haulier/haulierlaw09.LoadUnder", spec := "loadUnder", unfollowed := true, recurses := true, apart := false, narrowed := true }
def LoadUnderUptoSaid : Prop := loadUnderUptoRow.holds Try.pinned (OpenSpec.upto loadUnderSpec)

/-- 'haulierlaw09.LoadBack', WHERE WHAT IT READS IS OF BULK AT MOST 1048576: true; the input reads as it did. -/
def loadBackUptoRow : OpenClaim := { program := "ytfmdgekjmeohiaa", sum := "f4372401192936a2afded1a45fc5de77c4b586268d57723dd2266a8798169a5e", func := "haulier/haulierlaw09.LoadBack", spec := "loadBack", unfollowed := true, recurses := true, apart := false, narrowed := true }
def LoadBackUptoSaid : Prop := loadBackUptoRow.holds Try.pinned (OpenSpec.upto loadBackSpec)

/-- 'haulierlaw09.LoadReckons', WHERE WHAT IT READS IS OF BULK AT MOST 1048576: true; the input reads as it did. -/
def loadReckonsUptoRow : OpenClaim := { program := "ytfmdgekjmeohiaa", sum := "f4372401192936a2afded1a45fc5de77c4b586268d57723dd2266a8798169a5e", func := "haulier/haulierlaw09.LoadReckons", spec := "loadReckons", unfollowed := true, recurses := true, apart := false, narrowed := true }
def LoadReckonsUptoSaid : Prop := loadReckonsUptoRow.holds Try.pinned (OpenSpec.upto loadReckonsSpec)

/-- 'haulierlaw09.LoadZero', WHERE WHAT IT READS IS OF BULK AT MOST 1048576: true; the input reads as it did. -/
def loadZeroUptoRow : OpenClaim := { program := "ytfmdgekjmeohiaa", sum := "f4372401192936a2afded1a45fc5de77c4b586268d57723dd2266a8798169a5e", func := "haulier/haulierlaw09.LoadZero", spec := "loadZero", unfollowed := true, recurses := true, apart := false, narrowed := true }
def LoadZeroUptoSaid : Prop := loadZeroUptoRow.holds Try.pinned (OpenSpec.upto loadZeroSpec)

end Rows
end Go.Proofs.Ytfmdgekjmeohiaa
