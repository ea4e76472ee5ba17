/-
  No cell of these rows narrows 'for every input' (looked for: loops, veiled, ifaces, maps, wideKeys, modest, calm, conditions, laid).
  DERIVED. THE GIVEN ROWS OF THIS SEAT. 5 by the template 'for every input the law returns true; each argument reads behind the call as it read before'; 0 by the template 'total and deterministic' (their statements: YtiejegalokncgaaTotals.lean).
  GIVEN WITH THE SEED: the statements are not yours to turn. If you find one false, say at which input.
  Laid BY PROGRAM, IN A SANDBOX (cutbox-rows.mjs): the forced cells as the released guide's own fill.sh prints them over the translation 7df308df30b89815… (all of the seat's roots in one cut). By AI agents, Wed Nov 11 2026. No macro, syntax, notation, axiom, sorry.
-/
import Derived.Test.YtiejegalokncgaaChecked
import GoSem.Claim
import GoSem.ClaimJoined
import GoSem.ClaimMapViews
import Derived.JoinedTies
import Derived.KernelRfl
namespace Go.Proofs.Ytiejegalokncgaa
/- THE CELL 'sum', in the pinned program and in every row, IS THE sha256 OF THE DUMP (.gsa) THAT YtiejegalokncgaaProg.lean LOADS. Nothing in Lean hashes anything: it is a label: what it is worth is what the hold of that sum in a sandbox is worth. -/
noncomputable def Try.pinned : Pinned := { name := "ytiejegalokncgaa", sum := "7df308df30b8981515438f4b5657f9cc89bb5da46ba12c344226f8c8cf88a1a5", checked := Try.checked }
namespace Rows
def none {H : Type} : Left H := { results := [], args := [] }

/-- 'haulierlaw04.QueueSorts': WHATEVER THE INPUT: true; the input reads as it did. -/
def queueSortsSpec : ChangeSpec := { name := "queueSorts", fn := fun _ => fun
  | [d1, d2] => { results := [.lit (.bool true)], args := [d1, d2] }
  | _ => none }
def queueSortsRow : OpenClaim := { program := "ytiejegalokncgaa", sum := "7df308df30b8981515438f4b5657f9cc89bb5da46ba12c344226f8c8cf88a1a5", func := "haulier/haulierlaw04.QueueSorts", spec := "queueSorts", unfollowed := true, recurses := true, apart := false }
def QueueSortsSaid : Prop := queueSortsRow.holds Try.pinned (OpenSpec.ofChange queueSortsSpec)

/-- ITS FALSE NEIGHBOUR: 'it returns false'. Refute it at one input. -/
def queueSortsWrong : ChangeSpec := { name := "queueSorts", fn := fun _ => fun
  | [d1, d2] => { results := [.lit (.bool false)], args := [d1, d2] }
  | _ => none }
def QueueSortsWrongFalsely : Prop := queueSortsRow.holds Try.pinned (OpenSpec.ofChange queueSortsWrong)

/-- 'haulierlaw04.QueueFull': WHATEVER THE INPUT: true; the input reads as it did. -/
def queueFullSpec : ChangeSpec := { name := "queueFull", fn := fun _ => fun
  | [d1, d2] => { results := [.lit (.bool true)], args := [d1, d2] }
  | _ => none }
def queueFullRow : OpenClaim := { program := "ytiejegalokncgaa", sum := "7df308df30b8981515438f4b5657f9cc89bb5da46ba12c344226f8c8cf88a1a5", func := "haulier/haulierlaw04.QueueFull", spec := "queueFull", unfollowed := true, recurses := true, apart := false }
def QueueFullSaid : Prop := queueFullRow.holds Try.pinned (OpenSpec.ofChange queueFullSpec)

/-- ITS FALSE NEIGHBOUR: 'it returns false'. Refute it at one input. -/
def queueFullWrong : ChangeSpec := { name := "queueFull", fn := fun _ => fun
  | [d1, d2] => { results := [.lit (.bool false)], args := [d1, d2] }
  | _ => none }
def QueueFullWrongFalsely : Prop := queueFullRow.holds Try.pinned (OpenSpec.ofChange queueFullWrong)

/-- 'haulierlaw04.QueuePlays': WHATEVER THE INPUT: true; the input reads as it did. -/
def queuePlaysSpec : ChangeSpec := { name := "queuePlays", fn := fun _ => fun
  | [d] => { results := [.lit (.bool true)], args := [d] }
  | _ => none }
def queuePlaysRow : OpenClaim := { program := "ytiejegalokncgaa", sum := "7df308df30b8981515438f4b5657f9cc89bb5da46ba12c344226f8c8cf88a1a5", func := "haulier/haulierlaw04.QueuePlays", spec := "queuePlays", unfollowed := true, recurses := true, apart := false }
def QueuePlaysSaid : Prop := queuePlaysRow.holds Try.pinned (OpenSpec.ofChange queuePlaysSpec)

/-- ITS FALSE NEIGHBOUR: 'it returns false'. Refute it at one input. -/
def queuePlaysWrong : ChangeSpec := { name := "queuePlays", fn := fun _ => fun
  | [d] => { results := [.lit (.bool false)], args := [d] }
  | _ => none }
def QueuePlaysWrongFalsely : Prop := queuePlaysRow.holds Try.pinned (OpenSpec.ofChange queuePlaysWrong)

/-- 'haulierlaw04.QueueNil': WHATEVER THE INPUT: true; the input reads as it did. -/
def queueNilSpec : ChangeSpec := { name := "queueNil", fn := fun _ => fun
  | [d1, d2] => { results := [.lit (.bool true)], args := [d1, d2] }
  | _ => none }
def queueNilRow : OpenClaim := { program := "ytiejegalokncgaa", sum := "7df308df30b8981515438f4b5657f9cc89bb5da46ba12c344226f8c8cf88a1a5", func := "haulier/haulierlaw04.QueueNil", spec := "queueNil", unfollowed := true, recurses := true, apart := false }
def QueueNilSaid : Prop := queueNilRow.holds Try.pinned (OpenSpec.ofChange queueNilSpec)

/-- ITS FALSE NEIGHBOUR: 'it returns false'. Refute it at one input. -/
def queueNilWrong : ChangeSpec := { name := "queueNil", fn := fun _ => fun
  | [d1, d2] => { results := [.lit (.bool false)], args := [d1, d2] }
  | _ => none }
def QueueNilWrongFalsely : Prop := queueNilRow.holds Try.pinned (OpenSpec.ofChange queueNilWrong)

/-- 'haulierlaw04.QueueDrops': WHATEVER THE INPUT: true; the input reads as it did. -/
def queueDropsSpec : ChangeSpec := { name := "queueDrops", fn := fun _ => fun
  | [d1, d2, d3] => { results := [.lit (.bool true)], args := [d1, d2, d3] }
  | _ => none }
def queueDropsRow : OpenClaim := { program := "ytiejegalokncgaa", sum := "7df308df30b8981515438f4b5657f9cc89bb5da46ba12c344226f8c8cf88a1a5", func := "haulier/haulierlaw04.QueueDrops", spec := "queueDrops", unfollowed := true, recurses := true, apart := false }
def QueueDropsSaid : Prop := queueDropsRow.holds Try.pinned (OpenSpec.ofChange queueDropsSpec)

/-- ITS FALSE NEIGHBOUR: 'it returns false'. Refute it at one input. -/
def queueDropsWrong : ChangeSpec := { name := "queueDrops", fn := fun _ => fun
  | [d1, d2, d3] => { results := [.lit (.bool false)], args := [d1, d2, d3] }
  | _ => none }
def QueueDropsWrongFalsely : Prop := queueDropsRow.holds Try.pinned (OpenSpec.ofChange queueDropsWrong)

/- THE SECOND FORM. 'bulk': how many values and letters a reading holds, each counted each time it is reached (what is shared counts as often as it is met; a slice's spare places count too). A statement '..UptoSaid' is the law's where the arguments, and the package variables that the reading takes, are together of bulk at most 1048576: NARROWER than '..Said'. Prove '..Said' where nothing that the law and all that it calls make is longer than what came in: it says more and counts as full. Else prove '..UptoSaid'. A law counts once. -/
mutual
def uptoBulk {H : Type} : DataW H → Nat
  | .lit (.string bytes) => bytes.length + 1
  | .lit _ => 1
  | .nil => 1
  | .ptr d => uptoBulk d + 1
  | .slice elems spare => uptoBulkAll elems + uptoBulkAll spare + 1
  | .agg parts => uptoBulkAll parts + 1
  | .iface _ d => uptoBulk d + 1
  | .map entries => uptoBulkEntries entries + 1
  | .held _ => 1
def uptoBulkAll {H : Type} : List (DataW H) → Nat
  | [] => 0
  | d :: r => uptoBulk d + uptoBulkAll r
def uptoBulkEntries {H : Type} : List (Lit × DataW H) → Nat
  | [] => 0
  | x :: r => uptoBulkEntry x + uptoBulkEntries r
def uptoBulkEntry {H : Type} : Lit × DataW H → Nat
  | (.string bytes, d) => bytes.length + uptoBulk d + 1
  | (_, d) => uptoBulk d + 1
 end
def uptoSmall : (H : Type) → List (DataW H) → Bool := fun _ ds => decide (uptoBulkAll ds ≤ 1048576)
def OpenSpec.upto (s : _root_.Go.ChangeSpec) : _root_.Go.OpenSpec := { _root_.Go.OpenSpec.ofChange s with cond := some uptoSmall }

/-- 'haulierlaw04.QueueSorts', WHERE WHAT IT READS IS OF BULK AT MOST 1048576: true; the input reads as it did. -/
def queueSortsUptoRow : OpenClaim := { program := "ytiejegalokncgaa", sum := "7df308df30b8981515438f4b5657f9cc89bb5da46ba12c344226f8c8cf88a1a5", func := "haulier/haulierlaw04.QueueSorts", spec := "queueSorts", unfollowed := true, recurses := true, apart := false, narrowed := true }
def QueueSortsUptoSaid : Prop := queueSortsUptoRow.holds Try.pinned (OpenSpec.upto queueSortsSpec)

/-- 'haulierlaw04.QueueFull', WHERE WHAT IT READS IS OF BULK AT MOST 1048576: true; the input reads as it did. -/
def queueFullUptoRow : OpenClaim := { program := "ytiejegalokncgaa", sum := "7df308df30b8981515438f4b5657f9cc89bb5da46ba12c344226f8c8cf88a1a5", func := "haulier/haulierlaw04.QueueFull", spec := "queueFull", unfollowed := true, recurses := true, apart := false, narrowed := true }
def QueueFullUptoSaid : Prop := queueFullUptoRow.holds Try.pinned (OpenSpec.upto queueFullSpec)

/-- 'haulierlaw04.QueuePlays', WHERE WHAT IT READS IS OF BULK AT MOST 1048576: true; the input reads as it did. -/
def queuePlaysUptoRow : OpenClaim := { program := "ytiejegalokncgaa", sum := "7df308df30b8981515438f4b5657f9cc89bb5da46ba12c344226f8c8cf88a1a5", func := "haulier/haulierlaw04.QueuePlays", spec := "queuePlays", unfollowed := true, recurses := true, apart := false, narrowed := true }
def QueuePlaysUptoSaid : Prop := queuePlaysUptoRow.holds Try.pinned (OpenSpec.upto queuePlaysSpec)

/-- 'haulierlaw04.QueueNil', WHERE WHAT IT READS IS OF BULK AT MOST 1048576: true; the input reads as it did. -/
def queueNilUptoRow : OpenClaim := { program := "ytiejegalokncgaa", sum := "7df308df30b8981515438f4b5657f9cc89bb5da46ba12c344226f8c8cf88a1a5", func := "haulier/haulierlaw04.QueueNil", spec := "queueNil", unfollowed := true, recurses := true, apart := false, narrowed := true }
def QueueNilUptoSaid : Prop := queueNilUptoRow.holds Try.pinned (OpenSpec.upto queueNilSpec)

/-- 'haulierlaw04.QueueDrops', WHERE WHAT IT READS IS OF BULK AT MOST 1048576: true; the input reads as it did. -/
def queueDropsUptoRow : OpenClaim := { program := "ytiejegalokncgaa", sum := "7df308df30b8981515438f4b5657f9cc89bb5da46ba12c344226f8c8cf88a1a5", func := "haulier/haulierlaw04.QueueDrops", spec := "queueDrops", unfollowed := true, recurses := true, apart := false, narrowed := true }
def QueueDropsUptoSaid : Prop := queueDropsUptoRow.holds Try.pinned (OpenSpec.upto queueDropsSpec)

end Rows
end Go.Proofs.Ytiejegalokncgaa
