/-
  No cell of these rows narrows 'for every input' (looked for: loops, veiled, ifaces, maps, wideKeys, modest, calm, conditions, laid).
  DERIVED. THE GIVEN ROWS OF THIS SEAT. 22 by the template 'for every input the law returns true; each argument reads behind the call as it read before'; 0 by the template 'total and deterministic' (their statements: YtemjpgmfignhnaaTotals.lean).
  GIVEN WITH THE SEED: the statements are not yours to turn. If you find one false, say at which input.
  Laid BY PROGRAM, IN A SANDBOX (cutbox-rows.mjs): the forced cells as the released guide's own fill.sh prints them over the translation 390e4c512fdc1e19… (all of the seat's roots in one cut). By AI agents, Wed Nov 11 2026. No macro, syntax, notation, axiom, sorry.
-/
import Derived.Test.YtemjpgmfignhnaaChecked
import GoSem.Claim
import GoSem.ClaimJoined
import GoSem.ClaimMapViews
import Derived.JoinedTies
import Derived.KernelRfl
namespace Go.Proofs.Ytemjpgmfignhnaa
/- THE CELL 'sum', in the pinned program and in every row, IS THE sha256 OF THE DUMP (.gsa) THAT YtemjpgmfignhnaaProg.lean LOADS. Nothing in Lean hashes anything: it is a label: what it is worth is what the hold of that sum in a sandbox is worth. -/
noncomputable def Try.pinned : Pinned := { name := "ytemjpgmfignhnaa", sum := "390e4c512fdc1e1923d34205fc85a418d7d0196de0800e66099d02dbee114bf8", checked := Try.checked }
namespace Rows
def none {H : Type} : Left H := { results := [], args := [] }

/-- 'haulierlaw12.ModelChecks': WHATEVER THE INPUT: true; the input reads as it did. -/
def modelChecksSpec : ChangeSpec := { name := "modelChecks", fn := fun _ => fun
  | [d] => { results := [.lit (.bool true)], args := [d] }
  | _ => none }
def modelChecksRow : OpenClaim := { program := "ytemjpgmfignhnaa", sum := "390e4c512fdc1e1923d34205fc85a418d7d0196de0800e66099d02dbee114bf8", func := "haulier/haulierlaw12.ModelChecks", spec := "modelChecks", unfollowed := true, recurses := true, plainKeys := false, apart := false }
def ModelChecksSaid : Prop := modelChecksRow.holds Try.pinned (OpenSpec.ofChange modelChecksSpec)

/-- ITS FALSE NEIGHBOUR: 'it returns false'. Refute it at one input. -/
def modelChecksWrong : ChangeSpec := { name := "modelChecks", fn := fun _ => fun
  | [d] => { results := [.lit (.bool false)], args := [d] }
  | _ => none }
def ModelChecksWrongFalsely : Prop := modelChecksRow.holds Try.pinned (OpenSpec.ofChange modelChecksWrong)

/-- 'haulierlaw12.ModelCells': WHATEVER THE INPUT: true; the input reads as it did. -/
def modelCellsSpec : ChangeSpec := { name := "modelCells", fn := fun _ => fun
  | [d1, d2, d3] => { results := [.lit (.bool true)], args := [d1, d2, d3] }
  | _ => none }
def modelCellsRow : OpenClaim := { program := "ytemjpgmfignhnaa", sum := "390e4c512fdc1e1923d34205fc85a418d7d0196de0800e66099d02dbee114bf8", func := "haulier/haulierlaw12.ModelCells", spec := "modelCells", unfollowed := true, recurses := true, plainKeys := false, apart := false }
def ModelCellsSaid : Prop := modelCellsRow.holds Try.pinned (OpenSpec.ofChange modelCellsSpec)

/-- ITS FALSE NEIGHBOUR: 'it returns false'. Refute it at one input. -/
def modelCellsWrong : ChangeSpec := { name := "modelCells", fn := fun _ => fun
  | [d1, d2, d3] => { results := [.lit (.bool false)], args := [d1, d2, d3] }
  | _ => none }
def ModelCellsWrongFalsely : Prop := modelCellsRow.holds Try.pinned (OpenSpec.ofChange modelCellsWrong)

/-- 'haulierlaw12.ModelMore': WHATEVER THE INPUT: true; the input reads as it did. -/
def modelMoreSpec : ChangeSpec := { name := "modelMore", fn := fun _ => fun
  | [d1, d2] => { results := [.lit (.bool true)], args := [d1, d2] }
  | _ => none }
def modelMoreRow : OpenClaim := { program := "ytemjpgmfignhnaa", sum := "390e4c512fdc1e1923d34205fc85a418d7d0196de0800e66099d02dbee114bf8", func := "haulier/haulierlaw12.ModelMore", spec := "modelMore", unfollowed := true, recurses := true, plainKeys := false, apart := false }
def ModelMoreSaid : Prop := modelMoreRow.holds Try.pinned (OpenSpec.ofChange modelMoreSpec)

/-- ITS FALSE NEIGHBOUR: 'it returns false'. Refute it at one input. -/
def modelMoreWrong : ChangeSpec := { name := "modelMore", fn := fun _ => fun
  | [d1, d2] => { results := [.lit (.bool false)], args := [d1, d2] }
  | _ => none }
def ModelMoreWrongFalsely : Prop := modelMoreRow.holds Try.pinned (OpenSpec.ofChange modelMoreWrong)

/-- 'haulierlaw12.ModelStops': WHATEVER THE INPUT: true; the input reads as it did. -/
def modelStopsSpec : ChangeSpec := { name := "modelStops", fn := fun _ => fun
  | [d1, d2] => { results := [.lit (.bool true)], args := [d1, d2] }
  | _ => none }
def modelStopsRow : OpenClaim := { program := "ytemjpgmfignhnaa", sum := "390e4c512fdc1e1923d34205fc85a418d7d0196de0800e66099d02dbee114bf8", func := "haulier/haulierlaw12.ModelStops", spec := "modelStops", unfollowed := true, recurses := true, plainKeys := false, apart := false }
def ModelStopsSaid : Prop := modelStopsRow.holds Try.pinned (OpenSpec.ofChange modelStopsSpec)

/-- ITS FALSE NEIGHBOUR: 'it returns false'. Refute it at one input. -/
def modelStopsWrong : ChangeSpec := { name := "modelStops", fn := fun _ => fun
  | [d1, d2] => { results := [.lit (.bool false)], args := [d1, d2] }
  | _ => none }
def ModelStopsWrongFalsely : Prop := modelStopsRow.holds Try.pinned (OpenSpec.ofChange modelStopsWrong)

/-- 'haulierlaw12.ModelTasks': WHATEVER THE INPUT: true; the input reads as it did. -/
def modelTasksSpec : ChangeSpec := { name := "modelTasks", fn := fun _ => fun
  | [d] => { results := [.lit (.bool true)], args := [d] }
  | _ => none }
def modelTasksRow : OpenClaim := { program := "ytemjpgmfignhnaa", sum := "390e4c512fdc1e1923d34205fc85a418d7d0196de0800e66099d02dbee114bf8", func := "haulier/haulierlaw12.ModelTasks", spec := "modelTasks", unfollowed := true, recurses := true, plainKeys := false, apart := false }
def ModelTasksSaid : Prop := modelTasksRow.holds Try.pinned (OpenSpec.ofChange modelTasksSpec)

/-- ITS FALSE NEIGHBOUR: 'it returns false'. Refute it at one input. -/
def modelTasksWrong : ChangeSpec := { name := "modelTasks", fn := fun _ => fun
  | [d] => { results := [.lit (.bool false)], args := [d] }
  | _ => none }
def ModelTasksWrongFalsely : Prop := modelTasksRow.holds Try.pinned (OpenSpec.ofChange modelTasksWrong)

/-- 'haulierlaw12.ModelAsks': WHATEVER THE INPUT: true; the input reads as it did. -/
def modelAsksSpec : ChangeSpec := { name := "modelAsks", fn := fun _ => fun
  | [d1, d2, d3] => { results := [.lit (.bool true)], args := [d1, d2, d3] }
  | _ => none }
def modelAsksRow : OpenClaim := { program := "ytemjpgmfignhnaa", sum := "390e4c512fdc1e1923d34205fc85a418d7d0196de0800e66099d02dbee114bf8", func := "haulier/haulierlaw12.ModelAsks", spec := "modelAsks", unfollowed := true, recurses := true, plainKeys := false, apart := false }
def ModelAsksSaid : Prop := modelAsksRow.holds Try.pinned (OpenSpec.ofChange modelAsksSpec)

/-- ITS FALSE NEIGHBOUR: 'it returns false'. Refute it at one input. -/
def modelAsksWrong : ChangeSpec := { name := "modelAsks", fn := fun _ => fun
  | [d1, d2, d3] => { results := [.lit (.bool false)], args := [d1, d2, d3] }
  | _ => none }
def ModelAsksWrongFalsely : Prop := modelAsksRow.holds Try.pinned (OpenSpec.ofChange modelAsksWrong)

/-- 'haulierlaw13.PlanSteps': WHATEVER THE INPUT: true; the input reads as it did. -/
def planStepsSpec : ChangeSpec := { name := "planSteps", fn := fun _ => fun
  | [d1, d2, d3] => { results := [.lit (.bool true)], args := [d1, d2, d3] }
  | _ => none }
def planStepsRow : OpenClaim := { program := "ytemjpgmfignhnaa", sum := "390e4c512fdc1e1923d34205fc85a418d7d0196de0800e66099d02dbee114bf8", func := "haulier/haulierlaw13.PlanSteps", spec := "planSteps", unfollowed := true, recurses := true, plainKeys := false, apart := false }
def PlanStepsSaid : Prop := planStepsRow.holds Try.pinned (OpenSpec.ofChange planStepsSpec)

/-- ITS FALSE NEIGHBOUR: 'it returns false'. Refute it at one input. -/
def planStepsWrong : ChangeSpec := { name := "planSteps", fn := fun _ => fun
  | [d1, d2, d3] => { results := [.lit (.bool false)], args := [d1, d2, d3] }
  | _ => none }
def PlanStepsWrongFalsely : Prop := planStepsRow.holds Try.pinned (OpenSpec.ofChange planStepsWrong)

/-- 'haulierlaw13.PlanFits': WHATEVER THE INPUT: true; the input reads as it did. -/
def planFitsSpec : ChangeSpec := { name := "planFits", fn := fun _ => fun
  | [d1, d2, d3] => { results := [.lit (.bool true)], args := [d1, d2, d3] }
  | _ => none }
def planFitsRow : OpenClaim := { program := "ytemjpgmfignhnaa", sum := "390e4c512fdc1e1923d34205fc85a418d7d0196de0800e66099d02dbee114bf8", func := "haulier/haulierlaw13.PlanFits", spec := "planFits", unfollowed := true, recurses := true, plainKeys := false, apart := false }
def PlanFitsSaid : Prop := planFitsRow.holds Try.pinned (OpenSpec.ofChange planFitsSpec)

/-- ITS FALSE NEIGHBOUR: 'it returns false'. Refute it at one input. -/
def planFitsWrong : ChangeSpec := { name := "planFits", fn := fun _ => fun
  | [d1, d2, d3] => { results := [.lit (.bool false)], args := [d1, d2, d3] }
  | _ => none }
def PlanFitsWrongFalsely : Prop := planFitsRow.holds Try.pinned (OpenSpec.ofChange planFitsWrong)

/-- 'haulierlaw13.PlanLoads': WHATEVER THE INPUT: true; the input reads as it did. -/
def planLoadsSpec : ChangeSpec := { name := "planLoads", fn := fun _ => fun
  | [d1, d2, d3, d4] => { results := [.lit (.bool true)], args := [d1, d2, d3, d4] }
  | _ => none }
def planLoadsRow : OpenClaim := { program := "ytemjpgmfignhnaa", sum := "390e4c512fdc1e1923d34205fc85a418d7d0196de0800e66099d02dbee114bf8", func := "haulier/haulierlaw13.PlanLoads", spec := "planLoads", unfollowed := true, recurses := true, plainKeys := false, apart := false }
def PlanLoadsSaid : Prop := planLoadsRow.holds Try.pinned (OpenSpec.ofChange planLoadsSpec)

/-- ITS FALSE NEIGHBOUR: 'it returns false'. Refute it at one input. -/
def planLoadsWrong : ChangeSpec := { name := "planLoads", fn := fun _ => fun
  | [d1, d2, d3, d4] => { results := [.lit (.bool false)], args := [d1, d2, d3, d4] }
  | _ => none }
def PlanLoadsWrongFalsely : Prop := planLoadsRow.holds Try.pinned (OpenSpec.ofChange planLoadsWrong)

/-- 'haulierlaw13.PlanRight': WHATEVER THE INPUT: true; the input reads as it did. -/
def planRightSpec : ChangeSpec := { name := "planRight", fn := fun _ => fun
  | [d1, d2, d3] => { results := [.lit (.bool true)], args := [d1, d2, d3] }
  | _ => none }
def planRightRow : OpenClaim := { program := "ytemjpgmfignhnaa", sum := "390e4c512fdc1e1923d34205fc85a418d7d0196de0800e66099d02dbee114bf8", func := "haulier/haulierlaw13.PlanRight", spec := "planRight", unfollowed := true, recurses := true, plainKeys := false, apart := false }
def PlanRightSaid : Prop := planRightRow.holds Try.pinned (OpenSpec.ofChange planRightSpec)

/-- ITS FALSE NEIGHBOUR: 'it returns false'. Refute it at one input. -/
def planRightWrong : ChangeSpec := { name := "planRight", fn := fun _ => fun
  | [d1, d2, d3] => { results := [.lit (.bool false)], args := [d1, d2, d3] }
  | _ => none }
def PlanRightWrongFalsely : Prop := planRightRow.holds Try.pinned (OpenSpec.ofChange planRightWrong)

/-- 'haulierlaw13.PlanBreaks': WHATEVER THE INPUT: true; the input reads as it did. -/
def planBreaksSpec : ChangeSpec := { name := "planBreaks", fn := fun _ => fun
  | [d1, d2, d3, d4] => { results := [.lit (.bool true)], args := [d1, d2, d3, d4] }
  | _ => none }
def planBreaksRow : OpenClaim := { program := "ytemjpgmfignhnaa", sum := "390e4c512fdc1e1923d34205fc85a418d7d0196de0800e66099d02dbee114bf8", func := "haulier/haulierlaw13.PlanBreaks", spec := "planBreaks", unfollowed := true, recurses := true, plainKeys := false, apart := false }
def PlanBreaksSaid : Prop := planBreaksRow.holds Try.pinned (OpenSpec.ofChange planBreaksSpec)

/-- ITS FALSE NEIGHBOUR: 'it returns false'. Refute it at one input. -/
def planBreaksWrong : ChangeSpec := { name := "planBreaks", fn := fun _ => fun
  | [d1, d2, d3, d4] => { results := [.lit (.bool false)], args := [d1, d2, d3, d4] }
  | _ => none }
def PlanBreaksWrongFalsely : Prop := planBreaksRow.holds Try.pinned (OpenSpec.ofChange planBreaksWrong)

/-- 'haulierlaw13.PlanOwn': WHATEVER THE INPUT: true; the input reads as it did. -/
def planOwnSpec : ChangeSpec := { name := "planOwn", fn := fun _ => fun
  | [d1, d2, d3] => { results := [.lit (.bool true)], args := [d1, d2, d3] }
  | _ => none }
def planOwnRow : OpenClaim := { program := "ytemjpgmfignhnaa", sum := "390e4c512fdc1e1923d34205fc85a418d7d0196de0800e66099d02dbee114bf8", func := "haulier/haulierlaw13.PlanOwn", spec := "planOwn", unfollowed := true, recurses := true, plainKeys := false, apart := false }
def PlanOwnSaid : Prop := planOwnRow.holds Try.pinned (OpenSpec.ofChange planOwnSpec)

/-- ITS FALSE NEIGHBOUR: 'it returns false'. Refute it at one input. -/
def planOwnWrong : ChangeSpec := { name := "planOwn", fn := fun _ => fun
  | [d1, d2, d3] => { results := [.lit (.bool false)], args := [d1, d2, d3] }
  | _ => none }
def PlanOwnWrongFalsely : Prop := planOwnRow.holds Try.pinned (OpenSpec.ofChange planOwnWrong)

/-- 'haulierlaw13.PlanLater': WHATEVER THE INPUT: true; the input reads as it did. -/
def planLaterSpec : ChangeSpec := { name := "planLater", fn := fun _ => fun
  | [d1, d2, d3, d4] => { results := [.lit (.bool true)], args := [d1, d2, d3, d4] }
  | _ => none }
def planLaterRow : OpenClaim := { program := "ytemjpgmfignhnaa", sum := "390e4c512fdc1e1923d34205fc85a418d7d0196de0800e66099d02dbee114bf8", func := "haulier/haulierlaw13.PlanLater", spec := "planLater", unfollowed := true, recurses := true, plainKeys := false, apart := false }
def PlanLaterSaid : Prop := planLaterRow.holds Try.pinned (OpenSpec.ofChange planLaterSpec)

/-- ITS FALSE NEIGHBOUR: 'it returns false'. Refute it at one input. -/
def planLaterWrong : ChangeSpec := { name := "planLater", fn := fun _ => fun
  | [d1, d2, d3, d4] => { results := [.lit (.bool false)], args := [d1, d2, d3, d4] }
  | _ => none }
def PlanLaterWrongFalsely : Prop := planLaterRow.holds Try.pinned (OpenSpec.ofChange planLaterWrong)

/-- 'haulierlaw13.PlanAlike': WHATEVER THE INPUT: true; the input reads as it did. -/
def planAlikeSpec : ChangeSpec := { name := "planAlike", fn := fun _ => fun
  | [d1, d2, d3] => { results := [.lit (.bool true)], args := [d1, d2, d3] }
  | _ => none }
def planAlikeRow : OpenClaim := { program := "ytemjpgmfignhnaa", sum := "390e4c512fdc1e1923d34205fc85a418d7d0196de0800e66099d02dbee114bf8", func := "haulier/haulierlaw13.PlanAlike", spec := "planAlike", unfollowed := true, recurses := true, plainKeys := false, apart := false }
def PlanAlikeSaid : Prop := planAlikeRow.holds Try.pinned (OpenSpec.ofChange planAlikeSpec)

/-- ITS FALSE NEIGHBOUR: 'it returns false'. Refute it at one input. -/
def planAlikeWrong : ChangeSpec := { name := "planAlike", fn := fun _ => fun
  | [d1, d2, d3] => { results := [.lit (.bool false)], args := [d1, d2, d3] }
  | _ => none }
def PlanAlikeWrongFalsely : Prop := planAlikeRow.holds Try.pinned (OpenSpec.ofChange planAlikeWrong)

/-- 'haulierlaw14.SlackEnds': WHATEVER THE INPUT: true; the input reads as it did. -/
def slackEndsSpec : ChangeSpec := { name := "slackEnds", fn := fun _ => fun
  | [d1, d2, d3, d4] => { results := [.lit (.bool true)], args := [d1, d2, d3, d4] }
  | _ => none }
def slackEndsRow : OpenClaim := { program := "ytemjpgmfignhnaa", sum := "390e4c512fdc1e1923d34205fc85a418d7d0196de0800e66099d02dbee114bf8", func := "haulier/haulierlaw14.SlackEnds", spec := "slackEnds", plainKeys := false, apart := false }
def SlackEndsSaid : Prop := slackEndsRow.holds Try.pinned (OpenSpec.ofChange slackEndsSpec)

/-- ITS FALSE NEIGHBOUR: 'it returns false'. Refute it at one input. -/
def slackEndsWrong : ChangeSpec := { name := "slackEnds", fn := fun _ => fun
  | [d1, d2, d3, d4] => { results := [.lit (.bool false)], args := [d1, d2, d3, d4] }
  | _ => none }
def SlackEndsWrongFalsely : Prop := slackEndsRow.holds Try.pinned (OpenSpec.ofChange slackEndsWrong)

/-- 'haulierlaw14.SlackPlan': WHATEVER THE INPUT: true; the input reads as it did. -/
def slackPlanSpec : ChangeSpec := { name := "slackPlan", fn := fun _ => fun
  | [d1, d2, d3, d4] => { results := [.lit (.bool true)], args := [d1, d2, d3, d4] }
  | _ => none }
def slackPlanRow : OpenClaim := { program := "ytemjpgmfignhnaa", sum := "390e4c512fdc1e1923d34205fc85a418d7d0196de0800e66099d02dbee114bf8", func := "haulier/haulierlaw14.SlackPlan", spec := "slackPlan", plainKeys := false, apart := false }
def SlackPlanSaid : Prop := slackPlanRow.holds Try.pinned (OpenSpec.ofChange slackPlanSpec)

/-- ITS FALSE NEIGHBOUR: 'it returns false'. Refute it at one input. -/
def slackPlanWrong : ChangeSpec := { name := "slackPlan", fn := fun _ => fun
  | [d1, d2, d3, d4] => { results := [.lit (.bool false)], args := [d1, d2, d3, d4] }
  | _ => none }
def SlackPlanWrongFalsely : Prop := slackPlanRow.holds Try.pinned (OpenSpec.ofChange slackPlanWrong)

/-- 'haulierlaw14.SlackShift': WHATEVER THE INPUT: true; the input reads as it did. -/
def slackShiftSpec : ChangeSpec := { name := "slackShift", fn := fun _ => fun
  | [d1, d2, d3, d4] => { results := [.lit (.bool true)], args := [d1, d2, d3, d4] }
  | _ => none }
def slackShiftRow : OpenClaim := { program := "ytemjpgmfignhnaa", sum := "390e4c512fdc1e1923d34205fc85a418d7d0196de0800e66099d02dbee114bf8", func := "haulier/haulierlaw14.SlackShift", spec := "slackShift", plainKeys := false, apart := false }
def SlackShiftSaid : Prop := slackShiftRow.holds Try.pinned (OpenSpec.ofChange slackShiftSpec)

/-- ITS FALSE NEIGHBOUR: 'it returns false'. Refute it at one input. -/
def slackShiftWrong : ChangeSpec := { name := "slackShift", fn := fun _ => fun
  | [d1, d2, d3, d4] => { results := [.lit (.bool false)], args := [d1, d2, d3, d4] }
  | _ => none }
def SlackShiftWrongFalsely : Prop := slackShiftRow.holds Try.pinned (OpenSpec.ofChange slackShiftWrong)

/-- 'haulierlaw14.SlackLatest': WHATEVER THE INPUT: true; the input reads as it did. -/
def slackLatestSpec : ChangeSpec := { name := "slackLatest", fn := fun _ => fun
  | [d1, d2, d3] => { results := [.lit (.bool true)], args := [d1, d2, d3] }
  | _ => none }
def slackLatestRow : OpenClaim := { program := "ytemjpgmfignhnaa", sum := "390e4c512fdc1e1923d34205fc85a418d7d0196de0800e66099d02dbee114bf8", func := "haulier/haulierlaw14.SlackLatest", spec := "slackLatest", plainKeys := false, apart := false }
def SlackLatestSaid : Prop := slackLatestRow.holds Try.pinned (OpenSpec.ofChange slackLatestSpec)

/-- ITS FALSE NEIGHBOUR: 'it returns false'. Refute it at one input. -/
def slackLatestWrong : ChangeSpec := { name := "slackLatest", fn := fun _ => fun
  | [d1, d2, d3] => { results := [.lit (.bool false)], args := [d1, d2, d3] }
  | _ => none }
def SlackLatestWrongFalsely : Prop := slackLatestRow.holds Try.pinned (OpenSpec.ofChange slackLatestWrong)

/-- 'haulierlaw20.JudgeChecks': WHATEVER THE INPUT: true; the input reads as it did. -/
def judgeChecksSpec : ChangeSpec := { name := "judgeChecks", fn := fun _ => fun
  | [d1, d2] => { results := [.lit (.bool true)], args := [d1, d2] }
  | _ => none }
def judgeChecksRow : OpenClaim := { program := "ytemjpgmfignhnaa", sum := "390e4c512fdc1e1923d34205fc85a418d7d0196de0800e66099d02dbee114bf8", func := "haulier/haulierlaw20.JudgeChecks", spec := "judgeChecks", unfollowed := true, recurses := true, plainKeys := false, apart := false }
def JudgeChecksSaid : Prop := judgeChecksRow.holds Try.pinned (OpenSpec.ofChange judgeChecksSpec)

/-- ITS FALSE NEIGHBOUR: 'it returns false'. Refute it at one input. -/
def judgeChecksWrong : ChangeSpec := { name := "judgeChecks", fn := fun _ => fun
  | [d1, d2] => { results := [.lit (.bool false)], args := [d1, d2] }
  | _ => none }
def JudgeChecksWrongFalsely : Prop := judgeChecksRow.holds Try.pinned (OpenSpec.ofChange judgeChecksWrong)

/-- 'haulierlaw20.JudgeParts': WHATEVER THE INPUT: true; the input reads as it did. -/
def judgePartsSpec : ChangeSpec := { name := "judgeParts", fn := fun _ => fun
  | [d1, d2, d3] => { results := [.lit (.bool true)], args := [d1, d2, d3] }
  | _ => none }
def judgePartsRow : OpenClaim := { program := "ytemjpgmfignhnaa", sum := "390e4c512fdc1e1923d34205fc85a418d7d0196de0800e66099d02dbee114bf8", func := "haulier/haulierlaw20.JudgeParts", spec := "judgeParts", unfollowed := true, recurses := true, plainKeys := false, apart := false }
def JudgePartsSaid : Prop := judgePartsRow.holds Try.pinned (OpenSpec.ofChange judgePartsSpec)

/-- ITS FALSE NEIGHBOUR: 'it returns false'. Refute it at one input. -/
def judgePartsWrong : ChangeSpec := { name := "judgeParts", fn := fun _ => fun
  | [d1, d2, d3] => { results := [.lit (.bool false)], args := [d1, d2, d3] }
  | _ => none }
def JudgePartsWrongFalsely : Prop := judgePartsRow.holds Try.pinned (OpenSpec.ofChange judgePartsWrong)

/-- 'haulierlaw20.JudgeAudits': WHATEVER THE INPUT: true; the input reads as it did. -/
def judgeAuditsSpec : ChangeSpec := { name := "judgeAudits", fn := fun _ => fun
  | [d1, d2, d3] => { results := [.lit (.bool true)], args := [d1, d2, d3] }
  | _ => none }
def judgeAuditsRow : OpenClaim := { program := "ytemjpgmfignhnaa", sum := "390e4c512fdc1e1923d34205fc85a418d7d0196de0800e66099d02dbee114bf8", func := "haulier/haulierlaw20.JudgeAudits", spec := "judgeAudits", unfollowed := true, recurses := true, plainKeys := false, apart := false }
def JudgeAuditsSaid : Prop := judgeAuditsRow.holds Try.pinned (OpenSpec.ofChange judgeAuditsSpec)

/-- ITS FALSE NEIGHBOUR: 'it returns false'. Refute it at one input. -/
def judgeAuditsWrong : ChangeSpec := { name := "judgeAudits", fn := fun _ => fun
  | [d1, d2, d3] => { results := [.lit (.bool false)], args := [d1, d2, d3] }
  | _ => none }
def JudgeAuditsWrongFalsely : Prop := judgeAuditsRow.holds Try.pinned (OpenSpec.ofChange judgeAuditsWrong)

/-- 'haulierlaw20.JudgeSpoils': WHATEVER THE INPUT: true; the input reads as it did. -/
def judgeSpoilsSpec : ChangeSpec := { name := "judgeSpoils", fn := fun _ => fun
  | [d1, d2, d3, d4] => { results := [.lit (.bool true)], args := [d1, d2, d3, d4] }
  | _ => none }
def judgeSpoilsRow : OpenClaim := { program := "ytemjpgmfignhnaa", sum := "390e4c512fdc1e1923d34205fc85a418d7d0196de0800e66099d02dbee114bf8", func := "haulier/haulierlaw20.JudgeSpoils", spec := "judgeSpoils", unfollowed := true, recurses := true, plainKeys := false, apart := false }
def JudgeSpoilsSaid : Prop := judgeSpoilsRow.holds Try.pinned (OpenSpec.ofChange judgeSpoilsSpec)

/-- ITS FALSE NEIGHBOUR: 'it returns false'. Refute it at one input. -/
def judgeSpoilsWrong : ChangeSpec := { name := "judgeSpoils", fn := fun _ => fun
  | [d1, d2, d3, d4] => { results := [.lit (.bool false)], args := [d1, d2, d3, d4] }
  | _ => none }
def JudgeSpoilsWrongFalsely : Prop := judgeSpoilsRow.holds Try.pinned (OpenSpec.ofChange judgeSpoilsWrong)

/- THE SECOND FORM. 'bulk': how many values and letters a reading holds, each counted each time it is reached (what is shared counts as often as it is met; a slice's spare places count too). A statement '..UptoSaid' is the law's where the arguments, and the package variables that the reading takes, are together of bulk at most 1048576: NARROWER than '..Said'. Prove '..Said' where nothing that the law and all that it calls make is longer than what came in: it says more and counts as full. Else prove '..UptoSaid'. A law counts once. -/
mutual
def uptoBulk {H : Type} : DataW H → Nat
  | .lit (.string bytes) => bytes.length + 1
  | .lit _ => 1
  | .nil => 1
  | .ptr d => uptoBulk d + 1
  | .slice elems spare => uptoBulkAll elems + uptoBulkAll spare + 1
  | .agg parts => uptoBulkAll parts + 1
  | .iface _ d => uptoBulk d + 1
  | .map entries => uptoBulkEntries entries + 1
  | .held _ => 1
def uptoBulkAll {H : Type} : List (DataW H) → Nat
  | [] => 0
  | d :: r => uptoBulk d + uptoBulkAll r
def uptoBulkEntries {H : Type} : List (Lit × DataW H) → Nat
  | [] => 0
  | x :: r => uptoBulkEntry x + uptoBulkEntries r
def uptoBulkEntry {H : Type} : Lit × DataW H → Nat
  | (.string bytes, d) => bytes.length + uptoBulk d + 1
  | (_, d) => uptoBulk d + 1
 end
def uptoSmall : (H : Type) → List (DataW H) → Bool := fun _ ds => decide (uptoBulkAll ds ≤ 1048576)
def OpenSpec.upto (s : _root_.Go.ChangeSpec) : _root_.Go.OpenSpec := { _root_.Go.OpenSpec.ofChange s with cond := some uptoSmall }

/-- 'haulierlaw12.ModelChecks', WHERE WHAT IT READS IS OF BULK AT MOST 1048576: true; the input reads as it did. -/
def modelChecksUptoRow : OpenClaim := { program := "ytemjpgmfignhnaa", sum := "390e4c512fdc1e1923d34205fc85a418d7d0196de0800e66099d02dbee114bf8", func := "haulier/haulierlaw12.ModelChecks", spec := "modelChecks", unfollowed := true, recurses := true, plainKeys := false, apart := false, narrowed := true }
def ModelChecksUptoSaid : Prop := modelChecksUptoRow.holds Try.pinned (OpenSpec.upto modelChecksSpec)

/-- 'haulierlaw12.ModelCells', WHERE WHAT IT READS IS OF BULK AT MOST 1048576: true; the input reads as it did. -/
def modelCellsUptoRow : OpenClaim := { program := "ytemjpgmfignhnaa", sum := "390e4c512fdc1e1923d34205fc85a418d7d0196de0800e66099d02dbee114bf8", func := "haulier/haulierlaw12.ModelCells", spec := "modelCells", unfollowed := true, recurses := true, plainKeys := false, apart := false, narrowed := true }
def ModelCellsUptoSaid : Prop := modelCellsUptoRow.holds Try.pinned (OpenSpec.upto modelCellsSpec)

/-- 'haulierlaw12.ModelMore', WHERE WHAT IT READS IS OF BULK AT MOST 1048576: true; the input reads as it did. -/
def modelMoreUptoRow : OpenClaim := { program := "ytemjpgmfignhnaa", sum := "390e4c512fdc1e1923d34205fc85a418d7d0196de0800e66099d02dbee114bf8", func := "haulier/haulierlaw12.ModelMore", spec := "modelMore", unfollowed := true, recurses := true, plainKeys := false, apart := false, narrowed := true }
def ModelMoreUptoSaid : Prop := modelMoreUptoRow.holds Try.pinned (OpenSpec.upto modelMoreSpec)

/-- 'haulierlaw12.ModelStops', WHERE WHAT IT READS IS OF BULK AT MOST 1048576: true; the input reads as it did. -/
def modelStopsUptoRow : OpenClaim := { program := "ytemjpgmfignhnaa", sum := "390e4c512fdc1e1923d34205fc85a418d7d0196de0800e66099d02dbee114bf8", func := "haulier/haulierlaw12.ModelStops", spec := "modelStops", unfollowed := true, recurses := true, plainKeys := false, apart := false, narrowed := true }
def ModelStopsUptoSaid : Prop := modelStopsUptoRow.holds Try.pinned (OpenSpec.upto modelStopsSpec)

/-- 'haulierlaw12.ModelTasks', WHERE WHAT IT READS IS OF BULK AT MOST 1048576: true; the input reads as it did. -/
def modelTasksUptoRow : OpenClaim := { program := "ytemjpgmfignhnaa", sum := "390e4c512fdc1e1923d34205fc85a418d7d0196de0800e66099d02dbee114bf8", func := "haulier/haulierlaw12.ModelTasks", spec := "modelTasks", unfollowed := true, recurses := true, plainKeys := false, apart := false, narrowed := true }
def ModelTasksUptoSaid : Prop := modelTasksUptoRow.holds Try.pinned (OpenSpec.upto modelTasksSpec)

/-- 'haulierlaw12.ModelAsks', WHERE WHAT IT READS IS OF BULK AT MOST 1048576: true; the input reads as it did. -/
def modelAsksUptoRow : OpenClaim := { program := "ytemjpgmfignhnaa", sum := "390e4c512fdc1e1923d34205fc85a418d7d0196de0800e66099d02dbee114bf8", func := "haulier/haulierlaw12.ModelAsks", spec := "modelAsks", unfollowed := true, recurses := true, plainKeys := false, apart := false, narrowed := true }
def ModelAsksUptoSaid : Prop := modelAsksUptoRow.holds Try.pinned (OpenSpec.upto modelAsksSpec)

/-- 'haulierlaw13.PlanSteps', WHERE WHAT IT READS IS OF BULK AT MOST 1048576: true; the input reads as it did. -/
def planStepsUptoRow : OpenClaim := { program := "ytemjpgmfignhnaa", sum := "390e4c512fdc1e1923d34205fc85a418d7d0196de0800e66099d02dbee114bf8", func := "haulier/haulierlaw13.PlanSteps", spec := "planSteps", unfollowed := true, recurses := true, plainKeys := false, apart := false, narrowed := true }
def PlanStepsUptoSaid : Prop := planStepsUptoRow.holds Try.pinned (OpenSpec.upto planStepsSpec)

/-- 'haulierlaw13.PlanFits', WHERE WHAT IT READS IS OF BULK AT MOST 1048576: true; the input reads as it did. -/
def planFitsUptoRow : OpenClaim := { program := "ytemjpgmfignhnaa", sum := "390e4c512fdc1e1923d34205fc85a418d7d0196de0800e66099d02dbee114bf8", func := "haulier/haulierlaw13.PlanFits", spec := "planFits", unfollowed := true, recurses := true, plainKeys := false, apart := false, narrowed := true }
def PlanFitsUptoSaid : Prop := planFitsUptoRow.holds Try.pinned (OpenSpec.upto planFitsSpec)

/-- 'haulierlaw13.PlanLoads', WHERE WHAT IT READS IS OF BULK AT MOST 1048576: true; the input reads as it did. -/
def planLoadsUptoRow : OpenClaim := { program := "ytemjpgmfignhnaa", sum := "390e4c512fdc1e1923d34205fc85a418d7d0196de0800e66099d02dbee114bf8", func := "haulier/haulierlaw13.PlanLoads", spec := "planLoads", unfollowed := true, recurses := true, plainKeys := false, apart := false, narrowed := true }
def PlanLoadsUptoSaid : Prop := planLoadsUptoRow.holds Try.pinned (OpenSpec.upto planLoadsSpec)

/-- 'haulierlaw13.PlanRight', WHERE WHAT IT READS IS OF BULK AT MOST 1048576: true; the input reads as it did. -/
def planRightUptoRow : OpenClaim := { program := "ytemjpgmfignhnaa", sum := "390e4c512fdc1e1923d34205fc85a418d7d0196de0800e66099d02dbee114bf8", func := "haulier/haulierlaw13.PlanRight", spec := "planRight", unfollowed := true, recurses := true, plainKeys := false, apart := false, narrowed := true }
def PlanRightUptoSaid : Prop := planRightUptoRow.holds Try.pinned (OpenSpec.upto planRightSpec)

/-- 'haulierlaw13.PlanBreaks', WHERE WHAT IT READS IS OF BULK AT MOST 1048576: true; the input reads as it did. -/
def planBreaksUptoRow : OpenClaim := { program := "ytemjpgmfignhnaa", sum := "390e4c512fdc1e1923d34205fc85a418d7d0196de0800e66099d02dbee114bf8", func := "haulier/haulierlaw13.PlanBreaks", spec := "planBreaks", unfollowed := true, recurses := true, plainKeys := false, apart := false, narrowed := true }
def PlanBreaksUptoSaid : Prop := planBreaksUptoRow.holds Try.pinned (OpenSpec.upto planBreaksSpec)

/-- 'haulierlaw13.PlanOwn', WHERE WHAT IT READS IS OF BULK AT MOST 1048576: true; the input reads as it did. -/
def planOwnUptoRow : OpenClaim := { program := "ytemjpgmfignhnaa", sum := "390e4c512fdc1e1923d34205fc85a418d7d0196de0800e66099d02dbee114bf8", func := "haulier/haulierlaw13.PlanOwn", spec := "planOwn", unfollowed := true, recurses := true, plainKeys := false, apart := false, narrowed := true }
def PlanOwnUptoSaid : Prop := planOwnUptoRow.holds Try.pinned (OpenSpec.upto planOwnSpec)

/-- 'haulierlaw13.PlanLater', WHERE WHAT IT READS IS OF BULK AT MOST 1048576: true; the input reads as it did. -/
def planLaterUptoRow : OpenClaim := { program := "ytemjpgmfignhnaa", sum := "390e4c512fdc1e1923d34205fc85a418d7d0196de0800e66099d02dbee114bf8", func := "haulier/haulierlaw13.PlanLater", spec := "planLater", unfollowed := true, recurses := true, plainKeys := false, apart := false, narrowed := true }
def PlanLaterUptoSaid : Prop := planLaterUptoRow.holds Try.pinned (OpenSpec.upto planLaterSpec)

/-- 'haulierlaw13.PlanAlike', WHERE WHAT IT READS IS OF BULK AT MOST 1048576: true; the input reads as it did. -/
def planAlikeUptoRow : OpenClaim := { program := "ytemjpgmfignhnaa", sum := "390e4c512fdc1e1923d34205fc85a418d7d0196de0800e66099d02dbee114bf8", func := "haulier/haulierlaw13.PlanAlike", spec := "planAlike", unfollowed := true, recurses := true, plainKeys := false, apart := false, narrowed := true }
def PlanAlikeUptoSaid : Prop := planAlikeUptoRow.holds Try.pinned (OpenSpec.upto planAlikeSpec)

/-- 'haulierlaw14.SlackEnds', WHERE WHAT IT READS IS OF BULK AT MOST 1048576: true; the input reads as it did. -/
def slackEndsUptoRow : OpenClaim := { program := "ytemjpgmfignhnaa", sum := "390e4c512fdc1e1923d34205fc85a418d7d0196de0800e66099d02dbee114bf8", func := "haulier/haulierlaw14.SlackEnds", spec := "slackEnds", plainKeys := false, apart := false, narrowed := true }
def SlackEndsUptoSaid : Prop := slackEndsUptoRow.holds Try.pinned (OpenSpec.upto slackEndsSpec)

/-- 'haulierlaw14.SlackPlan', WHERE WHAT IT READS IS OF BULK AT MOST 1048576: true; the input reads as it did. -/
def slackPlanUptoRow : OpenClaim := { program := "ytemjpgmfignhnaa", sum := "390e4c512fdc1e1923d34205fc85a418d7d0196de0800e66099d02dbee114bf8", func := "haulier/haulierlaw14.SlackPlan", spec := "slackPlan", plainKeys := false, apart := false, narrowed := true }
def SlackPlanUptoSaid : Prop := slackPlanUptoRow.holds Try.pinned (OpenSpec.upto slackPlanSpec)

/-- 'haulierlaw14.SlackShift', WHERE WHAT IT READS IS OF BULK AT MOST 1048576: true; the input reads as it did. -/
def slackShiftUptoRow : OpenClaim := { program := "ytemjpgmfignhnaa", sum := "390e4c512fdc1e1923d34205fc85a418d7d0196de0800e66099d02dbee114bf8", func := "haulier/haulierlaw14.SlackShift", spec := "slackShift", plainKeys := false, apart := false, narrowed := true }
def SlackShiftUptoSaid : Prop := slackShiftUptoRow.holds Try.pinned (OpenSpec.upto slackShiftSpec)

/-- 'haulierlaw14.SlackLatest', WHERE WHAT IT READS IS OF BULK AT MOST 1048576: true; the input reads as it did. -/
def slackLatestUptoRow : OpenClaim := { program := "ytemjpgmfignhnaa", sum := "390e4c512fdc1e1923d34205fc85a418d7d0196de0800e66099d02dbee114bf8", func := "haulier/haulierlaw14.SlackLatest", spec := "slackLatest", plainKeys := false, apart := false, narrowed := true }
def SlackLatestUptoSaid : Prop := slackLatestUptoRow.holds Try.pinned (OpenSpec.upto slackLatestSpec)

/-- 'haulierlaw20.JudgeChecks', WHERE WHAT IT READS IS OF BULK AT MOST 1048576: true; the input reads as it did. -/
def judgeChecksUptoRow : OpenClaim := { program := "ytemjpgmfignhnaa", sum := "390e4c512fdc1e1923d34205fc85a418d7d0196de0800e66099d02dbee114bf8", func := "haulier/haulierlaw20.JudgeChecks", spec := "judgeChecks", unfollowed := true, recurses := true, plainKeys := false, apart := false, narrowed := true }
def JudgeChecksUptoSaid : Prop := judgeChecksUptoRow.holds Try.pinned (OpenSpec.upto judgeChecksSpec)

/-- 'haulierlaw20.JudgeParts', WHERE WHAT IT READS IS OF BULK AT MOST 1048576: true; the input reads as it did. -/
def judgePartsUptoRow : OpenClaim := { program := "ytemjpgmfignhnaa", sum := "390e4c512fdc1e1923d34205fc85a418d7d0196de0800e66099d02dbee114bf8", func := "haulier/haulierlaw20.JudgeParts", spec := "judgeParts", unfollowed := true, recurses := true, plainKeys := false, apart := false, narrowed := true }
def JudgePartsUptoSaid : Prop := judgePartsUptoRow.holds Try.pinned (OpenSpec.upto judgePartsSpec)

/-- 'haulierlaw20.JudgeAudits', WHERE WHAT IT READS IS OF BULK AT MOST 1048576: true; the input reads as it did. -/
def judgeAuditsUptoRow : OpenClaim := { program := "ytemjpgmfignhnaa", sum := "390e4c512fdc1e1923d34205fc85a418d7d0196de0800e66099d02dbee114bf8", func := "haulier/haulierlaw20.JudgeAudits", spec := "judgeAudits", unfollowed := true, recurses := true, plainKeys := false, apart := false, narrowed := true }
def JudgeAuditsUptoSaid : Prop := judgeAuditsUptoRow.holds Try.pinned (OpenSpec.upto judgeAuditsSpec)

/-- 'haulierlaw20.JudgeSpoils', WHERE WHAT IT READS IS OF BULK AT MOST 1048576: true; the input reads as it did. -/
def judgeSpoilsUptoRow : OpenClaim := { program := "ytemjpgmfignhnaa", sum := "390e4c512fdc1e1923d34205fc85a418d7d0196de0800e66099d02dbee114bf8", func := "haulier/haulierlaw20.JudgeSpoils", spec := "judgeSpoils", unfollowed := true, recurses := true, plainKeys := false, apart := false, narrowed := true }
def JudgeSpoilsUptoSaid : Prop := judgeSpoilsUptoRow.holds Try.pinned (OpenSpec.upto judgeSpoilsSpec)

end Rows
end Go.Proofs.Ytemjpgmfignhnaa
