/-
  No cell of these rows narrows 'for every input' (looked for: loops, veiled, ifaces, maps, wideKeys, modest, calm, conditions, laid).
  DERIVED. THE GIVEN ROWS OF THIS SEAT. 23 by the template 'for every input the law returns true; each argument reads behind the call as it read before'; 0 by the template 'total and deterministic' (their statements: YtogdlkfacflmaaaGreatTotals.lean).
  GIVEN WITH THE SEED: the statements are not yours to turn. If you find one false, say at which input.
  Laid BY PROGRAM, IN A SANDBOX (cutbox-rows.mjs): the forced cells as the released guide's own fill.sh prints them over the translation 1738c9cf499f0522… (all of the seat's roots in one cut). By AI agents, Wed Nov 11 2026. No macro, syntax, notation, axiom, sorry.
-/
import Derived.Test.YtogdlkfacflmaaaGreatChecked
import GoSem.Claim
import GoSem.ClaimJoined
import GoSem.ClaimMapViews
import Derived.JoinedTies
import Derived.KernelRfl
namespace Go.Proofs.YtogdlkfacflmaaaGreat
/- THE CELL 'sum', in the pinned program and in every row, IS THE sha256 OF THE DUMP (.gsa) THAT YtogdlkfacflmaaaGreatProg.lean LOADS. Nothing in Lean hashes anything: it is a label: what it is worth is what the hold of that sum in a sandbox is worth. -/
noncomputable def Tryz.pinned : Pinned := { name := "ytogdlkfacflmaaagreat", sum := "1738c9cf499f05222a985c8471754192412e607c4200c13e9f391a51ec13b128", checked := Tryz.checked }
namespace Rows
def none {H : Type} : Left H := { results := [], args := [] }

/-- 'chalklinelaw27.CoreErrorSpec': WHATEVER THE INPUT: true; the input reads as it did. -/
def coreErrorSpecSpec : ChangeSpec := { name := "coreErrorSpec", fn := fun _ => fun
  | [d1, d2, d3, d4] => { results := [.lit (.bool true)], args := [d1, d2, d3, d4] }
  | _ => none }
def coreErrorSpecRow : OpenClaim := { program := "ytogdlkfacflmaaagreat", sum := "1738c9cf499f05222a985c8471754192412e607c4200c13e9f391a51ec13b128", func := "chalkline/chalklinelaw27.CoreErrorSpec", spec := "coreErrorSpec", unfollowed := true, recurses := true, apart := false }
def CoreErrorSpecSaid : Prop := coreErrorSpecRow.holds Tryz.pinned (OpenSpec.ofChange coreErrorSpecSpec)

/-- ITS FALSE NEIGHBOUR: 'it returns false'. Refute it at one input. -/
def coreErrorSpecWrong : ChangeSpec := { name := "coreErrorSpec", fn := fun _ => fun
  | [d1, d2, d3, d4] => { results := [.lit (.bool false)], args := [d1, d2, d3, d4] }
  | _ => none }
def CoreErrorSpecWrongFalsely : Prop := coreErrorSpecRow.holds Tryz.pinned (OpenSpec.ofChange coreErrorSpecWrong)

/-- 'chalklinelaw27.CoreLeastMinimal': WHATEVER THE INPUT: true; the input reads as it did. -/
def coreLeastMinimalSpec : ChangeSpec := { name := "coreLeastMinimal", fn := fun _ => fun
  | [d1, d2, d3] => { results := [.lit (.bool true)], args := [d1, d2, d3] }
  | _ => none }
def coreLeastMinimalRow : OpenClaim := { program := "ytogdlkfacflmaaagreat", sum := "1738c9cf499f05222a985c8471754192412e607c4200c13e9f391a51ec13b128", func := "chalkline/chalklinelaw27.CoreLeastMinimal", spec := "coreLeastMinimal", unfollowed := true, recurses := true, apart := false }
def CoreLeastMinimalSaid : Prop := coreLeastMinimalRow.holds Tryz.pinned (OpenSpec.ofChange coreLeastMinimalSpec)

/-- ITS FALSE NEIGHBOUR: 'it returns false'. Refute it at one input. -/
def coreLeastMinimalWrong : ChangeSpec := { name := "coreLeastMinimal", fn := fun _ => fun
  | [d1, d2, d3] => { results := [.lit (.bool false)], args := [d1, d2, d3] }
  | _ => none }
def CoreLeastMinimalWrongFalsely : Prop := coreLeastMinimalRow.holds Tryz.pinned (OpenSpec.ofChange coreLeastMinimalWrong)

/-- 'chalklinelaw27.CoreGrowMaximal': WHATEVER THE INPUT: true; the input reads as it did. -/
def coreGrowMaximalSpec : ChangeSpec := { name := "coreGrowMaximal", fn := fun _ => fun
  | [d1, d2, d3, d4] => { results := [.lit (.bool true)], args := [d1, d2, d3, d4] }
  | _ => none }
def coreGrowMaximalRow : OpenClaim := { program := "ytogdlkfacflmaaagreat", sum := "1738c9cf499f05222a985c8471754192412e607c4200c13e9f391a51ec13b128", func := "chalkline/chalklinelaw27.CoreGrowMaximal", spec := "coreGrowMaximal", unfollowed := true, recurses := true, apart := false }
def CoreGrowMaximalSaid : Prop := coreGrowMaximalRow.holds Tryz.pinned (OpenSpec.ofChange coreGrowMaximalSpec)

/-- ITS FALSE NEIGHBOUR: 'it returns false'. Refute it at one input. -/
def coreGrowMaximalWrong : ChangeSpec := { name := "coreGrowMaximal", fn := fun _ => fun
  | [d1, d2, d3, d4] => { results := [.lit (.bool false)], args := [d1, d2, d3, d4] }
  | _ => none }
def CoreGrowMaximalWrongFalsely : Prop := coreGrowMaximalRow.holds Tryz.pinned (OpenSpec.ofChange coreGrowMaximalWrong)

/-- 'chalklinelaw27.CoreDecides': WHATEVER THE INPUT: true; the input reads as it did. -/
def coreDecidesSpec : ChangeSpec := { name := "coreDecides", fn := fun _ => fun
  | [d1, d2, d3] => { results := [.lit (.bool true)], args := [d1, d2, d3] }
  | _ => none }
def coreDecidesRow : OpenClaim := { program := "ytogdlkfacflmaaagreat", sum := "1738c9cf499f05222a985c8471754192412e607c4200c13e9f391a51ec13b128", func := "chalkline/chalklinelaw27.CoreDecides", spec := "coreDecides", unfollowed := true, recurses := true, apart := false }
def CoreDecidesSaid : Prop := coreDecidesRow.holds Tryz.pinned (OpenSpec.ofChange coreDecidesSpec)

/-- ITS FALSE NEIGHBOUR: 'it returns false'. Refute it at one input. -/
def coreDecidesWrong : ChangeSpec := { name := "coreDecides", fn := fun _ => fun
  | [d1, d2, d3] => { results := [.lit (.bool false)], args := [d1, d2, d3] }
  | _ => none }
def CoreDecidesWrongFalsely : Prop := coreDecidesRow.holds Tryz.pinned (OpenSpec.ofChange coreDecidesWrong)

/-- 'chalklinelaw27.CoreAgreesWithSolver': WHATEVER THE INPUT: true; the input reads as it did. -/
def coreAgreesWithSolverSpec : ChangeSpec := { name := "coreAgreesWithSolver", fn := fun _ => fun
  | [d1, d2] => { results := [.lit (.bool true)], args := [d1, d2] }
  | _ => none }
def coreAgreesWithSolverRow : OpenClaim := { program := "ytogdlkfacflmaaagreat", sum := "1738c9cf499f05222a985c8471754192412e607c4200c13e9f391a51ec13b128", func := "chalkline/chalklinelaw27.CoreAgreesWithSolver", spec := "coreAgreesWithSolver", unfollowed := true, recurses := true, apart := false }
def CoreAgreesWithSolverSaid : Prop := coreAgreesWithSolverRow.holds Tryz.pinned (OpenSpec.ofChange coreAgreesWithSolverSpec)

/-- ITS FALSE NEIGHBOUR: 'it returns false'. Refute it at one input. -/
def coreAgreesWithSolverWrong : ChangeSpec := { name := "coreAgreesWithSolver", fn := fun _ => fun
  | [d1, d2] => { results := [.lit (.bool false)], args := [d1, d2] }
  | _ => none }
def CoreAgreesWithSolverWrongFalsely : Prop := coreAgreesWithSolverRow.holds Tryz.pinned (OpenSpec.ofChange coreAgreesWithSolverWrong)

/-- 'chalklinelaw27.CoreIdempotent': WHATEVER THE INPUT: true; the input reads as it did. -/
def coreIdempotentSpec : ChangeSpec := { name := "coreIdempotent", fn := fun _ => fun
  | [d1, d2, d3] => { results := [.lit (.bool true)], args := [d1, d2, d3] }
  | _ => none }
def coreIdempotentRow : OpenClaim := { program := "ytogdlkfacflmaaagreat", sum := "1738c9cf499f05222a985c8471754192412e607c4200c13e9f391a51ec13b128", func := "chalkline/chalklinelaw27.CoreIdempotent", spec := "coreIdempotent", unfollowed := true, recurses := true, apart := false }
def CoreIdempotentSaid : Prop := coreIdempotentRow.holds Tryz.pinned (OpenSpec.ofChange coreIdempotentSpec)

/-- ITS FALSE NEIGHBOUR: 'it returns false'. Refute it at one input. -/
def coreIdempotentWrong : ChangeSpec := { name := "coreIdempotent", fn := fun _ => fun
  | [d1, d2, d3] => { results := [.lit (.bool false)], args := [d1, d2, d3] }
  | _ => none }
def CoreIdempotentWrongFalsely : Prop := coreIdempotentRow.holds Tryz.pinned (OpenSpec.ofChange coreIdempotentWrong)

/-- 'chalklinelaw27.CoreCorrectionSet': WHATEVER THE INPUT: true; the input reads as it did. -/
def coreCorrectionSetSpec : ChangeSpec := { name := "coreCorrectionSet", fn := fun _ => fun
  | [d1, d2, d3, d4] => { results := [.lit (.bool true)], args := [d1, d2, d3, d4] }
  | _ => none }
def coreCorrectionSetRow : OpenClaim := { program := "ytogdlkfacflmaaagreat", sum := "1738c9cf499f05222a985c8471754192412e607c4200c13e9f391a51ec13b128", func := "chalkline/chalklinelaw27.CoreCorrectionSet", spec := "coreCorrectionSet", unfollowed := true, recurses := true, apart := false }
def CoreCorrectionSetSaid : Prop := coreCorrectionSetRow.holds Tryz.pinned (OpenSpec.ofChange coreCorrectionSetSpec)

/-- ITS FALSE NEIGHBOUR: 'it returns false'. Refute it at one input. -/
def coreCorrectionSetWrong : ChangeSpec := { name := "coreCorrectionSet", fn := fun _ => fun
  | [d1, d2, d3, d4] => { results := [.lit (.bool false)], args := [d1, d2, d3, d4] }
  | _ => none }
def CoreCorrectionSetWrongFalsely : Prop := coreCorrectionSetRow.holds Tryz.pinned (OpenSpec.ofChange coreCorrectionSetWrong)

/-- 'chalklinelaw25.SolverBasicsSpec': WHATEVER THE INPUT: true; the input reads as it did. -/
def solverBasicsSpecSpec : ChangeSpec := { name := "solverBasicsSpec", fn := fun _ => fun
  | [d1, d2, d3] => { results := [.lit (.bool true)], args := [d1, d2, d3] }
  | _ => none }
def solverBasicsSpecRow : OpenClaim := { program := "ytogdlkfacflmaaagreat", sum := "1738c9cf499f05222a985c8471754192412e607c4200c13e9f391a51ec13b128", func := "chalkline/chalklinelaw25.SolverBasicsSpec", spec := "solverBasicsSpec", unfollowed := true, recurses := true, apart := false }
def SolverBasicsSpecSaid : Prop := solverBasicsSpecRow.holds Tryz.pinned (OpenSpec.ofChange solverBasicsSpecSpec)

/-- ITS FALSE NEIGHBOUR: 'it returns false'. Refute it at one input. -/
def solverBasicsSpecWrong : ChangeSpec := { name := "solverBasicsSpec", fn := fun _ => fun
  | [d1, d2, d3] => { results := [.lit (.bool false)], args := [d1, d2, d3] }
  | _ => none }
def SolverBasicsSpecWrongFalsely : Prop := solverBasicsSpecRow.holds Tryz.pinned (OpenSpec.ofChange solverBasicsSpecWrong)

/-- 'chalklinelaw25.SolverSolveErrors': WHATEVER THE INPUT: true; the input reads as it did. -/
def solverSolveErrorsSpec : ChangeSpec := { name := "solverSolveErrors", fn := fun _ => fun
  | [d1, d2, d3] => { results := [.lit (.bool true)], args := [d1, d2, d3] }
  | _ => none }
def solverSolveErrorsRow : OpenClaim := { program := "ytogdlkfacflmaaagreat", sum := "1738c9cf499f05222a985c8471754192412e607c4200c13e9f391a51ec13b128", func := "chalkline/chalklinelaw25.SolverSolveErrors", spec := "solverSolveErrors", unfollowed := true, recurses := true, apart := false }
def SolverSolveErrorsSaid : Prop := solverSolveErrorsRow.holds Tryz.pinned (OpenSpec.ofChange solverSolveErrorsSpec)

/-- ITS FALSE NEIGHBOUR: 'it returns false'. Refute it at one input. -/
def solverSolveErrorsWrong : ChangeSpec := { name := "solverSolveErrors", fn := fun _ => fun
  | [d1, d2, d3] => { results := [.lit (.bool false)], args := [d1, d2, d3] }
  | _ => none }
def SolverSolveErrorsWrongFalsely : Prop := solverSolveErrorsRow.holds Tryz.pinned (OpenSpec.ofChange solverSolveErrorsWrong)

/-- 'chalklinelaw25.SolverAnswerCorrect': WHATEVER THE INPUT: true; the input reads as it did. -/
def solverAnswerCorrectSpec : ChangeSpec := { name := "solverAnswerCorrect", fn := fun _ => fun
  | [d1, d2, d3, d4] => { results := [.lit (.bool true)], args := [d1, d2, d3, d4] }
  | _ => none }
def solverAnswerCorrectRow : OpenClaim := { program := "ytogdlkfacflmaaagreat", sum := "1738c9cf499f05222a985c8471754192412e607c4200c13e9f391a51ec13b128", func := "chalkline/chalklinelaw25.SolverAnswerCorrect", spec := "solverAnswerCorrect", unfollowed := true, recurses := true, apart := false }
def SolverAnswerCorrectSaid : Prop := solverAnswerCorrectRow.holds Tryz.pinned (OpenSpec.ofChange solverAnswerCorrectSpec)

/-- ITS FALSE NEIGHBOUR: 'it returns false'. Refute it at one input. -/
def solverAnswerCorrectWrong : ChangeSpec := { name := "solverAnswerCorrect", fn := fun _ => fun
  | [d1, d2, d3, d4] => { results := [.lit (.bool false)], args := [d1, d2, d3, d4] }
  | _ => none }
def SolverAnswerCorrectWrongFalsely : Prop := solverAnswerCorrectRow.holds Tryz.pinned (OpenSpec.ofChange solverAnswerCorrectWrong)

/-- 'chalklinelaw25.SolverStatePreserved': WHATEVER THE INPUT: true; the input reads as it did. -/
def solverStatePreservedSpec : ChangeSpec := { name := "solverStatePreserved", fn := fun _ => fun
  | [d1, d2, d3, d4] => { results := [.lit (.bool true)], args := [d1, d2, d3, d4] }
  | _ => none }
def solverStatePreservedRow : OpenClaim := { program := "ytogdlkfacflmaaagreat", sum := "1738c9cf499f05222a985c8471754192412e607c4200c13e9f391a51ec13b128", func := "chalkline/chalklinelaw25.SolverStatePreserved", spec := "solverStatePreserved", unfollowed := true, recurses := true, apart := false }
def SolverStatePreservedSaid : Prop := solverStatePreservedRow.holds Tryz.pinned (OpenSpec.ofChange solverStatePreservedSpec)

/-- ITS FALSE NEIGHBOUR: 'it returns false'. Refute it at one input. -/
def solverStatePreservedWrong : ChangeSpec := { name := "solverStatePreserved", fn := fun _ => fun
  | [d1, d2, d3, d4] => { results := [.lit (.bool false)], args := [d1, d2, d3, d4] }
  | _ => none }
def SolverStatePreservedWrongFalsely : Prop := solverStatePreservedRow.holds Tryz.pinned (OpenSpec.ofChange solverStatePreservedWrong)

/-- 'chalklinelaw25.SolverAnswerStable': WHATEVER THE INPUT: true; the input reads as it did. -/
def solverAnswerStableSpec : ChangeSpec := { name := "solverAnswerStable", fn := fun _ => fun
  | [d1, d2, d3] => { results := [.lit (.bool true)], args := [d1, d2, d3] }
  | _ => none }
def solverAnswerStableRow : OpenClaim := { program := "ytogdlkfacflmaaagreat", sum := "1738c9cf499f05222a985c8471754192412e607c4200c13e9f391a51ec13b128", func := "chalkline/chalklinelaw25.SolverAnswerStable", spec := "solverAnswerStable", unfollowed := true, recurses := true, apart := false }
def SolverAnswerStableSaid : Prop := solverAnswerStableRow.holds Tryz.pinned (OpenSpec.ofChange solverAnswerStableSpec)

/-- ITS FALSE NEIGHBOUR: 'it returns false'. Refute it at one input. -/
def solverAnswerStableWrong : ChangeSpec := { name := "solverAnswerStable", fn := fun _ => fun
  | [d1, d2, d3] => { results := [.lit (.bool false)], args := [d1, d2, d3] }
  | _ => none }
def SolverAnswerStableWrongFalsely : Prop := solverAnswerStableRow.holds Tryz.pinned (OpenSpec.ofChange solverAnswerStableWrong)

/-- 'chalklinelaw25.SolverEnumeratesModels': WHATEVER THE INPUT: true; the input reads as it did. -/
def solverEnumeratesModelsSpec : ChangeSpec := { name := "solverEnumeratesModels", fn := fun _ => fun
  | [d1, d2] => { results := [.lit (.bool true)], args := [d1, d2] }
  | _ => none }
def solverEnumeratesModelsRow : OpenClaim := { program := "ytogdlkfacflmaaagreat", sum := "1738c9cf499f05222a985c8471754192412e607c4200c13e9f391a51ec13b128", func := "chalkline/chalklinelaw25.SolverEnumeratesModels", spec := "solverEnumeratesModels", unfollowed := true, recurses := true, apart := false }
def SolverEnumeratesModelsSaid : Prop := solverEnumeratesModelsRow.holds Tryz.pinned (OpenSpec.ofChange solverEnumeratesModelsSpec)

/-- ITS FALSE NEIGHBOUR: 'it returns false'. Refute it at one input. -/
def solverEnumeratesModelsWrong : ChangeSpec := { name := "solverEnumeratesModels", fn := fun _ => fun
  | [d1, d2] => { results := [.lit (.bool false)], args := [d1, d2] }
  | _ => none }
def SolverEnumeratesModelsWrongFalsely : Prop := solverEnumeratesModelsRow.holds Tryz.pinned (OpenSpec.ofChange solverEnumeratesModelsWrong)

/-- 'chalklinelaw25.SolverAddMonotone': WHATEVER THE INPUT: true; the input reads as it did. -/
def solverAddMonotoneSpec : ChangeSpec := { name := "solverAddMonotone", fn := fun _ => fun
  | [d1, d2, d3, d4] => { results := [.lit (.bool true)], args := [d1, d2, d3, d4] }
  | _ => none }
def solverAddMonotoneRow : OpenClaim := { program := "ytogdlkfacflmaaagreat", sum := "1738c9cf499f05222a985c8471754192412e607c4200c13e9f391a51ec13b128", func := "chalkline/chalklinelaw25.SolverAddMonotone", spec := "solverAddMonotone", unfollowed := true, recurses := true, apart := false }
def SolverAddMonotoneSaid : Prop := solverAddMonotoneRow.holds Tryz.pinned (OpenSpec.ofChange solverAddMonotoneSpec)

/-- ITS FALSE NEIGHBOUR: 'it returns false'. Refute it at one input. -/
def solverAddMonotoneWrong : ChangeSpec := { name := "solverAddMonotone", fn := fun _ => fun
  | [d1, d2, d3, d4] => { results := [.lit (.bool false)], args := [d1, d2, d3, d4] }
  | _ => none }
def SolverAddMonotoneWrongFalsely : Prop := solverAddMonotoneRow.holds Tryz.pinned (OpenSpec.ofChange solverAddMonotoneWrong)

/-- 'chalklinelaw25.SolverGrowPreserves': WHATEVER THE INPUT: true; the input reads as it did. -/
def solverGrowPreservesSpec : ChangeSpec := { name := "solverGrowPreserves", fn := fun _ => fun
  | [d1, d2, d3, d4] => { results := [.lit (.bool true)], args := [d1, d2, d3, d4] }
  | _ => none }
def solverGrowPreservesRow : OpenClaim := { program := "ytogdlkfacflmaaagreat", sum := "1738c9cf499f05222a985c8471754192412e607c4200c13e9f391a51ec13b128", func := "chalkline/chalklinelaw25.SolverGrowPreserves", spec := "solverGrowPreserves", unfollowed := true, recurses := true, apart := false }
def SolverGrowPreservesSaid : Prop := solverGrowPreservesRow.holds Tryz.pinned (OpenSpec.ofChange solverGrowPreservesSpec)

/-- ITS FALSE NEIGHBOUR: 'it returns false'. Refute it at one input. -/
def solverGrowPreservesWrong : ChangeSpec := { name := "solverGrowPreserves", fn := fun _ => fun
  | [d1, d2, d3, d4] => { results := [.lit (.bool false)], args := [d1, d2, d3, d4] }
  | _ => none }
def SolverGrowPreservesWrongFalsely : Prop := solverGrowPreservesRow.holds Tryz.pinned (OpenSpec.ofChange solverGrowPreservesWrong)

/-- 'chalklinelaw28.HitSpec': WHATEVER THE INPUT: true; the input reads as it did. -/
def hitSpecSpec : ChangeSpec := { name := "hitSpec", fn := fun _ => fun
  | [d] => { results := [.lit (.bool true)], args := [d] }
  | _ => none }
def hitSpecRow : OpenClaim := { program := "ytogdlkfacflmaaagreat", sum := "1738c9cf499f05222a985c8471754192412e607c4200c13e9f391a51ec13b128", func := "chalkline/chalklinelaw28.HitSpec", spec := "hitSpec", inPlace := ["slices.overlaps[int]"], unfollowed := true, recurses := true, apart := false }
def HitSpecSaid : Prop := hitSpecRow.holds Tryz.pinned (OpenSpec.ofChange hitSpecSpec)

/-- ITS FALSE NEIGHBOUR: 'it returns false'. Refute it at one input. -/
def hitSpecWrong : ChangeSpec := { name := "hitSpec", fn := fun _ => fun
  | [d] => { results := [.lit (.bool false)], args := [d] }
  | _ => none }
def HitSpecWrongFalsely : Prop := hitSpecRow.holds Tryz.pinned (OpenSpec.ofChange hitSpecWrong)

/-- 'chalklinelaw28.HitMinimal': WHATEVER THE INPUT: true; the input reads as it did. -/
def hitMinimalSpec : ChangeSpec := { name := "hitMinimal", fn := fun _ => fun
  | [d] => { results := [.lit (.bool true)], args := [d] }
  | _ => none }
def hitMinimalRow : OpenClaim := { program := "ytogdlkfacflmaaagreat", sum := "1738c9cf499f05222a985c8471754192412e607c4200c13e9f391a51ec13b128", func := "chalkline/chalklinelaw28.HitMinimal", spec := "hitMinimal", inPlace := ["slices.overlaps[int]"], unfollowed := true, recurses := true, apart := false }
def HitMinimalSaid : Prop := hitMinimalRow.holds Tryz.pinned (OpenSpec.ofChange hitMinimalSpec)

/-- ITS FALSE NEIGHBOUR: 'it returns false'. Refute it at one input. -/
def hitMinimalWrong : ChangeSpec := { name := "hitMinimal", fn := fun _ => fun
  | [d] => { results := [.lit (.bool false)], args := [d] }
  | _ => none }
def HitMinimalWrongFalsely : Prop := hitMinimalRow.holds Tryz.pinned (OpenSpec.ofChange hitMinimalWrong)

/-- 'chalklinelaw28.HitInvolution': WHATEVER THE INPUT: true; the input reads as it did. -/
def hitInvolutionSpec : ChangeSpec := { name := "hitInvolution", fn := fun _ => fun
  | [d] => { results := [.lit (.bool true)], args := [d] }
  | _ => none }
def hitInvolutionRow : OpenClaim := { program := "ytogdlkfacflmaaagreat", sum := "1738c9cf499f05222a985c8471754192412e607c4200c13e9f391a51ec13b128", func := "chalkline/chalklinelaw28.HitInvolution", spec := "hitInvolution", inPlace := ["slices.overlaps[int]"], unfollowed := true, recurses := true, apart := false }
def HitInvolutionSaid : Prop := hitInvolutionRow.holds Tryz.pinned (OpenSpec.ofChange hitInvolutionSpec)

/-- ITS FALSE NEIGHBOUR: 'it returns false'. Refute it at one input. -/
def hitInvolutionWrong : ChangeSpec := { name := "hitInvolution", fn := fun _ => fun
  | [d] => { results := [.lit (.bool false)], args := [d] }
  | _ => none }
def HitInvolutionWrongFalsely : Prop := hitInvolutionRow.holds Tryz.pinned (OpenSpec.ofChange hitInvolutionWrong)

/-- 'chalklinelaw28.HitEnumerates': WHATEVER THE INPUT: true; the input reads as it did. -/
def hitEnumeratesSpec : ChangeSpec := { name := "hitEnumerates", fn := fun _ => fun
  | [d1, d2, d3] => { results := [.lit (.bool true)], args := [d1, d2, d3] }
  | _ => none }
def hitEnumeratesRow : OpenClaim := { program := "ytogdlkfacflmaaagreat", sum := "1738c9cf499f05222a985c8471754192412e607c4200c13e9f391a51ec13b128", func := "chalkline/chalklinelaw28.HitEnumerates", spec := "hitEnumerates", inPlace := ["slices.overlaps[int]"], unfollowed := true, recurses := true, apart := false }
def HitEnumeratesSaid : Prop := hitEnumeratesRow.holds Tryz.pinned (OpenSpec.ofChange hitEnumeratesSpec)

/-- ITS FALSE NEIGHBOUR: 'it returns false'. Refute it at one input. -/
def hitEnumeratesWrong : ChangeSpec := { name := "hitEnumerates", fn := fun _ => fun
  | [d1, d2, d3] => { results := [.lit (.bool false)], args := [d1, d2, d3] }
  | _ => none }
def HitEnumeratesWrongFalsely : Prop := hitEnumeratesRow.holds Tryz.pinned (OpenSpec.ofChange hitEnumeratesWrong)

/-- 'chalklinelaw28.HitDuality': WHATEVER THE INPUT: true; the input reads as it did. -/
def hitDualitySpec : ChangeSpec := { name := "hitDuality", fn := fun _ => fun
  | [d1, d2] => { results := [.lit (.bool true)], args := [d1, d2] }
  | _ => none }
def hitDualityRow : OpenClaim := { program := "ytogdlkfacflmaaagreat", sum := "1738c9cf499f05222a985c8471754192412e607c4200c13e9f391a51ec13b128", func := "chalkline/chalklinelaw28.HitDuality", spec := "hitDuality", inPlace := ["slices.overlaps[int]"], unfollowed := true, recurses := true, apart := false }
def HitDualitySaid : Prop := hitDualityRow.holds Tryz.pinned (OpenSpec.ofChange hitDualitySpec)

/-- ITS FALSE NEIGHBOUR: 'it returns false'. Refute it at one input. -/
def hitDualityWrong : ChangeSpec := { name := "hitDuality", fn := fun _ => fun
  | [d1, d2] => { results := [.lit (.bool false)], args := [d1, d2] }
  | _ => none }
def HitDualityWrongFalsely : Prop := hitDualityRow.holds Tryz.pinned (OpenSpec.ofChange hitDualityWrong)

/-- 'chalklinelaw28.HitCoresMinimal': WHATEVER THE INPUT: true; the input reads as it did. -/
def hitCoresMinimalSpec : ChangeSpec := { name := "hitCoresMinimal", fn := fun _ => fun
  | [d1, d2] => { results := [.lit (.bool true)], args := [d1, d2] }
  | _ => none }
def hitCoresMinimalRow : OpenClaim := { program := "ytogdlkfacflmaaagreat", sum := "1738c9cf499f05222a985c8471754192412e607c4200c13e9f391a51ec13b128", func := "chalkline/chalklinelaw28.HitCoresMinimal", spec := "hitCoresMinimal", inPlace := ["slices.overlaps[int]"], unfollowed := true, recurses := true, apart := false }
def HitCoresMinimalSaid : Prop := hitCoresMinimalRow.holds Tryz.pinned (OpenSpec.ofChange hitCoresMinimalSpec)

/-- ITS FALSE NEIGHBOUR: 'it returns false'. Refute it at one input. -/
def hitCoresMinimalWrong : ChangeSpec := { name := "hitCoresMinimal", fn := fun _ => fun
  | [d1, d2] => { results := [.lit (.bool false)], args := [d1, d2] }
  | _ => none }
def HitCoresMinimalWrongFalsely : Prop := hitCoresMinimalRow.holds Tryz.pinned (OpenSpec.ofChange hitCoresMinimalWrong)

/-- 'chalklinelaw28.HitFixesMinimal': WHATEVER THE INPUT: true; the input reads as it did. -/
def hitFixesMinimalSpec : ChangeSpec := { name := "hitFixesMinimal", fn := fun _ => fun
  | [d1, d2] => { results := [.lit (.bool true)], args := [d1, d2] }
  | _ => none }
def hitFixesMinimalRow : OpenClaim := { program := "ytogdlkfacflmaaagreat", sum := "1738c9cf499f05222a985c8471754192412e607c4200c13e9f391a51ec13b128", func := "chalkline/chalklinelaw28.HitFixesMinimal", spec := "hitFixesMinimal", inPlace := ["slices.overlaps[int]"], unfollowed := true, recurses := true, apart := false }
def HitFixesMinimalSaid : Prop := hitFixesMinimalRow.holds Tryz.pinned (OpenSpec.ofChange hitFixesMinimalSpec)

/-- ITS FALSE NEIGHBOUR: 'it returns false'. Refute it at one input. -/
def hitFixesMinimalWrong : ChangeSpec := { name := "hitFixesMinimal", fn := fun _ => fun
  | [d1, d2] => { results := [.lit (.bool false)], args := [d1, d2] }
  | _ => none }
def HitFixesMinimalWrongFalsely : Prop := hitFixesMinimalRow.holds Tryz.pinned (OpenSpec.ofChange hitFixesMinimalWrong)

/-- 'chalklinelaw28.HitClassifiesSubsets': WHATEVER THE INPUT: true; the input reads as it did. -/
def hitClassifiesSubsetsSpec : ChangeSpec := { name := "hitClassifiesSubsets", fn := fun _ => fun
  | [d1, d2, d3] => { results := [.lit (.bool true)], args := [d1, d2, d3] }
  | _ => none }
def hitClassifiesSubsetsRow : OpenClaim := { program := "ytogdlkfacflmaaagreat", sum := "1738c9cf499f05222a985c8471754192412e607c4200c13e9f391a51ec13b128", func := "chalkline/chalklinelaw28.HitClassifiesSubsets", spec := "hitClassifiesSubsets", inPlace := ["slices.overlaps[int]"], unfollowed := true, recurses := true, apart := false }
def HitClassifiesSubsetsSaid : Prop := hitClassifiesSubsetsRow.holds Tryz.pinned (OpenSpec.ofChange hitClassifiesSubsetsSpec)

/-- ITS FALSE NEIGHBOUR: 'it returns false'. Refute it at one input. -/
def hitClassifiesSubsetsWrong : ChangeSpec := { name := "hitClassifiesSubsets", fn := fun _ => fun
  | [d1, d2, d3] => { results := [.lit (.bool false)], args := [d1, d2, d3] }
  | _ => none }
def HitClassifiesSubsetsWrongFalsely : Prop := hitClassifiesSubsetsRow.holds Tryz.pinned (OpenSpec.ofChange hitClassifiesSubsetsWrong)

/- THE SECOND FORM. 'bulk': how many values and letters a reading holds, each counted each time it is reached (what is shared counts as often as it is met; a slice's spare places count too). A statement '..UptoSaid' is the law's where the arguments, and the package variables that the reading takes, are together of bulk at most 1048576: NARROWER than '..Said'. Prove '..Said' where nothing that the law and all that it calls make is longer than what came in: it says more and counts as full. Else prove '..UptoSaid'. A law counts once. -/
mutual
def uptoBulk {H : Type} : DataW H → Nat
  | .lit (.string bytes) => bytes.length + 1
  | .lit _ => 1
  | .nil => 1
  | .ptr d => uptoBulk d + 1
  | .slice elems spare => uptoBulkAll elems + uptoBulkAll spare + 1
  | .agg parts => uptoBulkAll parts + 1
  | .iface _ d => uptoBulk d + 1
  | .map entries => uptoBulkEntries entries + 1
  | .held _ => 1
def uptoBulkAll {H : Type} : List (DataW H) → Nat
  | [] => 0
  | d :: r => uptoBulk d + uptoBulkAll r
def uptoBulkEntries {H : Type} : List (Lit × DataW H) → Nat
  | [] => 0
  | x :: r => uptoBulkEntry x + uptoBulkEntries r
def uptoBulkEntry {H : Type} : Lit × DataW H → Nat
  | (.string bytes, d) => bytes.length + uptoBulk d + 1
  | (_, d) => uptoBulk d + 1
 end
def uptoSmall : (H : Type) → List (DataW H) → Bool := fun _ ds => decide (uptoBulkAll ds ≤ 1048576)
def OpenSpec.upto (s : _root_.Go.ChangeSpec) : _root_.Go.OpenSpec := { _root_.Go.OpenSpec.ofChange s with cond := some uptoSmall }

/-- 'chalklinelaw27.CoreErrorSpec', WHERE WHAT IT READS IS OF BULK AT MOST 1048576: true; the input reads as it did. -/
def coreErrorSpecUptoRow : OpenClaim := { program := "ytogdlkfacflmaaagreat", sum := "1738c9cf499f05222a985c8471754192412e607c4200c13e9f391a51ec13b128", func := "chalkline/chalklinelaw27.CoreErrorSpec", spec := "coreErrorSpec", unfollowed := true, recurses := true, apart := false, narrowed := true }
def CoreErrorSpecUptoSaid : Prop := coreErrorSpecUptoRow.holds Tryz.pinned (OpenSpec.upto coreErrorSpecSpec)

/-- 'chalklinelaw27.CoreLeastMinimal', WHERE WHAT IT READS IS OF BULK AT MOST 1048576: true; the input reads as it did. -/
def coreLeastMinimalUptoRow : OpenClaim := { program := "ytogdlkfacflmaaagreat", sum := "1738c9cf499f05222a985c8471754192412e607c4200c13e9f391a51ec13b128", func := "chalkline/chalklinelaw27.CoreLeastMinimal", spec := "coreLeastMinimal", unfollowed := true, recurses := true, apart := false, narrowed := true }
def CoreLeastMinimalUptoSaid : Prop := coreLeastMinimalUptoRow.holds Tryz.pinned (OpenSpec.upto coreLeastMinimalSpec)

/-- 'chalklinelaw27.CoreGrowMaximal', WHERE WHAT IT READS IS OF BULK AT MOST 1048576: true; the input reads as it did. -/
def coreGrowMaximalUptoRow : OpenClaim := { program := "ytogdlkfacflmaaagreat", sum := "1738c9cf499f05222a985c8471754192412e607c4200c13e9f391a51ec13b128", func := "chalkline/chalklinelaw27.CoreGrowMaximal", spec := "coreGrowMaximal", unfollowed := true, recurses := true, apart := false, narrowed := true }
def CoreGrowMaximalUptoSaid : Prop := coreGrowMaximalUptoRow.holds Tryz.pinned (OpenSpec.upto coreGrowMaximalSpec)

/-- 'chalklinelaw27.CoreDecides', WHERE WHAT IT READS IS OF BULK AT MOST 1048576: true; the input reads as it did. -/
def coreDecidesUptoRow : OpenClaim := { program := "ytogdlkfacflmaaagreat", sum := "1738c9cf499f05222a985c8471754192412e607c4200c13e9f391a51ec13b128", func := "chalkline/chalklinelaw27.CoreDecides", spec := "coreDecides", unfollowed := true, recurses := true, apart := false, narrowed := true }
def CoreDecidesUptoSaid : Prop := coreDecidesUptoRow.holds Tryz.pinned (OpenSpec.upto coreDecidesSpec)

/-- 'chalklinelaw27.CoreAgreesWithSolver', WHERE WHAT IT READS IS OF BULK AT MOST 1048576: true; the input reads as it did. -/
def coreAgreesWithSolverUptoRow : OpenClaim := { program := "ytogdlkfacflmaaagreat", sum := "1738c9cf499f05222a985c8471754192412e607c4200c13e9f391a51ec13b128", func := "chalkline/chalklinelaw27.CoreAgreesWithSolver", spec := "coreAgreesWithSolver", unfollowed := true, recurses := true, apart := false, narrowed := true }
def CoreAgreesWithSolverUptoSaid : Prop := coreAgreesWithSolverUptoRow.holds Tryz.pinned (OpenSpec.upto coreAgreesWithSolverSpec)

/-- 'chalklinelaw27.CoreIdempotent', WHERE WHAT IT READS IS OF BULK AT MOST 1048576: true; the input reads as it did. -/
def coreIdempotentUptoRow : OpenClaim := { program := "ytogdlkfacflmaaagreat", sum := "1738c9cf499f05222a985c8471754192412e607c4200c13e9f391a51ec13b128", func := "chalkline/chalklinelaw27.CoreIdempotent", spec := "coreIdempotent", unfollowed := true, recurses := true, apart := false, narrowed := true }
def CoreIdempotentUptoSaid : Prop := coreIdempotentUptoRow.holds Tryz.pinned (OpenSpec.upto coreIdempotentSpec)

/-- 'chalklinelaw27.CoreCorrectionSet', WHERE WHAT IT READS IS OF BULK AT MOST 1048576: true; the input reads as it did. -/
def coreCorrectionSetUptoRow : OpenClaim := { program := "ytogdlkfacflmaaagreat", sum := "1738c9cf499f05222a985c8471754192412e607c4200c13e9f391a51ec13b128", func := "chalkline/chalklinelaw27.CoreCorrectionSet", spec := "coreCorrectionSet", unfollowed := true, recurses := true, apart := false, narrowed := true }
def CoreCorrectionSetUptoSaid : Prop := coreCorrectionSetUptoRow.holds Tryz.pinned (OpenSpec.upto coreCorrectionSetSpec)

/-- 'chalklinelaw25.SolverBasicsSpec', WHERE WHAT IT READS IS OF BULK AT MOST 1048576: true; the input reads as it did. -/
def solverBasicsSpecUptoRow : OpenClaim := { program := "ytogdlkfacflmaaagreat", sum := "1738c9cf499f05222a985c8471754192412e607c4200c13e9f391a51ec13b128", func := "chalkline/chalklinelaw25.SolverBasicsSpec", spec := "solverBasicsSpec", unfollowed := true, recurses := true, apart := false, narrowed := true }
def SolverBasicsSpecUptoSaid : Prop := solverBasicsSpecUptoRow.holds Tryz.pinned (OpenSpec.upto solverBasicsSpecSpec)

/-- 'chalklinelaw25.SolverSolveErrors', WHERE WHAT IT READS IS OF BULK AT MOST 1048576: true; the input reads as it did. -/
def solverSolveErrorsUptoRow : OpenClaim := { program := "ytogdlkfacflmaaagreat", sum := "1738c9cf499f05222a985c8471754192412e607c4200c13e9f391a51ec13b128", func := "chalkline/chalklinelaw25.SolverSolveErrors", spec := "solverSolveErrors", unfollowed := true, recurses := true, apart := false, narrowed := true }
def SolverSolveErrorsUptoSaid : Prop := solverSolveErrorsUptoRow.holds Tryz.pinned (OpenSpec.upto solverSolveErrorsSpec)

/-- 'chalklinelaw25.SolverAnswerCorrect', WHERE WHAT IT READS IS OF BULK AT MOST 1048576: true; the input reads as it did. -/
def solverAnswerCorrectUptoRow : OpenClaim := { program := "ytogdlkfacflmaaagreat", sum := "1738c9cf499f05222a985c8471754192412e607c4200c13e9f391a51ec13b128", func := "chalkline/chalklinelaw25.SolverAnswerCorrect", spec := "solverAnswerCorrect", unfollowed := true, recurses := true, apart := false, narrowed := true }
def SolverAnswerCorrectUptoSaid : Prop := solverAnswerCorrectUptoRow.holds Tryz.pinned (OpenSpec.upto solverAnswerCorrectSpec)

/-- 'chalklinelaw25.SolverStatePreserved', WHERE WHAT IT READS IS OF BULK AT MOST 1048576: true; the input reads as it did. -/
def solverStatePreservedUptoRow : OpenClaim := { program := "ytogdlkfacflmaaagreat", sum := "1738c9cf499f05222a985c8471754192412e607c4200c13e9f391a51ec13b128", func := "chalkline/chalklinelaw25.SolverStatePreserved", spec := "solverStatePreserved", unfollowed := true, recurses := true, apart := false, narrowed := true }
def SolverStatePreservedUptoSaid : Prop := solverStatePreservedUptoRow.holds Tryz.pinned (OpenSpec.upto solverStatePreservedSpec)

/-- 'chalklinelaw25.SolverAnswerStable', WHERE WHAT IT READS IS OF BULK AT MOST 1048576: true; the input reads as it did. -/
def solverAnswerStableUptoRow : OpenClaim := { program := "ytogdlkfacflmaaagreat", sum := "1738c9cf499f05222a985c8471754192412e607c4200c13e9f391a51ec13b128", func := "chalkline/chalklinelaw25.SolverAnswerStable", spec := "solverAnswerStable", unfollowed := true, recurses := true, apart := false, narrowed := true }
def SolverAnswerStableUptoSaid : Prop := solverAnswerStableUptoRow.holds Tryz.pinned (OpenSpec.upto solverAnswerStableSpec)

/-- 'chalklinelaw25.SolverEnumeratesModels', WHERE WHAT IT READS IS OF BULK AT MOST 1048576: true; the input reads as it did. -/
def solverEnumeratesModelsUptoRow : OpenClaim := { program := "ytogdlkfacflmaaagreat", sum := "1738c9cf499f05222a985c8471754192412e607c4200c13e9f391a51ec13b128", func := "chalkline/chalklinelaw25.SolverEnumeratesModels", spec := "solverEnumeratesModels", unfollowed := true, recurses := true, apart := false, narrowed := true }
def SolverEnumeratesModelsUptoSaid : Prop := solverEnumeratesModelsUptoRow.holds Tryz.pinned (OpenSpec.upto solverEnumeratesModelsSpec)

/-- 'chalklinelaw25.SolverAddMonotone', WHERE WHAT IT READS IS OF BULK AT MOST 1048576: true; the input reads as it did. -/
def solverAddMonotoneUptoRow : OpenClaim := { program := "ytogdlkfacflmaaagreat", sum := "1738c9cf499f05222a985c8471754192412e607c4200c13e9f391a51ec13b128", func := "chalkline/chalklinelaw25.SolverAddMonotone", spec := "solverAddMonotone", unfollowed := true, recurses := true, apart := false, narrowed := true }
def SolverAddMonotoneUptoSaid : Prop := solverAddMonotoneUptoRow.holds Tryz.pinned (OpenSpec.upto solverAddMonotoneSpec)

/-- 'chalklinelaw25.SolverGrowPreserves', WHERE WHAT IT READS IS OF BULK AT MOST 1048576: true; the input reads as it did. -/
def solverGrowPreservesUptoRow : OpenClaim := { program := "ytogdlkfacflmaaagreat", sum := "1738c9cf499f05222a985c8471754192412e607c4200c13e9f391a51ec13b128", func := "chalkline/chalklinelaw25.SolverGrowPreserves", spec := "solverGrowPreserves", unfollowed := true, recurses := true, apart := false, narrowed := true }
def SolverGrowPreservesUptoSaid : Prop := solverGrowPreservesUptoRow.holds Tryz.pinned (OpenSpec.upto solverGrowPreservesSpec)

/-- 'chalklinelaw28.HitSpec', WHERE WHAT IT READS IS OF BULK AT MOST 1048576: true; the input reads as it did. -/
def hitSpecUptoRow : OpenClaim := { program := "ytogdlkfacflmaaagreat", sum := "1738c9cf499f05222a985c8471754192412e607c4200c13e9f391a51ec13b128", func := "chalkline/chalklinelaw28.HitSpec", spec := "hitSpec", inPlace := ["slices.overlaps[int]"], unfollowed := true, recurses := true, apart := false, narrowed := true }
def HitSpecUptoSaid : Prop := hitSpecUptoRow.holds Tryz.pinned (OpenSpec.upto hitSpecSpec)

/-- 'chalklinelaw28.HitMinimal', WHERE WHAT IT READS IS OF BULK AT MOST 1048576: true; the input reads as it did. -/
def hitMinimalUptoRow : OpenClaim := { program := "ytogdlkfacflmaaagreat", sum := "1738c9cf499f05222a985c8471754192412e607c4200c13e9f391a51ec13b128", func := "chalkline/chalklinelaw28.HitMinimal", spec := "hitMinimal", inPlace := ["slices.overlaps[int]"], unfollowed := true, recurses := true, apart := false, narrowed := true }
def HitMinimalUptoSaid : Prop := hitMinimalUptoRow.holds Tryz.pinned (OpenSpec.upto hitMinimalSpec)

/-- 'chalklinelaw28.HitInvolution', WHERE WHAT IT READS IS OF BULK AT MOST 1048576: true; the input reads as it did. -/
def hitInvolutionUptoRow : OpenClaim := { program := "ytogdlkfacflmaaagreat", sum := "1738c9cf499f05222a985c8471754192412e607c4200c13e9f391a51ec13b128", func := "chalkline/chalklinelaw28.HitInvolution", spec := "hitInvolution", inPlace := ["slices.overlaps[int]"], unfollowed := true, recurses := true, apart := false, narrowed := true }
def HitInvolutionUptoSaid : Prop := hitInvolutionUptoRow.holds Tryz.pinned (OpenSpec.upto hitInvolutionSpec)

/-- 'chalklinelaw28.HitEnumerates', WHERE WHAT IT READS IS OF BULK AT MOST 1048576: true; the input reads as it did. -/
def hitEnumeratesUptoRow : OpenClaim := { program := "ytogdlkfacflmaaagreat", sum := "1738c9cf499f05222a985c8471754192412e607c4200c13e9f391a51ec13b128", func := "chalkline/chalklinelaw28.HitEnumerates", spec := "hitEnumerates", inPlace := ["slices.overlaps[int]"], unfollowed := true, recurses := true, apart := false, narrowed := true }
def HitEnumeratesUptoSaid : Prop := hitEnumeratesUptoRow.holds Tryz.pinned (OpenSpec.upto hitEnumeratesSpec)

/-- 'chalklinelaw28.HitDuality', WHERE WHAT IT READS IS OF BULK AT MOST 1048576: true; the input reads as it did. -/
def hitDualityUptoRow : OpenClaim := { program := "ytogdlkfacflmaaagreat", sum := "1738c9cf499f05222a985c8471754192412e607c4200c13e9f391a51ec13b128", func := "chalkline/chalklinelaw28.HitDuality", spec := "hitDuality", inPlace := ["slices.overlaps[int]"], unfollowed := true, recurses := true, apart := false, narrowed := true }
def HitDualityUptoSaid : Prop := hitDualityUptoRow.holds Tryz.pinned (OpenSpec.upto hitDualitySpec)

/-- 'chalklinelaw28.HitCoresMinimal', WHERE WHAT IT READS IS OF BULK AT MOST 1048576: true; the input reads as it did. -/
def hitCoresMinimalUptoRow : OpenClaim := { program := "ytogdlkfacflmaaagreat", sum := "1738c9cf499f05222a985c8471754192412e607c4200c13e9f391a51ec13b128", func := "chalkline/chalklinelaw28.HitCoresMinimal", spec := "hitCoresMinimal", inPlace := ["slices.overlaps[int]"], unfollowed := true, recurses := true, apart := false, narrowed := true }
def HitCoresMinimalUptoSaid : Prop := hitCoresMinimalUptoRow.holds Tryz.pinned (OpenSpec.upto hitCoresMinimalSpec)

/-- 'chalklinelaw28.HitFixesMinimal', WHERE WHAT IT READS IS OF BULK AT MOST 1048576: true; the input reads as it did. -/
def hitFixesMinimalUptoRow : OpenClaim := { program := "ytogdlkfacflmaaagreat", sum := "1738c9cf499f05222a985c8471754192412e607c4200c13e9f391a51ec13b128", func := "chalkline/chalklinelaw28.HitFixesMinimal", spec := "hitFixesMinimal", inPlace := ["slices.overlaps[int]"], unfollowed := true, recurses := true, apart := false, narrowed := true }
def HitFixesMinimalUptoSaid : Prop := hitFixesMinimalUptoRow.holds Tryz.pinned (OpenSpec.upto hitFixesMinimalSpec)

/-- 'chalklinelaw28.HitClassifiesSubsets', WHERE WHAT IT READS IS OF BULK AT MOST 1048576: true; the input reads as it did. -/
def hitClassifiesSubsetsUptoRow : OpenClaim := { program := "ytogdlkfacflmaaagreat", sum := "1738c9cf499f05222a985c8471754192412e607c4200c13e9f391a51ec13b128", func := "chalkline/chalklinelaw28.HitClassifiesSubsets", spec := "hitClassifiesSubsets", inPlace := ["slices.overlaps[int]"], unfollowed := true, recurses := true, apart := false, narrowed := true }
def HitClassifiesSubsetsUptoSaid : Prop := hitClassifiesSubsetsUptoRow.holds Tryz.pinned (OpenSpec.upto hitClassifiesSubsetsSpec)

end Rows
end Go.Proofs.YtogdlkfacflmaaaGreat
