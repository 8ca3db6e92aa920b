/-
  No cell of these rows narrows 'for every input' (looked for: loops, veiled, ifaces, maps, wideKeys, modest, calm, conditions, laid).
  DERIVED. THE GIVEN ROWS OF THIS SEAT. 8 by the template 'for every input the law returns true; each argument reads behind the call as it read before'; 0 by the template 'total and deterministic' (their statements: YtenpenelikpeeaaTotals.lean).
  GIVEN WITH THE SEED: the statements are not yours to turn. If you find one false, say at which input.
  Laid BY PROGRAM, IN A SANDBOX (cutbox-rows.mjs): the forced cells as the released guide's own fill.sh prints them over the translation f33c927029996508… (all of the seat's roots in one cut). By AI agents, Wed Nov 11 2026. No macro, syntax, notation, axiom, sorry.
-/
import Derived.Test.YtenpenelikpeeaaChecked
import GoSem.Claim
import GoSem.ClaimJoined
import GoSem.ClaimMapViews
import Derived.JoinedTies
import Derived.KernelRfl
namespace Go.Proofs.Ytenpenelikpeeaa
/- THE CELL 'sum', in the pinned program and in every row, IS THE sha256 OF THE DUMP (.gsa) THAT YtenpenelikpeeaaProg.lean LOADS. Nothing in Lean hashes anything: it is a label: what it is worth is what the hold of that sum in a sandbox is worth. -/
noncomputable def Try.pinned : Pinned := { name := "ytenpenelikpeeaa", sum := "f33c92702999650829671f0967c7eb8f695374e82e0da7bc8619b7e5fec2d174", checked := Try.checked }
namespace Rows
def none {H : Type} : Left H := { results := [], args := [] }

/-- 'chalklinelaw20.LearnFirst': WHATEVER THE INPUT: true; the input reads as it did. -/
def learnFirstSpec : ChangeSpec := { name := "learnFirst", fn := fun _ => fun
  | [d1, d2, d3] => { results := [.lit (.bool true)], args := [d1, d2, d3] }
  | _ => none }
def learnFirstRow : OpenClaim := { program := "ytenpenelikpeeaa", sum := "f33c92702999650829671f0967c7eb8f695374e82e0da7bc8619b7e5fec2d174", func := "chalkline/chalklinelaw20.LearnFirst", spec := "learnFirst", unfollowed := true, recurses := true, apart := false }
def LearnFirstSaid : Prop := learnFirstRow.holds Try.pinned (OpenSpec.ofChange learnFirstSpec)

/-- ITS FALSE NEIGHBOUR: 'it returns false'. Refute it at one input. -/
def learnFirstWrong : ChangeSpec := { name := "learnFirst", fn := fun _ => fun
  | [d1, d2, d3] => { results := [.lit (.bool false)], args := [d1, d2, d3] }
  | _ => none }
def LearnFirstWrongFalsely : Prop := learnFirstRow.holds Try.pinned (OpenSpec.ofChange learnFirstWrong)

/-- 'chalklinelaw20.LearnRedundant': WHATEVER THE INPUT: true; the input reads as it did. -/
def learnRedundantSpec : ChangeSpec := { name := "learnRedundant", fn := fun _ => fun
  | [d1, d2, d3] => { results := [.lit (.bool true)], args := [d1, d2, d3] }
  | _ => none }
def learnRedundantRow : OpenClaim := { program := "ytenpenelikpeeaa", sum := "f33c92702999650829671f0967c7eb8f695374e82e0da7bc8619b7e5fec2d174", func := "chalkline/chalklinelaw20.LearnRedundant", spec := "learnRedundant", unfollowed := true, recurses := true, apart := false }
def LearnRedundantSaid : Prop := learnRedundantRow.holds Try.pinned (OpenSpec.ofChange learnRedundantSpec)

/-- ITS FALSE NEIGHBOUR: 'it returns false'. Refute it at one input. -/
def learnRedundantWrong : ChangeSpec := { name := "learnRedundant", fn := fun _ => fun
  | [d1, d2, d3] => { results := [.lit (.bool false)], args := [d1, d2, d3] }
  | _ => none }
def LearnRedundantWrongFalsely : Prop := learnRedundantRow.holds Try.pinned (OpenSpec.ofChange learnRedundantWrong)

/-- 'chalklinelaw20.LearnAsserting': WHATEVER THE INPUT: true; the input reads as it did. -/
def learnAssertingSpec : ChangeSpec := { name := "learnAsserting", fn := fun _ => fun
  | [d1, d2, d3] => { results := [.lit (.bool true)], args := [d1, d2, d3] }
  | _ => none }
def learnAssertingRow : OpenClaim := { program := "ytenpenelikpeeaa", sum := "f33c92702999650829671f0967c7eb8f695374e82e0da7bc8619b7e5fec2d174", func := "chalkline/chalklinelaw20.LearnAsserting", spec := "learnAsserting", unfollowed := true, recurses := true, apart := false }
def LearnAssertingSaid : Prop := learnAssertingRow.holds Try.pinned (OpenSpec.ofChange learnAssertingSpec)

/-- ITS FALSE NEIGHBOUR: 'it returns false'. Refute it at one input. -/
def learnAssertingWrong : ChangeSpec := { name := "learnAsserting", fn := fun _ => fun
  | [d1, d2, d3] => { results := [.lit (.bool false)], args := [d1, d2, d3] }
  | _ => none }
def LearnAssertingWrongFalsely : Prop := learnAssertingRow.holds Try.pinned (OpenSpec.ofChange learnAssertingWrong)

/-- 'chalklinelaw20.LearnErrors': WHATEVER THE INPUT: true; the input reads as it did. -/
def learnErrorsSpec : ChangeSpec := { name := "learnErrors", fn := fun _ => fun
  | [d1, d2, d3, d4] => { results := [.lit (.bool true)], args := [d1, d2, d3, d4] }
  | _ => none }
def learnErrorsRow : OpenClaim := { program := "ytenpenelikpeeaa", sum := "f33c92702999650829671f0967c7eb8f695374e82e0da7bc8619b7e5fec2d174", func := "chalkline/chalklinelaw20.LearnErrors", spec := "learnErrors", unfollowed := true, recurses := true, apart := false }
def LearnErrorsSaid : Prop := learnErrorsRow.holds Try.pinned (OpenSpec.ofChange learnErrorsSpec)

/-- ITS FALSE NEIGHBOUR: 'it returns false'. Refute it at one input. -/
def learnErrorsWrong : ChangeSpec := { name := "learnErrors", fn := fun _ => fun
  | [d1, d2, d3, d4] => { results := [.lit (.bool false)], args := [d1, d2, d3, d4] }
  | _ => none }
def LearnErrorsWrongFalsely : Prop := learnErrorsRow.holds Try.pinned (OpenSpec.ofChange learnErrorsWrong)

/-- 'chalklinelaw20.LearnSound': WHATEVER THE INPUT: true; the input reads as it did. -/
def learnSoundSpec : ChangeSpec := { name := "learnSound", fn := fun _ => fun
  | [d1, d2, d3, d4] => { results := [.lit (.bool true)], args := [d1, d2, d3, d4] }
  | _ => none }
def learnSoundRow : OpenClaim := { program := "ytenpenelikpeeaa", sum := "f33c92702999650829671f0967c7eb8f695374e82e0da7bc8619b7e5fec2d174", func := "chalkline/chalklinelaw20.LearnSound", spec := "learnSound", unfollowed := true, recurses := true, apart := false }
def LearnSoundSaid : Prop := learnSoundRow.holds Try.pinned (OpenSpec.ofChange learnSoundSpec)

/-- ITS FALSE NEIGHBOUR: 'it returns false'. Refute it at one input. -/
def learnSoundWrong : ChangeSpec := { name := "learnSound", fn := fun _ => fun
  | [d1, d2, d3, d4] => { results := [.lit (.bool false)], args := [d1, d2, d3, d4] }
  | _ => none }
def LearnSoundWrongFalsely : Prop := learnSoundRow.holds Try.pinned (OpenSpec.ofChange learnSoundWrong)

/-- 'chalklinelaw20.LearnRup': WHATEVER THE INPUT: true; the input reads as it did. -/
def learnRupSpec : ChangeSpec := { name := "learnRup", fn := fun _ => fun
  | [d1, d2] => { results := [.lit (.bool true)], args := [d1, d2] }
  | _ => none }
def learnRupRow : OpenClaim := { program := "ytenpenelikpeeaa", sum := "f33c92702999650829671f0967c7eb8f695374e82e0da7bc8619b7e5fec2d174", func := "chalkline/chalklinelaw20.LearnRup", spec := "learnRup", unfollowed := true, recurses := true, apart := false }
def LearnRupSaid : Prop := learnRupRow.holds Try.pinned (OpenSpec.ofChange learnRupSpec)

/-- ITS FALSE NEIGHBOUR: 'it returns false'. Refute it at one input. -/
def learnRupWrong : ChangeSpec := { name := "learnRup", fn := fun _ => fun
  | [d1, d2] => { results := [.lit (.bool false)], args := [d1, d2] }
  | _ => none }
def LearnRupWrongFalsely : Prop := learnRupRow.holds Try.pinned (OpenSpec.ofChange learnRupWrong)

/-- 'chalklinelaw20.LearnMinimizes': WHATEVER THE INPUT: true; the input reads as it did. -/
def learnMinimizesSpec : ChangeSpec := { name := "learnMinimizes", fn := fun _ => fun
  | [d1, d2, d3] => { results := [.lit (.bool true)], args := [d1, d2, d3] }
  | _ => none }
def learnMinimizesRow : OpenClaim := { program := "ytenpenelikpeeaa", sum := "f33c92702999650829671f0967c7eb8f695374e82e0da7bc8619b7e5fec2d174", func := "chalkline/chalklinelaw20.LearnMinimizes", spec := "learnMinimizes", unfollowed := true, recurses := true, apart := false }
def LearnMinimizesSaid : Prop := learnMinimizesRow.holds Try.pinned (OpenSpec.ofChange learnMinimizesSpec)

/-- ITS FALSE NEIGHBOUR: 'it returns false'. Refute it at one input. -/
def learnMinimizesWrong : ChangeSpec := { name := "learnMinimizes", fn := fun _ => fun
  | [d1, d2, d3] => { results := [.lit (.bool false)], args := [d1, d2, d3] }
  | _ => none }
def LearnMinimizesWrongFalsely : Prop := learnMinimizesRow.holds Try.pinned (OpenSpec.ofChange learnMinimizesWrong)

/-- 'chalklinelaw20.LearnBackjump': WHATEVER THE INPUT: true; the input reads as it did. -/
def learnBackjumpSpec : ChangeSpec := { name := "learnBackjump", fn := fun _ => fun
  | [d1, d2, d3] => { results := [.lit (.bool true)], args := [d1, d2, d3] }
  | _ => none }
def learnBackjumpRow : OpenClaim := { program := "ytenpenelikpeeaa", sum := "f33c92702999650829671f0967c7eb8f695374e82e0da7bc8619b7e5fec2d174", func := "chalkline/chalklinelaw20.LearnBackjump", spec := "learnBackjump", unfollowed := true, recurses := true, apart := false }
def LearnBackjumpSaid : Prop := learnBackjumpRow.holds Try.pinned (OpenSpec.ofChange learnBackjumpSpec)

/-- ITS FALSE NEIGHBOUR: 'it returns false'. Refute it at one input. -/
def learnBackjumpWrong : ChangeSpec := { name := "learnBackjump", fn := fun _ => fun
  | [d1, d2, d3] => { results := [.lit (.bool false)], args := [d1, d2, d3] }
  | _ => none }
def LearnBackjumpWrongFalsely : Prop := learnBackjumpRow.holds Try.pinned (OpenSpec.ofChange learnBackjumpWrong)

/- THE SECOND FORM. 'bulk': how many values and letters a reading holds, each counted each time it is reached (what is shared counts as often as it is met; a slice's spare places count too). A statement '..UptoSaid' is the law's where the arguments, and the package variables that the reading takes, are together of bulk at most 1048576: NARROWER than '..Said'. Prove '..Said' where nothing that the law and all that it calls make is longer than what came in: it says more and counts as full. Else prove '..UptoSaid'. A law counts once. -/
mutual
def uptoBulk {H : Type} : DataW H → Nat
  | .lit (.string bytes) => bytes.length + 1
  | .lit _ => 1
  | .nil => 1
  | .ptr d => uptoBulk d + 1
  | .slice elems spare => uptoBulkAll elems + uptoBulkAll spare + 1
  | .agg parts => uptoBulkAll parts + 1
  | .iface _ d => uptoBulk d + 1
  | .map entries => uptoBulkEntries entries + 1
  | .held _ => 1
def uptoBulkAll {H : Type} : List (DataW H) → Nat
  | [] => 0
  | d :: r => uptoBulk d + uptoBulkAll r
def uptoBulkEntries {H : Type} : List (Lit × DataW H) → Nat
  | [] => 0
  | x :: r => uptoBulkEntry x + uptoBulkEntries r
def uptoBulkEntry {H : Type} : Lit × DataW H → Nat
  | (.string bytes, d) => bytes.length + uptoBulk d + 1
  | (_, d) => uptoBulk d + 1
 end
def uptoSmall : (H : Type) → List (DataW H) → Bool := fun _ ds => decide (uptoBulkAll ds ≤ 1048576)
def OpenSpec.upto (s : _root_.Go.ChangeSpec) : _root_.Go.OpenSpec := { _root_.Go.OpenSpec.ofChange s with cond := some uptoSmall }

/-- 'chalklinelaw20.LearnFirst', WHERE WHAT IT READS IS OF BULK AT MOST 1048576: true; the input reads as it did. -/
def learnFirstUptoRow : OpenClaim := { program := "ytenpenelikpeeaa", sum := "f33c92702999650829671f0967c7eb8f695374e82e0da7bc8619b7e5fec2d174", func := "chalkline/chalklinelaw20.LearnFirst", spec := "learnFirst", unfollowed := true, recurses := true, apart := false, narrowed := true }
def LearnFirstUptoSaid : Prop := learnFirstUptoRow.holds Try.pinned (OpenSpec.upto learnFirstSpec)

/-- 'chalklinelaw20.LearnRedundant', WHERE WHAT IT READS IS OF BULK AT MOST 1048576: true; the input reads as it did. -/
def learnRedundantUptoRow : OpenClaim := { program := "ytenpenelikpeeaa", sum := "f33c92702999650829671f0967c7eb8f695374e82e0da7bc8619b7e5fec2d174", func := "chalkline/chalklinelaw20.LearnRedundant", spec := "learnRedundant", unfollowed := true, recurses := true, apart := false, narrowed := true }
def LearnRedundantUptoSaid : Prop := learnRedundantUptoRow.holds Try.pinned (OpenSpec.upto learnRedundantSpec)

/-- 'chalklinelaw20.LearnAsserting', WHERE WHAT IT READS IS OF BULK AT MOST 1048576: true; the input reads as it did. -/
def learnAssertingUptoRow : OpenClaim := { program := "ytenpenelikpeeaa", sum := "f33c92702999650829671f0967c7eb8f695374e82e0da7bc8619b7e5fec2d174", func := "chalkline/chalklinelaw20.LearnAsserting", spec := "learnAsserting", unfollowed := true, recurses := true, apart := false, narrowed := true }
def LearnAssertingUptoSaid : Prop := learnAssertingUptoRow.holds Try.pinned (OpenSpec.upto learnAssertingSpec)

/-- 'chalklinelaw20.LearnErrors', WHERE WHAT IT READS IS OF BULK AT MOST 1048576: true; the input reads as it did. -/
def learnErrorsUptoRow : OpenClaim := { program := "ytenpenelikpeeaa", sum := "f33c92702999650829671f0967c7eb8f695374e82e0da7bc8619b7e5fec2d174", func := "chalkline/chalklinelaw20.LearnErrors", spec := "learnErrors", unfollowed := true, recurses := true, apart := false, narrowed := true }
def LearnErrorsUptoSaid : Prop := learnErrorsUptoRow.holds Try.pinned (OpenSpec.upto learnErrorsSpec)

/-- 'chalklinelaw20.LearnSound', WHERE WHAT IT READS IS OF BULK AT MOST 1048576: true; the input reads as it did. -/
def learnSoundUptoRow : OpenClaim := { program := "ytenpenelikpeeaa", sum := "f33c92702999650829671f0967c7eb8f695374e82e0da7bc8619b7e5fec2d174", func := "chalkline/chalklinelaw20.LearnSound", spec := "learnSound", unfollowed := true, recurses := true, apart := false, narrowed := true }
def LearnSoundUptoSaid : Prop := learnSoundUptoRow.holds Try.pinned (OpenSpec.upto learnSoundSpec)

/-- 'chalklinelaw20.LearnRup', WHERE WHAT IT READS IS OF BULK AT MOST 1048576: true; the input reads as it did. -/
def learnRupUptoRow : OpenClaim := { program := "ytenpenelikpeeaa", sum := "f33c92702999650829671f0967c7eb8f695374e82e0da7bc8619b7e5fec2d174", func := "chalkline/chalklinelaw20.LearnRup", spec := "learnRup", unfollowed := true, recurses := true, apart := false, narrowed := true }
def LearnRupUptoSaid : Prop := learnRupUptoRow.holds Try.pinned (OpenSpec.upto learnRupSpec)

/-- 'chalklinelaw20.LearnMinimizes', WHERE WHAT IT READS IS OF BULK AT MOST 1048576: true; the input reads as it did. -/
def learnMinimizesUptoRow : OpenClaim := { program := "ytenpenelikpeeaa", sum := "f33c92702999650829671f0967c7eb8f695374e82e0da7bc8619b7e5fec2d174", func := "chalkline/chalklinelaw20.LearnMinimizes", spec := "learnMinimizes", unfollowed := true, recurses := true, apart := false, narrowed := true }
def LearnMinimizesUptoSaid : Prop := learnMinimizesUptoRow.holds Try.pinned (OpenSpec.upto learnMinimizesSpec)

/-- 'chalklinelaw20.LearnBackjump', WHERE WHAT IT READS IS OF BULK AT MOST 1048576: true; the input reads as it did. -/
def learnBackjumpUptoRow : OpenClaim := { program := "ytenpenelikpeeaa", sum := "f33c92702999650829671f0967c7eb8f695374e82e0da7bc8619b7e5fec2d174", func := "chalkline/chalklinelaw20.LearnBackjump", spec := "learnBackjump", unfollowed := true, recurses := true, apart := false, narrowed := true }
def LearnBackjumpUptoSaid : Prop := learnBackjumpUptoRow.holds Try.pinned (OpenSpec.upto learnBackjumpSpec)

end Rows
end Go.Proofs.Ytenpenelikpeeaa
