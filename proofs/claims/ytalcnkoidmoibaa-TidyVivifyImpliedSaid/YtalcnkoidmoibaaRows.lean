/-
  No cell of these rows narrows 'for every input' (looked for: loops, veiled, ifaces, maps, wideKeys, modest, calm, conditions, laid).
  DERIVED. THE GIVEN ROWS OF THIS SEAT. 8 by the template 'for every input the law returns true; each argument reads behind the call as it read before'; 0 by the template 'total and deterministic' (their statements: YtalcnkoidmoibaaTotals.lean).
  GIVEN WITH THE SEED: the statements are not yours to turn. If you find one false, say at which input.
  Laid BY PROGRAM, IN A SANDBOX (cutbox-rows.mjs): the forced cells as the released guide's own fill.sh prints them over the translation 8616cdc6aa54521a… (all of the seat's roots in one cut). By AI agents, Wed Nov 11 2026. No macro, syntax, notation, axiom, sorry.
-/
import Derived.Test.YtalcnkoidmoibaaChecked
import GoSem.Claim
import GoSem.ClaimJoined
import GoSem.ClaimMapViews
import Derived.JoinedTies
import Derived.KernelRfl
namespace Go.Proofs.Ytalcnkoidmoibaa
/- THE CELL 'sum', in the pinned program and in every row, IS THE sha256 OF THE DUMP (.gsa) THAT YtalcnkoidmoibaaProg.lean LOADS. Nothing in Lean hashes anything: it is a label: what it is worth is what the hold of that sum in a sandbox is worth. -/
noncomputable def Try.pinned : Pinned := { name := "ytalcnkoidmoibaa", sum := "8616cdc6aa54521a4db6783992ba534f54cf729979f9c6de9799025c89e0b9dd", checked := Try.checked }
namespace Rows
def none {H : Type} : Left H := { results := [], args := [] }

/-- 'chalklinelaw22.TidyReduceSpec': WHATEVER THE INPUT: true; the input reads as it did. -/
def tidyReduceSpecSpec : ChangeSpec := { name := "tidyReduceSpec", fn := fun _ => fun
  | [d1, d2] => { results := [.lit (.bool true)], args := [d1, d2] }
  | _ => none }
def tidyReduceSpecRow : OpenClaim := { program := "ytalcnkoidmoibaa", sum := "8616cdc6aa54521a4db6783992ba534f54cf729979f9c6de9799025c89e0b9dd", func := "chalkline/chalklinelaw22.TidyReduceSpec", spec := "tidyReduceSpec", unfollowed := true, recurses := true, apart := false }
def TidyReduceSpecSaid : Prop := tidyReduceSpecRow.holds Try.pinned (OpenSpec.ofChange tidyReduceSpecSpec)

/-- ITS FALSE NEIGHBOUR: 'it returns false'. Refute it at one input. -/
def tidyReduceSpecWrong : ChangeSpec := { name := "tidyReduceSpec", fn := fun _ => fun
  | [d1, d2] => { results := [.lit (.bool false)], args := [d1, d2] }
  | _ => none }
def TidyReduceSpecWrongFalsely : Prop := tidyReduceSpecRow.holds Try.pinned (OpenSpec.ofChange tidyReduceSpecWrong)

/-- 'chalklinelaw22.TidyVivifySpec': WHATEVER THE INPUT: true; the input reads as it did. -/
def tidyVivifySpecSpec : ChangeSpec := { name := "tidyVivifySpec", fn := fun _ => fun
  | [d1, d2] => { results := [.lit (.bool true)], args := [d1, d2] }
  | _ => none }
def tidyVivifySpecRow : OpenClaim := { program := "ytalcnkoidmoibaa", sum := "8616cdc6aa54521a4db6783992ba534f54cf729979f9c6de9799025c89e0b9dd", func := "chalkline/chalklinelaw22.TidyVivifySpec", spec := "tidyVivifySpec", unfollowed := true, recurses := true, apart := false }
def TidyVivifySpecSaid : Prop := tidyVivifySpecRow.holds Try.pinned (OpenSpec.ofChange tidyVivifySpecSpec)

/-- ITS FALSE NEIGHBOUR: 'it returns false'. Refute it at one input. -/
def tidyVivifySpecWrong : ChangeSpec := { name := "tidyVivifySpec", fn := fun _ => fun
  | [d1, d2] => { results := [.lit (.bool false)], args := [d1, d2] }
  | _ => none }
def TidyVivifySpecWrongFalsely : Prop := tidyVivifySpecRow.holds Try.pinned (OpenSpec.ofChange tidyVivifySpecWrong)

/-- 'chalklinelaw22.TidySubsumeSpec': WHATEVER THE INPUT: true; the input reads as it did. -/
def tidySubsumeSpecSpec : ChangeSpec := { name := "tidySubsumeSpec", fn := fun _ => fun
  | [d] => { results := [.lit (.bool true)], args := [d] }
  | _ => none }
def tidySubsumeSpecRow : OpenClaim := { program := "ytalcnkoidmoibaa", sum := "8616cdc6aa54521a4db6783992ba534f54cf729979f9c6de9799025c89e0b9dd", func := "chalkline/chalklinelaw22.TidySubsumeSpec", spec := "tidySubsumeSpec", unfollowed := true, recurses := true, apart := false }
def TidySubsumeSpecSaid : Prop := tidySubsumeSpecRow.holds Try.pinned (OpenSpec.ofChange tidySubsumeSpecSpec)

/-- ITS FALSE NEIGHBOUR: 'it returns false'. Refute it at one input. -/
def tidySubsumeSpecWrong : ChangeSpec := { name := "tidySubsumeSpec", fn := fun _ => fun
  | [d] => { results := [.lit (.bool false)], args := [d] }
  | _ => none }
def TidySubsumeSpecWrongFalsely : Prop := tidySubsumeSpecRow.holds Try.pinned (OpenSpec.ofChange tidySubsumeSpecWrong)

/-- 'chalklinelaw22.TidyVivifyShrinks': WHATEVER THE INPUT: true; the input reads as it did. -/
def tidyVivifyShrinksSpec : ChangeSpec := { name := "tidyVivifyShrinks", fn := fun _ => fun
  | [d1, d2] => { results := [.lit (.bool true)], args := [d1, d2] }
  | _ => none }
def tidyVivifyShrinksRow : OpenClaim := { program := "ytalcnkoidmoibaa", sum := "8616cdc6aa54521a4db6783992ba534f54cf729979f9c6de9799025c89e0b9dd", func := "chalkline/chalklinelaw22.TidyVivifyShrinks", spec := "tidyVivifyShrinks", unfollowed := true, recurses := true, apart := false }
def TidyVivifyShrinksSaid : Prop := tidyVivifyShrinksRow.holds Try.pinned (OpenSpec.ofChange tidyVivifyShrinksSpec)

/-- ITS FALSE NEIGHBOUR: 'it returns false'. Refute it at one input. -/
def tidyVivifyShrinksWrong : ChangeSpec := { name := "tidyVivifyShrinks", fn := fun _ => fun
  | [d1, d2] => { results := [.lit (.bool false)], args := [d1, d2] }
  | _ => none }
def TidyVivifyShrinksWrongFalsely : Prop := tidyVivifyShrinksRow.holds Try.pinned (OpenSpec.ofChange tidyVivifyShrinksWrong)

/-- 'chalklinelaw22.TidyReduceRanking': WHATEVER THE INPUT: true; the input reads as it did. -/
def tidyReduceRankingSpec : ChangeSpec := { name := "tidyReduceRanking", fn := fun _ => fun
  | [d1, d2] => { results := [.lit (.bool true)], args := [d1, d2] }
  | _ => none }
def tidyReduceRankingRow : OpenClaim := { program := "ytalcnkoidmoibaa", sum := "8616cdc6aa54521a4db6783992ba534f54cf729979f9c6de9799025c89e0b9dd", func := "chalkline/chalklinelaw22.TidyReduceRanking", spec := "tidyReduceRanking", unfollowed := true, recurses := true, apart := false }
def TidyReduceRankingSaid : Prop := tidyReduceRankingRow.holds Try.pinned (OpenSpec.ofChange tidyReduceRankingSpec)

/-- ITS FALSE NEIGHBOUR: 'it returns false'. Refute it at one input. -/
def tidyReduceRankingWrong : ChangeSpec := { name := "tidyReduceRanking", fn := fun _ => fun
  | [d1, d2] => { results := [.lit (.bool false)], args := [d1, d2] }
  | _ => none }
def TidyReduceRankingWrongFalsely : Prop := tidyReduceRankingRow.holds Try.pinned (OpenSpec.ofChange tidyReduceRankingWrong)

/-- 'chalklinelaw22.TidyVivifyEquivalent': WHATEVER THE INPUT: true; the input reads as it did. -/
def tidyVivifyEquivalentSpec : ChangeSpec := { name := "tidyVivifyEquivalent", fn := fun _ => fun
  | [d1, d2] => { results := [.lit (.bool true)], args := [d1, d2] }
  | _ => none }
def tidyVivifyEquivalentRow : OpenClaim := { program := "ytalcnkoidmoibaa", sum := "8616cdc6aa54521a4db6783992ba534f54cf729979f9c6de9799025c89e0b9dd", func := "chalkline/chalklinelaw22.TidyVivifyEquivalent", spec := "tidyVivifyEquivalent", unfollowed := true, recurses := true, apart := false }
def TidyVivifyEquivalentSaid : Prop := tidyVivifyEquivalentRow.holds Try.pinned (OpenSpec.ofChange tidyVivifyEquivalentSpec)

/-- ITS FALSE NEIGHBOUR: 'it returns false'. Refute it at one input. -/
def tidyVivifyEquivalentWrong : ChangeSpec := { name := "tidyVivifyEquivalent", fn := fun _ => fun
  | [d1, d2] => { results := [.lit (.bool false)], args := [d1, d2] }
  | _ => none }
def TidyVivifyEquivalentWrongFalsely : Prop := tidyVivifyEquivalentRow.holds Try.pinned (OpenSpec.ofChange tidyVivifyEquivalentWrong)

/-- 'chalklinelaw22.TidySubsumeEquivalent': WHATEVER THE INPUT: true; the input reads as it did. -/
def tidySubsumeEquivalentSpec : ChangeSpec := { name := "tidySubsumeEquivalent", fn := fun _ => fun
  | [d1, d2] => { results := [.lit (.bool true)], args := [d1, d2] }
  | _ => none }
def tidySubsumeEquivalentRow : OpenClaim := { program := "ytalcnkoidmoibaa", sum := "8616cdc6aa54521a4db6783992ba534f54cf729979f9c6de9799025c89e0b9dd", func := "chalkline/chalklinelaw22.TidySubsumeEquivalent", spec := "tidySubsumeEquivalent", unfollowed := true, recurses := true, apart := false }
def TidySubsumeEquivalentSaid : Prop := tidySubsumeEquivalentRow.holds Try.pinned (OpenSpec.ofChange tidySubsumeEquivalentSpec)

/-- ITS FALSE NEIGHBOUR: 'it returns false'. Refute it at one input. -/
def tidySubsumeEquivalentWrong : ChangeSpec := { name := "tidySubsumeEquivalent", fn := fun _ => fun
  | [d1, d2] => { results := [.lit (.bool false)], args := [d1, d2] }
  | _ => none }
def TidySubsumeEquivalentWrongFalsely : Prop := tidySubsumeEquivalentRow.holds Try.pinned (OpenSpec.ofChange tidySubsumeEquivalentWrong)

/-- 'chalklinelaw22.TidyVivifyImplied': WHATEVER THE INPUT: true; the input reads as it did. -/
def tidyVivifyImpliedSpec : ChangeSpec := { name := "tidyVivifyImplied", fn := fun _ => fun
  | [d1, d2] => { results := [.lit (.bool true)], args := [d1, d2] }
  | _ => none }
def tidyVivifyImpliedRow : OpenClaim := { program := "ytalcnkoidmoibaa", sum := "8616cdc6aa54521a4db6783992ba534f54cf729979f9c6de9799025c89e0b9dd", func := "chalkline/chalklinelaw22.TidyVivifyImplied", spec := "tidyVivifyImplied", unfollowed := true, recurses := true, apart := false }
def TidyVivifyImpliedSaid : Prop := tidyVivifyImpliedRow.holds Try.pinned (OpenSpec.ofChange tidyVivifyImpliedSpec)

/-- ITS FALSE NEIGHBOUR: 'it returns false'. Refute it at one input. -/
def tidyVivifyImpliedWrong : ChangeSpec := { name := "tidyVivifyImplied", fn := fun _ => fun
  | [d1, d2] => { results := [.lit (.bool false)], args := [d1, d2] }
  | _ => none }
def TidyVivifyImpliedWrongFalsely : Prop := tidyVivifyImpliedRow.holds Try.pinned (OpenSpec.ofChange tidyVivifyImpliedWrong)

/- THE SECOND FORM. 'bulk': how many values and letters a reading holds, each counted each time it is reached (what is shared counts as often as it is met; a slice's spare places count too). A statement '..UptoSaid' is the law's where the arguments, and the package variables that the reading takes, are together of bulk at most 1048576: NARROWER than '..Said'. Prove '..Said' where nothing that the law and all that it calls make is longer than what came in: it says more and counts as full. Else prove '..UptoSaid'. A law counts once. -/
mutual
def uptoBulk {H : Type} : DataW H → Nat
  | .lit (.string bytes) => bytes.length + 1
  | .lit _ => 1
  | .nil => 1
  | .ptr d => uptoBulk d + 1
  | .slice elems spare => uptoBulkAll elems + uptoBulkAll spare + 1
  | .agg parts => uptoBulkAll parts + 1
  | .iface _ d => uptoBulk d + 1
  | .map entries => uptoBulkEntries entries + 1
  | .held _ => 1
def uptoBulkAll {H : Type} : List (DataW H) → Nat
  | [] => 0
  | d :: r => uptoBulk d + uptoBulkAll r
def uptoBulkEntries {H : Type} : List (Lit × DataW H) → Nat
  | [] => 0
  | x :: r => uptoBulkEntry x + uptoBulkEntries r
def uptoBulkEntry {H : Type} : Lit × DataW H → Nat
  | (.string bytes, d) => bytes.length + uptoBulk d + 1
  | (_, d) => uptoBulk d + 1
 end
def uptoSmall : (H : Type) → List (DataW H) → Bool := fun _ ds => decide (uptoBulkAll ds ≤ 1048576)
def OpenSpec.upto (s : _root_.Go.ChangeSpec) : _root_.Go.OpenSpec := { _root_.Go.OpenSpec.ofChange s with cond := some uptoSmall }

/-- 'chalklinelaw22.TidyReduceSpec', WHERE WHAT IT READS IS OF BULK AT MOST 1048576: true; the input reads as it did. -/
def tidyReduceSpecUptoRow : OpenClaim := { program := "ytalcnkoidmoibaa", sum := "8616cdc6aa54521a4db6783992ba534f54cf729979f9c6de9799025c89e0b9dd", func := "chalkline/chalklinelaw22.TidyReduceSpec", spec := "tidyReduceSpec", unfollowed := true, recurses := true, apart := false, narrowed := true }
def TidyReduceSpecUptoSaid : Prop := tidyReduceSpecUptoRow.holds Try.pinned (OpenSpec.upto tidyReduceSpecSpec)

/-- 'chalklinelaw22.TidyVivifySpec', WHERE WHAT IT READS IS OF BULK AT MOST 1048576: true; the input reads as it did. -/
def tidyVivifySpecUptoRow : OpenClaim := { program := "ytalcnkoidmoibaa", sum := "8616cdc6aa54521a4db6783992ba534f54cf729979f9c6de9799025c89e0b9dd", func := "chalkline/chalklinelaw22.TidyVivifySpec", spec := "tidyVivifySpec", unfollowed := true, recurses := true, apart := false, narrowed := true }
def TidyVivifySpecUptoSaid : Prop := tidyVivifySpecUptoRow.holds Try.pinned (OpenSpec.upto tidyVivifySpecSpec)

/-- 'chalklinelaw22.TidySubsumeSpec', WHERE WHAT IT READS IS OF BULK AT MOST 1048576: true; the input reads as it did. -/
def tidySubsumeSpecUptoRow : OpenClaim := { program := "ytalcnkoidmoibaa", sum := "8616cdc6aa54521a4db6783992ba534f54cf729979f9c6de9799025c89e0b9dd", func := "chalkline/chalklinelaw22.TidySubsumeSpec", spec := "tidySubsumeSpec", unfollowed := true, recurses := true, apart := false, narrowed := true }
def TidySubsumeSpecUptoSaid : Prop := tidySubsumeSpecUptoRow.holds Try.pinned (OpenSpec.upto tidySubsumeSpecSpec)

/-- 'chalklinelaw22.TidyVivifyShrinks', WHERE WHAT IT READS IS OF BULK AT MOST 1048576: true; the input reads as it did. -/
def tidyVivifyShrinksUptoRow : OpenClaim := { program := "ytalcnkoidmoibaa", sum := "8616cdc6aa54521a4db6783992ba534f54cf729979f9c6de9799025c89e0b9dd", func := "chalkline/chalklinelaw22.TidyVivifyShrinks", spec := "tidyVivifyShrinks", unfollowed := true, recurses := true, apart := false, narrowed := true }
def TidyVivifyShrinksUptoSaid : Prop := tidyVivifyShrinksUptoRow.holds Try.pinned (OpenSpec.upto tidyVivifyShrinksSpec)

/-- 'chalklinelaw22.TidyReduceRanking', WHERE WHAT IT READS IS OF BULK AT MOST 1048576: true; the input reads as it did. -/
def tidyReduceRankingUptoRow : OpenClaim := { program := "ytalcnkoidmoibaa", sum := "8616cdc6aa54521a4db6783992ba534f54cf729979f9c6de9799025c89e0b9dd", func := "chalkline/chalklinelaw22.TidyReduceRanking", spec := "tidyReduceRanking", unfollowed := true, recurses := true, apart := false, narrowed := true }
def TidyReduceRankingUptoSaid : Prop := tidyReduceRankingUptoRow.holds Try.pinned (OpenSpec.upto tidyReduceRankingSpec)

/-- 'chalklinelaw22.TidyVivifyEquivalent', WHERE WHAT IT READS IS OF BULK AT MOST 1048576: true; the input reads as it did. -/
def tidyVivifyEquivalentUptoRow : OpenClaim := { program := "ytalcnkoidmoibaa", sum := "8616cdc6aa54521a4db6783992ba534f54cf729979f9c6de9799025c89e0b9dd", func := "chalkline/chalklinelaw22.TidyVivifyEquivalent", spec := "tidyVivifyEquivalent", unfollowed := true, recurses := true, apart := false, narrowed := true }
def TidyVivifyEquivalentUptoSaid : Prop := tidyVivifyEquivalentUptoRow.holds Try.pinned (OpenSpec.upto tidyVivifyEquivalentSpec)

/-- 'chalklinelaw22.TidySubsumeEquivalent', WHERE WHAT IT READS IS OF BULK AT MOST 1048576: true; the input reads as it did. -/
def tidySubsumeEquivalentUptoRow : OpenClaim := { program := "ytalcnkoidmoibaa", sum := "8616cdc6aa54521a4db6783992ba534f54cf729979f9c6de9799025c89e0b9dd", func := "chalkline/chalklinelaw22.TidySubsumeEquivalent", spec := "tidySubsumeEquivalent", unfollowed := true, recurses := true, apart := false, narrowed := true }
def TidySubsumeEquivalentUptoSaid : Prop := tidySubsumeEquivalentUptoRow.holds Try.pinned (OpenSpec.upto tidySubsumeEquivalentSpec)

/-- 'chalklinelaw22.TidyVivifyImplied', WHERE WHAT IT READS IS OF BULK AT MOST 1048576: true; the input reads as it did. -/
def tidyVivifyImpliedUptoRow : OpenClaim := { program := "ytalcnkoidmoibaa", sum := "8616cdc6aa54521a4db6783992ba534f54cf729979f9c6de9799025c89e0b9dd", func := "chalkline/chalklinelaw22.TidyVivifyImplied", spec := "tidyVivifyImplied", unfollowed := true, recurses := true, apart := false, narrowed := true }
def TidyVivifyImpliedUptoSaid : Prop := tidyVivifyImpliedUptoRow.holds Try.pinned (OpenSpec.upto tidyVivifyImpliedSpec)

end Rows
end Go.Proofs.Ytalcnkoidmoibaa
