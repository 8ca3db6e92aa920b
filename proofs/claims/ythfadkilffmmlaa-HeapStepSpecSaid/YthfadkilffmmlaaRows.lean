/-
  No cell of these rows narrows 'for every input' (looked for: loops, veiled, ifaces, maps, wideKeys, modest, calm, conditions, laid).
  DERIVED. THE GIVEN ROWS OF THIS SEAT. 7 by the template 'for every input the law returns true; each argument reads behind the call as it read before'; 0 by the template 'total and deterministic' (their statements: YthfadkilffmmlaaTotals.lean).
  GIVEN WITH THE SEED: the statements are not yours to turn. If you find one false, say at which input.
  Laid BY PROGRAM, IN A SANDBOX (cutbox-rows.mjs): the forced cells as the released guide's own fill.sh prints them over the translation b68a11a5c263e105… (all of the seat's roots in one cut). By AI agents, Wed Nov 11 2026. No macro, syntax, notation, axiom, sorry.
-/
import Derived.Test.YthfadkilffmmlaaChecked
import GoSem.Claim
import GoSem.ClaimJoined
import GoSem.ClaimMapViews
import Derived.JoinedTies
import Derived.KernelRfl
namespace Go.Proofs.Ythfadkilffmmlaa
/- THE CELL 'sum', in the pinned program and in every row, IS THE sha256 OF THE DUMP (.gsa) THAT YthfadkilffmmlaaProg.lean LOADS. Nothing in Lean hashes anything: it is a label: what it is worth is what the hold of that sum in a sandbox is worth. -/
noncomputable def Try.pinned : Pinned := { name := "ythfadkilffmmlaa", sum := "b68a11a5c263e10506e996007be6be23d08e4fd6be36e5e97f768168d9aaccec", checked := Try.checked }
namespace Rows
def none {H : Type} : Left H := { results := [], args := [] }

/-- 'chalklinelaw21.HeapCheckSpec': WHATEVER THE INPUT: true; the input reads as it did. -/
def heapCheckSpecSpec : ChangeSpec := { name := "heapCheckSpec", fn := fun _ => fun
  | [d1, d2] => { results := [.lit (.bool true)], args := [d1, d2] }
  | _ => none }
def heapCheckSpecRow : OpenClaim := { program := "ythfadkilffmmlaa", sum := "b68a11a5c263e10506e996007be6be23d08e4fd6be36e5e97f768168d9aaccec", func := "chalkline/chalklinelaw21.HeapCheckSpec", spec := "heapCheckSpec", inPlace := ["slices.overlaps[int]"], unfollowed := true, recurses := true, apart := false }
def HeapCheckSpecSaid : Prop := heapCheckSpecRow.holds Try.pinned (OpenSpec.ofChange heapCheckSpecSpec)

/-- ITS FALSE NEIGHBOUR: 'it returns false'. Refute it at one input. -/
def heapCheckSpecWrong : ChangeSpec := { name := "heapCheckSpec", fn := fun _ => fun
  | [d1, d2] => { results := [.lit (.bool false)], args := [d1, d2] }
  | _ => none }
def HeapCheckSpecWrongFalsely : Prop := heapCheckSpecRow.holds Try.pinned (OpenSpec.ofChange heapCheckSpecWrong)

/-- 'chalklinelaw21.HeapStepSpec': WHATEVER THE INPUT: true; the input reads as it did. -/
def heapStepSpecSpec : ChangeSpec := { name := "heapStepSpec", fn := fun _ => fun
  | [d1, d2] => { results := [.lit (.bool true)], args := [d1, d2] }
  | _ => none }
def heapStepSpecRow : OpenClaim := { program := "ythfadkilffmmlaa", sum := "b68a11a5c263e10506e996007be6be23d08e4fd6be36e5e97f768168d9aaccec", func := "chalkline/chalklinelaw21.HeapStepSpec", spec := "heapStepSpec", inPlace := ["slices.overlaps[int]"], unfollowed := true, recurses := true, apart := false }
def HeapStepSpecSaid : Prop := heapStepSpecRow.holds Try.pinned (OpenSpec.ofChange heapStepSpecSpec)

/-- ITS FALSE NEIGHBOUR: 'it returns false'. Refute it at one input. -/
def heapStepSpecWrong : ChangeSpec := { name := "heapStepSpec", fn := fun _ => fun
  | [d1, d2] => { results := [.lit (.bool false)], args := [d1, d2] }
  | _ => none }
def HeapStepSpecWrongFalsely : Prop := heapStepSpecRow.holds Try.pinned (OpenSpec.ofChange heapStepSpecWrong)

/-- 'chalklinelaw21.HeapPopSorted': WHATEVER THE INPUT: true; the input reads as it did. -/
def heapPopSortedSpec : ChangeSpec := { name := "heapPopSorted", fn := fun _ => fun
  | [d] => { results := [.lit (.bool true)], args := [d] }
  | _ => none }
def heapPopSortedRow : OpenClaim := { program := "ythfadkilffmmlaa", sum := "b68a11a5c263e10506e996007be6be23d08e4fd6be36e5e97f768168d9aaccec", func := "chalkline/chalklinelaw21.HeapPopSorted", spec := "heapPopSorted", inPlace := ["slices.overlaps[int]"], unfollowed := true, recurses := true, apart := false }
def HeapPopSortedSaid : Prop := heapPopSortedRow.holds Try.pinned (OpenSpec.ofChange heapPopSortedSpec)

/-- ITS FALSE NEIGHBOUR: 'it returns false'. Refute it at one input. -/
def heapPopSortedWrong : ChangeSpec := { name := "heapPopSorted", fn := fun _ => fun
  | [d] => { results := [.lit (.bool false)], args := [d] }
  | _ => none }
def HeapPopSortedWrongFalsely : Prop := heapPopSortedRow.holds Try.pinned (OpenSpec.ofChange heapPopSortedWrong)

/-- 'chalklinelaw21.HeapPushRestores': WHATEVER THE INPUT: true; the input reads as it did. -/
def heapPushRestoresSpec : ChangeSpec := { name := "heapPushRestores", fn := fun _ => fun
  | [d1, d2, d3] => { results := [.lit (.bool true)], args := [d1, d2, d3] }
  | _ => none }
def heapPushRestoresRow : OpenClaim := { program := "ythfadkilffmmlaa", sum := "b68a11a5c263e10506e996007be6be23d08e4fd6be36e5e97f768168d9aaccec", func := "chalkline/chalklinelaw21.HeapPushRestores", spec := "heapPushRestores", inPlace := ["slices.overlaps[int]"], unfollowed := true, recurses := true, apart := false }
def HeapPushRestoresSaid : Prop := heapPushRestoresRow.holds Try.pinned (OpenSpec.ofChange heapPushRestoresSpec)

/-- ITS FALSE NEIGHBOUR: 'it returns false'. Refute it at one input. -/
def heapPushRestoresWrong : ChangeSpec := { name := "heapPushRestores", fn := fun _ => fun
  | [d1, d2, d3] => { results := [.lit (.bool false)], args := [d1, d2, d3] }
  | _ => none }
def HeapPushRestoresWrongFalsely : Prop := heapPushRestoresRow.holds Try.pinned (OpenSpec.ofChange heapPushRestoresWrong)

/-- 'chalklinelaw21.HeapBumpLocal': WHATEVER THE INPUT: true; the input reads as it did. -/
def heapBumpLocalSpec : ChangeSpec := { name := "heapBumpLocal", fn := fun _ => fun
  | [d1, d2] => { results := [.lit (.bool true)], args := [d1, d2] }
  | _ => none }
def heapBumpLocalRow : OpenClaim := { program := "ythfadkilffmmlaa", sum := "b68a11a5c263e10506e996007be6be23d08e4fd6be36e5e97f768168d9aaccec", func := "chalkline/chalklinelaw21.HeapBumpLocal", spec := "heapBumpLocal", inPlace := ["slices.overlaps[int]"], unfollowed := true, recurses := true, apart := false }
def HeapBumpLocalSaid : Prop := heapBumpLocalRow.holds Try.pinned (OpenSpec.ofChange heapBumpLocalSpec)

/-- ITS FALSE NEIGHBOUR: 'it returns false'. Refute it at one input. -/
def heapBumpLocalWrong : ChangeSpec := { name := "heapBumpLocal", fn := fun _ => fun
  | [d1, d2] => { results := [.lit (.bool false)], args := [d1, d2] }
  | _ => none }
def HeapBumpLocalWrongFalsely : Prop := heapBumpLocalRow.holds Try.pinned (OpenSpec.ofChange heapBumpLocalWrong)

/-- 'chalklinelaw21.HeapDecayGrows': WHATEVER THE INPUT: true; the input reads as it did. -/
def heapDecayGrowsSpec : ChangeSpec := { name := "heapDecayGrows", fn := fun _ => fun
  | [d1, d2] => { results := [.lit (.bool true)], args := [d1, d2] }
  | _ => none }
def heapDecayGrowsRow : OpenClaim := { program := "ythfadkilffmmlaa", sum := "b68a11a5c263e10506e996007be6be23d08e4fd6be36e5e97f768168d9aaccec", func := "chalkline/chalklinelaw21.HeapDecayGrows", spec := "heapDecayGrows", inPlace := ["slices.overlaps[int]"], unfollowed := true, recurses := true, apart := false }
def HeapDecayGrowsSaid : Prop := heapDecayGrowsRow.holds Try.pinned (OpenSpec.ofChange heapDecayGrowsSpec)

/-- ITS FALSE NEIGHBOUR: 'it returns false'. Refute it at one input. -/
def heapDecayGrowsWrong : ChangeSpec := { name := "heapDecayGrows", fn := fun _ => fun
  | [d1, d2] => { results := [.lit (.bool false)], args := [d1, d2] }
  | _ => none }
def HeapDecayGrowsWrongFalsely : Prop := heapDecayGrowsRow.holds Try.pinned (OpenSpec.ofChange heapDecayGrowsWrong)

/-- 'chalklinelaw21.HeapLubySequence': WHATEVER THE INPUT: true; the input reads as it did. -/
def heapLubySequenceSpec : ChangeSpec := { name := "heapLubySequence", fn := fun _ => fun
  | [d1, d2] => { results := [.lit (.bool true)], args := [d1, d2] }
  | _ => none }
def heapLubySequenceRow : OpenClaim := { program := "ythfadkilffmmlaa", sum := "b68a11a5c263e10506e996007be6be23d08e4fd6be36e5e97f768168d9aaccec", func := "chalkline/chalklinelaw21.HeapLubySequence", spec := "heapLubySequence", inPlace := ["slices.overlaps[int]"], unfollowed := true, recurses := true, apart := false }
def HeapLubySequenceSaid : Prop := heapLubySequenceRow.holds Try.pinned (OpenSpec.ofChange heapLubySequenceSpec)

/-- ITS FALSE NEIGHBOUR: 'it returns false'. Refute it at one input. -/
def heapLubySequenceWrong : ChangeSpec := { name := "heapLubySequence", fn := fun _ => fun
  | [d1, d2] => { results := [.lit (.bool false)], args := [d1, d2] }
  | _ => none }
def HeapLubySequenceWrongFalsely : Prop := heapLubySequenceRow.holds Try.pinned (OpenSpec.ofChange heapLubySequenceWrong)

/- THE SECOND FORM. 'bulk': how many values and letters a reading holds, each counted each time it is reached (what is shared counts as often as it is met; a slice's spare places count too). A statement '..UptoSaid' is the law's where the arguments, and the package variables that the reading takes, are together of bulk at most 1048576: NARROWER than '..Said'. Prove '..Said' where nothing that the law and all that it calls make is longer than what came in: it says more and counts as full. Else prove '..UptoSaid'. A law counts once. -/
mutual
def uptoBulk {H : Type} : DataW H → Nat
  | .lit (.string bytes) => bytes.length + 1
  | .lit _ => 1
  | .nil => 1
  | .ptr d => uptoBulk d + 1
  | .slice elems spare => uptoBulkAll elems + uptoBulkAll spare + 1
  | .agg parts => uptoBulkAll parts + 1
  | .iface _ d => uptoBulk d + 1
  | .map entries => uptoBulkEntries entries + 1
  | .held _ => 1
def uptoBulkAll {H : Type} : List (DataW H) → Nat
  | [] => 0
  | d :: r => uptoBulk d + uptoBulkAll r
def uptoBulkEntries {H : Type} : List (Lit × DataW H) → Nat
  | [] => 0
  | x :: r => uptoBulkEntry x + uptoBulkEntries r
def uptoBulkEntry {H : Type} : Lit × DataW H → Nat
  | (.string bytes, d) => bytes.length + uptoBulk d + 1
  | (_, d) => uptoBulk d + 1
 end
def uptoSmall : (H : Type) → List (DataW H) → Bool := fun _ ds => decide (uptoBulkAll ds ≤ 1048576)
def OpenSpec.upto (s : _root_.Go.ChangeSpec) : _root_.Go.OpenSpec := { _root_.Go.OpenSpec.ofChange s with cond := some uptoSmall }

/-- 'chalklinelaw21.HeapCheckSpec', WHERE WHAT IT READS IS OF BULK AT MOST 1048576: true; the input reads as it did. -/
def heapCheckSpecUptoRow : OpenClaim := { program := "ythfadkilffmmlaa", sum := "b68a11a5c263e10506e996007be6be23d08e4fd6be36e5e97f768168d9aaccec", func := "chalkline/chalklinelaw21.HeapCheckSpec", spec := "heapCheckSpec", inPlace := ["slices.overlaps[int]"], unfollowed := true, recurses := true, apart := false, narrowed := true }
def HeapCheckSpecUptoSaid : Prop := heapCheckSpecUptoRow.holds Try.pinned (OpenSpec.upto heapCheckSpecSpec)

/-- 'chalklinelaw21.HeapStepSpec', WHERE WHAT IT READS IS OF BULK AT MOST 1048576: true; the input reads as it did. -/
def heapStepSpecUptoRow : OpenClaim := { program := "ythfadkilffmmlaa", sum := "b68a11a5c263e10506e996007be6be23d08e4fd6be36e5e97f768168d9aaccec", func := "chalkline/chalklinelaw21.HeapStepSpec", spec := "heapStepSpec", inPlace := ["slices.overlaps[int]"], unfollowed := true, recurses := true, apart := false, narrowed := true }
def HeapStepSpecUptoSaid : Prop := heapStepSpecUptoRow.holds Try.pinned (OpenSpec.upto heapStepSpecSpec)

/-- 'chalklinelaw21.HeapPopSorted', WHERE WHAT IT READS IS OF BULK AT MOST 1048576: true; the input reads as it did. -/
def heapPopSortedUptoRow : OpenClaim := { program := "ythfadkilffmmlaa", sum := "b68a11a5c263e10506e996007be6be23d08e4fd6be36e5e97f768168d9aaccec", func := "chalkline/chalklinelaw21.HeapPopSorted", spec := "heapPopSorted", inPlace := ["slices.overlaps[int]"], unfollowed := true, recurses := true, apart := false, narrowed := true }
def HeapPopSortedUptoSaid : Prop := heapPopSortedUptoRow.holds Try.pinned (OpenSpec.upto heapPopSortedSpec)

/-- 'chalklinelaw21.HeapPushRestores', WHERE WHAT IT READS IS OF BULK AT MOST 1048576: true; the input reads as it did. -/
def heapPushRestoresUptoRow : OpenClaim := { program := "ythfadkilffmmlaa", sum := "b68a11a5c263e10506e996007be6be23d08e4fd6be36e5e97f768168d9aaccec", func := "chalkline/chalklinelaw21.HeapPushRestores", spec := "heapPushRestores", inPlace := ["slices.overlaps[int]"], unfollowed := true, recurses := true, apart := false, narrowed := true }
def HeapPushRestoresUptoSaid : Prop := heapPushRestoresUptoRow.holds Try.pinned (OpenSpec.upto heapPushRestoresSpec)

/-- 'chalklinelaw21.HeapBumpLocal', WHERE WHAT IT READS IS OF BULK AT MOST 1048576: true; the input reads as it did. -/
def heapBumpLocalUptoRow : OpenClaim := { program := "ythfadkilffmmlaa", sum := "b68a11a5c263e10506e996007be6be23d08e4fd6be36e5e97f768168d9aaccec", func := "chalkline/chalklinelaw21.HeapBumpLocal", spec := "heapBumpLocal", inPlace := ["slices.overlaps[int]"], unfollowed := true, recurses := true, apart := false, narrowed := true }
def HeapBumpLocalUptoSaid : Prop := heapBumpLocalUptoRow.holds Try.pinned (OpenSpec.upto heapBumpLocalSpec)

/-- 'chalklinelaw21.HeapDecayGrows', WHERE WHAT IT READS IS OF BULK AT MOST 1048576: true; the input reads as it did. -/
def heapDecayGrowsUptoRow : OpenClaim := { program := "ythfadkilffmmlaa", sum := "b68a11a5c263e10506e996007be6be23d08e4fd6be36e5e97f768168d9aaccec", func := "chalkline/chalklinelaw21.HeapDecayGrows", spec := "heapDecayGrows", inPlace := ["slices.overlaps[int]"], unfollowed := true, recurses := true, apart := false, narrowed := true }
def HeapDecayGrowsUptoSaid : Prop := heapDecayGrowsUptoRow.holds Try.pinned (OpenSpec.upto heapDecayGrowsSpec)

/-- 'chalklinelaw21.HeapLubySequence', WHERE WHAT IT READS IS OF BULK AT MOST 1048576: true; the input reads as it did. -/
def heapLubySequenceUptoRow : OpenClaim := { program := "ythfadkilffmmlaa", sum := "b68a11a5c263e10506e996007be6be23d08e4fd6be36e5e97f768168d9aaccec", func := "chalkline/chalklinelaw21.HeapLubySequence", spec := "heapLubySequence", inPlace := ["slices.overlaps[int]"], unfollowed := true, recurses := true, apart := false, narrowed := true }
def HeapLubySequenceUptoSaid : Prop := heapLubySequenceUptoRow.holds Try.pinned (OpenSpec.upto heapLubySequenceSpec)

end Rows
end Go.Proofs.Ythfadkilffmmlaa
