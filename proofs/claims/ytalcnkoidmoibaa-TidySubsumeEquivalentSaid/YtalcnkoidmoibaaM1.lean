/-
  Words for a map[int]bool of a function's own that is used as a set. No condition.
-/
import Derived.Test.YtalcnkoidmoibaaMem
import Derived.Maps.OwnOps
import Derived.Maps.OwnSet
import Derived.Maps.Views
namespace Go.Proofs.Ytalcnkoidmoibaa
open Go.RowKit
set_option linter.unusedVariables false
set_option linter.unusedSimpArgs false

theorem elem_bool_inv {P : Program} {e : TypeId} (he : P.underlying e = some .bool) {v : Value} {x : Bool} {ps : List MemPlace} (h : plainElem (H := Unit) P e v = some (.lit (.bool x), ps)) : v = .bool x := by
  unfold plainElem at h
  rw [he] at h
  cases v <;> simp at h
  rw [h.1]

/-- the block is a map that holds 'true' at the elements of S, and at no other key -/
def SM (w : World) (b n : Nat) (S : List Int) : Prop :=
  ∃ D : DataW Unit, w.ownsMap Try.prog 3 (plainElem Try.prog 4) b n D ∧ ∀ x, (Lit.int .i64 x).wf = true → D.atKey (.int .i64 x) (.lit (.bool false)) = .lit (.bool (hasB S x))

theorem SM.made (w : World) : SM (w.alloc (.map #[] 0)) w.heap.size 0 [] :=
  ⟨_, World.ownsMap_made w _ _ _, fun x _ => rfl⟩
theorem SM.mono {w : World} {b n n' : Nat} {S : List Int} (h : SM w b n S) (hn : n ≤ n') : SM w b n' S := by
  obtain ⟨D, h1, h2⟩ := h; exact ⟨D, h1.mono hn, h2⟩
theorem SM.lt {w : World} {b n : Nat} {S : List Int} (h : SM w b n S) : b < w.heap.size := by
  obtain ⟨D, h1, h2⟩ := h; exact h1.lt
theorem SM.kept {w w' : World} {b n : Nat} {S : List Int} {row : Option Nat} (h : SM w b n S) (hg : w.grownBy w' row) (hne : some b ≠ row) : SM w' b n S := by
  obtain ⟨D, h1, h2⟩ := h; exact ⟨D, h1.kept hg hne, h2⟩
theorem SM.alloc {w : World} {b n : Nat} {S : List Int} (h : SM w b n S) (o : Obj) : SM (w.alloc o) b n S := by
  obtain ⟨D, h1, h2⟩ := h; exact ⟨D, h1.alloc o, h2⟩
theorem SM.drew {w : World} {b n : Nat} {S : List Int} (h : SM w b n S) : SM w.drew b n S := by
  obtain ⟨D, h1, h2⟩ := h; exact ⟨D, h1.drew, h2⟩
theorem SM.below {w w' : World} {b n B : Nat} {S : List Int} (h : SM w b n S) (hb : Below B w w') (hB : b < B) : SM w' b n S := by
  obtain ⟨D, ⟨es, clock, h1, h3⟩, h2⟩ := h; exact ⟨D, ⟨es, clock, (hb.block b hB).trans h1, h3⟩, h2⟩
theorem SM.look {w : World} {b n : Nat} {S : List Int} (h : SM w b n S) {x : Int} (hx : (Lit.int .i64 x).wf = true) :
    (Instr.lookup 59 (.map (some b)) (.int .i64 x) false).run Try.prog w = .ok (.bool (hasB S x)) w := by
  obtain ⟨D, h1, h2⟩ := h
  obtain ⟨v, ps, hrun, hv⟩ := h1.lookup (Maps.int_keyed Try.underlying3) Try.underlying59 (z := .bool false) (Try.zeroValue4 w) (plainElem_bool Try.underlying4 false) (Maps.keyOf_int_mk Try.underlying3 hx)
  rw [h2 x hx] at hv
  have hv' := elem_bool_inv Try.underlying4 hv
  rw [hrun, hv']
theorem SM.put {w : World} {b n : Nat} {S : List Int} (h : SM w b n S) (hn : n < maxLen) {x : Int} (hx : (Lit.int .i64 x).wf = true) :
    ∃ w', (Instr.mapUpdate 59 (.map (some b)) (.int .i64 x) (.bool true)).run Try.prog w = .ok () w' ∧ SM w' b (n + 1) (S ++ [x]) ∧ w.grownBy w' (some b) := by
  obtain ⟨D, h1, h2⟩ := h
  obtain ⟨w', hrun, ho, hg⟩ := h1.update (Maps.int_keyed Try.underlying3) Try.underlying59 hn (Maps.keyOf_int_mk Try.underlying3 hx) (plainElem_bool Try.underlying4 true)
  refine ⟨w', hrun, ⟨_, ho, fun y hy => ?_⟩, hg⟩
  by_cases e : y = x
  · subst e
    rw [Maps.atKey_put_same h1.isMap (by simp [WideAt.IsKeyLit]), hasB_snoc]
    simp
  · rw [Maps.atKey_put_other (by simpa using e), h2 y hy, hasB_snoc]
    have : (x == y) = false := by simpa using Ne.symm e
    rw [this, Bool.or_false]

end Go.Proofs.Ytalcnkoidmoibaa
