/-
  cnf.Norm up to its last loop: DeleteFunc, SortFunc, Compact over a row of the call's own. No condition.
-/
import Derived.Test.YtalcnkoidmoibaaN4
import Derived.Test.YtalcnkoidmoibaaP3
import Derived.Lib.OwnBridge
import Derived.Lib.AppendIntMem
namespace Go.Proofs.Ytalcnkoidmoibaa
open Go.RowKit Go.Shelf Go.Sort Go.Lib
set_option linter.unusedVariables false
set_option linter.unusedSimpArgs false

/-- a row of one's own that reads as a list -/
def Own (w : World) (base g n cap : Nat) (zs : List Int) : Prop := w.ownsRow base 3 1 (.slice (some ⟨g, 0, none⟩) n cap) n (zs.map (Value.int .i64))

theorem below_grow {B : Nat} {a w : World} (h : Below B a w) (hB : B ≤ w.heap.size) (os : Array Obj) : Below B a (grow w os) :=
  ⟨h.os, h.tape, h.output, by simp only [grow, Array.size_append]; have := h.size; omega, fun k hk => by
    rw [← h.block k hk]; simp only [grow]; rw [Array.getElem?_append_left (by omega)]⟩

theorem map_encL (l : List LitT) : l.map encL = (l.map (·.1)).map (Value.int .i64) := by rw [List.map_map]; rfl

set_option maxRecDepth 4000 in
theorem delete_own (w : World) (base g n cap : Nat) (zs : List Int) (h : Own w base g n cap zs) (hb : base ≤ g) :
    Calls Try.prog 47 #[.slice (some ⟨g, 0, none⟩) n cap, .func (.func 48) #[] #[]] w fun e w' =>
      ∃ m, e = .returned (.slice (some ⟨g, 0, none⟩) m cap) ∧ Own w' base g m cap (zs.filter fun x => isB x 65536) ∧ Below base w w' := by
  have h' : w.ownsRow base 3 1 (.slice (some ⟨g, 0, none⟩) n cap) n (zs.map encZ) := h
  obtain ⟨g', cap', he, h1, h2, h3, h4, h5, h6⟩ := holds_of_ownsRow h' (by intro e; cases e)
  cases he
  have hn : n ≤ 9223372036854775807 := by unfold maxLen at h4; omega
  have hc := Try.slices_DeleteFunc encZ oneZ badL 48 #[] enters48 0 Try.zeroValue3 g 0 cap zs.toArray w (predZ w) (predOverZ _ _ _ w) h6 (by simpa [h5] using hn) (by simpa [h5] using h3)
  have hs : zs.toArray.size = n := by simp [h5]
  rw [hs] at hc
  refine hc.mono ?_
  rintro e w' ⟨rfl, q, rfl⟩
  have hf : zs.toArray.toList.filter (fun x => !badL x) = zs.filter fun x => isB x 65536 := filter_eq zs
  rw [hf]
  have hle := List.length_filter_le (fun x => isB x 65536) zs
  refine ⟨_, rfl, ?_, below_putRow (Below.refl _ _) hb⟩
  have := ownsRow_putRow (q := q) (k := (zs.filter fun x => isB x 65536).length) (ys := (zs.filter fun x => isB x 65536) ++ List.replicate (n - (zs.filter fun x => isB x 65536).length) 0) h' (by simp; omega) (by omega)
  rw [List.take_left' rfl] at this
  exact this

set_option maxRecDepth 4000 in
theorem sort_own (w : World) (base g m cap : Nat) (ls : List LitT) (h : Own w base g m cap (ls.map (·.1))) (hb : base ≤ g) (hm : m * 8 ≤ 140737488355328) :
    Calls Try.prog 31 #[.slice (some ⟨g, 0, none⟩) m cap, .func (.func 50) #[] #[]] w fun e w' =>
      e = .returned (.tuple #[]) ∧ Own w' base g m cap ((ls.mergeSort fun x y => !(ltOf cfL) y x).map (·.1)) ∧ Below base w w' := by
  have h' : w.ownsRow base 3 1 (.slice (some ⟨g, 0, none⟩) m cap) m (ls.map encL) := by rw [map_encL]; exact h
  obtain ⟨g', cap', he, h1, h2, h3, h4, h5, h6⟩ := holds_of_ownsRow h' (by intro e; cases e)
  cases he
  have hn : m < 4611686018427387904 := by omega
  have hc := Try.slices_SortFunc_total encL oneL cfL swoL 50 #[] g 0 cap ls.toArray w enters50 (cmpL _ _ _ w) h6 h2 (by simpa [h5] using hn) totL
  have hs : ls.toArray.size = m := by simp [h5]
  rw [hs] at hc
  refine hc.mono ?_
  rintro e w' ⟨rfl, q, os, rfl⟩
  have hown := ownsRow_putRow (q := q) (k := m) (ys := ls.mergeSort fun x y => !(ltOf cfL) y x) h' (by simp [h5]) (Nat.le_refl _)
  rw [List.take_of_length_le (by simp [h5]), map_encL] at hown
  refine ⟨rfl, ?_, ?_⟩
  · have := ownsRow_grow hown 0 os
    exact this
  · have hbp := below_putRow (enc := encL) (q := q) (d := (ls.mergeSort fun x y => !(ltOf cfL) y x).toArray) (Below.refl base w) hb
    exact below_grow hbp (by simp [putRow, mapBlock, Sort.ahead]; omega) os

end Go.Proofs.Ytalcnkoidmoibaa
