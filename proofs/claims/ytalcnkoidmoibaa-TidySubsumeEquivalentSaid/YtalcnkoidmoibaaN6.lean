/-
  slices.Compact over a row of the call's own; cnf.Norm. No condition.
-/
import Derived.Test.YtalcnkoidmoibaaN5
namespace Go.Proofs.Ytalcnkoidmoibaa
open Go.RowKit Go.Shelf Go.Sort Go.Lib
set_option linter.unusedVariables false
set_option linter.unusedSimpArgs false

theorem compact_map (ls : List LitT) : ∀ m, m ≤ ls.length → compactUpTo (ls.map (·.1)).toArray m = (compactUpTo ls.toArray m).map (·.1)
  | 0, _ => by simp [compactUpTo]
  | m + 1, h => by
    have at' : ∀ j, j < ls.length → (ls.map (·.1)).toArray[j]! = (ls.toArray[j]!).1 := by
      intro j hj
      rw [getElem!_pos _ _ (by simpa using hj), getElem!_pos _ _ (by simpa using hj)]; simp
    rw [compactUpTo_succ, compactUpTo_succ, List.map_append, compact_map ls m (by omega)]
    congr 1
    have hk : keeps (ls.map (·.1)).toArray m = keeps ls.toArray m := by
      unfold keeps
      rw [at' m (by omega), at' (m - 1) (by omega)]
      congr 1
      rw [ne_eq, ne_eq, Subtype.ext_iff]
    rw [hk, at' m (by omega)]
    split <;> simp

set_option maxRecDepth 4000 in
theorem compact_own (w : World) (base g n cap : Nat) (ls : List LitT) (h : Own w base g n cap (ls.map (·.1))) (hb : base ≤ g) :
    Calls Try.prog 52 #[.slice (some ⟨g, 0, none⟩) n cap] w fun e w' =>
      ∃ m, e = .returned (.slice (some ⟨g, 0, none⟩) m cap) ∧ Own w' base g m cap ((compactUpTo ls.toArray ls.length).map (·.1)) ∧ Below base w w' := by
  have h' : w.ownsRow base 3 1 (.slice (some ⟨g, 0, none⟩) n cap) n ((ls.map (·.1)).map encZ) := h
  obtain ⟨g', cap', he, h1, h2, h3, h4, h5, h6⟩ := holds_of_ownsRow h' (by intro e; cases e)
  cases he
  have hn : n ≤ 9223372036854775807 := by unfold maxLen at h4; omega
  have hl : ls.length = n := by simpa using h5
  have hs : (ls.map (·.1)).toArray.size = n := by simp [hl]
  have hc := Try.slices_Compact encZ oneZ (EqlAt.intD _ _ _) ⟨fun x y w => by rw [encZ, encZ, (NeqAt.int Try.prog 3 .i64).1 x y w]; congr 1, .int _ _ _⟩ 0 Try.zeroValue3 g 0 cap (ls.map (·.1)).toArray w h6 (by rw [hs]; exact hn) (by rw [hs]; exact h3)
  rw [hs] at hc
  refine hc.mono ?_
  rintro e w' ⟨rfl, q, rfl⟩
  rw [← hl, compact_map ls ls.length (Nat.le_refl _)]
  have hle : ((compactUpTo ls.toArray ls.length).map (·.1)).length ≤ n := by
    rw [List.length_map]; unfold compactUpTo; rw [List.length_map]
    refine Nat.le_trans (List.length_filter_le _ _) (by simp [hl])
  refine ⟨_, rfl, ?_, below_putRow (Below.refl _ _) hb⟩
  have := ownsRow_putRow (q := q) (k := ((compactUpTo ls.toArray ls.length).map (·.1)).length) (ys := ((compactUpTo ls.toArray ls.length).map (·.1)) ++ List.replicate (n - ((compactUpTo ls.toArray ls.length).map (·.1)).length) 0) h' (by simp at hle ⊢; omega) hle
  rw [List.take_left' rfl] at this
  rw [hl] at this ⊢
  exact this

end Go.Proofs.Ytalcnkoidmoibaa
