/-
  Filter, sort, compact: the normal form. No program in sight. No condition.
-/
import Derived.Test.YtalcnkoidmoibaaP2
namespace Go.Proofs.Ytalcnkoidmoibaa
open Go.Sort Go.Lib
set_option linter.unusedVariables false
set_option linter.unusedSimpArgs false

def sortedL (zs : List Int) : List LitT := (litsOf zs).mergeSort fun x y => !(ltOf cfL) y x

theorem mem_litsOf {zs : List Int} {x : LitT} : x ∈ litsOf zs ↔ x.1 ∈ zs := by
  unfold litsOf
  rw [List.mem_filterMap]
  constructor
  · rintro ⟨a, ha, h⟩
    split at h
    · injection h with h; rw [← h]; exact ha
    · cases h
  · intro h
    exact ⟨x.1, h, by rw [dif_pos x.2]⟩

theorem sortedL_up (zs : List Int) : UpTo (sortedL zs).toArray (sortedL zs).length := by
  have h : (sortedL zs).Pairwise fun x y => (!(ltOf cfL) y x) = true := by
    refine List.pairwise_mergeSort ?_ ?_ _
    · intro a b c h1 h2
      simp only [Bool.not_eq_true'] at *
      exact swoL.ntrans c b a h2 h1
    · intro a b
      simp only [Bool.or_eq_true, Bool.not_eq_true']
      cases h1 : ltOf cfL b a with
      | false => exact Or.inl rfl
      | true =>
        right
        cases h2 : ltOf cfL a b with
        | false => rfl
        | true => have := swoL.trans _ _ _ h1 h2; rw [swoL.irrefl] at this; cases this
  intro i j hij hj
  have := List.pairwise_iff_getElem.1 h i j (by omega) hj hij
  simp only [Bool.not_eq_true', ltOf_cfL] at this
  rw [getElem!_pos _ _ (by simpa using hj), getElem!_pos _ _ (by simp; omega)]
  simpa using this

theorem norm_all (zs : List Int) : (compactUpTo (sortedL zs).toArray (sortedL zs).length).map (·.1) = normP zs := by
  obtain ⟨h1, h2⟩ := compact_up (sortedL zs).toArray (sortedL zs).length (sortedL_up zs)
  refine normP_eq h1 fun x => ?_
  rw [List.mem_map]
  have hm : ∀ y : LitT, y ∈ compactUpTo (sortedL zs).toArray (sortedL zs).length ↔ y.1 ∈ zs := by
    intro y
    rw [h2, ← mem_litsOf, ← List.mem_mergeSort (le := fun x y => !(ltOf cfL) y x)]
    show _ ↔ y ∈ sortedL zs
    rw [List.mem_iff_getElem]
    constructor
    · rintro ⟨i, hi, e⟩
      rw [getElem!_pos _ _ (by simpa using hi)] at e
      exact ⟨i, hi, by simpa using e⟩
    · rintro ⟨i, hi, e⟩
      exact ⟨i, hi, by rw [getElem!_pos _ _ (by simpa using hi)]; simpa using e⟩
  constructor
  · rintro ⟨y, hy, rfl⟩
    exact ⟨(hm y).1 hy, isB_iff.2 y.2⟩
  · rintro ⟨hx, hb⟩
    exact ⟨⟨x, isB_iff.1 hb⟩, (hm _).2 hx, rfl⟩

end Go.Proofs.Ytalcnkoidmoibaa
