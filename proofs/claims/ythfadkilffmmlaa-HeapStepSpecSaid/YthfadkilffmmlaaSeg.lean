/-
  Plain facts on lists: exchanges, rearrangements of a segment, sorted segments, the order of the queue. No program. No condition.
-/
import Derived.Test.YthfadkilffmmlaaW2
namespace Go.Proofs.Ythfadkilffmmlaa
open Go.RowKit
set_option linter.unusedVariables false
set_option linter.unusedSimpArgs false

theorem elt_set (zs : List Int) (i j : Nat) (x : Int) (hi : i < zs.length) : elt (zs.set i x) j = if i = j then x else elt zs j := by
  unfold elt
  rw [List.getD_eq_getElem?_getD, List.getD_eq_getElem?_getD, List.getElem?_set]
  by_cases h : i = j
  · subst h; simp [hi]
  · simp [h]

/-- two elements exchanged -/
def swp (zs : List Int) (i j : Nat) : List Int := (zs.set i (elt zs j)).set j (elt zs i)
theorem swp_len (zs : List Int) (i j : Nat) : (swp zs i j).length = zs.length := by simp [swp]
theorem elt_swp (zs : List Int) (i j k : Nat) (hi : i < zs.length) (hj : j < zs.length) : elt (swp zs i j) k = if j = k then elt zs i else if i = k then elt zs j else elt zs k := by
  unfold swp
  rw [elt_set _ _ _ _ (by simpa using hj), elt_set _ _ _ _ hi]

theorem ext_elt {a b : List Int} (hl : a.length = b.length) (h : ∀ k, k < a.length → elt a k = elt b k) : a = b := by
  refine List.ext_getElem hl fun i h1 h2 => ?_
  have := h i h1
  rwa [elt_lt h1, elt_lt h2] at this

theorem count_set (x y : Int) : ∀ (zs : List Int) (i : Nat), i < zs.length → (zs.set i x).count y + (if elt zs i = y then 1 else 0) = zs.count y + (if x = y then 1 else 0)
  | [], i, h => absurd h (by simp)
  | z :: r, 0, _ => by
    simp only [List.set_cons_zero, List.count_cons, elt, List.getD_cons_zero, beq_iff_eq]; omega
  | z :: r, i + 1, h => by
    have ih := count_set x y r i (by simpa using h)
    have e : elt (z :: r) (i + 1) = elt r i := rfl
    rw [e]
    simp only [List.set_cons_succ, List.count_cons]
    omega

theorem swp_perm (zs : List Int) (i j : Nat) (hi : i < zs.length) (hj : j < zs.length) : (swp zs i j).Perm zs := by
  rw [List.perm_iff_count]
  intro y
  have h1 := count_set (elt zs j) y zs i hi
  have h2 := count_set (elt zs i) y (zs.set i (elt zs j)) j (by simpa using hj)
  rw [elt_set _ _ _ _ hi] at h2
  show ((zs.set i (elt zs j)).set j (elt zs i)).count y = _
  by_cases h : i = j
  · subst h
    simp only [if_true] at h2
    omega
  · rw [if_neg h] at h2
    omega

/-- a rearrangement of the places a .. b - 1 -/
structure Seg (a b : Nat) (zs zs' : List Int) : Prop where
  perm : zs'.Perm zs
  out : ∀ k, k < a ∨ b ≤ k → elt zs' k = elt zs k
theorem Seg.refl (a b : Nat) (zs : List Int) : Seg a b zs zs := ⟨List.Perm.refl _, fun _ _ => rfl⟩
theorem Seg.trans {a b : Nat} {x y z : List Int} (h : Seg a b x y) (k : Seg a b y z) : Seg a b x z := ⟨k.perm.trans h.perm, fun i hi => (k.out i hi).trans (h.out i hi)⟩
theorem Seg.mono {a b a' b' : Nat} {x y : List Int} (h : Seg a b x y) (ha : a' ≤ a) (hb : b ≤ b') : Seg a' b' x y := ⟨h.perm, fun i hi => h.out i (by omega)⟩
theorem Seg.len {a b : Nat} {x y : List Int} (h : Seg a b x y) : y.length = x.length := h.perm.length_eq
theorem Seg.swp {a b : Nat} (zs : List Int) {i j : Nat} (hi : a ≤ i ∧ i < b) (hj : a ≤ j ∧ j < b) (hb : b ≤ zs.length) : Seg a b zs (swp zs i j) :=
  ⟨swp_perm _ _ _ (by omega) (by omega), fun k hk => by rw [elt_swp _ _ _ _ (by omega) (by omega), if_neg (by omega), if_neg (by omega)]⟩

/-- every element is a place of a list of length n -/
def Dom (n : Nat) (zs : List Int) : Prop := ∀ z ∈ zs, 0 ≤ z ∧ z < n
theorem Dom.seg {n a b : Nat} {x y : List Int} (h : Dom n x) (hs : Seg a b x y) : Dom n y := fun z hz => h z (hs.perm.mem_iff.1 hz)
theorem Dom.at_ {n : Nat} {zs : List Int} (h : Dom n zs) {k : Nat} (hk : k < zs.length) : 0 ≤ elt zs k ∧ elt zs k < n := by
  rw [elt_lt hk]; exact h _ (List.getElem_mem hk)

/- the order -/
def ltO (act : List Int) (x y : Int) : Prop := ordI act x y < 0
theorem ltO_iff (act : List Int) (x y : Int) : ltO act x y ↔ elt act y.toNat < elt act x.toNat ∨ (elt act y.toNat = elt act x.toNat ∧ x < y) := by
  unfold ltO ordI orI cmpI
  repeat' split
  all_goals omega
theorem ltO_irrefl (act : List Int) (x : Int) : ¬ ltO act x x := by rw [ltO_iff]; omega
theorem ltO_trans {act : List Int} {x y z : Int} (h1 : ltO act x y) (h2 : ltO act y z) : ltO act x z := by rw [ltO_iff] at *; omega
theorem ltO_asymm {act : List Int} {x y : Int} (h1 : ltO act x y) : ¬ ltO act y x := by rw [ltO_iff] at *; omega
theorem leO_trans {act : List Int} {x y z : Int} (h1 : ¬ ltO act y x) (h2 : ¬ ltO act z y) : ¬ ltO act z x := by rw [ltO_iff] at *; omega
theorem leO_antisymm {act : List Int} {x y : Int} (h1 : ¬ ltO act x y) (h2 : ¬ ltO act y x) : x = y := by
  by_cases h : x = y
  · exact h
  · exfalso; rw [ltO_iff] at *; omega

/-- the places a .. b - 1 are sorted -/
def SortedSeg (act : List Int) (a b : Nat) (zs : List Int) : Prop := ∀ p q, a ≤ p → p < q → q < b → ¬ ltO act (elt zs q) (elt zs p)

/-- all pairs but those that end at j -/
def InsInv (act : List Int) (a i j : Nat) (zs : List Int) : Prop := ∀ p q, a ≤ p → p < q → q ≤ i → q ≠ j → ¬ ltO act (elt zs q) (elt zs p)
theorem InsInv.start {act : List Int} {a i : Nat} {zs : List Int} (h : SortedSeg act a i zs) : InsInv act a i i zs := fun p q h1 h2 h3 h4 => h p q h1 h2 (by omega)
theorem InsInv.step {act : List Int} {a i j : Nat} {zs : List Int} (h : InsInv act a i j zs) (haj : a < j) (hji : j ≤ i) (hil : i < zs.length) (hlt : ltO act (elt zs j) (elt zs (j - 1))) : InsInv act a i (j - 1) (swp zs j (j - 1)) := by
  intro p q h1 h2 h3 h4
  rw [elt_swp _ _ _ _ (by omega) (by omega), elt_swp _ _ _ _ (by omega) (by omega)]
  rw [if_neg (by omega : ¬ (j - 1 = q))]
  by_cases hq : j = q
  · rw [if_pos hq]
    subst hq
    by_cases hp : j - 1 = p
    · rw [if_pos hp]; exact ltO_asymm hlt
    · rw [if_neg hp, if_neg (by omega)]; exact h p (j - 1) h1 (by omega) (by omega) (by omega)
  · rw [if_neg hq]
    by_cases hp : j - 1 = p
    · rw [if_pos hp]; exact h j q (by omega) (by omega) h3 (by omega)
    · rw [if_neg hp]
      by_cases hp2 : j = p
      · rw [if_pos hp2]; exact h (j - 1) q (by omega) (by omega) h3 (by omega)
      · rw [if_neg hp2]; exact h p q h1 h2 h3 (by omega)
theorem InsInv.done {act : List Int} {a i j : Nat} {zs : List Int} (h : InsInv act a i j zs) (hji : j ≤ i) (hx : j ≤ a ∨ ¬ ltO act (elt zs j) (elt zs (j - 1))) : SortedSeg act a (i + 1) zs := by
  intro p q h1 h2 h3
  by_cases hq : q = j
  · subst hq
    rcases hx with hx | hx
    · omega
    · by_cases hp : p = q - 1
      · subst hp; exact hx
      · exact leO_trans (h p (q - 1) h1 (by omega) (by omega) (by omega)) hx
  · exact h p q h1 h2 (by omega) hq

end Go.Proofs.Ythfadkilffmmlaa
