/-
  Plain facts for HeapPushRestores: pushing what was popped, in either order, restores the queue. No program. No condition.
-/
import Derived.Test.YthfadkilffmmlaaPops
import Derived.Laws.BitsAllLaws
import Derived.Laws.BitsLemmas
namespace Go.Proofs.Ythfadkilffmmlaa
open Go.RowKit
set_option linter.unusedVariables false
set_option linter.unusedSimpArgs false

theorem insAt_perm (l : List Int) (i : Nat) (v : Int) : (insAt l i v).Perm (v :: l) := by
  unfold insAt
  refine List.perm_middle.trans ?_
  rw [List.take_append_drop]
theorem Valid.ins {act l : List Int} {y v : Int} (h : Valid act l y) {i : Nat} (hi : i ≤ l.length) (h1 : ∀ k, k < i → ltO act (elt l k) v) (h2 : ∀ k, i ≤ k → k < l.length → ¬ ltO act (elt l k) v) (hv : 0 < v ∧ v < act.length) (hm : v ∉ l) : Valid act (insAt l i v) y := by
  refine ⟨h.pos, h.few, h.zero, h.rng, h.by1, h.by2, fun k hk => ?_, fun k h0 hk => ?_⟩
  · rw [insAt_len _ _ _ hi] at hk
    rw [elt_insAt _ _ _ hi]
    split
    · exact h.known k (by omega)
    · split
      · exact hv
      · exact h.known _ (by omega)
  · rw [insAt_len _ _ _ hi] at hk
    rw [elt_insAt _ _ _ hi, elt_insAt _ _ _ hi]
    by_cases a : k < i
    · rw [if_pos (by omega), if_pos a]; exact h.link k h0 (by omega)
    · by_cases b : k = i
      · subst b
        rw [if_pos (by omega), if_neg a, if_pos rfl]; exact h1 _ (by omega)
      · by_cases c : k = i + 1
        · subst c
          rw [if_neg (by omega), if_pos (by omega), if_neg (by omega), if_neg (by omega), Nat.add_sub_cancel]
          have hx := h2 i (Nat.le_refl _) (by omega)
          by_cases hy : ltO act v (elt l i)
          · exact hy
          · exfalso
            have := leO_antisymm hx hy
            apply hm
            rw [← this, elt_lt (by omega)]
            exact List.getElem_mem _
        · rw [if_neg (by omega), if_neg (by omega), if_neg (by omega), if_neg (by omega)]
          exact h.link (k - 1) (by omega) (by omega)
theorem Valid.inj {act l : List Int} {y : Int} (h : Valid act l y) {p q : Nat} (hp : p < l.length) (hq : q < l.length) (e : elt l p = elt l q) : p = q := by
  rcases Nat.lt_trichotomy p q with h1 | h1 | h1
  · have := h.sorted p q h1 hq; rw [e] at this; exact absurd this (ltO_irrefl _ _)
  · exact h1
  · have := h.sorted q p h1 hp; rw [e] at this; exact absurd this (ltO_irrefl _ _)

/-- the place that is pushed in round i -/
def at_ (n : Nat) (t : Bool) (i : Nat) : Nat := if t then n - 1 - i else i
def pushed (l : List Int) (n : Nat) (t : Bool) (i : Nat) : List Int := (List.range i).map fun j => elt l (at_ n t j)
theorem pushed_succ (l : List Int) (n : Nat) (t : Bool) (i : Nat) : pushed l n t (i + 1) = pushed l n t i ++ [elt l (at_ n t i)] := by simp [pushed, List.range_succ]
theorem pushed_all (l : List Int) (n : Nat) (t : Bool) (hn : n ≤ l.length) : (pushed l n t n).Perm (l.take n) := by
  have e : (List.range n).map (fun j => elt l j) = l.take n := by
    refine List.ext_getElem (by simp; omega) fun i h1 h2 => ?_
    simp at h1
    simp [elt_lt (show i < l.length by omega)]
  cases t
  · have : pushed l n false n = l.take n := by rw [← e]; simp [pushed, at_]
    rw [this]
  · have : pushed l n true n = (l.take n).reverse := by
      rw [← e]
      refine List.ext_getElem (by simp [pushed]) fun i h1 h2 => ?_
      simp [pushed] at h1
      simp [pushed, at_]
    rw [this]; exact List.reverse_perm _
theorem not_yet {act l M : List Int} {y : Int} (h : Valid act l y) {n i : Nat} {t : Bool} (hn : n ≤ l.length) (hi : i < n) (hM : M.Perm (l.drop n ++ pushed l n t i)) : elt l (at_ n t i) ∉ M := by
  intro hm
  have hai : at_ n t i < n := by unfold at_; split <;> omega
  rw [hM.mem_iff, List.mem_append] at hm
  rcases hm with hm | hm
  · obtain ⟨q, hq, e⟩ := List.getElem_of_mem hm
    rw [← elt_lt hq, elt_drop] at e
    simp at hq
    have := h.inj (p := n + q) (q := at_ n t i) (by omega) (by omega) e
    omega
  · simp only [pushed, List.mem_map, List.mem_range] at hm
    obtain ⟨j, hj, e⟩ := hm
    have haj : at_ n t j < n := by unfold at_; split <;> omega
    have := h.inj (p := at_ n t j) (q := at_ n t i) (by omega) (by omega) e
    unfold at_ at this
    split at this <;> omega
theorem restored {act l M : List Int} {y : Int} (h : Valid act l y) (hv : Valid act M y) {n : Nat} {t : Bool} (hn : n ≤ l.length) (hM : M.Perm (l.drop n ++ pushed l n t n)) : M = l := by
  refine sorted_unique ?_ (sorted_of_valid hv) (sorted_of_valid h)
  refine hM.trans (((List.Perm.refl _).append (pushed_all l n t hn)).trans ?_)
  refine List.perm_append_comm.trans ?_
  rw [List.take_append_drop]
theorem push_perm {M D : List Int} {v : Int} {i : Nat} (h : M.Perm D) : (insAt M i v).Perm (D ++ [v]) :=
  (insAt_perm M i v).trans ((h.cons v).trans (List.perm_append_comm (l₁ := [v]) (l₂ := D)))
theorem perm_len {l M : List Int} {n i : Nat} {t : Bool} (hM : M.Perm (l.drop n ++ pushed l n t i)) : M.length = l.length - n + i := by
  rw [hM.length_eq]; simp [pushed]

theorem mask (a : Int) : ∃ r : Nat, r ≤ 65535 ∧ bits .and .i64 a 65535 = (r : Int) := by
  refine ⟨(BitVec.ofInt 64 a &&& BitVec.ofInt 64 65535).toNat, ?_, ?_⟩
  · rw [BitVec.toNat_and]
    exact Nat.le_trans Nat.and_le_right (by decide)
  · have h : (BitVec.ofInt 64 a &&& BitVec.ofInt 64 65535).toNat ≤ 65535 := by
      rw [BitVec.toNat_and]
      exact Nat.le_trans Nat.and_le_right (by decide)
    show IntKind.i64.wrap ((BitVec.ofInt 64 a &&& BitVec.ofInt 64 65535).toNat : Int) = _
    rw [IntKind.wrap_i64]
    omega

end Go.Proofs.Ythfadkilffmmlaa
