/-
  The clause of First asserts: one literal of the last level, the greatest level of the others. No program in sight. No condition.
-/
import Derived.Test.YtenpenelikpeeaaH1
namespace Go.Proofs.Ytenpenelikpeeaa
set_option linter.unusedVariables false
set_option linter.unusedSimpArgs false

/-- the greatest level but one -/
def mostT (ts : List Stp) (n : Int) (l : List Int) : Int := l.foldl (fun m y => if lvlT ts y = n then m else max m (lvlT ts y)) 0
theorem mostT_snoc (ts : List Stp) (n : Int) (l : List Int) (y : Int) : mostT ts n (l ++ [y]) = if lvlT ts y = n then mostT ts n l else max (mostT ts n l) (lvlT ts y) := by unfold mostT; rw [List.foldl_append]; rfl
theorem mostT_spec (ts : List Stp) (n : Int) (l : List Int) : 0 ≤ mostT ts n l ∧ (∀ y ∈ l, lvlT ts y ≠ n → lvlT ts y ≤ mostT ts n l) ∧ (mostT ts n l = 0 ∨ ∃ y ∈ l, lvlT ts y ≠ n ∧ lvlT ts y = mostT ts n l) := by
  induction l using snoc_ind with
  | h0 => exact ⟨Int.le_refl _, fun y hy => (by cases hy), Or.inl rfl⟩
  | h1 l y ih =>
    obtain ⟨h1, h2, h3⟩ := ih
    rw [mostT_snoc]
    by_cases e : lvlT ts y = n
    · rw [if_pos e]
      refine ⟨h1, fun z hz hne => ?_, h3.imp id fun ⟨z, hz, h⟩ => ⟨z, by simp [hz], h⟩⟩
      rcases List.mem_append.1 hz with hz | hz
      · exact h2 z hz hne
      · rw [List.mem_singleton.1 hz] at hne; exact absurd e hne
    · rw [if_neg e]
      refine ⟨by omega, fun z hz hne => ?_, ?_⟩
      · rcases List.mem_append.1 hz with hz | hz
        · have := h2 z hz hne; omega
        · rw [List.mem_singleton.1 hz]; omega
      · by_cases hc : mostT ts n l ≤ lvlT ts y
        · exact Or.inr ⟨y, by simp, e, by omega⟩
        · rcases h3 with h3 | ⟨z, hz, h4, h5⟩
          · exact Or.inl (by omega)
          · exact Or.inr ⟨z, by simp [hz], h4, by omega⟩
theorem backL_spec (ts : List Stp) (x : Int) (l : List Int) : 0 ≤ backL ts x l ∧ (∀ y ∈ l, y ≠ x → lvlT ts y ≤ backL ts x l) ∧ (backL ts x l = 0 ∨ ∃ y ∈ l, y ≠ x ∧ lvlT ts y = backL ts x l) := by
  induction l using snoc_ind with
  | h0 => exact ⟨Int.le_refl _, fun y hy => (by cases hy), Or.inl rfl⟩
  | h1 l y ih =>
    obtain ⟨h1, h2, h3⟩ := ih
    unfold backL at *
    rw [backG_snoc]
    by_cases e : y = x
    · rw [if_pos e]
      refine ⟨h1, fun z hz hne => ?_, h3.imp id fun ⟨z, hz, h⟩ => ⟨z, by simp [hz], h⟩⟩
      rcases List.mem_append.1 hz with hz | hz
      · exact h2 z hz hne
      · rw [List.mem_singleton.1 hz] at hne; exact absurd e hne
    · rw [if_neg e]
      refine ⟨by omega, fun z hz hne => ?_, ?_⟩
      · rcases List.mem_append.1 hz with hz | hz
        · have := h2 z hz hne; omega
        · rw [List.mem_singleton.1 hz]; omega
      · by_cases hc : backG ts x 0 l ≤ lvlT ts y
        · exact Or.inr ⟨y, by simp, e, by omega⟩
        · rcases h3 with h3 | ⟨z, hz, h4, h5⟩
          · exact Or.inl (by omega)
          · exact Or.inr ⟨z, by simp [hz], h4, by omega⟩
theorem hi_cons (ts : List Stp) (n : Int) (y : Int) (l : List Int) : hiN ts n (y :: l) = hiN ts n l + (if lvlT ts y = n then 1 else 0) := by
  unfold hiN; rw [List.filter_cons]
  by_cases h : lvlT ts y = n <;> simp [h]
theorem hi_insV (ts : List Stp) (n : Int) (x : Int) : ∀ l : List Int, hiN ts n (insV x l) = hiN ts n l + (if lvlT ts x = n then 1 else 0)
  | [] => by rw [insV, hi_cons]
  | y :: l => by
    rw [insV]
    split
    · rw [hi_cons, hi_cons, hi_insV ts n x l]; omega
    · rw [hi_cons]
theorem hi_risL (ts : List Stp) (n : Int) (l : List Int) : hiN ts n (risL l) = hiN ts n l := by
  induction l using snoc_ind with
  | h0 => rfl
  | h1 l y ih => rw [risL_snoc, hi_insV, ih, hiN_snoc]
theorem hi_highs (ts : List Stp) {n : Int} (hn : 0 < n) (l : List Int) : hiN ts n (highs ts l) = hiN ts n l := by
  unfold hiN highs
  rw [List.filter_filter]
  congr 1
  refine List.filter_congr fun y _ => ?_
  by_cases h : lvlT ts y = n
  · simp [h, hn]
  · simp [h]
theorem hi_le (ts : List Stp) (n : Int) (l : List Int) : hiN ts n l ≤ l.length := List.length_filter_le _ _

theorem asserting {x : Int} {ls : List (List Int)} {ts : List Stp} {q : Int} (h : firstE x ls ts q = 0) :
    hiN ts (lastT ts) (firstL x ls ts q) = 1 ∧ mostT ts (lastT ts) (firstL x ls ts q) = firstB x ls ts q ∧ firstB x ls ts q < lastT ts ∧ 0 < ts.length ∧ ∀ y ∈ firstL x ls ts q, 0 < lvlT ts y := by
  have R := rd_of h
  have hL : 0 < lastT ts := by have := R.last; unfold lastT at this ⊢; omega
  have hb : firstB x ls ts q = backL ts (firstX ls ts q) (roadEnd ls ts q) := by unfold firstB; rw [if_pos h]
  have hone : hiN ts (lastT ts) (firstL x ls ts q) = 1 := by rw [firstL_rd h, hi_risL, hi_highs ts hL, R.one]
  obtain ⟨x1, x2, -⟩ := latT_max (show 0 < hiN ts (lastT ts) (roadEnd ls ts q) by rw [R.one]; omega)
  have hX : firstX ls ts q ∈ roadEnd ls ts q ∧ lvlT ts (firstX ls ts q) = lastT ts := ⟨x1, x2⟩
  have huniq : ∀ y ∈ roadEnd ls ts q, (y ≠ firstX ls ts q ↔ lvlT ts y ≠ lastT ts) := fun y hy => by
    constructor
    · intro hne he
      have h1 := without_hi (ts := ts) R.nodup hX.1 hX.2
      rw [R.one] at h1
      have h2 : 0 < hiN ts (lastT ts) (without (roadEnd ls ts q) (firstX ls ts q)) := hiN_pos.2 ⟨y, mem_without.2 ⟨hy, hne⟩, he⟩
      omega
    · intro hne he
      rw [he] at hne; exact hne hX.2
  obtain ⟨m1, m2, m3⟩ := mostT_spec ts (lastT ts) (firstL x ls ts q)
  obtain ⟨b1, b2, b3⟩ := backL_spec ts (firstX ls ts q) (roadEnd ls ts q)
  rw [← hb] at b1 b2 b3
  have hlt : firstB x ls ts q < lastT ts := by
    rcases b3 with b3 | ⟨y, hy, h1, h2⟩
    · omega
    · have h3 := lvl_le (R.under y hy)
      have h4 := (huniq y hy).1 h1
      omega
  refine ⟨hone, ?_, hlt, ?_, fun y hy => ((mem_firstL h).1 hy).2⟩
  · have h1 : mostT ts (lastT ts) (firstL x ls ts q) ≤ firstB x ls ts q := by
      rcases m3 with m3 | ⟨y, hy, h1, h2⟩
      · omega
      · have hy' := ((mem_firstL h).1 hy).1
        have := b2 y hy' ((huniq y hy').2 h1)
        omega
    have h2 : firstB x ls ts q ≤ mostT ts (lastT ts) (firstL x ls ts q) := by
      rcases b3 with b3 | ⟨y, hy, h1, h2⟩
      · omega
      · by_cases h3 : 0 < lvlT ts y
        · have := m2 y ((mem_firstL h).2 ⟨hy, h3⟩) ((huniq y hy).1 h1)
          omega
        · omega
    omega
  · have := cntD_le ts
    unfold lastT at hL
    omega

theorem asc_at {l : List Int} (h : AscV l) {j k : Nat} (hjk : j < k) (hk : k < l.length) : absI (elt l j) < absI (elt l k) := by
  rw [elt_lt (show j < l.length by omega), elt_lt hk]
  exact List.pairwise_iff_getElem.1 h j k (by omega) hk hjk

end Go.Proofs.Ytenpenelikpeeaa
