/-
  What Subsume leaves: nothing in it is subsumed, all that went is subsumed by it; no program in sight. No condition.
-/
import Derived.Test.YtalcnkoidmoibaaG2
namespace Go.Proofs.Ytalcnkoidmoibaa
set_option linter.unusedVariables false
set_option linter.unusedSimpArgs false

theorem subB_refl (l : List Int) : subB l l = true := subB_iff.2 fun x h => h
theorem subB_trans {a b c : List Int} (h : subB a b = true) (k : subB b c = true) : subB a c = true := subB_iff.2 fun x hx => subB_iff.1 k x (subB_iff.1 h x hx)

theorem goB_iff {ls : List (List Int)} {i j : Nat} : goB ls i j = true ↔ j ≠ i ∧ subB (ell ls j) (ell ls i) = true ∧ (j < i ∨ subB (ell ls i) (ell ls j) = false) := by
  unfold goB goI
  rw [Bool.and_eq_true, Bool.and_eq_true, Bool.or_eq_true, bne_iff_ne, decide_eq_true_iff, Bool.not_eq_true']
  constructor
  · rintro ⟨⟨h1, h2⟩, h3⟩; exact ⟨by omega, h2, h3.imp (by omega) id⟩
  · rintro ⟨h1, h2, h3⟩; exact ⟨⟨by omega, h2⟩, h3.imp (by omega) id⟩
theorem goesB_iff {ls : List (List Int)} {i : Nat} : goesB ls i = true ↔ ∃ j, j < ls.length ∧ goB ls i j = true := by
  unfold goesB goesTo
  rw [List.any_eq_true]
  exact ⟨fun ⟨j, hj, h⟩ => ⟨j, List.mem_range.1 hj, h⟩, fun ⟨j, hj, h⟩ => ⟨j, List.mem_range.2 hj, h⟩⟩

/-- the places that are kept, in order -/
def keptP (ls : List (List Int)) : List Nat := (List.range ls.length).filter fun i => !(goesB ls i)
theorem subL_eq (ls : List (List Int)) : subL ls = (keptP ls).map (ell ls) := rfl
theorem mem_kept {ls : List (List Int)} {i : Nat} : i ∈ keptP ls ↔ i < ls.length ∧ goesB ls i = false := by
  unfold keptP; rw [List.mem_filter, List.mem_range, Bool.not_eq_true']
theorem kept_inc (ls : List (List Int)) : (keptP ls).Pairwise (· < ·) := List.Pairwise.filter _ List.pairwise_lt_range

theorem subL_len (ls : List (List Int)) : (subL ls).length ≤ ls.length := outTo_len _ _
theorem subL_mem {ls : List (List Int)} {l : List Int} (h : l ∈ subL ls) : l ∈ ls := by
  rw [subL_eq] at h
  obtain ⟨i, hi, rfl⟩ := List.mem_map.1 h
  exact ell_mem (mem_kept.1 hi).1

theorem kept_two {ls : List (List Int)} {i k : Nat} (hi : i ∈ keptP ls) (hk : k ∈ keptP ls) (hne : i ≠ k) : subB (ell ls i) (ell ls k) = false := by
  cases h : subB (ell ls i) (ell ls k) with
  | false => rfl
  | true =>
    obtain ⟨hi1, hi2⟩ := mem_kept.1 hi
    obtain ⟨hk1, hk2⟩ := mem_kept.1 hk
    by_cases h1 : i < k
    · have : goesB ls k = true := goesB_iff.2 ⟨i, hi1, goB_iff.2 ⟨hne, h, Or.inl h1⟩⟩
      rw [hk2] at this; cases this
    · cases h2 : subB (ell ls k) (ell ls i) with
      | false =>
        have : goesB ls k = true := goesB_iff.2 ⟨i, hi1, goB_iff.2 ⟨hne, h, Or.inr h2⟩⟩
        rw [hk2] at this; cases this
      | true =>
        have : goesB ls i = true := goesB_iff.2 ⟨k, hk1, goB_iff.2 ⟨fun e => hne e.symm, h2, Or.inl (by omega)⟩⟩
        rw [hi2] at this; cases this

theorem ell_map {ls : List (List Int)} {P : List Nat} {a : Nat} (h : a < P.length) : ell (P.map (ell ls)) a = ell ls P[a] := by
  rw [ell_lt (by simpa using h)]; simp

/-- no remaining clause subsumes another -/
theorem subL_apart {ls : List (List Int)} {a b : Nat} (ha : a < (subL ls).length) (hb : b < (subL ls).length) (hne : a ≠ b) : subB (ell (subL ls) a) (ell (subL ls) b) = false := by
  rw [subL_eq] at ha hb ⊢
  rw [List.length_map] at ha hb
  rw [ell_map ha, ell_map hb]
  refine kept_two (List.getElem_mem ha) (List.getElem_mem hb) ?_
  have hp := List.pairwise_iff_getElem.1 (kept_inc ls)
  rcases Nat.lt_or_gt_of_ne hne with h | h
  · have := hp a b ha hb h; omega
  · have := hp b a hb ha h; omega

/-- how much of the literals a clause holds -/
def sizeP (ls : List (List Int)) (i : Nat) : Nat := (ls.flatten.filter fun x => hasB (ell ls i) x).length
theorem filter_le {l : List Int} {p q : Int → Bool} (h : ∀ x, q x = true → p x = true) : (l.filter q).length ≤ (l.filter p).length := by
  induction l with
  | nil => simp
  | cons z l ih =>
    rw [List.filter_cons, List.filter_cons]
    cases hqz : q z with
    | true => rw [h z hqz]; simpa using ih
    | false => cases p z <;> simp <;> omega
theorem sizeP_le {ls : List (List Int)} {i j : Nat} (h : subB (ell ls j) (ell ls i) = true) : sizeP ls j ≤ sizeP ls i :=
  filter_le fun x hx => hasB_iff.2 (subB_iff.1 h x (hasB_iff.1 hx))
theorem sizeP_lt {ls : List (List Int)} {i j : Nat} (hi : i < ls.length) (h : subB (ell ls j) (ell ls i) = true) (h2 : subB (ell ls i) (ell ls j) = false) : sizeP ls j < sizeP ls i := by
  have : ∃ x, x ∈ ell ls i ∧ ¬ x ∈ ell ls j := by
    apply Classical.byContradiction
    intro hn
    have : subB (ell ls i) (ell ls j) = true := subB_iff.2 fun x hx => Classical.byContradiction fun hh => hn ⟨x, hx, hh⟩
    rw [h2] at this; cases this
  obtain ⟨x, h3, h4⟩ := this
  exact filter_lt (x := x) (fun y hy => hasB_iff.2 (subB_iff.1 h y (hasB_iff.1 hy))) (List.mem_flatten.2 ⟨_, ell_mem hi, h3⟩) (hasB_iff.2 h3) (hasB_false.2 h4)

theorem kept_under {ls : List (List Int)} : ∀ (s i : Nat), i < ls.length → sizeP ls i ≤ s → ∀ f, i < f → ∃ j ∈ keptP ls, subB (ell ls j) (ell ls i) = true := by
  intro s
  induction s with
  | zero =>
    intro i hi hs f
    induction f generalizing i with
    | zero => intro h; omega
    | succ f ih =>
      intro hf
      cases hg : goesB ls i with
      | false => exact ⟨i, mem_kept.2 ⟨hi, hg⟩, subB_refl _⟩
      | true =>
        obtain ⟨j, hj, hgo⟩ := goesB_iff.1 hg
        obtain ⟨h1, h2, h3⟩ := goB_iff.1 hgo
        have hlt : j < i := by
          rcases h3 with h3 | h3
          · exact h3
          · have := sizeP_lt hi h2 h3; omega
        obtain ⟨q, hq, hs2⟩ := ih j hj (by have := sizeP_le h2; omega) (by omega)
        exact ⟨q, hq, subB_trans hs2 h2⟩
  | succ s ihs =>
    intro i hi hs f
    induction f generalizing i with
    | zero => intro h; omega
    | succ f ih =>
      intro hf
      cases hg : goesB ls i with
      | false => exact ⟨i, mem_kept.2 ⟨hi, hg⟩, subB_refl _⟩
      | true =>
        obtain ⟨j, hj, hgo⟩ := goesB_iff.1 hg
        obtain ⟨h1, h2, h3⟩ := goB_iff.1 hgo
        cases h4 : subB (ell ls i) (ell ls j) with
        | false =>
          obtain ⟨q, hq, hs2⟩ := ihs j hj (by have := sizeP_lt hi h2 h4; omega) (j + 1) (by omega)
          exact ⟨q, hq, subB_trans hs2 h2⟩
        | true =>
          have hlt : j < i := by
            rcases h3 with h3 | h3
            · exact h3
            · rw [h4] at h3; cases h3
          obtain ⟨q, hq, hs2⟩ := ih j hj (by have := sizeP_le h2; omega) (by omega)
          exact ⟨q, hq, subB_trans hs2 h2⟩

/-- every clause is subsumed by a remaining one -/
theorem subL_over {ls : List (List Int)} {i : Nat} (hi : i < ls.length) : (subL ls).any (fun o => subB o (ell ls i)) = true := by
  obtain ⟨j, hj, h⟩ := kept_under (sizeP ls i) i hi (Nat.le_refl _) (i + 1) (by omega)
  rw [List.any_eq_true]
  exact ⟨ell ls j, by rw [subL_eq]; exact List.mem_map.2 ⟨j, hj, rfl⟩, h⟩

theorem map_ell_range (ls : List (List Int)) : (List.range ls.length).map (ell ls) = ls := by
  refine List.ext_getElem (by simp) fun i h1 h2 => ?_
  rw [List.getElem_map, List.getElem_range, ell_lt h2]

/-- Subsume again changes nothing -/
theorem subL_again (ls : List (List Int)) : subL (subL ls) = subL ls := by
  have h : ∀ i ∈ List.range (subL ls).length, (!(goesB (subL ls) i)) = true := by
    intro i hi
    have hi' := List.mem_range.1 hi
    cases hg : goesB (subL ls) i with
    | false => rfl
    | true =>
      obtain ⟨j, hj, hgo⟩ := goesB_iff.1 hg
      obtain ⟨h1, h2, _⟩ := goB_iff.1 hgo
      rw [subL_apart hj hi' h1] at h2; cases h2
  rw [subL_eq (subL ls)]
  unfold keptP
  rw [List.filter_eq_self.2 h, map_ell_range]

theorem checkE_sub {x : Int} {ls : List (List Int)} (h : checkE x ls = 0) : checkE x (subL ls) = 0 := by
  unfold checkE at h ⊢
  split at h
  · cases h
  · split at h
    · cases h
    · rename_i h1 h2
      split at h
      · cases h
      · rename_i h3
        rw [if_neg h1]
        have ha : allB x ls = true := by simpa using h2
        have hb : allB x (subL ls) = true := by
          unfold allB at *
          rw [List.all_eq_true] at *
          exact fun l hl => ha l (subL_mem hl)
        have := subL_len ls
        rw [hb]
        simp
        omega

theorem sub_value {x : Int} {ls : List (List Int)} (h : checkE x ls = 0) (bs : List Bool) : valueT x (subL ls) bs = valueT x ls bs := by
  unfold valueT
  rw [h, checkE_sub h]
  congr 1
  rw [Bool.eq_iff_iff, List.all_eq_true, List.all_eq_true]
  constructor
  · intro hh l hl
    obtain ⟨i, hi, rfl⟩ := List.mem_iff_getElem.1 hl
    have h1 := subL_over hi
    rw [List.any_eq_true] at h1
    obtain ⟨o, ho, hs⟩ := h1
    obtain ⟨y, hy, ht⟩ := holdsT_iff.1 (hh o ho)
    rw [ell_lt hi] at hs
    exact holdsT_iff.2 ⟨y, subB_iff.1 hs y hy, ht⟩
  · intro hh l hl
    exact hh l (subL_mem hl)

end Go.Proofs.Ytalcnkoidmoibaa
