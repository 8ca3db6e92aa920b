/-
  A vivified clause is a part of the clause, in the order of the normal form; vivified again it only shrinks. No program in sight. No condition.
-/
import Derived.Test.YtalcnkoidmoibaaV1
namespace Go.Proofs.Ytalcnkoidmoibaa
set_option linter.unusedVariables false
set_option linter.unusedSimpArgs false

theorem vivT_sub (cls : List (List Int)) : ∀ (l left : List Int), ∃ r, vivT cls l left = left ++ r ∧ r.Sublist l
  | [], left => ⟨[], by rw [vivT, List.append_nil], List.Sublist.refl _⟩
  | x :: l, left => by
    rw [vivT]
    cases hc : closureT cls (left.map (-·)) with
    | none => exact ⟨[], by rw [List.append_nil], List.nil_sublist _⟩
    | some S =>
      dsimp only
      split
      · exact ⟨[x], rfl, (List.nil_sublist l).cons_cons x⟩
      · split
        · obtain ⟨r, h1, h2⟩ := vivT_sub cls l left
          exact ⟨r, h1, h2.cons x⟩
        · obtain ⟨r, h1, h2⟩ := vivT_sub cls l (left ++ [x])
          exact ⟨x :: r, by rw [h1, List.append_assoc]; rfl, h2.cons_cons x⟩

theorem viv_part (cls : List (List Int)) (l : List Int) : (vivT cls l []).Sublist l := by
  obtain ⟨r, h1, h2⟩ := vivT_sub cls l []
  rw [h1]; exact h2

theorem normP_part {l r : List Int} (h : r.Sublist (normP l)) : normP r = r := by
  refine (normP_eq ((normP_asc l).sublist h) fun x => ?_).symm
  exact ⟨fun hx => ⟨hx, (mem_normP.1 (h.subset hx)).2⟩, fun hx => hx.1⟩

theorem subB_iff {a b : List Int} : subB a b = true ↔ ∀ x ∈ a, x ∈ b := by
  unfold subB; rw [List.all_eq_true]
  exact ⟨fun h x hx => hasB_iff.1 (h x hx), fun h x hx => hasB_iff.2 (h x hx)⟩

theorem ell_set {ls : List (List Int)} {k : Nat} (hk : k < ls.length) (r : List Int) : ell (ls.set k r) k = r := by
  rw [ell_lt (by simpa using hk)]; simp
theorem erase_set (ls : List (List Int)) (k : Nat) (r : List Int) : (ls.set k r).eraseIdx k = ls.eraseIdx k := by
  induction ls generalizing k with
  | nil => rfl
  | cons l ls ih =>
    cases k with
    | zero => rfl
    | succ k => simp [List.set, List.eraseIdx, ih]
theorem sumL_set : ∀ (ls : List (List Int)) (k : Nat) (r : List Int), sumL (ls.set k r) ≤ sumL ls + r.length
  | [], k, r => by simp [sumL]
  | l :: ls, 0, r => by simp [sumL]; omega
  | l :: ls, k + 1, r => by have := sumL_set ls k r; simp [sumL] at this ⊢; omega

theorem vivE_zero {x : Int} {ls : List (List Int)} {k : Int} (h : vivE x ls k = 0) : checkE x ls = 0 ∧ 0 ≤ k ∧ k < ls.length := by
  have h1 : checkE x ls = 0 := by
    unfold vivE at h; split at h
    · exact h
    · rename_i h1; simpa using h1
  have h2 : ¬ (k < 0 ∨ (ls.length : Int) ≤ k) := by
    intro h2; unfold vivE at h; rw [if_neg (by simpa using h1), if_pos h2] at h; cases h
  exact ⟨h1, by omega, by omega⟩

theorem checkE_set {x : Int} {ls : List (List Int)} {k : Nat} (h : checkE x ls = 0) (hk : k < ls.length) {r : List Int} (hr : ∀ y ∈ r, y ∈ ell ls k) : checkE x (ls.set k r) = 0 := by
  unfold checkE at h ⊢
  split at h
  · cases h
  · split at h
    · cases h
    · rename_i h1 h2
      split at h
      · cases h
      · rename_i h3
        rw [if_neg h1]
        have ha : allB x ls = true := by simpa using h2
        have hb : allB x (ls.set k r) = true := by
          unfold allB at *
          rw [List.all_eq_true] at *
          intro l hl
          rcases List.mem_or_eq_of_mem_set hl with e | e
          · exact ha l e
          · rw [e]
            have h4 := ha _ (ell_mem hk)
            unfold litsB at *
            rw [List.all_eq_true] at *
            exact fun y hy => h4 y (hr y hy)
        rw [hb, List.length_set, if_neg h3]
        simp

/-- the vivified clause, vivified again -/
theorem viv_again {x : Int} {ls : List (List Int)} {k : Nat} (hE : vivE x ls k = 0) : vivE x (ls.set k (vivL x ls k)) k = 0 ∧ (vivL x (ls.set k (vivL x ls k)) k).Sublist (vivL x ls k) ∧ normP (vivL x ls k) = vivL x ls k ∧ ∀ y ∈ vivL x ls k, y ∈ ell ls k := by
  obtain ⟨h1, h2, h3⟩ := vivE_zero hE
  have hk : k < ls.length := by omega
  have e1 : vivL x ls k = vivT (ls.eraseIdx k) (normP (ell ls k)) [] := by unfold vivL; rw [if_pos hE]; simp
  have hp : (vivL x ls k).Sublist (normP (ell ls k)) := by rw [e1]; exact viv_part _ _
  have hn := normP_part hp
  have hm : ∀ y ∈ vivL x ls k, y ∈ ell ls k := fun y hy => (mem_normP.1 (hp.subset hy)).1
  have hc := checkE_set h1 hk hm
  have hE2 : vivE x (ls.set k (vivL x ls k)) k = 0 := by
    unfold vivE
    rw [if_neg (by simpa using hc), if_neg (by rw [List.length_set]; omega)]
  refine ⟨hE2, ?_, hn, hm⟩
  have e2 : vivL x (ls.set k (vivL x ls k)) k = vivT (ls.eraseIdx k) (vivL x ls k) [] := by
    have e3 : ∀ ls2, vivE x ls2 k = 0 → vivL x ls2 k = vivT (ls2.eraseIdx k) (normP (ell ls2 k)) [] := fun ls2 h => by unfold vivL; rw [if_pos h]; simp
    rw [e3 _ hE2, ell_set hk, erase_set, hn]
  rw [e2]; exact viv_part _ _

end Go.Proofs.Ytalcnkoidmoibaa
