/-
  What Compact makes of a sorted row of literals: strictly ascending, with the same members. No program in sight. No condition.
-/
import Derived.Test.YtalcnkoidmoibaaN3
namespace Go.Proofs.Ytalcnkoidmoibaa
open Go.Sort Go.Lib
set_option linter.unusedVariables false
set_option linter.unusedSimpArgs false

/-- not descending up to place m -/
def UpTo (d : Array LitT) (m : Nat) : Prop := ∀ i j, i < j → j < m → litLt d[j]!.1 d[i]!.1 = false

theorem compact_up (d : Array LitT) : ∀ m, UpTo d m →
    Asc ((compactUpTo d m).map (·.1)) ∧ (∀ x, x ∈ compactUpTo d m ↔ ∃ i, i < m ∧ d[i]! = x)
  | 0, _ => ⟨by simp [compactUpTo, Asc], fun x => by simp [compactUpTo]⟩
  | m + 1, h => by
    obtain ⟨h1, h2⟩ := compact_up d m (fun i j hi hj => h i j hi (by omega))
    rw [compactUpTo_succ]
    by_cases hk : keeps d m = true
    · rw [if_pos hk]
      constructor
      · rw [List.map_append]
        refine List.pairwise_append.2 ⟨h1, by simp, fun a ha b hb => ?_⟩
        simp only [List.map_cons, List.map_nil, List.mem_singleton] at hb
        subst hb
        obtain ⟨y, hy, rfl⟩ := List.mem_map.1 ha
        obtain ⟨i, hi, rfl⟩ := (h2 y).1 hy
        have hne : d[m]! ≠ d[m - 1]! := by
          have := of_decide_eq_true hk
          rcases this with e | e
          · omega
          · exact e
        have a1 : litLt d[m]!.1 d[m - 1]!.1 = false := h (m - 1) m (by omega) (by omega)
        have a2 : litLt d[m - 1]!.1 d[m]!.1 = true := (litLt_total (fun e => hne (Subtype.ext e.symm))).resolve_right (by rw [a1]; exact Bool.noConfusion)
        rcases Nat.lt_or_ge i (m - 1) with hlt | hge
        · have a3 : litLt d[m - 1]!.1 d[i]!.1 = false := h i (m - 1) hlt (by omega)
          rcases Classical.em (d[i]!.1 = d[m - 1]!.1) with e | e
          · rw [e]; exact a2
          · exact litLt_trans ((litLt_total e).resolve_right (by rw [a3]; exact Bool.noConfusion)) a2
        · have : i = m - 1 := by omega
          subst this; exact a2
      · intro x
        rw [List.mem_append, h2, List.mem_singleton]
        constructor
        · rintro (⟨i, hi, e⟩ | e)
          · exact ⟨i, by omega, e⟩
          · exact ⟨m, by omega, e.symm⟩
        · rintro ⟨i, hi, e⟩
          rcases Nat.lt_or_ge i m with hlt | hge
          · exact Or.inl ⟨i, hlt, e⟩
          · have : i = m := by omega
            subst this; exact Or.inr e.symm
    · rw [if_neg hk, List.append_nil]
      refine ⟨h1, fun x => ?_⟩
      rw [h2]
      constructor
      · rintro ⟨i, hi, e⟩; exact ⟨i, by omega, e⟩
      · rintro ⟨i, hi, e⟩
        rcases Nat.lt_or_ge i m with hlt | hge
        · exact ⟨i, hlt, e⟩
        · have him : i = m := by omega
          subst him
          have hk' : ¬ (i = 0 ∨ d[i]! ≠ d[i - 1]!) := fun hh => hk (decide_eq_true hh)
          have h0 : i ≠ 0 := fun e => hk' (Or.inl e)
          have he : d[i]! = d[i - 1]! := Classical.byContradiction fun e => hk' (Or.inr e)
          exact ⟨i - 1, by omega, by rw [← he]; exact e⟩

end Go.Proofs.Ytalcnkoidmoibaa
