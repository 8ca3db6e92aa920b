/-
  The normal form of a clause, in plain words. No program in sight. No condition.
-/
import Derived.Test.YtalcnkoidmoibaaA2
namespace Go.Proofs.Ytalcnkoidmoibaa
set_option linter.unusedVariables false
set_option linter.unusedSimpArgs false

/-- a sorts before b -/
def litLt (a b : Int) : Bool := decide (absI a < absI b) || (decide (absI a = absI b) && decide (b < a))
theorem litLt_iff {a b : Int} : litLt a b = true ↔ absI a < absI b ∨ (absI a = absI b ∧ b < a) := by simp [litLt]
theorem litLt_irrefl (a : Int) : ¬ litLt a a = true := by rw [litLt_iff]; omega
theorem litLt_trans {a b c : Int} (h1 : litLt a b = true) (h2 : litLt b c = true) : litLt a c = true := by rw [litLt_iff] at *; omega
theorem litLt_asymm {a b : Int} (h1 : litLt a b = true) : ¬ litLt b a = true := by rw [litLt_iff] at *; omega
theorem litLt_total {a b : Int} (h : a ≠ b) : litLt a b = true ∨ litLt b a = true := by rw [litLt_iff, litLt_iff]; omega

/-- strictly ascending -/
def Asc (l : List Int) : Prop := l.Pairwise fun a b => litLt a b = true

theorem asc_ext : ∀ {l m : List Int}, Asc l → Asc m → (∀ x, x ∈ l ↔ x ∈ m) → l = m
  | [], [], _, _, _ => rfl
  | [], y :: m, _, _, h => by have := (h y).2 (by simp); simp at this
  | x :: l, [], _, _, h => by have := (h x).1 (by simp); simp at this
  | x :: l, y :: m, h1, h2, h => by
    have h1' := List.pairwise_cons.1 h1
    have h2' := List.pairwise_cons.1 h2
    have e : x = y := by
      have hx := (h x).1 (by simp)
      have hy := (h y).2 (by simp)
      rcases List.mem_cons.1 hx with hx | hx
      · exact hx
      · rcases List.mem_cons.1 hy with hy | hy
        · exact hy.symm
        · exact absurd (h1'.1 y hy) (litLt_asymm (h2'.1 x hx))
    subst e
    congr 1
    refine asc_ext h1'.2 h2'.2 fun z => ?_
    have hz := h z
    simp only [List.mem_cons] at hz
    constructor
    · intro hm
      rcases hz.1 (Or.inr hm) with e | e
      · subst e; exact absurd (h1'.1 z hm) (litLt_irrefl z)
      · exact e
    · intro hm
      rcases hz.2 (Or.inr hm) with e | e
      · subst e; exact absurd (h2'.1 z hm) (litLt_irrefl z)
      · exact e

/-- put a literal at its place -/
def insR (x : Int) : List Int → List Int
  | [] => [x]
  | y :: l => if litLt y x = true then y :: insR x l else x :: y :: l
theorem mem_insR {x z : Int} : ∀ {l : List Int}, z ∈ insR x l ↔ z = x ∨ z ∈ l
  | [] => by simp [insR]
  | y :: l => by
    unfold insR
    split
    · simp only [List.mem_cons, mem_insR]; constructor
      · rintro (h | h | h)
        · exact Or.inr (Or.inl h)
        · exact Or.inl h
        · exact Or.inr (Or.inr h)
      · rintro (h | h | h)
        · exact Or.inr (Or.inl h)
        · exact Or.inl h
        · exact Or.inr (Or.inr h)
    · simp
theorem asc_insR {x : Int} : ∀ {l : List Int}, Asc l → x ∉ l → Asc (insR x l)
  | [], _, _ => by simp [insR, Asc]
  | y :: l, h, hx => by
    have h' := List.pairwise_cons.1 h
    simp only [List.mem_cons, not_or] at hx
    unfold insR
    split
    · rename_i hlt
      refine List.pairwise_cons.2 ⟨fun z hz => ?_, asc_insR h'.2 hx.2⟩
      rcases mem_insR.1 hz with e | e
      · subst e; exact hlt
      · exact h'.1 z e
    · rename_i hlt
      have hxy : litLt x y = true := (litLt_total hx.1).resolve_right hlt
      refine List.pairwise_cons.2 ⟨fun z hz => ?_, h⟩
      rcases List.mem_cons.1 hz with e | e
      · subst e; exact hxy
      · exact litLt_trans hxy (h'.1 z e)

def normStep (out : List Int) (x : Int) : List Int := if isB x 65536 = true ∧ hasB out x = false then insR x out else out
/-- the normal form of a clause -/
def normP (l : List Int) : List Int := l.foldl normStep []

theorem normP_snoc (l : List Int) (x : Int) : normP (l ++ [x]) = normStep (normP l) x := by simp [normP]
theorem norm_fold : ∀ (l out : List Int), Asc out → (Asc (l.foldl normStep out) ∧ ∀ x, x ∈ l.foldl normStep out ↔ x ∈ out ∨ (x ∈ l ∧ isB x 65536 = true))
  | [], out, h => ⟨h, fun x => by simp⟩
  | y :: l, out, h => by
    have hs : Asc (normStep out y) ∧ ∀ x, x ∈ normStep out y ↔ x ∈ out ∨ (x = y ∧ isB x 65536 = true) := by
      unfold normStep
      split
      · rename_i hc
        have hn : y ∉ out := fun hm => by have := hasB_iff.2 hm; rw [hc.2] at this; cases this
        refine ⟨asc_insR h hn, fun x => ?_⟩
        rw [mem_insR]
        constructor
        · rintro (e | e)
          · subst e; exact Or.inr ⟨rfl, hc.1⟩
          · exact Or.inl e
        · rintro (e | ⟨e, _⟩)
          · exact Or.inr e
          · exact Or.inl e
      · rename_i hc
        refine ⟨h, fun x => ⟨Or.inl, ?_⟩⟩
        rintro (e | ⟨e, hb⟩)
        · exact e
        · subst e
          cases hh : hasB out x with
          | true => exact hasB_iff.1 hh
          | false => exact absurd ⟨hb, hh⟩ hc
    obtain ⟨h1, h2⟩ := norm_fold l (normStep out y) hs.1
    refine ⟨h1, fun x => ?_⟩
    rw [List.foldl_cons, h2, hs.2, List.mem_cons]
    constructor
    · rintro ((e | ⟨e, hb⟩) | ⟨e, hb⟩)
      · exact Or.inl e
      · exact Or.inr ⟨Or.inl e, hb⟩
      · exact Or.inr ⟨Or.inr e, hb⟩
    · rintro (e | ⟨e | e, hb⟩)
      · exact Or.inl (Or.inl e)
      · exact Or.inl (Or.inr ⟨e, hb⟩)
      · exact Or.inr ⟨e, hb⟩
theorem normP_asc (l : List Int) : Asc (normP l) := (norm_fold l [] (by simp [Asc])).1
theorem mem_normP {l : List Int} {x : Int} : x ∈ normP l ↔ x ∈ l ∧ isB x 65536 = true := by
  have := (norm_fold l [] (by simp [Asc])).2 x
  simpa [normP] using this
/-- whatever is strictly ascending and holds the clause's literals is its normal form -/
theorem normP_eq {l m : List Int} (h : Asc m) (hm : ∀ x, x ∈ m ↔ x ∈ l ∧ isB x 65536 = true) : m = normP l :=
  asc_ext h (normP_asc l) fun x => by rw [hm, mem_normP]

end Go.Proofs.Ytalcnkoidmoibaa
