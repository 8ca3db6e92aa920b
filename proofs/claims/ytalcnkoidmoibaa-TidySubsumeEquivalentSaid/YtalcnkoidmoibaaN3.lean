/-
  What slices.Clone, DeleteFunc, SortFunc, Compact leave, joined: the plain half of cnf.Norm. No condition.
-/
import Derived.Test.YtalcnkoidmoibaaN2
import Derived.Test.YtalcnkoidmoibaaP1
import Derived.Test.YtalcnkoidmoibaaShelf
namespace Go.Proofs.Ytalcnkoidmoibaa
open Go.RowKit Go.Shelf Go.Sort Go.Lib
set_option linter.unusedVariables false
set_option linter.unusedSimpArgs false

/-- a literal -/
abbrev LitT := { x : Int // x ≠ 0 ∧ -65536 ≤ x ∧ x ≤ 65536 }
instance : Inhabited LitT := ⟨⟨1, by decide⟩⟩
def encZ (x : Int) : Value := .int .i64 x
def encL (x : LitT) : Value := .int .i64 x.1
def cfL (x y : LitT) : Int := litI x.1 y.1

theorem litI_neg {x y : Int} : litI x y < 0 ↔ litLt x y = true := by
  rw [litLt_iff]; unfold litI orI cmpI; (repeat' split) <;> omega
theorem ltOf_cfL (x y : LitT) : ltOf cfL x y = litLt x.1 y.1 := by
  unfold ltOf cfL
  rw [Bool.eq_iff_iff, decide_eq_true_eq, litI_neg]
theorem swoL : SWO (ltOf cfL) where
  irrefl x := by rw [ltOf_cfL]; simpa using litLt_irrefl x.1
  trans x y z h1 h2 := by rw [ltOf_cfL] at *; exact litLt_trans h1 h2
  ntrans x y z h1 h2 := by
    rw [ltOf_cfL] at *
    cases h : litLt x.1 z.1 with
    | false => rfl
    | true =>
      exfalso
      have a : ¬ litLt x.1 y.1 = true := by rw [h1]; exact Bool.noConfusion
      have b : ¬ litLt y.1 z.1 = true := by rw [h2]; exact Bool.noConfusion
      rw [litLt_iff] at *
      omega
theorem totL (x y : LitT) (h1 : ltOf cfL x y = false) (h2 : ltOf cfL y x = false) : x = y := by
  rw [ltOf_cfL] at *
  rcases Classical.em (x.1 = y.1) with e | e
  · exact Subtype.ext e
  · rcases litLt_total e with h | h
    · rw [h1] at h; cases h
    · rw [h2] at h; cases h

theorem cmpL (blk off size : Nat) (w : World) : CmpLays1 Try.prog 50 #[] encL cfL blk off size w := by
  intro m os dk hs x y
  refine (norm2_any x.1 y.1 _ x.2.2.1 x.2.2.2 y.2.2.1 y.2.2.2).mono ?_
  rintro e w' ⟨rfl, rfl⟩
  exact ⟨rfl, 0, #[_], by rw [alloc_eq_grow]; rfl⟩

def badL (x : Int) : Bool := !(isB x 65536)
theorem predZ (w : World) : PredAt Try.prog 48 #[] encZ badL w := by
  intro W x _
  unfold FnGives
  exact (norm1_any x W).mono fun _ _ ⟨he, hw⟩ => ⟨he, 0, by rw [← hw]; rfl⟩
theorem predOverZ (blk off size : Nat) (w : World) : PredOver Try.prog 48 #[] encZ badL blk off size w := by
  intro n os dk x _
  unfold FnGives
  exact (norm1_any x _).mono fun _ _ ⟨he, hw⟩ => ⟨he, 0, by rw [← hw]; rfl⟩
theorem oneZ : OneCell encZ := fun _ => rfl
theorem oneL : OneCell encL := fun _ => rfl

theorem filter_eq (zs : List Int) : (zs.filter fun x => !badL x) = zs.filter fun x => isB x 65536 := by
  congr 1; funext x; simp [badL]

/-- the literals of a clause, each with its proof -/
def litsOf (zs : List Int) : List LitT := zs.filterMap fun x => if h : x ≠ 0 ∧ -65536 ≤ x ∧ x ≤ 65536 then some ⟨x, h⟩ else none
theorem litsOf_val (zs : List Int) : (litsOf zs).map (·.1) = zs.filter fun x => isB x 65536 := by
  induction zs with
  | nil => rfl
  | cons x l ih =>
    unfold litsOf at *
    by_cases h : x ≠ 0 ∧ -65536 ≤ x ∧ x ≤ 65536
    · have hb : isB x 65536 = true := isB_iff.2 h
      rw [List.filterMap_cons, List.filter_cons, hb, dif_pos h]
      simpa using ih
    · have hb : isB x 65536 = false := by
        cases hh : isB x 65536 with
        | false => rfl
        | true => exact absurd (isB_iff.1 hh) h
      rw [List.filterMap_cons, List.filter_cons, hb, dif_neg h]
      simpa using ih

end Go.Proofs.Ytalcnkoidmoibaa
