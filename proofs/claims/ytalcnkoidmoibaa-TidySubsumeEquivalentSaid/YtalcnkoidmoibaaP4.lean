/-
  The closure of a set of literals under clauses: it is the least one, whatever the order. No program in sight. No condition.
-/
import Derived.Test.YtalcnkoidmoibaaC2
namespace Go.Proofs.Ytalcnkoidmoibaa
set_option linter.unusedVariables false
set_option linter.unusedSimpArgs false

/-- no literal beside its opposite -/
def Con (S : List Int) : Prop := ∀ x, x ∈ S → ¬ (-x) ∈ S
def Sub (S T : List Int) : Prop := ∀ x, x ∈ S → x ∈ T
theorem Sub.refl (S : List Int) : Sub S S := fun _ h => h
theorem Sub.trans {S T U : List Int} (h : Sub S T) (k : Sub T U) : Sub S U := fun x hx => k x (h x hx)
theorem Con.mono {S T : List Int} (h : Con T) (hs : Sub S T) : Con S := fun x hx hn => h x (hs x hx) (hs _ hn)

theorem hasB_false {S : List Int} {x : Int} : hasB S x = false ↔ ¬ x ∈ S := by
  rw [← Bool.not_eq_true, hasB_iff]

def Nz (l : List Int) : Prop := ∀ x ∈ l, x ≠ 0
theorem Nz.tail {x : Int} {l : List Int} (h : Nz (x :: l)) : Nz l := fun y hy => h y (by simp [hy])

/-- unit's first answer: the only literal that is not false -/
theorem unitT_val {S : List Int} : ∀ (l : List Int) (one : Int), Nz l → (unitT S l one).1 ≠ 0 →
    (∀ x ∈ l, ¬ x ∈ S ∧ (-x ∈ S ∨ x = (unitT S l one).1)) ∧ (one ≠ 0 → (unitT S l one).1 = one)
  | [], one, _, h => ⟨fun x hx => (by cases hx), fun _ => rfl⟩
  | x :: l, one, hz, h => by
    rw [unitT] at h ⊢
    split at h
    · exact absurd rfl h
    · rename_i h1
      rw [if_neg h1]
      have h1' : ¬ x ∈ S := fun hh => h1 (hasB_iff.2 hh)
      have hx0 : x ≠ 0 := hz x (by simp)
      split at h
      · rename_i h2
        rw [if_pos h2]
        obtain ⟨h3, h4⟩ := unitT_val l one hz.tail h
        refine ⟨fun y hy => ?_, h4⟩
        rcases List.mem_cons.1 hy with e | e
        · subst e
          refine ⟨h1', ?_⟩
          rcases h2 with h2 | h2
          · exact Or.inl (hasB_iff.1 h2)
          · right; rw [h4 (by rw [← h2]; exact hx0)]; exact h2
        · exact h3 y e
      · rename_i h2
        rw [if_neg h2]
        split at h
        · exact absurd rfl h
        · rename_i h3
          rw [if_neg h3]
          have h3' : one = 0 := by simpa using h3
          obtain ⟨h4, h5⟩ := unitT_val l x hz.tail h
          refine ⟨fun y hy => ?_, fun h => absurd h3' h⟩
          rcases List.mem_cons.1 hy with e | e
          · subst e; exact ⟨h1', Or.inr (h5 hx0).symm⟩
          · exact h4 y e

theorem unitT_wrong {S : List Int} : ∀ (l : List Int) (one : Int), Nz l → (unitT S l one).2 = true → one = 0 ∧ ∀ x ∈ l, ¬ x ∈ S ∧ -x ∈ S
  | [], one, _, h => ⟨by simpa [unitT] using h, fun x hx => by cases hx⟩
  | x :: l, one, hz, h => by
    rw [unitT] at h
    split at h
    · cases h
    · rename_i h1
      have h1' : ¬ x ∈ S := fun hh => h1 (hasB_iff.2 hh)
      have hx0 : x ≠ 0 := hz x (by simp)
      split at h
      · rename_i h2
        obtain ⟨h3, h4⟩ := unitT_wrong l one hz.tail h
        refine ⟨h3, fun y hy => ?_⟩
        rcases List.mem_cons.1 hy with e | e
        · subst e
          rcases h2 with h2 | h2
          · exact ⟨h1', hasB_iff.1 h2⟩
          · rw [h3] at h2; exact absurd h2 hx0
        · exact h4 y e
      · split at h
        · cases h
        · have := (unitT_wrong l x hz.tail h).1
          exact absurd this hx0

theorem unitT_false {S : List Int} : ∀ (l : List Int) (one : Int), (∀ x ∈ l, ¬ x ∈ S ∧ -x ∈ S) → unitT S l one = (one, one == 0)
  | [], one, h => rfl
  | x :: l, one, h => by
    rw [unitT, if_neg (fun hh => (h x (by simp)).1 (hasB_iff.1 hh)), if_pos (Or.inl (hasB_iff.2 (h x (by simp)).2))]
    exact unitT_false l one fun y hy => h y (by simp [hy])

theorem unitT_unit {S : List Int} {u : Int} (hu : ¬ -u ∈ S) (h0 : u ≠ 0) : ∀ (l : List Int) (one : Int), (∀ x ∈ l, ¬ x ∈ S ∧ (-x ∈ S ∨ x = u)) → (one = u ∨ (one = 0 ∧ u ∈ l)) → (unitT S l one).1 = u
  | [], one, h, ho => by
    rcases ho with ho | ho
    · exact ho
    · cases ho.2
  | x :: l, one, h, ho => by
    have hx := h x (by simp)
    have ht : ∀ y ∈ l, ¬ y ∈ S ∧ (-y ∈ S ∨ y = u) := fun y hy => h y (by simp [hy])
    rw [unitT, if_neg (fun hh => hx.1 (hasB_iff.1 hh))]
    split
    · rename_i h2
      refine unitT_unit hu h0 l one ht ?_
      rcases ho with ho | ⟨ho, hm⟩
      · exact Or.inl ho
      · right
        refine ⟨ho, ?_⟩
        rcases List.mem_cons.1 hm with e | e
        · subst e
          rcases h2 with h2 | h2
          · exact absurd (hasB_iff.1 h2) hu
          · rw [ho] at h2; exact absurd h2 h0
        · exact e
    · rename_i h2
      have hxu : x = u := by
        rcases hx.2 with h3 | h3
        · exact absurd (Or.inl (hasB_iff.2 h3)) h2
        · exact h3
      have hone : one = 0 := by
        rcases ho with ho | ho
        · exact absurd (Or.inr (by rw [hxu, ho])) h2
        · exact ho.1
      rw [if_neg (by simpa using hone)]
      exact unitT_unit hu h0 l x ht (Or.inl hxu)

theorem unitR_eq (S : List Int) : ∀ (l : List Int) (one : Int), unitR S l one = (unitT S l one).1
  | [], one => rfl
  | x :: l, one => by
    rw [unitR, unitT]
    split
    · rfl
    · split
      · exact unitR_eq S l one
      · split
        · rfl
        · exact unitR_eq S l x

theorem falseB_iff {l S : List Int} : falseB l S = true ↔ ∀ x ∈ l, -x ∈ S := by
  unfold falseB; rw [List.all_eq_true]
  exact ⟨fun h x hx => hasB_iff.1 (h x hx), fun h x hx => hasB_iff.2 (h x hx)⟩

/-- closed under the clauses, and at peace with them -/
structure Good (cls : List (List Int)) (T : List Int) : Prop where
  con : Con T
  no : ∀ l ∈ cls, falseB l T = false
  fix : ∀ l ∈ cls, (unitT T l 0).1 = 0

def Nzs (cls : List (List Int)) : Prop := ∀ l ∈ cls, Nz l

theorem Good.stay {cls : List (List Int)} {T S l : List Int} (h : Good cls T) (hz : Nzs cls) (hs : Sub S T) (hl : l ∈ cls) :
    (unitT S l 0).2 = false ∧ ((unitT S l 0).1 ≠ 0 → (unitT S l 0).1 ∈ T) := by
  constructor
  · cases hw : (unitT S l 0).2 with
    | false => rfl
    | true =>
      have h1 := (unitT_wrong l 0 (hz l hl) hw).2
      have : falseB l T = true := falseB_iff.2 fun x hx => hs _ (h1 x hx).2
      rw [h.no l hl] at this; cases this
  · intro h0
    obtain ⟨hm, _, _⟩ := unitT_mem h0
    have hv := (unitT_val l 0 (hz l hl) h0).1
    generalize (unitT S l 0).1 = u at *
    cases hc : hasB T u with
    | true => exact hasB_iff.1 hc
    | false =>
      have hu : ¬ u ∈ T := hasB_false.1 hc
      have hn : ¬ -u ∈ T := fun hh => by
        have : falseB l T = true := falseB_iff.2 fun x hx => by
          rcases (hv x hx).2 with e | e
          · exact hs _ e
          · rw [e]; exact hh
        rw [h.no l hl] at this; cases this
      have := unitT_unit hn h0 l 0 (fun x hx => by
        rcases (hv x hx).2 with e | e
        · exact ⟨fun hh => h.con x hh (hs _ e), Or.inl (hs _ e)⟩
        · exact ⟨by rw [e]; exact hu, Or.inr e⟩) (Or.inr ⟨rfl, hm⟩)
      rw [h.fix l hl] at this
      exact absurd this.symm h0

theorem con_snoc {S : List Int} {u : Int} (h : Con S) (h0 : u ≠ 0) (hn : ¬ -u ∈ S) (hu : ¬ u ∈ S) : Con (S ++ [u]) := by
  intro x hx hx'
  rcases List.mem_append.1 hx with a | a <;> rcases List.mem_append.1 hx' with b | b
  · exact h x a b
  · have hb := List.mem_singleton.1 b
    exact hn (by rw [← hb]; simpa using a)
  · have ha := List.mem_singleton.1 a
    rw [ha] at b; exact hn b
  · have ha := List.mem_singleton.1 a
    have hb := List.mem_singleton.1 b
    omega

theorem sub_snoc {S : List Int} (u : Int) : Sub S (S ++ [u]) := fun x hx => List.mem_append.2 (Or.inl hx)

/-- a pass stays inside every good set; it keeps what was, and at peace -/
theorem passT_stay {all : List (List Int)} {T : List Int} (h : Good all T) (hz : Nzs all) : ∀ (cls : List (List Int)) (S : List Int) (m : Bool), (∀ l ∈ cls, l ∈ all) → Sub S T → ∃ S' m', passT S m cls = some (S', m') ∧ Sub S' T
  | [], S, m, _, hs => ⟨S, m, rfl, hs⟩
  | l :: cls, S, m, hin, hs => by
    obtain ⟨h1, h2⟩ := h.stay hz hs (hin l (by simp))
    have hin' : ∀ l ∈ cls, l ∈ all := fun x hx => hin x (by simp [hx])
    rw [passT, if_neg (by rw [h1]; simp)]
    split
    · rename_i h3
      refine passT_stay h hz cls _ _ hin' ?_
      intro x hx
      rcases List.mem_append.1 hx with a | a
      · exact hs x a
      · rw [List.mem_singleton.1 a]; exact h2 h3
    · exact passT_stay h hz cls _ _ hin' hs

theorem passT_con : ∀ (cls : List (List Int)) (S : List Int) (m : Bool) (S' : List Int) (m' : Bool), Con S → passT S m cls = some (S', m') → Con S' ∧ Sub S S'
  | [], S, m, S', m', hc, h => by cases h; exact ⟨hc, Sub.refl _⟩
  | l :: cls, S, m, S', m', hc, h => by
    rw [passT] at h
    split at h
    · cases h
    · split at h
      · rename_i h2
        obtain ⟨_, hn, hn'⟩ := unitT_mem h2
        obtain ⟨a, b⟩ := passT_con cls _ _ S' m' (con_snoc hc h2 (hasB_false.1 hn') (hasB_false.1 hn)) h
        exact ⟨a, (sub_snoc _).trans b⟩
      · exact passT_con cls _ _ S' m' hc h

theorem passT_fix : ∀ (cls : List (List Int)) (S : List Int) (S' : List Int), passT S false cls = some (S', false) → S' = S ∧ ∀ l ∈ cls, (unitT S l 0).2 = false ∧ (unitT S l 0).1 = 0
  | [], S, S', h => by cases h; exact ⟨rfl, fun l hl => by cases hl⟩
  | l :: cls, S, S', h => by
    rw [passT] at h
    split at h
    · cases h
    · rename_i h1
      split at h
      · rename_i h2
        have := ((passT_open cls cls _ _ _ _ (fun l h => h) h).2.2.1 rfl).1
        cases this
      · rename_i h2
        obtain ⟨a, b⟩ := passT_fix cls S S' h
        refine ⟨a, fun x hx => ?_⟩
        rcases List.mem_cons.1 hx with e | e
        · subst e; exact ⟨by simpa using h1, by simpa using h2⟩
        · exact b x e

theorem closeT_good (cls : List (List Int)) (hz : Nzs cls) : ∀ (f : Nat) (S S' : List Int), openT cls S + 1 ≤ f → Con S → closeT cls f S = some S' → Good cls S' ∧ Sub S S'
  | 0, S, S', hf, _, _ => by omega
  | f + 1, S, S', hf, hc, h => by
    rw [closeT] at h
    cases hp : passT S false cls with
    | none => rw [hp] at h; cases h
    | some r =>
      obtain ⟨S1, m⟩ := r
      rw [hp] at h
      cases m with
      | false =>
        have h' : some S1 = some S' := h
        cases h'
        obtain ⟨e, h2⟩ := passT_fix cls S _ hp
        rw [e]
        refine ⟨⟨hc, fun l hl => ?_, fun l hl => (h2 l hl).2⟩, Sub.refl _⟩
        cases hF : falseB l S with
        | false => rfl
        | true =>
          have hf2 := falseB_iff.1 hF
          have := unitT_false l 0 (S := S) (fun x hx => ⟨fun hh => hc x hh (hf2 x hx), hf2 x hx⟩)
          have h3 := (h2 l hl).1
          rw [this] at h3; cases h3
      | true =>
        have hlt := (passT_open cls cls S false S1 true (fun l h => h) hp).2.2.2 rfl rfl
        obtain ⟨hc1, hs1⟩ := passT_con cls S false S1 true hc hp
        obtain ⟨a, b⟩ := closeT_good cls hz f S1 S' (by omega) hc1 h
        exact ⟨a, hs1.trans b⟩
theorem closureT_good {cls : List (List Int)} (hz : Nzs cls) {S S' : List Int} (hc : Con S) (h : closureT cls S = some S') : Good cls S' ∧ Sub S S' := closeT_good cls hz _ S S' (Nat.le_refl _) hc h

theorem closeT_stay {cls : List (List Int)} {T : List Int} (h : Good cls T) (hz : Nzs cls) : ∀ (f : Nat) (S : List Int), Sub S T → ∃ S', closeT cls f S = some S' ∧ Sub S' T
  | 0, S, hs => ⟨S, rfl, hs⟩
  | f + 1, S, hs => by
    obtain ⟨S1, m, hp, hs1⟩ := passT_stay h hz cls S false (fun l h => h) hs
    rw [closeT, hp]
    cases m with
    | false => exact ⟨S1, rfl, hs1⟩
    | true => exact closeT_stay h hz f S1 hs1
theorem closureT_stay {cls : List (List Int)} {T : List Int} (h : Good cls T) (hz : Nzs cls) {S : List Int} (hs : Sub S T) : ∃ S', closureT cls S = some S' ∧ Sub S' T := closeT_stay h hz _ S hs

theorem closureT_no {cls : List (List Int)} (hz : Nzs cls) {S T : List Int} (h : closureT cls S = none) (hT : Good cls T) : ¬ Sub S T := fun hs => by
  obtain ⟨S', h1, _⟩ := closureT_stay hT hz hs
  rw [h] at h1; cases h1

/-- a good set that lies in every good set above S is the closure of S -/
theorem closureT_least {cls : List (List Int)} (hz : Nzs cls) {S T : List Int} (hc : Con S) (hT : Good cls T) (hs : Sub S T) (hl : ∀ U, Good cls U → Sub S U → Sub T U) : ∃ S', closureT cls S = some S' ∧ ∀ x, hasB T x = hasB S' x := by
  obtain ⟨S', h1, h2⟩ := closureT_stay hT hz hs
  obtain ⟨h3, h4⟩ := closureT_good hz hc h1
  have h5 := hl S' h3 h4
  refine ⟨S', h1, fun x => ?_⟩
  rw [Bool.eq_iff_iff, hasB_iff, hasB_iff]
  exact ⟨h5 x, h2 x⟩
theorem closureT_never {cls : List (List Int)} (hz : Nzs cls) {S : List Int} (hc : Con S) (hn : ∀ U, Good cls U → ¬ Sub S U) : closureT cls S = none := by
  cases h : closureT cls S with
  | none => rfl
  | some S' =>
    obtain ⟨h3, h4⟩ := closureT_good hz hc h
    exact absurd h4 (hn S' h3)

end Go.Proofs.Ytalcnkoidmoibaa
