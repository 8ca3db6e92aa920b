/-
  The closure of a set of literals under clauses, in plain words; a function's way out past the marks of its loops. No condition.
-/
import Derived.Test.YtalcnkoidmoibaaC1
namespace Go.Proofs.Ytalcnkoidmoibaa
open Go.RowKit Go.Shelf
set_option linter.unusedVariables false
set_option linter.unusedSimpArgs false

/-- one pass over the clauses -/
def passT (S : List Int) (more : Bool) : List (List Int) → Option (List Int × Bool)
  | [] => some (S, more)
  | l :: cls => if (unitT S l 0).2 = true then none else if (unitT S l 0).1 ≠ 0 then passT (S ++ [(unitT S l 0).1]) true cls else passT S more cls

theorem passT_snoc : ∀ (pre : List (List Int)) (l : List Int) (S : List Int) (more : Bool), passT S more (pre ++ [l]) = (passT S more pre).bind fun r => passT r.1 r.2 [l]
  | [], l, S, more => rfl
  | p :: pre, l, S, more => by
    rw [List.cons_append, passT, passT]
    split
    · rfl
    · split
      · exact passT_snoc pre l _ _
      · exact passT_snoc pre l _ _

theorem passT_none : ∀ (pre rest : List (List Int)) (S : List Int) (more : Bool), passT S more pre = none → passT S more (pre ++ rest) = none
  | [], rest, S, more, h => by cases h
  | p :: pre, rest, S, more, h => by
    rw [passT] at h
    rw [List.cons_append, passT]
    split
    · rfl
    · rename_i h1
      rw [if_neg h1] at h
      split
      · rename_i h2; rw [if_pos h2] at h; exact passT_none pre rest _ _ h
      · rename_i h2; rw [if_neg h2] at h; exact passT_none pre rest _ _ h

/-- how many places of the clauses hold a literal that is not known -/
def openT (cls : List (List Int)) (S : List Int) : Nat := (cls.flatten.filter fun x => !(hasB S x)).length

theorem openT_le (cls : List (List Int)) (S : List Int) : openT cls S ≤ sumL cls := by
  unfold openT sumL
  refine Nat.le_trans (List.length_filter_le _ _) ?_
  rw [List.length_flatten]
  exact Nat.le_refl _

theorem filter_lt {l : List Int} {p q : Int → Bool} (h : ∀ x, q x = true → p x = true) {x : Int} (hx : x ∈ l) (hp : p x = true) (hq : q x = false) : (l.filter q).length < (l.filter p).length := by
  induction l with
  | nil => cases hx
  | cons y l ih =>
    have mono : (l.filter q).length ≤ (l.filter p).length := by
      clear ih hx
      induction l with
      | nil => simp
      | cons z l ih2 =>
        rw [List.filter_cons, List.filter_cons]
        cases hqz : q z with
        | true => rw [h z hqz]; simpa using ih2
        | false => cases p z <;> simp <;> omega
    rw [List.filter_cons, List.filter_cons]
    rcases List.mem_cons.1 hx with e | e
    · subst e; rw [hp, hq]; simp; omega
    · cases hqy : q y with
      | true => rw [h y hqy]; simpa using ih e
      | false => have := ih e; cases p y <;> simp <;> omega

theorem openT_lt {cls : List (List Int)} {S : List Int} {x : Int} {l : List Int} (hl : l ∈ cls) (hx : x ∈ l) (hn : hasB S x = false) : openT cls (S ++ [x]) < openT cls S := by
  unfold openT
  refine filter_lt (x := x) ?_ (List.mem_flatten.2 ⟨l, hl, hx⟩) (by rw [hn]; rfl) (by rw [hasB_snoc]; simp)
  intro y hy
  rw [hasB_snoc] at hy
  simp at hy
  simp [hy.1]

/-- what unit answers: a literal of the clause that is not known, nor its opposite; all others are false -/
theorem unitT_lit {S : List Int} : ∀ (l : List Int) (one : Int), (unitT S l one).1 ≠ 0 → ((unitT S l one).1 = one ∨ (one = 0 ∧ (unitT S l one).1 ∈ l ∧ hasB S (unitT S l one).1 = false ∧ hasB S (-(unitT S l one).1) = false)) ∧ (unitT S l one).2 = false
  | [], one, h => by
    refine ⟨Or.inl rfl, ?_⟩
    have : one ≠ 0 := h
    simp [unitT, this]
  | x :: l, one, h => by
    rw [unitT] at h ⊢
    split at h
    · exact absurd rfl h
    · rename_i h1
      rw [if_neg h1]
      split at h
      · rename_i h2
        rw [if_pos h2]
        obtain ⟨h3, h4⟩ := unitT_lit l one h
        refine ⟨h3.imp id fun h => ⟨h.1, List.mem_cons_of_mem _ h.2.1, h.2.2⟩, h4⟩
      · rename_i h2
        rw [if_neg h2]
        split at h
        · exact absurd rfl h
        · rename_i h3
          rw [if_neg h3]
          obtain ⟨h4, h5⟩ := unitT_lit l x h
          refine ⟨Or.inr ⟨by simpa using h3, ?_⟩, h5⟩
          rcases h4 with e | ⟨_, e1, e2⟩
          · rw [e]
            exact ⟨by simp, by simpa using h1, by simpa using fun hh => h2 (Or.inl hh)⟩
          · exact ⟨List.mem_cons_of_mem _ e1, e2⟩
theorem unitT_mem {S l : List Int} (h : (unitT S l 0).1 ≠ 0) : (unitT S l 0).1 ∈ l ∧ hasB S (unitT S l 0).1 = false ∧ hasB S (-(unitT S l 0).1) = false := by
  rcases (unitT_lit l 0 h).1 with e | e
  · exact absurd e h
  · exact e.2

/-- a pass that puts something leaves less open -/
theorem passT_open : ∀ (cls all : List (List Int)) (S : List Int) (more : Bool) (S' : List Int) (more' : Bool), (∀ l ∈ cls, l ∈ all) → passT S more cls = some (S', more') →
    S'.length + openT all S' ≤ S.length + openT all S ∧ openT all S' ≤ openT all S ∧ (more' = false → more = false ∧ S' = S) ∧ (more' = true → more = false → openT all S' < openT all S)
  | [], all, S, more, S', more', _, h => by
    cases h
    exact ⟨Nat.le_refl _, Nat.le_refl _, fun h => ⟨h, rfl⟩, fun h h2 => by rw [h] at h2; cases h2⟩
  | l :: cls, all, S, more, S', more', hin, h => by
    rw [passT] at h
    split at h
    · cases h
    · split at h
      · rename_i h2
        obtain ⟨hm, hn, _⟩ := unitT_mem h2
        have hlt := openT_lt (hin l (by simp)) hm hn
        obtain ⟨a1, a2, a3, a4⟩ := passT_open cls all _ _ S' more' (fun l hl => hin l (by simp [hl])) h
        rw [List.length_append, List.length_singleton] at a1
        refine ⟨by omega, by omega, fun h => ?_, fun _ _ => by omega⟩
        have := (a3 h).1; cases this
      · exact passT_open cls all _ _ S' more' (fun l hl => hin l (by simp [hl])) h

/-- the closure -/
def closeT (cls : List (List Int)) : Nat → List Int → Option (List Int)
  | 0, S => some S
  | f + 1, S => match passT S false cls with
    | none => none
    | some (S', false) => some S'
    | some (S', true) => closeT cls f S'

theorem closeT_fuel (cls : List (List Int)) : ∀ (f : Nat) (S : List Int), openT cls S + 1 ≤ f → closeT cls f S = closeT cls (openT cls S + 1) S := by
  intro f
  induction f using Nat.strongRecOn with
  | _ f ih =>
    intro S hf
    obtain ⟨f, rfl⟩ : ∃ g, f = g + 1 := ⟨f - 1, by omega⟩
    rw [closeT, closeT]
    cases hp : passT S false cls with
    | none => rfl
    | some r =>
      obtain ⟨S', m⟩ := r
      cases m with
      | false => rfl
      | true =>
        have hlt := (passT_open cls cls S false S' true (fun l h => h) hp).2.2.2 rfl rfl
        show closeT cls f S' = closeT cls (openT cls S) S'
        rw [ih f (by omega) S' (by omega), ih (openT cls S) (by omega) S' (by omega)]

def closureT (cls : List (List Int)) (S : List Int) : Option (List Int) := closeT cls (openT cls S + 1) S
theorem closureT_none {cls : List (List Int)} {S : List Int} (h : passT S false cls = none) : closureT cls S = none := by unfold closureT; rw [closeT, h]
theorem closureT_done {cls : List (List Int)} {S S' : List Int} (h : passT S false cls = some (S', false)) : closureT cls S = some S' := by unfold closureT; rw [closeT, h]
theorem closureT_more {cls : List (List Int)} {S S' : List Int} (h : passT S false cls = some (S', true)) : closureT cls S = closureT cls S' := by
  have hlt := (passT_open cls cls S false S' true (fun l h => h) h).2.2.2 rfl rfl
  unfold closureT
  rw [closeT, h]
  exact closeT_fuel cls _ S' (by omega)

/- the marks -/
def coll (D : Nat) : Deferred := { target := .collected D, args := #[] }
/-- as it was, but for some blocks that are no cells -/
structure Shut (ds : List Nat) (W W' : World) : Prop where
  os : W'.os = W.os
  tape : W'.tape = W.tape
  output : W'.output = W.output
  size : W'.heap.size = W.heap.size
  block : ∀ k, k ∉ ds → W'.heap[k]? = W.heap[k]?
theorem Shut.below {ds : List Nat} {W W' w : World} {n₀ : Nat} (h : Shut ds W W') (hb : Below n₀ w W) (hd : ∀ D ∈ ds, n₀ ≤ D) : Below n₀ w W' :=
  ⟨h.os.trans hb.os, h.tape.trans hb.tape, h.output.trans hb.output, by rw [h.size]; exact hb.size, fun k hk => (h.block k (fun hm => by have := hd k hm; omega)).trans (hb.block k hk)⟩
theorem Shut.cell {ds : List Nat} {W W' : World} (h : Shut ds W W') {p : Addr} (hp : p.block ∉ ds) : W'.cell? p = W.cell? p := World.cell?_of_block (w := W) (h.block p.block hp)

theorem leaves_marks {F : Fence} {n : Nat} {P : Program} {fn : Func} {tmps : Array Value} {R : Ending → World → Prop} {u : FrameMode} (hu : u ≠ .run) : ∀ (ds : List Nat) (W : World), ds.Nodup → (∀ D ∈ ds, W.heap[D]? = some (.deferred (some []))) →
    (∀ W', Shut ds W W' → LeavesIn F n P fn tmps R [] u W') → LeavesInM F n P fn tmps R (ds.map coll) u W
  | [], W, _, _, h => h W ⟨rfl, rfl, rfl, rfl, fun _ _ => rfl⟩
  | D :: ds, W, hnd, hd, h => by
    have hnd' := List.nodup_cons.1 hnd
    refine ⟨hu, .inl ⟨D, _, rfl, run_takeDeferred (hd D (by simp)), leaves_marks hu ds _ hnd'.2 (fun E hE => ?_) (fun W' hs => h W' ?_)⟩⟩
    · rw [World.putObj_heap_other (by intro e; subst e; exact hnd'.1 hE)]
      exact hd E (by simp [hE])
    · refine ⟨hs.os, hs.tape, hs.output, hs.size.trans (by simp [World.putObj]), fun k hk => ?_⟩
      simp only [List.mem_cons, not_or] at hk
      rw [hs.block k hk.2, World.putObj_heap_other (by intro e; exact hk.1 e)]

end Go.Proofs.Ytalcnkoidmoibaa
