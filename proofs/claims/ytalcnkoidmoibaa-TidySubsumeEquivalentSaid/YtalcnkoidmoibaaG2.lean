/-
  Putting the vivified clause in a clause's place keeps every model; no program in sight. No condition.
-/
import Derived.Test.YtalcnkoidmoibaaG1
import Derived.Test.YtalcnkoidmoibaaP4
import Derived.Test.YtalcnkoidmoibaaP5
namespace Go.Proofs.Ytalcnkoidmoibaa
set_option linter.unusedVariables false
set_option linter.unusedSimpArgs false

theorem litT_neg {bs : List Bool} {x : Int} (h : x ≠ 0 ∧ -65536 ≤ x ∧ x ≤ 65536) : litT bs (-x) = !(litT bs x) := by
  rw [litT_yes (isB_iff.2 ⟨by omega, by omega, by omega⟩), litT_yes (isB_iff.2 ⟨h.1, h.2.1, h.2.2⟩), Int.natAbs_neg]
  by_cases h0 : 0 < x
  · rw [decide_eq_true h0, decide_eq_false (by omega)]; cases varB bs x.natAbs <;> rfl
  · rw [decide_eq_false h0, decide_eq_true (by omega)]; cases varB bs x.natAbs <;> rfl

def Trues (bs : List Bool) (S : List Int) : Prop := ∀ x ∈ S, litT bs x = true
theorem holdsT_iff {bs : List Bool} {l : List Int} : holdsT bs l = true ↔ ∃ x ∈ l, litT bs x = true := by unfold holdsT; rw [List.any_eq_true]

theorem Trues.unit {bs : List Bool} {S l : List Int} (h : Trues bs S) (hz : Okl l) (hl : holdsT bs l = true) :
    (unitT S l 0).2 = false ∧ ((unitT S l 0).1 ≠ 0 → litT bs (unitT S l 0).1 = true) := by
  have hz' : Nz l := fun y hy => (hz y hy).1
  obtain ⟨x, hx, hxt⟩ := holdsT_iff.1 hl
  have key : ¬ -x ∈ S := fun hh => by
    have := h _ hh
    rw [litT_neg (hz x hx), hxt] at this; cases this
  constructor
  · cases hw : (unitT S l 0).2 with
    | false => rfl
    | true => exact absurd ((unitT_wrong l 0 hz' hw).2 x hx).2 key
  · intro h0
    rcases ((unitT_val l 0 hz' h0).1 x hx).2 with e | e
    · exact absurd e key
    · rw [← e]; exact hxt

theorem Trues.snoc {bs : List Bool} {S : List Int} {u : Int} (h : Trues bs S) (hu : litT bs u = true) : Trues bs (S ++ [u]) := fun x hx => by
  rcases List.mem_append.1 hx with a | a
  · exact h x a
  · rw [List.mem_singleton.1 a]; exact hu

theorem passT_true {bs : List Bool} : ∀ (cls : List (List Int)) (S : List Int) (m : Bool), (∀ l ∈ cls, Okl l) → (∀ l ∈ cls, holdsT bs l = true) → Trues bs S → ∃ S' m', passT S m cls = some (S', m') ∧ Trues bs S'
  | [], S, m, _, _, h => ⟨S, m, rfl, h⟩
  | l :: cls, S, m, hz, hh, h => by
    obtain ⟨h1, h2⟩ := h.unit (hz l (by simp)) (hh l (by simp))
    rw [passT, if_neg (by rw [h1]; simp)]
    have hz' : ∀ l ∈ cls, Okl l := fun x hx => hz x (by simp [hx])
    have hh' : ∀ l ∈ cls, holdsT bs l = true := fun x hx => hh x (by simp [hx])
    split
    · rename_i h3
      exact passT_true cls _ _ hz' hh' (h.snoc (h2 h3))
    · exact passT_true cls _ _ hz' hh' h

theorem closeT_true {bs : List Bool} (cls : List (List Int)) (hz : ∀ l ∈ cls, Okl l) (hh : ∀ l ∈ cls, holdsT bs l = true) : ∀ (f : Nat) (S : List Int), Trues bs S → ∃ S', closeT cls f S = some S' ∧ Trues bs S'
  | 0, S, h => ⟨S, rfl, h⟩
  | f + 1, S, h => by
    obtain ⟨S1, m, hp, h1⟩ := passT_true cls S false hz hh h
    rw [closeT, hp]
    cases m with
    | false => exact ⟨S1, rfl, h1⟩
    | true => exact closeT_true cls hz hh f S1 h1
theorem closureT_true {bs : List Bool} {cls : List (List Int)} (hz : ∀ l ∈ cls, Okl l) (hh : ∀ l ∈ cls, holdsT bs l = true) {S : List Int} (h : Trues bs S) : ∃ S', closureT cls S = some S' ∧ Trues bs S' := closeT_true cls hz hh _ S h

/-- what holds of the clause holds of the vivified one -/
theorem vivT_true {bs : List Bool} {cls : List (List Int)} (hz : ∀ l ∈ cls, Okl l) (hh : ∀ l ∈ cls, holdsT bs l = true) : ∀ (l left : List Int), Okl l → Okl left → holdsT bs (left ++ l) = true → holdsT bs (vivT cls l left) = true
  | [], left, _, _, h => by rw [vivT]; simpa using h
  | x :: l, left, hl, hlf, h => by
    have hxo := hl x (by simp)
    have hl' : Okl l := fun y hy => hl y (by simp [hy])
    cases hlt : holdsT bs left with
    | true =>
      obtain ⟨y, hy, hyt⟩ := holdsT_iff.1 hlt
      obtain ⟨r, h1, _⟩ := vivT_sub cls (x :: l) left
      rw [h1]
      exact holdsT_iff.2 ⟨y, List.mem_append.2 (Or.inl hy), hyt⟩
    | false =>
      have hT : Trues bs (left.map (-·)) := fun z hz' => by
        obtain ⟨y, hy, rfl⟩ := List.mem_map.1 hz'
        rw [litT_neg (hlf y hy)]
        cases hq : litT bs y with
        | false => rfl
        | true => rw [holdsT_iff.2 ⟨y, hy, hq⟩] at hlt; cases hlt
      obtain ⟨S, hc, hS⟩ := closureT_true hz hh hT
      rw [vivT, hc]
      dsimp only
      obtain ⟨y, hy, hyt⟩ := holdsT_iff.1 h
      split
      · rename_i h1
        exact holdsT_iff.2 ⟨x, by simp, hS x (hasB_iff.1 h1)⟩
      · split
        · rename_i h1 h2
          have hnx := hS _ (hasB_iff.1 h2)
          rw [litT_neg hxo] at hnx
          refine vivT_true hz hh l left hl' hlf (holdsT_iff.2 ⟨y, ?_, hyt⟩)
          rcases List.mem_append.1 hy with a | a
          · exact List.mem_append.2 (Or.inl a)
          · rcases List.mem_cons.1 a with e | e
            · rw [e] at hyt; rw [hyt] at hnx; cases hnx
            · exact List.mem_append.2 (Or.inr e)
        · refine vivT_true hz hh l (left ++ [x]) hl' (fun z hz' => ?_) (by rw [List.append_assoc]; exact h)
          rcases List.mem_append.1 hz' with a | a
          · exact hlf z a
          · rw [List.mem_singleton.1 a]; exact hxo

theorem all_erase {p : List Int → Bool} : ∀ (ls : List (List Int)) (k : Nat), k < ls.length → ls.all p = (p (ell ls k) && (ls.eraseIdx k).all p)
  | [], k, h => by simp at h
  | l :: ls, 0, _ => by simp [ell]
  | l :: ls, k + 1, h => by
    have := all_erase (p := p) ls k (by simpa using h)
    have e : ell (l :: ls) (k + 1) = ell ls k := by simp [ell]
    rw [e, List.eraseIdx_cons_succ, List.all_cons, List.all_cons, this]
    cases p l <;> simp

theorem holdsT_norm {bs : List Bool} {l : List Int} : holdsT bs (normP l) = holdsT bs l := by
  rw [Bool.eq_iff_iff, holdsT_iff, holdsT_iff]
  constructor
  · rintro ⟨x, hx, ht⟩; exact ⟨x, (mem_normP.1 hx).1, ht⟩
  · rintro ⟨x, hx, ht⟩
    refine ⟨x, mem_normP.2 ⟨hx, ?_⟩, ht⟩
    cases hb : isB x 65536 with
    | true => rfl
    | false => rw [litT_no hb] at ht; cases ht

theorem viv_value {x : Int} {ls : List (List Int)} {k : Nat} (hE : vivE x ls k = 0) (bs : List Bool) : valueT x (ls.set k (vivL x ls k)) bs = valueT x ls bs := by
  obtain ⟨h1, h2, h3⟩ := vivE_zero hE
  have hk : k < ls.length := by omega
  have e1 : vivL x ls k = vivT (ls.eraseIdx k) (normP (ell ls k)) [] := by unfold vivL; rw [if_pos hE]; simp
  obtain ⟨_, _, _, hm⟩ := viv_again hE
  have hc := checkE_set h1 hk hm
  have ho := checkE_lits h1
  unfold valueT
  rw [hc, h1, all_erase (ls.set k _) k (by simpa using hk), all_erase ls k hk, ell_set hk, erase_set]
  cases ha : (ls.eraseIdx k).all (holdsT bs) with
  | false => simp
  | true =>
    congr 2
    have hz : ∀ l ∈ ls.eraseIdx k, Okl l := fun l hl => ho l (List.mem_of_mem_eraseIdx hl)
    have hh : ∀ l ∈ ls.eraseIdx k, holdsT bs l = true := List.all_eq_true.1 ha
    rw [Bool.eq_iff_iff]
    constructor
    · intro h
      obtain ⟨y, hy, ht⟩ := holdsT_iff.1 h
      exact holdsT_iff.2 ⟨y, hm y hy, ht⟩
    · intro h
      rw [e1]
      exact vivT_true hz hh _ [] (normP_okl _) (fun y hy => by cases hy) (by rw [List.nil_append, holdsT_norm]; exact h)

theorem vivL_bad {x : Int} {ls : List (List Int)} {k : Int} (h : vivE x ls k ≠ 0) : vivL x ls k = [] := by unfold vivL; rw [if_neg h]
theorem vivE_in {x : Int} {ls : List (List Int)} {k : Int} (h0 : 0 ≤ k) (h1 : k < ls.length) : vivE x ls k = checkE x ls := by
  unfold vivE
  split
  · rfl
  · rename_i h; rw [if_neg (by omega)]; have : checkE x ls = 0 := by simpa using h
    exact this.symm
theorem viv_subB {x : Int} {ls : List (List Int)} {k : Nat} (hE : vivE x ls k = 0) : subB (vivL x ls k) (ell ls k) = true := subB_iff.2 (viv_again hE).2.2.2

end Go.Proofs.Ytalcnkoidmoibaa
