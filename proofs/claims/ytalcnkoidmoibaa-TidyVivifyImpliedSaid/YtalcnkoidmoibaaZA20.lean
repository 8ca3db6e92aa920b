/-
  Unit propagation in plain words; how long a list of watches can grow. Turned from this repo's texts of chapter 20. No condition.
-/
import Derived.Test.YtalcnkoidmoibaaZA19

namespace Go.Proofs.Ytalcnkoidmoibaa
open Go.RowKit Go.Shelf
set_option linter.unusedVariables false
set_option linter.unusedSimpArgs false

theorem opn_mem {S l : List Int} : ∀ y ∈ opnT S l, y ∈ l ∧ hasB S (-y) = false := by
  induction l using snoc_ind with
  | h0 => intro y hy; cases hy
  | h1 l x ih =>
    intro y hy
    rw [opnT_snoc] at hy
    unfold opnS at hy
    split at hy
    · rename_i h
      simp only [Bool.and_eq_true, Bool.not_eq_true'] at h
      rcases List.mem_append.1 hy with h1 | h1
      · exact ⟨by simp [(ih y h1).1], (ih y h1).2⟩
      · rw [List.mem_singleton.1 h1]; exact ⟨by simp, h.1⟩
    · exact ⟨by simp [(ih y hy).1], (ih y hy).2⟩

theorem opn_nodup {S l : List Int} : (opnT S l).Nodup := by
  induction l using snoc_ind with
  | h0 => exact List.nodup_nil
  | h1 l x ih =>
    rw [opnT_snoc]; unfold opnS
    split
    · rename_i h
      simp only [Bool.and_eq_true, Bool.not_eq_true'] at h
      rw [List.nodup_append]
      refine ⟨ih, by simp, fun a ha b hb e => hasB_false.1 h.2.2 ?_⟩
      rw [List.mem_singleton.1 hb] at e
      exact e ▸ ha
    · exact ih

theorem opn_short {S l : List Int} (h : (opnT S l).length < 2) : ∀ y ∈ l, hasB S (-y) = false → y ∈ opnT S l := by
  induction l using snoc_ind with
  | h0 => intro y hy; cases hy
  | h1 l x ih =>
    intro y hy hf
    rw [opnT_snoc] at h ⊢
    unfold opnS at h ⊢
    split at h
    · rename_i hc
      rw [if_pos hc]
      have h2 : (opnT S l).length < 2 := by simp at h; omega
      rcases List.mem_append.1 hy with h1 | h1
      · simp [ih h2 y h1 hf]
      · simp [List.mem_singleton.1 h1]
    · rename_i hc
      rw [if_neg hc]
      rcases List.mem_append.1 hy with h1 | h1
      · exact ih h y h1 hf
      · rw [List.mem_singleton.1 h1] at hf ⊢
        rcases Decidable.em (x ∈ opnT S l) with h2 | h2
        · exact h2
        · exact absurd (by simp [hf, h, hasB_false.2 h2]) hc

theorem checkE_isB {x : Int} {ls : List (List Int)} (h : checkE x ls = 0) {l : List Int} (hl : l ∈ ls) {y : Int} (hy : y ∈ l) : isB y x = true := by
  unfold checkE at h
  split at h
  · cases h
  · split at h
    · cases h
    · rename_i h1 h2
      have h3 : allB x ls = true := by simpa using h2
      have h4 : litsB x l = true := List.all_eq_true.1 h3 l hl
      exact List.all_eq_true.1 h4 y hy

/-- the trail and the watches -/
structure PS where
  ts : List Stp
  wt : Int → List Int

def addW (wt : Int → List Int) (k i : Int) : Int → List Int := setW wt k (wt k ++ [i])

theorem addW_old {wt : Int → List Int} {k i y j : Int} (h : j ∈ wt y) : j ∈ addW wt k i y := by
  unfold addW setW
  by_cases e : y = k
  · rw [if_pos e, ← e]; simp [h]
  · rw [if_neg e]; exact h

theorem addW_new (wt : Int → List Int) (k i : Int) : i ∈ addW wt k i k := by unfold addW setW; simp

/-- one visit: false where the clause is falsified -/
def visT (ls : List (List Int)) (i : Nat) (s : PS) : Bool × PS :=
  if (ell ls i).any (hasB (slitsOf s.ts)) = true then (true, s) else
  match opnT (slitsOf s.ts) (ell ls i) with
  | [] => (false, s)
  | [x] => (true, ⟨s.ts ++ [⟨x, i⟩], s.wt⟩)
  | x :: y :: _ => (true, ⟨s.ts, addW (addW s.wt (-x) i) (-y) i⟩)

/-- satisfied, or two of its literals watched whose negations lie not behind -/
def SGood (S : List Int) (wt : Int → List Int) (P : Int → Prop) (l : List Int) (i : Nat) : Prop :=
  l.any (hasB S) = true ∨ ∃ x y, x ∈ l ∧ y ∈ l ∧ x ≠ y ∧ (i : Int) ∈ wt (-x) ∧ (i : Int) ∈ wt (-y) ∧ ¬ P (-x) ∧ ¬ P (-y)

theorem SGood.grow {S S' : List Int} {wt wt' : Int → List Int} {P : Int → Prop} {l : List Int} {i : Nat} (h : SGood S wt P l i) (hS : ∀ y ∈ S, y ∈ S') (hw : ∀ k j, j ∈ wt k → j ∈ wt' k) : SGood S' wt' P l i := by
  rcases h with h | ⟨x, y, h1, h2, h3, h4, h5, h6, h7⟩
  · obtain ⟨y, hy, hh⟩ := List.any_eq_true.1 h
    exact Or.inl (List.any_eq_true.2 ⟨y, hy, hasB_iff.2 (hS y (hasB_iff.1 hh))⟩)
  · exact Or.inr ⟨x, y, h1, h2, h3, hw _ _ h4, hw _ _ h5, h6, h7⟩

theorem litsOf_app (a b : List Stp) : slitsOf (a ++ b) = slitsOf a ++ slitsOf b := by simp [slitsOf]

/-- a step that a clause forces keeps the trail valid -/
theorem trail_more {x : Int} {ls : List (List Int)} {ts : List Stp} (h : trailB x ls ts = true) {y : Int} {i : Nat} (hi : i < ls.length) (hb : isB y x = true) (h1 : hasB (slitsOf ts) y = false) (h2 : hasB (slitsOf ts) (-y) = false) (hm : y ∈ ell ls i) (ho : ∀ z ∈ ell ls i, z ≠ y → hasB (slitsOf ts) (-z) = true) :
    trailB x ls (ts ++ [⟨y, i⟩]) = true := by
  unfold trailB
  rw [List.length_append]
  have hl : ([(⟨y, (i : Int)⟩ : Stp)] : List Stp).length = 1 := rfl
  rw [hl, trailTo_succ, Bool.and_eq_true]
  constructor
  · unfold trailB trailTo at h
    unfold trailTo
    rw [List.all_eq_true] at h ⊢
    intro j hj
    have hj' := List.mem_range.1 hj
    rw [List.take_append_of_le_length (by omega), stp_left hj']
    exact h j hj
  · have e1 : (ts ++ [(⟨y, (i : Int)⟩ : Stp)]).take ts.length = ts := by simp
    have e2 : stp (ts ++ [(⟨y, (i : Int)⟩ : Stp)]) ts.length = ⟨y, i⟩ := by
      rw [stp_lt (by simp)]; simp
    rw [e1, e2]
    unfold stepOk whyOk
    have h3 : ((ell ls i).any fun z => (z != y) && !(hasB (slitsOf ts) (-z))) = false := by
      rw [List.any_eq_false]
      intro z hz
      by_cases e : z = y
      · simp [e]
      · simp [ho z hz e]
    simp [hb, h1, h2, hasB_iff.2 hm, h3]
    omega

theorem vis_true {x : Int} {ls : List (List Int)} {i : Nat} {s s' : PS} (hc : checkE x ls = 0) (hi : i < ls.length) (ht : trailB x ls s.ts = true) (h : visT ls i s = (true, s')) :
    trailB x ls s'.ts = true ∧ (∃ more, s'.ts = s.ts ++ more) ∧ (∀ k j, j ∈ s.wt k → j ∈ s'.wt k) ∧ ∀ P : Int → Prop, (∀ y, P y → y ∈ slitsOf s.ts) → SGood (slitsOf s'.ts) s'.wt P (ell ls i) i := by
  unfold visT at h
  split at h
  · rename_i ha
    simp only [Prod.mk.injEq, true_and] at h
    subst h
    exact ⟨ht, ⟨[], by simp⟩, fun _ _ h => h, fun P hP => Or.inl ha⟩
  · rename_i ha
    have ha' : (ell ls i).any (hasB (slitsOf s.ts)) = false := by simpa using ha
    rw [List.any_eq_false] at ha'
    split at h
    · simp at h
    · rename_i y hop
      simp only [Prod.mk.injEq, true_and] at h
      subst h
      have hy := opn_mem (S := slitsOf s.ts) (l := ell ls i) y (by rw [hop]; simp)
      have hz : ∀ z ∈ ell ls i, z ≠ y → hasB (slitsOf s.ts) (-z) = true := fun z hz hne => by
        cases hf : hasB (slitsOf s.ts) (-z) with
        | true => rfl
        | false =>
          have := opn_short (S := slitsOf s.ts) (l := ell ls i) (by rw [hop]; simp) z hz hf
          rw [hop, List.mem_singleton] at this
          exact absurd this hne
      have hyB : isB y x = true := checkE_isB hc (ell_mem hi) hy.1
      refine ⟨trail_more ht hi hyB (by simpa using ha' y hy.1) hy.2 hy.1 hz, ⟨_, rfl⟩, fun _ _ h => h, fun P hP => Or.inl ?_⟩
      exact List.any_eq_true.2 ⟨y, hy.1, hasB_iff.2 (by rw [litsOf_app]; simp [slitsOf])⟩
    · rename_i a b r hop
      simp only [Prod.mk.injEq, true_and] at h
      subst h
      have h1 := opn_mem (S := slitsOf s.ts) (l := ell ls i) a (by rw [hop]; simp)
      have h2 := opn_mem (S := slitsOf s.ts) (l := ell ls i) b (by rw [hop]; simp)
      have hn : a ≠ b := by
        have := opn_nodup (S := slitsOf s.ts) (l := ell ls i)
        rw [hop] at this
        intro e
        exact (List.nodup_cons.1 this).1 (by simp [e])
      refine ⟨ht, ⟨[], by simp⟩, fun k j hj => addW_old (addW_old hj), fun P hP => Or.inr ⟨a, b, h1.1, h2.1, hn, addW_old (addW_new _ _ _), addW_new _ _ _, fun hp => ?_, fun hp => ?_⟩⟩
      · exact hasB_false.1 h1.2 (hP _ hp)
      · exact hasB_false.1 h2.2 (hP _ hp)

theorem vis_false {ls : List (List Int)} {i : Nat} {s s' : PS} (h : visT ls i s = (false, s')) : s' = s ∧ ∀ y ∈ ell ls i, hasB (slitsOf s.ts) (-y) = true := by
  unfold visT at h
  split at h
  · simp at h
  · split at h
    · rename_i hop
      simp only [Prod.mk.injEq, true_and] at h
      refine ⟨h.symm, fun y hy => ?_⟩
      cases hf : hasB (slitsOf s.ts) (-y) with
      | true => rfl
      | false =>
        have := opn_short (S := slitsOf s.ts) (l := ell ls i) (by rw [hop]; simp) y hy hf
        rw [hop] at this; cases this
    · simp at h
    · simp at h

/-- clauses visited in turn, up to a conflict -/
def wpassT (ls : List (List Int)) : List Nat → PS → Option Nat × PS
  | [], s => (none, s)
  | i :: r, s => if (visT ls i s).1 = true then wpassT ls r (visT ls i s).2 else (some i, s)

/-- the queue worked off -/
def drainT (ls : List (List Int)) : Nat → Nat → PS → Option Nat × PS
  | 0, _, s => (none, s)
  | f + 1, hd, s =>
    if hd < s.ts.length then
      if (wpassT ls ((s.wt (stp s.ts hd).lit).map Int.toNat) ⟨s.ts, setW s.wt (stp s.ts hd).lit []⟩).1 = none then drainT ls f (hd + 1) (wpassT ls ((s.wt (stp s.ts hd).lit).map Int.toNat) ⟨s.ts, setW s.wt (stp s.ts hd).lit []⟩).2
      else wpassT ls ((s.wt (stp s.ts hd).lit).map Int.toNat) ⟨s.ts, setW s.wt (stp s.ts hd).lit []⟩
    else (none, s)

/-- every watch is a clause -/
def WV (ls : List (List Int)) (wt : Int → List Int) : Prop := ∀ k, ∀ j ∈ wt k, 0 ≤ j ∧ j < (ls.length : Int)

theorem WV.set {ls : List (List Int)} {wt : Int → List Int} (h : WV ls wt) (k : Int) : WV ls (setW wt k []) := fun y j hj => by
  unfold setW at hj
  by_cases e : y = k
  · rw [if_pos e] at hj; cases hj
  · rw [if_neg e] at hj; exact h y j hj

theorem WV.add {ls : List (List Int)} {wt : Int → List Int} (h : WV ls wt) {k : Int} {i : Nat} (hi : i < ls.length) : WV ls (addW wt k i) := fun y j hj => by
  unfold addW setW at hj
  by_cases e : y = k
  · rw [if_pos e, List.mem_append, List.mem_singleton] at hj
    rcases hj with hj | hj
    · exact h k j hj
    · omega
  · rw [if_neg e] at hj; exact h y j hj

theorem vis_wv {ls : List (List Int)} {i : Nat} {s : PS} (h : WV ls s.wt) (hi : i < ls.length) : WV ls (visT ls i s).2.wt := by
  unfold visT
  split
  · exact h
  · split
    · exact h
    · exact h
    · exact (h.add hi).add hi

/-- what a pass leaves -/
structure Passed (x : Int) (ls : List (List Int)) (l : List Nat) (s s' : PS) : Prop where
  tr : trailB x ls s'.ts = true
  more : ∃ more, s'.ts = s.ts ++ more
  wt : ∀ k j, j ∈ s.wt k → j ∈ s'.wt k
  wv : WV ls s'.wt

theorem litsOf_sub {a b : List Stp} (h : ∃ more, b = a ++ more) : ∀ y ∈ slitsOf a, y ∈ slitsOf b := by
  obtain ⟨m, rfl⟩ := h
  intro y hy
  rw [litsOf_app]; simp [hy]

theorem pass_any {x : Int} {ls : List (List Int)} (hc : checkE x ls = 0) : ∀ (l : List Nat) (s : PS), (∀ i ∈ l, i < ls.length) → trailB x ls s.ts = true → WV ls s.wt →
    Passed x ls l s (wpassT ls l s).2 ∧
    ((wpassT ls l s).1 = none → ∀ i ∈ l, ∀ P : Int → Prop, (∀ y, P y → y ∈ slitsOf s.ts) → SGood (slitsOf (wpassT ls l s).2.ts) (wpassT ls l s).2.wt P (ell ls i) i) ∧
    (∀ i, (wpassT ls l s).1 = some i → i ∈ l ∧ ∀ y ∈ ell ls i, hasB (slitsOf (wpassT ls l s).2.ts) (-y) = true)
  | [], s, _, ht, hw => ⟨⟨ht, ⟨[], by simp [wpassT]⟩, fun _ _ h => h, hw⟩, fun _ i hi => (by cases hi), fun i hi => by simp [wpassT] at hi⟩
  | i :: r, s, hl, ht, hw => by
    have hi := hl i (by simp)
    rw [wpassT]
    cases hv : (visT ls i s).1 with
    | true =>
      have hv2 : visT ls i s = (true, (visT ls i s).2) := by rw [← hv]
      obtain ⟨t1, t2, t3, t4⟩ := vis_true hc hi ht hv2
      have hw2 := vis_wv hw hi
      generalize (visT ls i s).2 = s1 at *
      simp only [if_true]
      obtain ⟨p, q, c⟩ := pass_any hc r s1 (fun j hj => hl j (by simp [hj])) t1 hw2
      refine ⟨⟨p.tr, ?_, fun k j hj => p.wt k j (t3 k j hj), p.wv⟩, fun hnone j hj P hP => ?_, fun j hj => ⟨by simp [(c j hj).1], (c j hj).2⟩⟩
      · obtain ⟨a, ha⟩ := t2
        obtain ⟨b, hb⟩ := p.more
        exact ⟨a ++ b, by rw [hb, ha, List.append_assoc]⟩
      · rcases List.mem_cons.1 hj with e | e
        · subst e
          exact (t4 P hP).grow (litsOf_sub p.more) p.wt
        · exact q hnone j e P (fun y hy => litsOf_sub t2 y (hP y hy))
    | false =>
      have hv2 : visT ls i s = (false, (visT ls i s).2) := by rw [← hv]
      obtain ⟨_, hf⟩ := vis_false hv2
      simp only [Bool.false_eq_true, if_false]
      refine ⟨⟨ht, ⟨[], by simp⟩, fun _ _ h => h, hw⟩, fun h => by simp at h, fun j hj => ?_⟩
      simp only [Option.some.injEq] at hj
      subst hj
      exact ⟨by simp, hf⟩

/-- behind the head -/
def Beh (ts : List Stp) (hd : Nat) (y : Int) : Prop := y ∈ slitsOf (ts.take hd)

theorem Beh.sub {ts : List Stp} {hd : Nat} : ∀ y, Beh ts hd y → y ∈ slitsOf ts := fun y hy => by
  unfold Beh slitsOf at hy
  unfold slitsOf
  obtain ⟨s, hs, e⟩ := List.mem_map.1 hy
  exact List.mem_map.2 ⟨s, List.mem_of_mem_take hs, e⟩

theorem Beh.more {ts : List Stp} {hd : Nat} (h : hd ≤ ts.length) (m : List Stp) (y : Int) : Beh (ts ++ m) hd y ↔ Beh ts hd y := by
  unfold Beh; rw [List.take_append_of_le_length h]

theorem Beh.succ {ts : List Stp} {hd : Nat} (h : hd < ts.length) (y : Int) : Beh ts (hd + 1) y ↔ Beh ts hd y ∨ y = (stp ts hd).lit := by
  unfold Beh; rw [takes_snoc ts hd h, litsOf_app]; simp [slitsOf]

theorem SGood.behind {S : List Int} {wt : Int → List Int} {P Q : Int → Prop} {l : List Int} {i : Nat} (h : SGood S wt P l i) (hq : ∀ y, Q y → P y) : SGood S wt Q l i := by
  rcases h with h | ⟨x, y, h1, h2, h3, h4, h5, h6, h7⟩
  · exact Or.inl h
  · exact Or.inr ⟨x, y, h1, h2, h3, h4, h5, fun h => h6 (hq _ h), fun h => h7 (hq _ h)⟩

/-- the trail, its state, and what is good of it -/
structure Inv (x : Int) (ls : List (List Int)) (hd : Nat) (s : PS) : Prop where
  tr : trailB x ls s.ts = true
  wv : WV ls s.wt
  le : hd ≤ s.ts.length
  good : ∀ i, i < ls.length → SGood (slitsOf s.ts) s.wt (Beh s.ts hd) (ell ls i) i

theorem inv_step {x : Int} {ls : List (List Int)} (hc : checkE x ls = 0) {hd : Nat} {s s' : PS} (h : Inv x ls hd s) (hlt : hd < s.ts.length)
    (hp : wpassT ls ((s.wt (stp s.ts hd).lit).map Int.toNat) ⟨s.ts, setW s.wt (stp s.ts hd).lit []⟩ = (none, s')) : Inv x ls (hd + 1) s' ∧ ∃ more, s'.ts = s.ts ++ more := by
  obtain ⟨lit, hlit⟩ : ∃ lit, (stp s.ts hd).lit = lit := ⟨_, rfl⟩
  have hbs := Beh.succ hlt
  rw [hlit] at hp hbs
  have hl : ∀ i ∈ (s.wt lit).map Int.toNat, i < ls.length := fun i hi => by
    obtain ⟨j, hj, e⟩ := List.mem_map.1 hi
    have := h.wv lit j hj
    omega
  obtain ⟨p, q, _⟩ := pass_any hc ((s.wt lit).map Int.toNat) ⟨s.ts, setW s.wt lit []⟩ hl h.tr (h.wv.set lit)
  rw [hp] at p q
  have hm := p.more
  refine ⟨⟨p.tr, p.wv, ?_, fun i hi => ?_⟩, hm⟩
  · obtain ⟨m, e⟩ := hm
    have e' : s'.ts = s.ts ++ m := e
    show hd + 1 ≤ s'.ts.length
    rw [e', List.length_append]; omega
  · have hbeh : ∀ y, Beh s'.ts (hd + 1) y → Beh s.ts (hd + 1) y := fun y hy => by
      obtain ⟨m, e⟩ := hm
      have e' : s'.ts = s.ts ++ m := e
      rw [e', Beh.more (by omega)] at hy; exact hy
    refine SGood.behind ?_ hbeh
    by_cases hin : i ∈ (s.wt lit).map Int.toNat
    · exact q rfl i hin _ Beh.sub
    · have hni : ¬ (i : Int) ∈ s.wt lit := fun hx => hin (List.mem_map.2 ⟨_, hx, by simp⟩)
      have h0 : SGood (slitsOf s.ts) (setW s.wt lit []) (Beh s.ts (hd + 1)) (ell ls i) i := by
        rcases h.good i hi with hg | ⟨a, b, h1, h2, h3, h4, h5, h6, h7⟩
        · exact Or.inl hg
        · have ea : -a ≠ lit := fun e => hni (e ▸ h4)
          have eb : -b ≠ lit := fun e => hni (e ▸ h5)
          refine Or.inr ⟨a, b, h1, h2, h3, ?_, ?_, fun hx => ?_, fun hx => ?_⟩
          · unfold setW; rw [if_neg ea]; exact h4
          · unfold setW; rw [if_neg eb]; exact h5
          · rcases (hbs _).1 hx with hx | hx
            · exact h6 hx
            · exact ea hx
          · rcases (hbs _).1 hx with hx | hx
            · exact h7 hx
            · exact eb hx
      exact h0.grow (litsOf_sub hm) p.wt

/-- what the propagation leaves -/
structure Fixed (x : Int) (ls : List (List Int)) (ts : List Stp) (r : Option Nat × PS) : Prop where
  tr : trailB x ls r.2.ts = true
  more : ∃ more, r.2.ts = ts ++ more
  clash : ∀ i, r.1 = some i → i < ls.length ∧ ∀ y ∈ ell ls i, hasB (slitsOf r.2.ts) (-y) = true
  fixed : r.1 = none → ∀ i, i < ls.length → (ell ls i).any (hasB (slitsOf r.2.ts)) = true ∨ ∃ a b, a ∈ ell ls i ∧ b ∈ ell ls i ∧ a ≠ b ∧ hasB (slitsOf r.2.ts) (-a) = false ∧ hasB (slitsOf r.2.ts) (-b) = false

theorem Inv.done {x : Int} {ls : List (List Int)} {s : PS} (h : Inv x ls s.ts.length s) : Fixed x ls s.ts (none, s) :=
  ⟨h.tr, ⟨[], by simp⟩, fun i hi => by simp at hi, fun _ i hi => by
    rcases h.good i hi with hg | ⟨a, b, h1, h2, h3, _, _, h6, h7⟩
    · exact Or.inl hg
    · refine Or.inr ⟨a, b, h1, h2, h3, ?_, ?_⟩
      · rw [hasB_false]; intro hx; apply h6; unfold Beh; rw [List.take_length]; exact hx
      · rw [hasB_false]; intro hx; apply h7; unfold Beh; rw [List.take_length]; exact hx⟩

theorem drain_any {x : Int} {ls : List (List Int)} (hc : checkE x ls = 0) (N : Nat) (hN : ∀ ts, trailB x ls ts = true → ts.length ≤ N) : ∀ (f hd : Nat) (s : PS), Inv x ls hd s → N < f + hd → Fixed x ls s.ts (drainT ls f hd s)
  | 0, hd, s, h, hf => by
    have h1 := hN _ h.tr
    have h2 := h.le
    omega
  | f + 1, hd, s, h, hf => by
    rw [drainT]
    split
    · rename_i hlt
      cases hp : wpassT ls ((s.wt (stp s.ts hd).lit).map Int.toNat) ⟨s.ts, setW s.wt (stp s.ts hd).lit []⟩ with
      | mk r s' =>
        cases r with
        | none =>
          simp only [if_true]
          obtain ⟨hI, m, hm⟩ := inv_step hc h hlt hp
          have ih := drain_any hc N hN f (hd + 1) s' hI (by omega)
          obtain ⟨m2, hm2⟩ := ih.more
          exact ⟨ih.tr, ⟨m ++ m2, by rw [hm2, hm, List.append_assoc]⟩, ih.clash, ih.fixed⟩
        | some i =>
          simp only [reduceCtorEq, if_false]
          have hl : ∀ i ∈ (s.wt (stp s.ts hd).lit).map Int.toNat, i < ls.length := fun i hi => by
            obtain ⟨j, hj, e⟩ := List.mem_map.1 hi
            have := h.wv _ j hj
            omega
          obtain ⟨p, _, c⟩ := pass_any hc _ ⟨s.ts, setW s.wt (stp s.ts hd).lit []⟩ hl h.tr (h.wv.set _)
          rw [hp] at p c
          exact ⟨p.tr, p.more, fun j hj => ⟨hl j (c j hj).1, (c j hj).2⟩, fun hx => by simp at hx⟩
    · rename_i hge
      have : hd = s.ts.length := by have := h.le; omega
      subst this
      exact h.done

theorem trail_len {x : Int} {ls : List (List Int)} {ts : List Stp} (hx : 0 ≤ x) (h : trailB x ls ts = true) : ts.length ≤ x.toNat := by
  have T := trail_tr h
  have h1 : ∀ k, k < ts.length → 1 ≤ absI (stp ts k).lit ∧ absI (stp ts k).lit ≤ x := fun k hk => by
    have := isB_iff.1 (T.lit k hk)
    unfold absI; split <;> omega
  have hn : ((List.range ts.length).map fun k => absI (stp ts k).lit).Nodup := by
    refine List.pairwise_map.2 ?_
    refine (List.pairwise_lt_range (n := ts.length)).imp_of_mem ?_
    intro a b ha hb hab e
    have := T.apart a b hab (List.mem_range.1 hb)
    rcases absI_eq e with e1 | e1
    · exact this.1 e1
    · exact this.2 e1
  have := nodup_len _ ((List.range x.toNat).map fun k : Nat => ((k : Int) + 1)) hn (fun y hy => by
    obtain ⟨k, hk, rfl⟩ := List.mem_map.1 hy
    have h2 := h1 k (List.mem_range.1 hk)
    exact List.mem_map.2 ⟨(absI (stp ts k).lit - 1).toNat, List.mem_range.2 (by omega), by omega⟩)
  simpa using this

def propT (x : Int) (ls : List (List Int)) (ts : List Stp) : Option Nat × PS :=
  if (wpassT ls (List.range ls.length) ⟨ts, fun _ => []⟩).1 = none then drainT ls (x.toNat + 1) ts.length (wpassT ls (List.range ls.length) ⟨ts, fun _ => []⟩).2
  else wpassT ls (List.range ls.length) ⟨ts, fun _ => []⟩

theorem prop_fixed {x : Int} {ls : List (List Int)} {ts : List Stp} (h : propE x ls ts = 0) : Fixed x ls ts (propT x ls ts) := by
  obtain ⟨hc, ht⟩ := propE_zero h
  have hx := (checkE_n hc).1
  obtain ⟨p, q, c⟩ := pass_any hc (List.range ls.length) ⟨ts, fun _ => []⟩ (fun i hi => List.mem_range.1 hi) ht (fun k j hj => by cases hj)
  unfold propT
  cases hp : wpassT ls (List.range ls.length) ⟨ts, fun _ => []⟩ with
  | mk r s' =>
    rw [hp] at p q c
    obtain ⟨m, hm⟩ := p.more
    have hm' : s'.ts = ts ++ m := hm
    cases r with
    | none =>
      simp only [if_true]
      have hI : Inv x ls ts.length s' := ⟨p.tr, p.wv, by rw [hm', List.length_append]; omega, fun i hi => by
        have := q rfl i (List.mem_range.2 hi) (Beh ts ts.length) Beh.sub
        refine this.behind fun y hy => ?_
        rw [hm', Beh.more (Nat.le_refl _)] at hy
        exact hy⟩
      have ih := drain_any hc x.toNat (fun ts ht => trail_len hx ht) (x.toNat + 1) ts.length s' hI (by omega)
      obtain ⟨m2, hm2⟩ := ih.more
      exact ⟨ih.tr, ⟨m ++ m2, by rw [hm2, hm', List.append_assoc]⟩, ih.clash, ih.fixed⟩
    | some i =>
      simp only [reduceCtorEq, if_false]
      exact ⟨p.tr, p.more, fun j hj => ⟨List.mem_range.1 (c j hj).1, (c j hj).2⟩, fun hx => by simp at hx⟩

theorem trail_apart {x : Int} {ls : List (List Int)} {ts : List Stp} (h : trailB x ls ts = true) {y : Int} (h1 : hasB (slitsOf ts) y = true) : hasB (slitsOf ts) (-y) = false := by
  have T := trail_tr h
  rw [hasB_false]
  intro h2
  have full : slitsOf ts = slitsOf (ts.take ts.length) := by rw [List.take_length]
  rw [full, mem_litsTake (Nat.le_refl _)] at h2
  have h1' := hasB_iff.1 h1
  rw [full, mem_litsTake (Nat.le_refl _)] at h1'
  obtain ⟨a, ha, e1⟩ := h1'
  obtain ⟨b, hb, e2⟩ := h2
  have h0 := (isB_iff.1 (T.lit a ha)).1
  rcases Nat.lt_trichotomy a b with h3 | h3 | h3
  · exact (T.apart a b h3 hb).2 (by rw [e1, e2]; omega)
  · subst h3; rw [e1] at e2 h0; omega
  · exact (T.apart b a h3 ha).2 (by rw [e1, e2])

theorem pass_snoc {ls : List (List Int)} : ∀ (l r : List Nat) (s s1 : PS), wpassT ls l s = (none, s1) → wpassT ls (l ++ r) s = wpassT ls r s1
  | [], r, s, s1, h => by
    simp only [wpassT, Prod.mk.injEq, true_and] at h
    subst h; rfl
  | i :: l, r, s, s1, h => by
    rw [wpassT] at h
    rw [List.cons_append, wpassT]
    by_cases hv : (visT ls i s).1 = true
    · rw [if_pos hv] at h ⊢
      exact pass_snoc l r _ _ h
    · rw [if_neg hv] at h
      simp at h

theorem pass_take {ls : List (List Int)} {l : List Nat} {k : Nat} {s s1 : PS} (h : wpassT ls (l.take k) s = (none, s1)) : wpassT ls l s = wpassT ls (l.drop k) s1 := by
  have := pass_snoc (l.take k) (l.drop k) s s1 h
  rwa [List.take_append_drop] at this

theorem pass_go {ls : List (List Int)} {l : List Nat} {k i : Nat} {s s1 : PS} (h : wpassT ls (l.take k) s = (none, s1)) (hk : l[k]? = some i) (hv : (visT ls i s1).1 = true) : wpassT ls (l.take (k + 1)) s = (none, (visT ls i s1).2) := by
  rw [List.take_add_one, hk]
  show wpassT ls (l.take k ++ [i]) s = _
  rw [pass_snoc _ _ _ _ h, wpassT, if_pos hv, wpassT]

theorem pass_stop {ls : List (List Int)} {l : List Nat} {k i : Nat} {s s1 : PS} (h : wpassT ls (l.take k) s = (none, s1)) (hk : l[k]? = some i) (hv : (visT ls i s1).1 = false) : wpassT ls l s = (some i, s1) := by
  rw [pass_take h]
  have hlt : k < l.length := (List.getElem?_eq_some_iff.1 hk).1
  rw [List.drop_eq_getElem_cons hlt]
  have e : l[k] = i := (List.getElem?_eq_some_iff.1 hk).2
  rw [e, wpassT, if_neg (by rw [hv]; simp)]

theorem addW_count (wt : Int → List Int) (k i z j : Int) : (addW wt k i z).count j = (wt z).count j + (if z = k ∧ j = i then 1 else 0) := by
  unfold addW setW
  by_cases e : z = k
  · subst e
    by_cases e2 : j = i
    · subst e2; simp
    · simp [List.count_append, List.count_cons, e2, Ne.symm e2]
  · simp [e]

theorem vis_cnt (ls : List (List Int)) (i : Nat) (s : PS) (z j : Int) : ((visT ls i s).2.wt z).count j ≤ (s.wt z).count j + (if j = (i : Int) then 1 else 0) := by
  unfold visT
  split
  · exact Nat.le_add_right _ _
  · split
    · exact Nat.le_add_right _ _
    · exact Nat.le_add_right _ _
    · rename_i a b r hop
      have hn : a ≠ b := by
        have := opn_nodup (S := slitsOf s.ts) (l := ell ls i)
        rw [hop] at this
        intro e
        exact (List.nodup_cons.1 this).1 (by simp [e])
      show (addW (addW s.wt (-a) i) (-b) i z).count j ≤ _
      rw [addW_count, addW_count]
      by_cases e1 : z = -a
      · have e2 : ¬ z = -b := by omega
        simp [e1, e2, show ¬ (-a = -b) by omega]
      · simp only [e1, false_and, if_false, Nat.add_zero]
        by_cases e2 : z = -b
        · simp [e2]
        · simp [e2]

theorem vis_key {ls : List (List Int)} {i : Nat} {s : PS} (h : ∀ z j, j ∈ s.wt z → hasB (ell ls j.toNat) (-z) = true) : ∀ z j, j ∈ (visT ls i s).2.wt z → hasB (ell ls j.toNat) (-z) = true := by
  intro z j
  unfold visT
  split
  · exact h z j
  · split
    · exact h z j
    · exact h z j
    · rename_i a b r hop
      have h1 := (opn_mem (S := slitsOf s.ts) (l := ell ls i) a (by rw [hop]; simp)).1
      have h2 := (opn_mem (S := slitsOf s.ts) (l := ell ls i) b (by rw [hop]; simp)).1
      intro hj
      have hj : j ∈ addW (addW s.wt (-a) i) (-b) i z := hj
      unfold addW setW at hj
      by_cases e2 : z = -b
      · subst e2
        rw [if_pos rfl, List.mem_append, List.mem_singleton] at hj
        rcases hj with hj | rfl
        · by_cases e1 : -b = -a
          · rw [if_pos e1, List.mem_append, List.mem_singleton] at hj
            rcases hj with hj | rfl
            · rw [e1]; exact h _ j hj
            · rw [Int.toNat_natCast, hasB_iff, Int.neg_neg]; exact h2
          · rw [if_neg e1] at hj; exact h _ j hj
        · rw [Int.toNat_natCast, hasB_iff, Int.neg_neg]; exact h2
      · rw [if_neg e2] at hj
        by_cases e1 : z = -a
        · subst e1
          rw [if_pos rfl, List.mem_append, List.mem_singleton] at hj
          rcases hj with hj | rfl
          · exact h _ j hj
          · rw [Int.toNat_natCast, hasB_iff, Int.neg_neg]; exact h1
        · rw [if_neg e1] at hj; exact h z j hj

/-- what a pass does to the counts -/
theorem pass_cnt (ls : List (List Int)) : ∀ (l : List Nat) (s : PS) (z : Int) (j : Nat), ((wpassT ls l s).2.wt z).count (j : Int) ≤ (s.wt z).count (j : Int) + l.count j
  | [], s, z, j => by simp [wpassT]
  | i :: r, s, z, j => by
    rw [wpassT]
    split
    · have h1 := pass_cnt ls r (visT ls i s).2 z j
      have h2 := vis_cnt ls i s z j
      rw [List.count_cons]
      by_cases e : (i == j) = true
      · have e' : i = j := by simpa using e
        subst e'
        simp at h2 ⊢
        omega
      · have e' : ¬ (j : Int) = i := by intro h; apply e; simp; omega
        rw [if_neg e'] at h2
        rw [if_neg e]
        omega
    · exact Nat.le_add_right _ _

theorem pass_key {ls : List (List Int)} : ∀ (l : List Nat) (s : PS), (∀ z j, j ∈ s.wt z → hasB (ell ls j.toNat) (-z) = true) → ∀ z j, j ∈ (wpassT ls l s).2.wt z → hasB (ell ls j.toNat) (-z) = true
  | [], s, h => h
  | i :: r, s, h => by
    rw [wpassT]
    split
    · exact pass_key r _ (vis_key h)
    · exact h

theorem count_toNat : ∀ (l : List Int) (j : Nat), (∀ y ∈ l, 0 ≤ y) → (l.map Int.toNat).count j = l.count (j : Int)
  | [], j, _ => rfl
  | y :: l, j, h => by
    have hy := h y (by simp)
    rw [List.map_cons, List.count_cons, List.count_cons, count_toNat l j (fun z hz => h z (by simp [hz]))]
    congr 1
    by_cases e : y = (j : Int)
    · subst e; simp
    · have : ¬ y.toNat = j := by omega
      simp [e, this]


/-- Fibonacci's numbers -/
def fibA : Nat → Nat
  | 0 => 1
  | 1 => 2
  | n + 2 => fibA (n + 1) + fibA n
theorem fib_pos : ∀ n, 1 ≤ fibA n
  | 0 => Nat.le_refl _
  | 1 => by simp [fibA]
  | n + 2 => by rw [fibA]; have := fib_pos (n + 1); omega
theorem fib_succ : ∀ n, fibA n ≤ fibA (n + 1)
  | 0 => by simp [fibA]
  | n + 1 => by rw [fibA]; omega
theorem fib_mono {a b : Nat} (h : a ≤ b) : fibA a ≤ fibA b := by
  induction h with
  | refl => exact Nat.le_refl _
  | step _ ih => exact Nat.le_trans ih (fib_succ _)

/-- how often a clause stands in some lists of watches -/
def totW (wt : Int → List Int) (j : Int) (zs : List Int) : Nat := (zs.map fun z => (wt z).count j).sum
theorem totW_cons (wt : Int → List Int) (j z : Int) (zs : List Int) : totW wt j (z :: zs) = (wt z).count j + totW wt j zs := by simp [totW]
theorem addW_tot (wt : Int → List Int) (k i j : Int) : ∀ zs : List Int, zs.Nodup → totW (addW wt k i) j zs ≤ totW wt j zs + (if k ∈ zs ∧ j = i then 1 else 0)
  | [], _ => by simp [totW]
  | z :: zs, h => by
    have h' := List.nodup_cons.1 h
    have ih := addW_tot wt k i j zs h'.2
    rw [totW_cons, totW_cons, addW_count]
    by_cases e : z = k
    · subst e
      have hn : ¬ (z ∈ zs ∧ j = i) := fun hh => h'.1 hh.1
      rw [if_neg hn] at ih
      by_cases ej : j = i
      · subst ej; simp at ih ⊢; omega
      · simp [ej] at ih ⊢; omega
    · by_cases ej : j = i
      · by_cases hk : k ∈ zs
        · simp [e, ej, hk] at ih ⊢; omega
        · simp [e, ej, hk, Ne.symm e] at ih ⊢; omega
      · simp [e, ej] at ih ⊢; omega
theorem vis_tot (ls : List (List Int)) (i : Nat) (s : PS) (j : Int) (zs : List Int) (h : zs.Nodup) : totW (visT ls i s).2.wt j zs ≤ totW s.wt j zs + (if j = (i : Int) then 2 else 0) := by
  unfold visT
  split
  · exact Nat.le_add_right _ _
  · split
    · exact Nat.le_add_right _ _
    · exact Nat.le_add_right _ _
    · rename_i a b r hop
      have h1 := addW_tot s.wt (-a) i j zs h
      have h2 := addW_tot (addW s.wt (-a) i) (-b) i j zs h
      show totW (addW (addW s.wt (-a) i) (-b) i) j zs ≤ _
      by_cases e : j = (i : Int)
      · rw [if_pos e]
        split at h1 <;> split at h2 <;> omega
      · rw [if_neg e]
        rw [if_neg (fun hh => e hh.2)] at h1 h2
        omega
theorem pass_tot (ls : List (List Int)) : ∀ (l : List Nat) (s : PS) (j : Nat) (zs : List Int), zs.Nodup → totW (wpassT ls l s).2.wt j zs ≤ totW s.wt j zs + 2 * l.count j
  | [], s, j, zs, h => by simp [wpassT]
  | i :: r, s, j, zs, h => by
    rw [wpassT]
    split
    · have h1 := pass_tot ls r (visT ls i s).2 j zs h
      have h2 := vis_tot ls i s j zs h
      rw [List.count_cons]
      by_cases e : (i == j) = true
      · have e' : i = j := by simpa using e
        subst e'
        simp at h2 ⊢
        omega
      · have e' : ¬ (j : Int) = i := by intro h; apply e; simp; omega
        rw [if_neg e'] at h2
        rw [if_neg e]
        omega
    · exact Nat.le_add_right _ _

/-- the steps from h0 to the head whose negation lies in a clause -/
def ddT (h0 : Nat) (ls : List (List Int)) (ts : List Stp) (hd i : Nat) : Nat := (((ts.take hd).drop h0).filter fun s => hasB (ell ls i) (-s.lit)).length
theorem dd_more {h0 : Nat} {ls : List (List Int)} {ts m : List Stp} {hd i : Nat} (h : hd ≤ ts.length) : ddT h0 ls (ts ++ m) hd i = ddT h0 ls ts hd i := by unfold ddT; rw [List.take_append_of_le_length h]
theorem dd_succ {h0 : Nat} {ls : List (List Int)} {ts : List Stp} {hd i : Nat} (h0d : h0 ≤ hd) (h : hd < ts.length) : ddT h0 ls ts (hd + 1) i = ddT h0 ls ts hd i + (if hasB (ell ls i) (-(stp ts hd).lit) = true then 1 else 0) := by
  unfold ddT; rw [takes_snoc ts hd h, List.drop_append_of_le_length (by rw [List.length_take]; omega), List.filter_append, List.length_append]
  congr 1
  by_cases e : hasB (ell ls i) (-(stp ts hd).lit) = true
  · rw [if_pos e]; simp [List.filter_cons, e]
  · rw [if_neg e]; simp [List.filter_cons, e]
theorem dd_zero {h0 : Nat} {ls : List (List Int)} {ts : List Stp} {i : Nat} : ddT h0 ls ts h0 i = 0 := by
  unfold ddT
  rw [List.drop_eq_nil_of_le (by rw [List.length_take]; omega)]
  rfl

structure Cnt (h0 : Nat) (ls : List (List Int)) (hd : Nat) (s : PS) : Prop where
  le : h0 ≤ hd
  key : ∀ z j, j ∈ s.wt z → hasB (ell ls j.toNat) (-z) = true
  row : ∀ z (i : Nat), (s.wt z).count (i : Int) ≤ fibA (ddT h0 ls s.ts hd i)
  tot : ∀ zs (i : Nat), zs.Nodup → totW s.wt i zs ≤ fibA (ddT h0 ls s.ts hd i + 1)
  why : ∀ p, h0 ≤ p → p < s.ts.length → 0 ≤ (stp s.ts p).why

theorem stp_app {a b : List Stp} {p : Nat} (h : p < a.length) : stp (a ++ b) p = stp a p := by
  rw [stp_lt (by rw [List.length_append]; omega), stp_lt h, List.getElem_append_left h]
/-- the steps that a visit adds have a reason -/
theorem vis_why {h0 : Nat} {ls : List (List Int)} {i : Nat} {s : PS} (h : ∀ p, h0 ≤ p → p < s.ts.length → 0 ≤ (stp s.ts p).why) : ∀ p, h0 ≤ p → p < (visT ls i s).2.ts.length → 0 ≤ (stp (visT ls i s).2.ts p).why := by
  unfold visT
  split
  · exact h
  · split
    · exact h
    · rename_i a hop
      intro p hp hlt
      have hlt : p < (s.ts ++ [(⟨a, (i : Int)⟩ : Stp)]).length := hlt
      show 0 ≤ (stp (s.ts ++ [⟨a, i⟩]) p).why
      rw [List.length_append, List.length_singleton] at hlt
      by_cases e : p < s.ts.length
      · rw [stp_app e]; exact h p hp e
      · obtain rfl : p = s.ts.length := by omega
        rw [stp_lt (by simp)]
        simp
    · exact h
theorem pass_why {h0 : Nat} {ls : List (List Int)} : ∀ (l : List Nat) (s : PS), (∀ p, h0 ≤ p → p < s.ts.length → 0 ≤ (stp s.ts p).why) → ∀ p, h0 ≤ p → p < (wpassT ls l s).2.ts.length → 0 ≤ (stp (wpassT ls l s).2.ts p).why
  | [], s, h => h
  | i :: r, s, h => by
    rw [wpassT]
    split
    · exact pass_why r _ (vis_why h)
    · exact h

theorem cnt_first {ls : List (List Int)} {ts : List Stp} {k : Nat} {r : Option Nat} {s1 : PS} (h : wpassT ls ((List.range ls.length).take k) ⟨ts, fun _ => []⟩ = (r, s1)) : Cnt ts.length ls ts.length s1 := by
  have hc : ∀ i : Nat, ((List.range ls.length).take k).count i ≤ 1 := fun i => by
    refine Nat.le_trans (List.Sublist.count_le _ (List.take_sublist _ _)) ?_
    exact List.nodup_iff_count.1 List.nodup_range i
  refine ⟨Nat.le_refl _, ?_, fun z i => ?_, fun zs i hz => ?_, ?_⟩
  · have := pass_key (ls := ls) ((List.range ls.length).take k) ⟨ts, fun _ => []⟩ (fun z j hj => by cases hj)
    rw [h] at this; exact this
  · have := pass_cnt ls ((List.range ls.length).take k) ⟨ts, fun _ => []⟩ z i
    rw [h] at this
    have h2 := hc i
    rw [dd_zero]
    simp only [List.count_nil] at this
    simp only [fibA]
    omega
  · have := pass_tot ls ((List.range ls.length).take k) ⟨ts, fun _ => []⟩ i zs hz
    rw [h] at this
    have h2 := hc i
    have h3 : ∀ zs : List Int, totW (fun _ => []) (i : Int) zs = 0 := fun zs => by
      induction zs with
      | nil => rfl
      | cons z zs ih => rw [totW_cons, ih]; simp
    rw [dd_zero]
    simp only [h3] at this
    simp only [fibA]
    omega
  · have := pass_why (h0 := ts.length) (ls := ls) ((List.range ls.length).take k) ⟨ts, fun _ => []⟩ (fun p hp hl => by
      have hl : p < ts.length := hl
      omega)
    rw [h] at this; exact this

theorem tot_clear {wt : Int → List Int} {lit j : Int} : ∀ {zs : List Int}, zs.Nodup → totW (setW wt lit []) j zs + (if lit ∈ zs then (wt lit).count j else 0) = totW wt j zs
  | [], _ => by simp [totW]
  | z :: zs, h => by
    have h' := List.nodup_cons.1 h
    have ih := tot_clear (wt := wt) (lit := lit) (j := j) h'.2
    rw [totW_cons, totW_cons]
    by_cases e : z = lit
    · subst e
      rw [if_neg h'.1] at ih
      rw [if_pos (by simp)]
      have : (setW wt z [] z).count j = 0 := by unfold setW; simp
      omega
    · have h1 : setW wt lit [] z = wt z := by unfold setW; rw [if_neg e]
      rw [h1]
      by_cases hm : lit ∈ zs
      · rw [if_pos hm] at ih
        rw [if_pos (by simp [hm])]; omega
      · rw [if_neg hm] at ih
        rw [if_neg (by simp [hm, Ne.symm e])]; omega

theorem cnt_step {x : Int} {h0 : Nat} {ls : List (List Int)} {hd k : Nat} {s s1 : PS} {r : Option Nat} (h : Cnt h0 ls hd s) (hw : WV ls s.wt) (hlt : hd < s.ts.length) (hm : ∃ more, s1.ts = s.ts ++ more)
    (hp : wpassT ls (((s.wt (stp s.ts hd).lit).map Int.toNat).take k) ⟨s.ts, setW s.wt (stp s.ts hd).lit []⟩ = (r, s1)) : Cnt h0 ls (hd + 1) s1 := by
  obtain ⟨lit, hlit⟩ : ∃ lit, (stp s.ts hd).lit = lit := ⟨_, rfl⟩
  have hkey0 : ∀ z j, j ∈ setW s.wt lit [] z → hasB (ell ls j.toNat) (-z) = true := fun z j hj => by
    unfold setW at hj
    by_cases e : z = lit
    · rw [if_pos e] at hj; cases hj
    · rw [if_neg e] at hj; exact h.key z j hj
  have hcnt : ∀ i : Nat, (((s.wt lit).map Int.toNat).take k).count i ≤ (s.wt lit).count (i : Int) := fun i => by
    refine Nat.le_trans (List.Sublist.count_le _ (List.take_sublist _ _)) ?_
    rw [count_toNat _ _ (fun y hy => (hw lit y hy).1)]
    exact Nat.le_refl _
  obtain ⟨more, hm⟩ := hm
  refine ⟨by have := h.le; omega, ?_, fun z i => ?_, fun zs i hz => ?_, ?_⟩
  · have := pass_key (ls := ls) (((s.wt (stp s.ts hd).lit).map Int.toNat).take k) ⟨s.ts, setW s.wt (stp s.ts hd).lit []⟩ (by rw [hlit]; exact hkey0)
    rw [hp] at this; exact this
  · have h1 := pass_cnt ls (((s.wt (stp s.ts hd).lit).map Int.toNat).take k) ⟨s.ts, setW s.wt (stp s.ts hd).lit []⟩ z i
    rw [hp] at h1
    rw [hm, dd_more (by omega), dd_succ h.le hlt]
    rw [hlit] at h1 ⊢
    have h2 := hcnt i
    have h1' : (s1.wt z).count (i : Int) ≤ (setW s.wt lit [] z).count (i : Int) + (((s.wt lit).map Int.toNat).take k).count i := h1
    by_cases hb : hasB (ell ls i) (-lit) = true
    · rw [if_pos hb]
      have h3 := h.tot [lit] i (by simp)
      rw [totW_cons] at h3
      by_cases e : z = lit
      · have : (setW s.wt lit [] z).count (i : Int) = 0 := by unfold setW; simp [e]
        omega
      · have h4 := h.tot [z, lit] i (by simp [e])
        rw [totW_cons, totW_cons] at h4
        have : setW s.wt lit [] z = s.wt z := by unfold setW; rw [if_neg e]
        rw [this] at h1'
        omega
    · rw [if_neg hb]
      have h5 : (s.wt lit).count (i : Int) = 0 := by
        rw [List.count_eq_zero]
        intro hi
        apply hb
        have := h.key lit i hi
        rwa [Int.toNat_natCast] at this
      have h3 := h.row z i
      have h4 : (setW s.wt lit [] z).count (i : Int) ≤ (s.wt z).count (i : Int) := by
        unfold setW
        by_cases e : z = lit
        · rw [if_pos e]; simp
        · rw [if_neg e]; exact Nat.le_refl _
      rw [Nat.add_zero]
      omega
  · have h1 := pass_tot ls (((s.wt (stp s.ts hd).lit).map Int.toNat).take k) ⟨s.ts, setW s.wt (stp s.ts hd).lit []⟩ i zs hz
    rw [hp] at h1
    rw [hm, dd_more (by omega), dd_succ h.le hlt]
    rw [hlit] at h1 ⊢
    have h2 := hcnt i
    have h1' : totW s1.wt i zs ≤ totW (setW s.wt lit []) i zs + 2 * (((s.wt lit).map Int.toNat).take k).count i := h1
    have h6 := tot_clear (wt := s.wt) (lit := lit) (j := (i : Int)) hz
    by_cases hb : hasB (ell ls i) (-lit) = true
    · rw [if_pos hb]
      have h3 := h.row lit i
      have e : fibA (ddT h0 ls s.ts hd i + 1 + 1) = fibA (ddT h0 ls s.ts hd i + 1) + fibA (ddT h0 ls s.ts hd i) := by rw [fibA]
      rw [e]
      by_cases hl : lit ∈ zs
      · rw [if_pos hl] at h6
        have h4 := h.tot zs i hz
        omega
      · rw [if_neg hl] at h6
        have h4 := h.tot (lit :: zs) i (List.nodup_cons.2 ⟨hl, hz⟩)
        rw [totW_cons] at h4
        omega
    · rw [if_neg hb]
      have h5 : (s.wt lit).count (i : Int) = 0 := by
        rw [List.count_eq_zero]
        intro hi
        apply hb
        have := h.key lit i hi
        rwa [Int.toNat_natCast] at this
      have h4 := h.tot zs i hz
      rw [Nat.add_zero]
      omega
  · have := pass_why (h0 := h0) (ls := ls) (((s.wt (stp s.ts hd).lit).map Int.toNat).take k) ⟨s.ts, setW s.wt (stp s.ts hd).lit []⟩ h.why
    rw [hp] at this; exact this

/- the sum over the clauses -/
theorem sum_erase {f : Nat → Nat} {r : Nat} : ∀ {L : List Nat}, r ∈ L → (L.map f).sum = f r + ((L.erase r).map f).sum
  | [], h => by cases h
  | y :: L, h => by
    by_cases e : y = r
    · subst e; simp
    · have hm : r ∈ L := by
        rcases List.mem_cons.1 h with h | h
        · exact absurd h.symm e
        · exact h
      rw [List.erase_cons_tail (by simpa using e)]
      simp only [List.map_cons, List.sum_cons]
      rw [sum_erase hm]
      omega
theorem sum_le {f : Nat → Nat} {M : Nat} (hM : ∀ i, f i ≤ M) : ∀ L : List Nat, (L.map f).sum ≤ L.length * M
  | [] => by simp
  | y :: L => by simp only [List.map_cons, List.sum_cons, List.length_cons, Nat.succ_mul]; have := hM y; have := sum_le hM L; omega
theorem sum_part {f : Nat → Nat} {M : Nat} (hM : ∀ i, f i ≤ M) : ∀ (R L : List Nat), R.Nodup → (∀ r ∈ R, r ∈ L) → R.length ≤ L.length ∧ (L.map f).sum ≤ (R.map f).sum + (L.length - R.length) * M
  | [], L, _, _ => by
    refine ⟨by simp, ?_⟩
    simp only [List.map_nil, List.sum_nil, List.length_nil, Nat.sub_zero, Nat.zero_add]
    exact sum_le hM L
  | r :: R, L, hn, hs => by
    have hn' := List.nodup_cons.1 hn
    have hr : r ∈ L := hs r (by simp)
    obtain ⟨i1, i2⟩ := sum_part hM R (L.erase r) hn'.2 (fun q hq => (List.mem_erase_of_ne (fun e => hn'.1 (by rw [← e]; exact hq))).2 (hs q (by simp [hq])))
    have hl : (L.erase r).length = L.length - 1 := List.length_erase_of_mem hr
    have hl0 : 0 < L.length := List.length_pos_of_mem hr
    rw [sum_erase hr]
    simp only [List.map_cons, List.sum_cons, List.length_cons]
    rw [hl] at i1 i2
    refine ⟨by omega, ?_⟩
    have : L.length - 1 - R.length = L.length - (R.length + 1) := by omega
    rw [this] at i2
    omega
theorem sum_fib {f : Nat → Nat} {g : Nat → Nat} : ∀ (j : Nat), (∀ s, s < j → f (g s) ≤ fibA s) → (((List.range j).map g).map f).sum + 2 ≤ fibA (j + 1)
  | 0, _ => by simp [fibA]
  | j + 1, h => by
    have ih := sum_fib j (fun s hs => h s (by omega))
    rw [List.range_succ, List.map_append, List.map_append, List.sum_append]
    simp only [List.map_cons, List.map_nil, List.sum_cons, List.sum_nil, Nat.add_zero]
    have := h j (by omega)
    rw [show fibA (j + 1 + 1) = fibA (j + 1) + fibA j from rfl]
    omega
theorem fib_top (N : Nat) : ∀ (d j : Nat), j + d = N → fibA (j + 1) + d * fibA j ≤ fibA (N + 1)
  | 0, j, h => by simp at h; subst h; simp
  | d + 1, j, h => by
    have ih := fib_top N d (j + 1) (by omega)
    have h1 : d * fibA j ≤ d * fibA (j + 1) := Nat.mul_le_mul_left _ (fib_succ j)
    rw [show fibA (j + 1 + 1) = fibA (j + 1) + fibA j from rfl] at ih
    rw [Nat.succ_mul]
    omega

theorem len_sum : ∀ (n : Nat) (l : List Int), (∀ y ∈ l, 0 ≤ y ∧ y < (n : Int)) → l.length ≤ ((List.range n).map fun i : Nat => l.count (i : Int)).sum
  | 0, l, h => by
    rcases l with _ | ⟨y, l⟩
    · simp
    · have := h y (by simp); omega
  | n + 1, l, h => by
    have h1 := len_sum n (l.filter fun y => y != (n : Int)) (fun y hy => by
      have h2 := List.mem_filter.1 hy
      have h3 := h y h2.1
      have h4 : y ≠ n := by simpa using h2.2
      omega)
    have h2 : l.length = l.count (n : Int) + (l.filter fun y => y != (n : Int)).length := by
      rw [List.count_eq_countP, List.countP_eq_length_filter]
      have := List.length_eq_countP_add_countP (p := fun y => y == (n : Int)) (l := l)
      rw [List.countP_eq_length_filter, List.countP_eq_length_filter] at this
      rw [this]
      congr 2
      apply List.filter_congr
      intro y _
      by_cases e : y = (n : Int) <;> simp [bne, e]
    have h3 : ((List.range n).map fun i : Nat => (l.filter fun y => y != (n : Int)).count (i : Int)).sum = ((List.range n).map fun i : Nat => l.count (i : Int)).sum := by
      congr 1
      apply List.map_congr_left
      intro i hi
      have := List.mem_range.1 hi
      rw [List.count_filter]
      simp; omega
    rw [List.range_succ, List.map_append, List.sum_append]
    simp only [List.map_cons, List.map_nil, List.sum_cons, List.sum_nil, Nat.add_zero]
    omega

/-- the reasons of the steps behind the head: each another clause, and none of its literals goes false after its step -/
theorem why_inj {x : Int} {ls : List (List Int)} {ts : List Stp} (T : Tr x ls ts) {p q : Nat} (hpq : p < q) (hq : q < ts.length) (h1 : 0 ≤ (stp ts p).why) (h2 : 0 ≤ (stp ts q).why) : (stp ts p).why.toNat ≠ (stp ts q).why.toNat := fun e => by
  have r1 := (T.reason p (by omega) h1).1
  have r2 := (T.reason q hq h2).2
  rw [e] at r1
  obtain ⟨j, hj, hl⟩ := r2 _ r1 (T.apart p q hpq hq).1
  rcases Nat.lt_trichotomy j p with h | h | h
  · exact (T.apart j p h (by omega)).2 hl
  · subst h
    have := T.lit j (by omega)
    have := isB_iff.1 this
    omega
  · have := (T.apart p j h (by omega)).2
    omega
theorem dd_why {x : Int} {h0 : Nat} {ls : List (List Int)} {ts : List Stp} (T : Tr x ls ts) {p hd : Nat} (hp : p < hd) (h0p : h0 ≤ p) (hd' : hd ≤ ts.length) (h1 : 0 ≤ (stp ts p).why) : ddT h0 ls ts hd (stp ts p).why.toNat ≤ p - h0 := by
  have key : ∀ m, p ≤ m → m ≤ hd → ddT h0 ls ts m (stp ts p).why.toNat ≤ p - h0 := by
    intro m hm
    induction hm with
    | refl =>
      intro _
      unfold ddT
      refine Nat.le_trans (List.length_filter_le _ _) ?_
      rw [List.length_drop, List.length_take]; omega
    | @step m hm ih =>
      intro hmd
      have hm : p ≤ m := hm
      rw [show Nat.succ m = m + 1 from rfl] at hmd ⊢
      rw [dd_succ (by omega) (by omega), if_neg, Nat.add_zero]
      · exact ih (by omega)
      · intro hb
        have hb := hasB_iff.1 hb
        have hr := T.reason p (by omega) h1
        by_cases e : -(stp ts m).lit = (stp ts p).lit
        · rcases Nat.lt_or_ge p m with h | h
          · have := (T.apart p m h (by omega)).2
            omega
          · obtain rfl : p = m := by omega
            have := isB_iff.1 (T.lit p (by omega))
            omega
        · obtain ⟨j, hj, hl⟩ := hr.2 _ hb e
          have := (T.apart j m (by omega) (by omega)).1
          omega
  exact key hd (by omega) (Nat.le_refl _)
theorem dd_le {h0 : Nat} {ls : List (List Int)} {ts : List Stp} {hd i : Nat} (h : hd ≤ ts.length) : ddT h0 ls ts hd i ≤ hd - h0 := by
  unfold ddT
  refine Nat.le_trans (List.length_filter_le _ _) ?_
  rw [List.length_drop, List.length_take]; omega

theorem fib61 : fibA 61 = 6557470319842 := by
  have q0 : fibA 0 = 1 := rfl
  have q1 : fibA 1 = 2 := rfl
  have q2 : fibA 2 = 3 := by rw [show fibA 2 = fibA 1 + fibA 0 from rfl, q1, q0]
  have q3 : fibA 3 = 5 := by rw [show fibA 3 = fibA 2 + fibA 1 from rfl, q2, q1]
  have q4 : fibA 4 = 8 := by rw [show fibA 4 = fibA 3 + fibA 2 from rfl, q3, q2]
  have q5 : fibA 5 = 13 := by rw [show fibA 5 = fibA 4 + fibA 3 from rfl, q4, q3]
  have q6 : fibA 6 = 21 := by rw [show fibA 6 = fibA 5 + fibA 4 from rfl, q5, q4]
  have q7 : fibA 7 = 34 := by rw [show fibA 7 = fibA 6 + fibA 5 from rfl, q6, q5]
  have q8 : fibA 8 = 55 := by rw [show fibA 8 = fibA 7 + fibA 6 from rfl, q7, q6]
  have q9 : fibA 9 = 89 := by rw [show fibA 9 = fibA 8 + fibA 7 from rfl, q8, q7]
  have q10 : fibA 10 = 144 := by rw [show fibA 10 = fibA 9 + fibA 8 from rfl, q9, q8]
  have q11 : fibA 11 = 233 := by rw [show fibA 11 = fibA 10 + fibA 9 from rfl, q10, q9]
  have q12 : fibA 12 = 377 := by rw [show fibA 12 = fibA 11 + fibA 10 from rfl, q11, q10]
  have q13 : fibA 13 = 610 := by rw [show fibA 13 = fibA 12 + fibA 11 from rfl, q12, q11]
  have q14 : fibA 14 = 987 := by rw [show fibA 14 = fibA 13 + fibA 12 from rfl, q13, q12]
  have q15 : fibA 15 = 1597 := by rw [show fibA 15 = fibA 14 + fibA 13 from rfl, q14, q13]
  have q16 : fibA 16 = 2584 := by rw [show fibA 16 = fibA 15 + fibA 14 from rfl, q15, q14]
  have q17 : fibA 17 = 4181 := by rw [show fibA 17 = fibA 16 + fibA 15 from rfl, q16, q15]
  have q18 : fibA 18 = 6765 := by rw [show fibA 18 = fibA 17 + fibA 16 from rfl, q17, q16]
  have q19 : fibA 19 = 10946 := by rw [show fibA 19 = fibA 18 + fibA 17 from rfl, q18, q17]
  have q20 : fibA 20 = 17711 := by rw [show fibA 20 = fibA 19 + fibA 18 from rfl, q19, q18]
  have q21 : fibA 21 = 28657 := by rw [show fibA 21 = fibA 20 + fibA 19 from rfl, q20, q19]
  have q22 : fibA 22 = 46368 := by rw [show fibA 22 = fibA 21 + fibA 20 from rfl, q21, q20]
  have q23 : fibA 23 = 75025 := by rw [show fibA 23 = fibA 22 + fibA 21 from rfl, q22, q21]
  have q24 : fibA 24 = 121393 := by rw [show fibA 24 = fibA 23 + fibA 22 from rfl, q23, q22]
  have q25 : fibA 25 = 196418 := by rw [show fibA 25 = fibA 24 + fibA 23 from rfl, q24, q23]
  have q26 : fibA 26 = 317811 := by rw [show fibA 26 = fibA 25 + fibA 24 from rfl, q25, q24]
  have q27 : fibA 27 = 514229 := by rw [show fibA 27 = fibA 26 + fibA 25 from rfl, q26, q25]
  have q28 : fibA 28 = 832040 := by rw [show fibA 28 = fibA 27 + fibA 26 from rfl, q27, q26]
  have q29 : fibA 29 = 1346269 := by rw [show fibA 29 = fibA 28 + fibA 27 from rfl, q28, q27]
  have q30 : fibA 30 = 2178309 := by rw [show fibA 30 = fibA 29 + fibA 28 from rfl, q29, q28]
  have q31 : fibA 31 = 3524578 := by rw [show fibA 31 = fibA 30 + fibA 29 from rfl, q30, q29]
  have q32 : fibA 32 = 5702887 := by rw [show fibA 32 = fibA 31 + fibA 30 from rfl, q31, q30]
  have q33 : fibA 33 = 9227465 := by rw [show fibA 33 = fibA 32 + fibA 31 from rfl, q32, q31]
  have q34 : fibA 34 = 14930352 := by rw [show fibA 34 = fibA 33 + fibA 32 from rfl, q33, q32]
  have q35 : fibA 35 = 24157817 := by rw [show fibA 35 = fibA 34 + fibA 33 from rfl, q34, q33]
  have q36 : fibA 36 = 39088169 := by rw [show fibA 36 = fibA 35 + fibA 34 from rfl, q35, q34]
  have q37 : fibA 37 = 63245986 := by rw [show fibA 37 = fibA 36 + fibA 35 from rfl, q36, q35]
  have q38 : fibA 38 = 102334155 := by rw [show fibA 38 = fibA 37 + fibA 36 from rfl, q37, q36]
  have q39 : fibA 39 = 165580141 := by rw [show fibA 39 = fibA 38 + fibA 37 from rfl, q38, q37]
  have q40 : fibA 40 = 267914296 := by rw [show fibA 40 = fibA 39 + fibA 38 from rfl, q39, q38]
  have q41 : fibA 41 = 433494437 := by rw [show fibA 41 = fibA 40 + fibA 39 from rfl, q40, q39]
  have q42 : fibA 42 = 701408733 := by rw [show fibA 42 = fibA 41 + fibA 40 from rfl, q41, q40]
  have q43 : fibA 43 = 1134903170 := by rw [show fibA 43 = fibA 42 + fibA 41 from rfl, q42, q41]
  have q44 : fibA 44 = 1836311903 := by rw [show fibA 44 = fibA 43 + fibA 42 from rfl, q43, q42]
  have q45 : fibA 45 = 2971215073 := by rw [show fibA 45 = fibA 44 + fibA 43 from rfl, q44, q43]
  have q46 : fibA 46 = 4807526976 := by rw [show fibA 46 = fibA 45 + fibA 44 from rfl, q45, q44]
  have q47 : fibA 47 = 7778742049 := by rw [show fibA 47 = fibA 46 + fibA 45 from rfl, q46, q45]
  have q48 : fibA 48 = 12586269025 := by rw [show fibA 48 = fibA 47 + fibA 46 from rfl, q47, q46]
  have q49 : fibA 49 = 20365011074 := by rw [show fibA 49 = fibA 48 + fibA 47 from rfl, q48, q47]
  have q50 : fibA 50 = 32951280099 := by rw [show fibA 50 = fibA 49 + fibA 48 from rfl, q49, q48]
  have q51 : fibA 51 = 53316291173 := by rw [show fibA 51 = fibA 50 + fibA 49 from rfl, q50, q49]
  have q52 : fibA 52 = 86267571272 := by rw [show fibA 52 = fibA 51 + fibA 50 from rfl, q51, q50]
  have q53 : fibA 53 = 139583862445 := by rw [show fibA 53 = fibA 52 + fibA 51 from rfl, q52, q51]
  have q54 : fibA 54 = 225851433717 := by rw [show fibA 54 = fibA 53 + fibA 52 from rfl, q53, q52]
  have q55 : fibA 55 = 365435296162 := by rw [show fibA 55 = fibA 54 + fibA 53 from rfl, q54, q53]
  have q56 : fibA 56 = 591286729879 := by rw [show fibA 56 = fibA 55 + fibA 54 from rfl, q55, q54]
  have q57 : fibA 57 = 956722026041 := by rw [show fibA 57 = fibA 56 + fibA 55 from rfl, q56, q55]
  have q58 : fibA 58 = 1548008755920 := by rw [show fibA 58 = fibA 57 + fibA 56 from rfl, q57, q56]
  have q59 : fibA 59 = 2504730781961 := by rw [show fibA 59 = fibA 58 + fibA 57 from rfl, q58, q57]
  have q60 : fibA 60 = 4052739537881 := by rw [show fibA 60 = fibA 59 + fibA 58 from rfl, q59, q58]
  have q61 : fibA 61 = 6557470319842 := by rw [show fibA 61 = fibA 60 + fibA 59 from rfl, q60, q59]
  exact q61
theorem watch_len {x : Int} {h0 : Nat} {ls : List (List Int)} {hd : Nat} {s : PS} (h : Cnt h0 ls hd s) (hd' : hd ≤ s.ts.length) (hw : WV ls s.wt) (ht : trailB x ls s.ts = true) (hn : ls.length ≤ 60) (z : Int) : (s.wt z).length ≤ 8796093022208 := by
  have T := trail_tr ht
  have h1 := len_sum ls.length (s.wt z) (hw z)
  have hinj : ((List.range (hd - h0)).map fun k => (stp s.ts (h0 + k)).why.toNat).Nodup := by
    refine List.pairwise_map.2 ((List.pairwise_lt_range (n := hd - h0)).imp_of_mem ?_)
    intro a b ha hb hab
    have hb := List.mem_range.1 hb
    exact why_inj T (by omega) (by omega) (h.why _ (by omega) (by omega)) (h.why _ (by omega) (by omega))
  have hsub : ∀ r ∈ (List.range (hd - h0)).map fun k => (stp s.ts (h0 + k)).why.toNat, r ∈ List.range ls.length := by
    intro r hr
    obtain ⟨k, hk, rfl⟩ := List.mem_map.1 hr
    have hk := List.mem_range.1 hk
    have h3 := T.why (h0 + k) (by omega)
    have h4 := h.why (h0 + k) (by omega) (by omega)
    rw [List.mem_range]; omega
  have hM : ∀ i, fibA (ddT h0 ls s.ts hd i) ≤ fibA (hd - h0) := fun i => fib_mono (dd_le hd')
  obtain ⟨p1, p2⟩ := sum_part (f := fun i => fibA (ddT h0 ls s.ts hd i)) hM _ _ hinj hsub
  have p3 := sum_fib (f := fun i => fibA (ddT h0 ls s.ts hd i)) (g := fun k => (stp s.ts (h0 + k)).why.toNat) (hd - h0) (fun k hk => by
    refine fib_mono ?_
    have := dd_why T (p := h0 + k) (hd := hd) (h0 := h0) (by omega) (by omega) hd' (h.why _ (by omega) (by omega))
    omega)
  have p4 : ((List.range ls.length).map fun i : Nat => (s.wt z).count (i : Int)).sum ≤ ((List.range ls.length).map fun i => fibA (ddT h0 ls s.ts hd i)).sum := by
    generalize List.range ls.length = L
    induction L with
    | nil => simp
    | cons i L ih => simp only [List.map_cons, List.sum_cons]; have := h.row z i; omega
  simp only [List.length_map, List.length_range] at p1 p2
  have p5 := fib_top ls.length (ls.length - (hd - h0)) (hd - h0) (by omega)
  have p6 : fibA (ls.length + 1) ≤ fibA 61 := fib_mono (by omega)
  rw [fib61] at p6
  omega

/-- the state is good, and what it takes is bounded -/
structure Fit (h0 : Nat) (x : Int) (ls : List (List Int)) (hd : Nat) (s : PS) : Prop where
  tr : trailB x ls s.ts = true
  wv : WV ls s.wt
  cnt : Cnt h0 ls hd s
  len : s.ts.length ≤ 65536
  lenx : s.ts.length ≤ x.toNat
  wl : ∀ z, (s.wt z).length ≤ 8796093022208

theorem Fit.of {h0 : Nat} {x : Int} {ls : List (List Int)} {hd : Nat} {s : PS} (hc : checkE x ls = 0) (hn : ls.length ≤ 60) (ht : trailB x ls s.ts = true) (hw : WV ls s.wt) (h : Cnt h0 ls hd s) (hd' : hd ≤ s.ts.length) : Fit h0 x ls hd s := by
  have h1 := checkE_n hc
  have h2 := trail_len h1.1 ht
  exact ⟨ht, hw, h, by omega, h2, watch_len h hd' hw ht hn⟩

section

variable {x : Int} {ls : List (List Int)} {ts : List Stp}

theorem fit_first (hE : propE x ls ts = 0) (hn : ls.length ≤ 60) {k : Nat} {r : Option Nat} {s1 : PS} (h : wpassT ls ((List.range ls.length).take k) ⟨ts, fun _ => []⟩ = (r, s1)) : Fit ts.length x ls ts.length s1 := by
  obtain ⟨hc, ht⟩ := propE_zero hE
  obtain ⟨p, -, -⟩ := pass_any hc ((List.range ls.length).take k) ⟨ts, fun _ => []⟩ (fun i hi => List.mem_range.1 (List.mem_of_mem_take hi)) ht (fun k j hj => by cases hj)
  rw [h] at p
  exact .of hc hn p.tr p.wv (cnt_first h) (by
    obtain ⟨m, hm⟩ := p.more
    have hm' : s1.ts = ts ++ m := hm
    rw [hm', List.length_append]; omega)

theorem inv_first (hE : propE x ls ts = 0) {s1 : PS} (h : wpassT ls (List.range ls.length) ⟨ts, fun _ => []⟩ = (none, s1)) : Inv x ls ts.length s1 := by
  obtain ⟨hc, ht⟩ := propE_zero hE
  obtain ⟨p, q, c⟩ := pass_any hc (List.range ls.length) ⟨ts, fun _ => []⟩ (fun i hi => List.mem_range.1 hi) ht (fun k j hj => by cases hj)
  rw [h] at p q c
  obtain ⟨m, hm⟩ := p.more
  have hm' : s1.ts = ts ++ m := hm
  exact ⟨p.tr, p.wv, by rw [hm', List.length_append]; omega, fun i hi => by
    have := q rfl i (List.mem_range.2 hi) (Beh ts ts.length) Beh.sub
    refine this.behind fun y hy => ?_
    rw [hm', Beh.more (Nat.le_refl _)] at hy
    exact hy⟩

theorem prop_first {s1 : PS} (h : wpassT ls (List.range ls.length) ⟨ts, fun _ => []⟩ = (none, s1)) : propT x ls ts = drainT ls (x.toNat + 1) ts.length s1 := by
  unfold propT; rw [h]; simp

theorem prop_clash {i : Nat} {s1 : PS} (h : wpassT ls (List.range ls.length) ⟨ts, fun _ => []⟩ = (some i, s1)) : propT x ls ts = (some i, s1) := by
  unfold propT; rw [h]; simp

end

section

variable {x : Int} {ls : List (List Int)} {hd : Nat} {s : PS}

/-- the clauses that the literal at the head wakes -/
def wakeL (s : PS) (hd : Nat) : List Nat := (s.wt (stp s.ts hd).lit).map Int.toNat

def cutS (s : PS) (hd : Nat) : PS := ⟨s.ts, setW s.wt (stp s.ts hd).lit []⟩

theorem fit_step {h0 : Nat} (hc : checkE x ls = 0) (hn : ls.length ≤ 60) (h : Inv x ls hd s) (hcn : Cnt h0 ls hd s) (hlt : hd < s.ts.length) {k : Nat} {r : Option Nat} {s1 : PS} (hp : wpassT ls ((wakeL s hd).take k) (cutS s hd) = (r, s1)) : Fit h0 x ls (hd + 1) s1 := by
  obtain ⟨p, -, -⟩ := pass_any hc ((wakeL s hd).take k) (cutS s hd) (fun i hi => by
    obtain ⟨j, hj, e⟩ := List.mem_map.1 (List.mem_of_mem_take hi)
    have := h.wv _ j hj
    omega) h.tr (h.wv.set _)
  rw [hp] at p
  exact .of hc hn p.tr p.wv (cnt_step (x := x) (k := k) hcn h.wv hlt p.more hp) (by
    obtain ⟨m, hm⟩ := p.more
    have hm' : s1.ts = s.ts ++ m := hm
    rw [hm', List.length_append]; omega)

theorem wake_lt (h : Inv x ls hd s) {k i : Nat} (hk : (wakeL s hd)[k]? = some i) : i < ls.length := by
  obtain ⟨j, hj, e⟩ := List.mem_map.1 (List.mem_of_getElem? hk)
  have := h.wv _ j hj
  omega

theorem drain_go (hlt : hd < s.ts.length) {g : Nat} {s1 : PS} (hp : wpassT ls (wakeL s hd) (cutS s hd) = (none, s1)) : drainT ls (g + 1) hd s = drainT ls g (hd + 1) s1 := by
  rw [drainT, if_pos hlt]
  unfold wakeL cutS at hp
  rw [hp]; simp

theorem drain_clash (hlt : hd < s.ts.length) {g i : Nat} {s1 : PS} (hp : wpassT ls (wakeL s hd) (cutS s hd) = (some i, s1)) : drainT ls (g + 1) hd s = (some i, s1) := by
  rw [drainT, if_pos hlt]
  unfold wakeL cutS at hp
  rw [hp]; simp

theorem drain_end (hge : ¬ hd < s.ts.length) (g : Nat) : drainT ls g hd s = (none, s) := by
  cases g with
  | zero => rfl
  | succ g => rw [drainT, if_neg hge]

theorem cut_nil (h : s.wt (stp s.ts hd).lit = []) : cutS s hd = s := by
  unfold cutS setW
  have : (fun y => if y = (stp s.ts hd).lit then [] else s.wt y) = s.wt := by
    funext y
    by_cases e : y = (stp s.ts hd).lit
    · rw [if_pos e, e, h]
    · rw [if_neg e]
  rw [this]

theorem wake_nil (h : s.wt (stp s.ts hd).lit = []) : wpassT ls (wakeL s hd) (cutS s hd) = (none, s) := by
  rw [cut_nil h]; unfold wakeL; rw [h]; rfl
end

/-- closed under the unit rule, and no clause false -/
structure SClo (ls : List (List Int)) (T : Int → Prop) : Prop where
  unit : ∀ i, i < ls.length → ∀ y ∈ ell ls i, (∀ z ∈ ell ls i, z ≠ y → T (-z)) → T y
  open' : ∀ i, i < ls.length → ¬ ∀ z ∈ ell ls i, T (-z)

section

variable {x : Int} {ls : List (List Int)} {ts : List Stp} {T : Int → Prop}

end

/-- a fixed point without a conflict is such a state -/
theorem fixed_clo {x : Int} {ls : List (List Int)} {ts : List Stp} {r : Option Nat × PS} (h : Fixed x ls ts r) (hn : r.1 = none) : SClo ls (fun y => hasB (slitsOf r.2.ts) y = true) := by
  have key : ∀ i, i < ls.length → ∀ y, (∀ z ∈ ell ls i, z ≠ y → hasB (slitsOf r.2.ts) (-z) = true) → y ∈ ell ls i ∧ hasB (slitsOf r.2.ts) y = true := by
    intro i hi y ho
    rcases h.fixed hn i hi with hg | ⟨a, b, h1, h2, h3, h4, h5⟩
    · obtain ⟨u, hu, hh⟩ := List.any_eq_true.1 hg
      by_cases e : u = y
      · rw [← e]; exact ⟨hu, hh⟩
      · have h1 := ho u hu e
        have h2 := trail_apart h.tr hh
        rw [h1] at h2; cases h2
    · by_cases ea : a = y
      · have eb : b ≠ y := fun e => h3 (ea.trans e.symm)
        rw [ho b h2 eb] at h5; cases h5
      · rw [ho a h1 ea] at h4; cases h4
  refine ⟨fun i hi y hy ho => (key i hi y ho).2, fun i hi ho => ?_⟩
  rcases h.fixed hn i hi with hg | ⟨a, b, h1, h2, h3, h4, h5⟩
  · obtain ⟨u, hu, hh⟩ := List.any_eq_true.1 hg
    have h2 := trail_apart h.tr hh
    rw [ho u hu] at h2; cases h2
  · rw [ho a h1] at h4; cases h4

/-- a decision -/
theorem trail_decide {x : Int} {ls : List (List Int)} {ts : List Stp} (h : trailB x ls ts = true) {y : Int} (hb : isB y x = true) (h1 : hasB (slitsOf ts) y = false) (h2 : hasB (slitsOf ts) (-y) = false) : trailB x ls (ts ++ [⟨y, -1⟩]) = true := by
  unfold trailB
  rw [List.length_append]
  have hl : ([(⟨y, -1⟩ : Stp)] : List Stp).length = 1 := rfl
  rw [hl, trailTo_succ, Bool.and_eq_true]
  constructor
  · unfold trailB trailTo at h
    unfold trailTo
    rw [List.all_eq_true] at h ⊢
    intro j hj
    have hj' := List.mem_range.1 hj
    rw [List.take_append_of_le_length (by omega), stp_left hj']
    exact h j hj
  · have e1 : (ts ++ [(⟨y, -1⟩ : Stp)]).take ts.length = ts := by simp
    have e2 : stp (ts ++ [(⟨y, -1⟩ : Stp)]) ts.length = ⟨y, -1⟩ := by
      rw [stp_lt (by simp)]; simp
    rw [e1, e2]
    unfold stepOk
    simp [hb, h1, h2]
    omega

section

variable {x : Int} {ls : List (List Int)} {ts : List Stp} {l : List Int}

/-- the negations, decided in turn -/
def negT (m : List Int) : List Stp := m.map fun y => ⟨-y, -1⟩

theorem negT_snoc (m : List Int) (y : Int) : negT (m ++ [y]) = negT m ++ [⟨-y, -1⟩] := by simp [negT]

theorem litsOf_negT (m : List Int) (y : Int) : hasB (slitsOf (negT m)) y = true ↔ -y ∈ m := by
  rw [hasB_iff]
  unfold slitsOf negT
  simp only [List.mem_map, List.map_map]
  constructor
  · rintro ⟨z, hz, e⟩
    have e' : -z = y := e
    rw [show -y = z by omega]; exact hz
  · intro h
    exact ⟨-y, h, by simp⟩

theorem negT_trail (hb : ∀ y ∈ l, isB y x = true) : l.Nodup → (∀ y ∈ l, ¬ -y ∈ l) → trailB x ls (negT l) = true := by
  revert hb
  refine snoc_ind (P := fun l => (∀ y ∈ l, isB y x = true) → l.Nodup → (∀ y ∈ l, ¬ -y ∈ l) → trailB x ls (negT l) = true) (fun _ _ _ => rfl) (fun l y ih hb hn hc => ?_) l
  rw [negT_snoc]
  rw [List.nodup_append] at hn
  refine trail_decide (ih (fun z hz => hb z (by simp [hz])) hn.1 (fun z hz h => hc z (by simp [hz]) (by simp [h]))) ?_ ?_ ?_
  · have := isB_iff.1 (hb y (by simp))
    rw [isB_iff]; omega
  · cases h : hasB (slitsOf (negT l)) (-y) with
    | false => rfl
    | true =>
      rw [litsOf_negT, Int.neg_neg] at h
      exact absurd rfl (hn.2.2 y h y (by simp))
  · cases h : hasB (slitsOf (negT l)) (- -y) with
    | false => rfl
    | true =>
      rw [litsOf_negT, Int.neg_neg] at h
      exact absurd (show -y ∈ l ++ [y] by simp [h]) (hc y (by simp))
end

end Go.Proofs.Ytalcnkoidmoibaa
