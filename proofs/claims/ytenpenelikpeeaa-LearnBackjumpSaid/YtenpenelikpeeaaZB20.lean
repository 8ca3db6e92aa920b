/-
  Unit propagation with watches in plain words: the passes, and the fixed point. No program in sight. No condition.
  What Prop answers, in plain words. No program in sight. No condition.
  The engine of unit propagation: its state in memory; a visit. Under way.
  The engine of unit propagation: a watch laid, as it shows in memory. No condition.
  The engine of unit propagation: a visit that finds two literals. No condition.
-/
import Derived.Test.YtenpenelikpeeaaZB19
import Derived.Deep.RegionLaw
import Derived.IntWalk

namespace Go.Proofs.Ytenpenelikpeeaa
set_option linter.unusedVariables false
set_option linter.unusedSimpArgs false

/-- clauses visited in turn, up to a conflict -/
def passT (ls : List (List Int)) : List Nat → PS → Option Nat × PS
  | [], s => (none, s)
  | i :: r, s => if (visT ls i s).1 = true then passT ls r (visT ls i s).2 else (some i, s)
/-- the queue worked off -/
def drainT (ls : List (List Int)) : Nat → Nat → PS → Option Nat × PS
  | 0, _, s => (none, s)
  | f + 1, hd, s =>
    if hd < s.ts.length then
      if (passT ls ((s.wt (stp s.ts hd).lit).map Int.toNat) ⟨s.ts, setW s.wt (stp s.ts hd).lit []⟩).1 = none then drainT ls f (hd + 1) (passT ls ((s.wt (stp s.ts hd).lit).map Int.toNat) ⟨s.ts, setW s.wt (stp s.ts hd).lit []⟩).2
      else passT ls ((s.wt (stp s.ts hd).lit).map Int.toNat) ⟨s.ts, setW s.wt (stp s.ts hd).lit []⟩
    else (none, s)

/-- every watch is a clause -/
def WV (ls : List (List Int)) (wt : Int → List Int) : Prop := ∀ k, ∀ j ∈ wt k, 0 ≤ j ∧ j < (ls.length : Int)
theorem WV.set {ls : List (List Int)} {wt : Int → List Int} (h : WV ls wt) (k : Int) : WV ls (setW wt k []) := fun y j hj => by
  unfold setW at hj
  by_cases e : y = k
  · rw [if_pos e] at hj; cases hj
  · rw [if_neg e] at hj; exact h y j hj
theorem WV.add {ls : List (List Int)} {wt : Int → List Int} (h : WV ls wt) {k : Int} {i : Nat} (hi : i < ls.length) : WV ls (addW wt k i) := fun y j hj => by
  unfold addW setW at hj
  by_cases e : y = k
  · rw [if_pos e, List.mem_append, List.mem_singleton] at hj
    rcases hj with hj | hj
    · exact h k j hj
    · omega
  · rw [if_neg e] at hj; exact h y j hj
theorem vis_wv {ls : List (List Int)} {i : Nat} {s : PS} (h : WV ls s.wt) (hi : i < ls.length) : WV ls (visT ls i s).2.wt := by
  unfold visT
  split
  · exact h
  · split
    · exact h
    · exact h
    · exact (h.add hi).add hi

/-- what a pass leaves -/
structure Passed (x : Int) (ls : List (List Int)) (l : List Nat) (s s' : PS) : Prop where
  tr : trailB x ls s'.ts = true
  more : ∃ more, s'.ts = s.ts ++ more
  wt : ∀ k j, j ∈ s.wt k → j ∈ s'.wt k
  wv : WV ls s'.wt
theorem litsOf_sub {a b : List Stp} (h : ∃ more, b = a ++ more) : ∀ y ∈ litsOf a, y ∈ litsOf b := by
  obtain ⟨m, rfl⟩ := h
  intro y hy
  rw [litsOf_app]; simp [hy]
theorem pass_any {x : Int} {ls : List (List Int)} (hc : checkE x ls = 0) : ∀ (l : List Nat) (s : PS), (∀ i ∈ l, i < ls.length) → trailB x ls s.ts = true → WV ls s.wt →
    Passed x ls l s (passT ls l s).2 ∧
    ((passT ls l s).1 = none → ∀ i ∈ l, ∀ P : Int → Prop, (∀ y, P y → y ∈ litsOf s.ts) → Good (litsOf (passT ls l s).2.ts) (passT ls l s).2.wt P (ell ls i) i) ∧
    (∀ i, (passT ls l s).1 = some i → i ∈ l ∧ ∀ y ∈ ell ls i, hasB (litsOf (passT ls l s).2.ts) (-y) = true)
  | [], s, _, ht, hw => ⟨⟨ht, ⟨[], by simp [passT]⟩, fun _ _ h => h, hw⟩, fun _ i hi => (by cases hi), fun i hi => by simp [passT] at hi⟩
  | i :: r, s, hl, ht, hw => by
    have hi := hl i (by simp)
    rw [passT]
    cases hv : (visT ls i s).1 with
    | true =>
      have hv2 : visT ls i s = (true, (visT ls i s).2) := by rw [← hv]
      obtain ⟨t1, t2, t3, t4⟩ := vis_true hc hi ht hv2
      have hw2 := vis_wv hw hi
      generalize (visT ls i s).2 = s1 at *
      simp only [if_true]
      obtain ⟨p, q, c⟩ := pass_any hc r s1 (fun j hj => hl j (by simp [hj])) t1 hw2
      refine ⟨⟨p.tr, ?_, fun k j hj => p.wt k j (t3 k j hj), p.wv⟩, fun hnone j hj P hP => ?_, fun j hj => ⟨by simp [(c j hj).1], (c j hj).2⟩⟩
      · obtain ⟨a, ha⟩ := t2
        obtain ⟨b, hb⟩ := p.more
        exact ⟨a ++ b, by rw [hb, ha, List.append_assoc]⟩
      · rcases List.mem_cons.1 hj with e | e
        · subst e
          exact (t4 P hP).grow (litsOf_sub p.more) p.wt
        · exact q hnone j e P (fun y hy => litsOf_sub t2 y (hP y hy))
    | false =>
      have hv2 : visT ls i s = (false, (visT ls i s).2) := by rw [← hv]
      obtain ⟨_, hf⟩ := vis_false hv2
      simp only [Bool.false_eq_true, if_false]
      refine ⟨⟨ht, ⟨[], by simp⟩, fun _ _ h => h, hw⟩, fun h => by simp at h, fun j hj => ?_⟩
      simp only [Option.some.injEq] at hj
      subst hj
      exact ⟨by simp, hf⟩

/-- behind the head -/
def Beh (ts : List Stp) (hd : Nat) (y : Int) : Prop := y ∈ litsOf (ts.take hd)
theorem Beh.sub {ts : List Stp} {hd : Nat} : ∀ y, Beh ts hd y → y ∈ litsOf ts := fun y hy => by
  unfold Beh litsOf at hy
  unfold litsOf
  obtain ⟨s, hs, e⟩ := List.mem_map.1 hy
  exact List.mem_map.2 ⟨s, List.mem_of_mem_take hs, e⟩
theorem Beh.more {ts : List Stp} {hd : Nat} (h : hd ≤ ts.length) (m : List Stp) (y : Int) : Beh (ts ++ m) hd y ↔ Beh ts hd y := by
  unfold Beh; rw [List.take_append_of_le_length h]
theorem Beh.succ {ts : List Stp} {hd : Nat} (h : hd < ts.length) (y : Int) : Beh ts (hd + 1) y ↔ Beh ts hd y ∨ y = (stp ts hd).lit := by
  unfold Beh; rw [takes_snoc ts hd h, litsOf_app]; simp [litsOf]
theorem Good.behind {S : List Int} {wt : Int → List Int} {P Q : Int → Prop} {l : List Int} {i : Nat} (h : Good S wt P l i) (hq : ∀ y, Q y → P y) : Good S wt Q l i := by
  rcases h with h | ⟨x, y, h1, h2, h3, h4, h5, h6, h7⟩
  · exact Or.inl h
  · exact Or.inr ⟨x, y, h1, h2, h3, h4, h5, fun h => h6 (hq _ h), fun h => h7 (hq _ h)⟩

/-- the trail, its state, and what is good of it -/
structure Inv (x : Int) (ls : List (List Int)) (hd : Nat) (s : PS) : Prop where
  tr : trailB x ls s.ts = true
  wv : WV ls s.wt
  le : hd ≤ s.ts.length
  good : ∀ i, i < ls.length → Good (litsOf s.ts) s.wt (Beh s.ts hd) (ell ls i) i

theorem inv_step {x : Int} {ls : List (List Int)} (hc : checkE x ls = 0) {hd : Nat} {s s' : PS} (h : Inv x ls hd s) (hlt : hd < s.ts.length)
    (hp : passT ls ((s.wt (stp s.ts hd).lit).map Int.toNat) ⟨s.ts, setW s.wt (stp s.ts hd).lit []⟩ = (none, s')) : Inv x ls (hd + 1) s' ∧ ∃ more, s'.ts = s.ts ++ more := by
  obtain ⟨lit, hlit⟩ : ∃ lit, (stp s.ts hd).lit = lit := ⟨_, rfl⟩
  have hbs := Beh.succ hlt
  rw [hlit] at hp hbs
  have hl : ∀ i ∈ (s.wt lit).map Int.toNat, i < ls.length := fun i hi => by
    obtain ⟨j, hj, e⟩ := List.mem_map.1 hi
    have := h.wv lit j hj
    omega
  obtain ⟨p, q, _⟩ := pass_any hc ((s.wt lit).map Int.toNat) ⟨s.ts, setW s.wt lit []⟩ hl h.tr (h.wv.set lit)
  rw [hp] at p q
  have hm := p.more
  refine ⟨⟨p.tr, p.wv, ?_, fun i hi => ?_⟩, hm⟩
  · obtain ⟨m, e⟩ := hm
    have e' : s'.ts = s.ts ++ m := e
    show hd + 1 ≤ s'.ts.length
    rw [e', List.length_append]; omega
  · have hbeh : ∀ y, Beh s'.ts (hd + 1) y → Beh s.ts (hd + 1) y := fun y hy => by
      obtain ⟨m, e⟩ := hm
      have e' : s'.ts = s.ts ++ m := e
      rw [e', Beh.more (by omega)] at hy; exact hy
    refine Good.behind ?_ hbeh
    by_cases hin : i ∈ (s.wt lit).map Int.toNat
    · exact q rfl i hin _ Beh.sub
    · have hni : ¬ (i : Int) ∈ s.wt lit := fun hx => hin (List.mem_map.2 ⟨_, hx, by simp⟩)
      have h0 : Good (litsOf s.ts) (setW s.wt lit []) (Beh s.ts (hd + 1)) (ell ls i) i := by
        rcases h.good i hi with hg | ⟨a, b, h1, h2, h3, h4, h5, h6, h7⟩
        · exact Or.inl hg
        · have ea : -a ≠ lit := fun e => hni (e ▸ h4)
          have eb : -b ≠ lit := fun e => hni (e ▸ h5)
          refine Or.inr ⟨a, b, h1, h2, h3, ?_, ?_, fun hx => ?_, fun hx => ?_⟩
          · unfold setW; rw [if_neg ea]; exact h4
          · unfold setW; rw [if_neg eb]; exact h5
          · rcases (hbs _).1 hx with hx | hx
            · exact h6 hx
            · exact ea hx
          · rcases (hbs _).1 hx with hx | hx
            · exact h7 hx
            · exact eb hx
      exact h0.grow (litsOf_sub hm) p.wt

/-- what the propagation leaves -/
structure Fixed (x : Int) (ls : List (List Int)) (ts : List Stp) (r : Option Nat × PS) : Prop where
  tr : trailB x ls r.2.ts = true
  more : ∃ more, r.2.ts = ts ++ more
  clash : ∀ i, r.1 = some i → i < ls.length ∧ ∀ y ∈ ell ls i, hasB (litsOf r.2.ts) (-y) = true
  fixed : r.1 = none → ∀ i, i < ls.length → (ell ls i).any (hasB (litsOf r.2.ts)) = true ∨ ∃ a b, a ∈ ell ls i ∧ b ∈ ell ls i ∧ a ≠ b ∧ hasB (litsOf r.2.ts) (-a) = false ∧ hasB (litsOf r.2.ts) (-b) = false
theorem Inv.done {x : Int} {ls : List (List Int)} {s : PS} (h : Inv x ls s.ts.length s) : Fixed x ls s.ts (none, s) :=
  ⟨h.tr, ⟨[], by simp⟩, fun i hi => by simp at hi, fun _ i hi => by
    rcases h.good i hi with hg | ⟨a, b, h1, h2, h3, _, _, h6, h7⟩
    · exact Or.inl hg
    · refine Or.inr ⟨a, b, h1, h2, h3, ?_, ?_⟩
      · rw [hasB_false]; intro hx; apply h6; unfold Beh; rw [List.take_length]; exact hx
      · rw [hasB_false]; intro hx; apply h7; unfold Beh; rw [List.take_length]; exact hx⟩

theorem drain_any {x : Int} {ls : List (List Int)} (hc : checkE x ls = 0) (N : Nat) (hN : ∀ ts, trailB x ls ts = true → ts.length ≤ N) : ∀ (f hd : Nat) (s : PS), Inv x ls hd s → N < f + hd → Fixed x ls s.ts (drainT ls f hd s)
  | 0, hd, s, h, hf => by
    have h1 := hN _ h.tr
    have h2 := h.le
    omega
  | f + 1, hd, s, h, hf => by
    rw [drainT]
    split
    · rename_i hlt
      cases hp : passT ls ((s.wt (stp s.ts hd).lit).map Int.toNat) ⟨s.ts, setW s.wt (stp s.ts hd).lit []⟩ with
      | mk r s' =>
        cases r with
        | none =>
          simp only [if_true]
          obtain ⟨hI, m, hm⟩ := inv_step hc h hlt hp
          have ih := drain_any hc N hN f (hd + 1) s' hI (by omega)
          obtain ⟨m2, hm2⟩ := ih.more
          exact ⟨ih.tr, ⟨m ++ m2, by rw [hm2, hm, List.append_assoc]⟩, ih.clash, ih.fixed⟩
        | some i =>
          simp only [reduceCtorEq, if_false]
          have hl : ∀ i ∈ (s.wt (stp s.ts hd).lit).map Int.toNat, i < ls.length := fun i hi => by
            obtain ⟨j, hj, e⟩ := List.mem_map.1 hi
            have := h.wv _ j hj
            omega
          obtain ⟨p, _, c⟩ := pass_any hc _ ⟨s.ts, setW s.wt (stp s.ts hd).lit []⟩ hl h.tr (h.wv.set _)
          rw [hp] at p c
          exact ⟨p.tr, p.more, fun j hj => ⟨hl j (c j hj).1, (c j hj).2⟩, fun hx => by simp at hx⟩
    · rename_i hge
      have : hd = s.ts.length := by have := h.le; omega
      subst this
      exact h.done

end Go.Proofs.Ytenpenelikpeeaa

namespace Go.Proofs.Ytenpenelikpeeaa
set_option linter.unusedVariables false
set_option linter.unusedSimpArgs false

theorem trail_len {x : Int} {ls : List (List Int)} {ts : List Stp} (hx : 0 ≤ x) (h : trailB x ls ts = true) : ts.length ≤ x.toNat := by
  have T := trail_tr h
  have h1 : ∀ k, k < ts.length → 1 ≤ absI (stp ts k).lit ∧ absI (stp ts k).lit ≤ x := fun k hk => by
    have := isB_iff.1 (T.lit k hk)
    unfold absI; split <;> omega
  have hn : ((List.range ts.length).map fun k => absI (stp ts k).lit).Nodup := by
    refine List.pairwise_map.2 ?_
    refine (List.pairwise_lt_range (n := ts.length)).imp_of_mem ?_
    intro a b ha hb hab e
    have := T.apart a b hab (List.mem_range.1 hb)
    rcases absI_eq e with e1 | e1
    · exact this.1 e1
    · exact this.2 e1
  have := nodup_len _ ((List.range x.toNat).map fun k : Nat => ((k : Int) + 1)) hn (fun y hy => by
    obtain ⟨k, hk, rfl⟩ := List.mem_map.1 hy
    have h2 := h1 k (List.mem_range.1 hk)
    exact List.mem_map.2 ⟨(absI (stp ts k).lit - 1).toNat, List.mem_range.2 (by omega), by omega⟩)
  simpa using this

def propT (x : Int) (ls : List (List Int)) (ts : List Stp) : Option Nat × PS :=
  if (passT ls (List.range ls.length) ⟨ts, fun _ => []⟩).1 = none then drainT ls (x.toNat + 1) ts.length (passT ls (List.range ls.length) ⟨ts, fun _ => []⟩).2
  else passT ls (List.range ls.length) ⟨ts, fun _ => []⟩
theorem prop_fixed {x : Int} {ls : List (List Int)} {ts : List Stp} (h : propE x ls ts = 0) : Fixed x ls ts (propT x ls ts) := by
  obtain ⟨hc, ht⟩ := propE_zero h
  have hx := (checkE_n hc).1
  obtain ⟨p, q, c⟩ := pass_any hc (List.range ls.length) ⟨ts, fun _ => []⟩ (fun i hi => List.mem_range.1 hi) ht (fun k j hj => by cases hj)
  unfold propT
  cases hp : passT ls (List.range ls.length) ⟨ts, fun _ => []⟩ with
  | mk r s' =>
    rw [hp] at p q c
    obtain ⟨m, hm⟩ := p.more
    have hm' : s'.ts = ts ++ m := hm
    cases r with
    | none =>
      simp only [if_true]
      have hI : Inv x ls ts.length s' := ⟨p.tr, p.wv, by rw [hm', List.length_append]; omega, fun i hi => by
        have := q rfl i (List.mem_range.2 hi) (Beh ts ts.length) Beh.sub
        refine this.behind fun y hy => ?_
        rw [hm', Beh.more (Nat.le_refl _)] at hy
        exact hy⟩
      have ih := drain_any hc x.toNat (fun ts ht => trail_len hx ht) (x.toNat + 1) ts.length s' hI (by omega)
      obtain ⟨m2, hm2⟩ := ih.more
      exact ⟨ih.tr, ⟨m ++ m2, by rw [hm2, hm', List.append_assoc]⟩, ih.clash, ih.fixed⟩
    | some i =>
      simp only [reduceCtorEq, if_false]
      exact ⟨p.tr, p.more, fun j hj => ⟨List.mem_range.1 (c j hj).1, (c j hj).2⟩, fun hx => by simp at hx⟩

/-- a clause whose other literals are false: its last one becomes true, or there is a conflict -/
theorem fixed_unit {x : Int} {ls : List (List Int)} {ts : List Stp} {r : Option Nat × PS} (h : Fixed x ls ts r) (hn : r.1 = none) {l : List Int} (hl : l ∈ ls) {y : Int} (ho : ∀ z ∈ l, z ≠ y → hasB (litsOf ts) (-z) = true) : l.any (hasB (litsOf r.2.ts)) = true := by
  obtain ⟨i, hi, e⟩ := List.mem_iff_getElem.1 hl
  have he : ell ls i = l := by rw [ell_lt hi]; exact e
  rcases h.fixed hn i hi with hg | ⟨a, b, h1, h2, h3, h4, h5⟩
  · rw [he] at hg; exact hg
  · rw [he] at h1 h2
    have big : ∀ z, hasB (litsOf ts) z = true → hasB (litsOf r.2.ts) z = true := fun z hz => hasB_iff.2 (litsOf_sub h.more z (hasB_iff.1 hz))
    by_cases ea : a = y
    · have eb : b ≠ y := fun e => h3 (ea.trans e.symm)
      rw [big _ (ho b h2 eb)] at h5; cases h5
    · rw [big _ (ho a h1 ea)] at h4; cases h4
theorem trail_apart {x : Int} {ls : List (List Int)} {ts : List Stp} (h : trailB x ls ts = true) {y : Int} (h1 : hasB (litsOf ts) y = true) : hasB (litsOf ts) (-y) = false := by
  have T := trail_tr h
  rw [hasB_false]
  intro h2
  have full : litsOf ts = litsOf (ts.take ts.length) := by rw [List.take_length]
  rw [full, mem_litsTake (Nat.le_refl _)] at h2
  have h1' := hasB_iff.1 h1
  rw [full, mem_litsTake (Nat.le_refl _)] at h1'
  obtain ⟨a, ha, e1⟩ := h1'
  obtain ⟨b, hb, e2⟩ := h2
  have h0 := (isB_iff.1 (T.lit a ha)).1
  rcases Nat.lt_trichotomy a b with h3 | h3 | h3
  · exact (T.apart a b h3 hb).2 (by rw [e1, e2]; omega)
  · subst h3; rw [e1] at e2 h0; omega
  · exact (T.apart b a h3 ha).2 (by rw [e1, e2])

end Go.Proofs.Ytenpenelikpeeaa

namespace Go.Proofs.Ytenpenelikpeeaa
open Go.RowKit Go.Shelf
set_option linter.unusedVariables false
set_option linter.unusedSimpArgs false

theorem HM.below {w w' : World} {b n : Nat} {f : Int → Option Hdr} (h : HM w b n f) (hb : Below w.heap.size w w') : HM w' b n f := by
  have hlt := h.lt
  obtain ⟨D, ⟨es, clock, h1, h3⟩, h2⟩ := h; exact ⟨D, ⟨es, clock, (hb.block b hlt).trans h1, h3⟩, h2⟩
theorem Wat.below {w w' : World} {base bw nw : Nat} {f : Int → Option Hdr} {wt : Int → List Int} (h : Wat w base bw nw f wt) (hb : Below w.heap.size w w') : Wat w' base bw nw f wt :=
  ⟨h.map.below hb, fun x hx => own_below (h.row x hx) hb, h.sep⟩

/-- the engine as it lies in memory -/
structure EngS (w W : World) (G bt bw : Nat) (A : Option Addr) (n c : Nat) (ls : List (List Int)) (nt nw : Nat) (f : Int → Option Hdr) (S : List Int) (s : PS) (O : Option Addr) (no co : Nat) (hd : Int) : Prop where
  box : BoxE W G bt A n c bw O no co hd
  cls : RL w A n c ls
  set : SetM W bt nt S
  wat : Wat W w.heap.size bw nw f s.wt
  out : W.ownsRow w.heap.size 41 2 (.slice O no co) no (flatS s.ts)
  below : Below w.heap.size w W
  loG : w.heap.size ≤ G
  lot : w.heap.size ≤ bt
  low : w.heap.size ≤ bw
  ne : bt ≠ bw
abbrev Eng (w W : World) (G bt bw : Nat) (A : Option Addr) (n c : Nat) (ls : List (List Int)) (nt nw : Nat) (f : Int → Option Hdr) (s : PS) (O : Option Addr) (no co : Nat) (hd : Int) : Prop := EngS w W G bt bw A n c ls nt nw f (litsOf s.ts) s O no co hd
section
variable {w W W' : World} {G bt bw : Nat} {A : Option Addr} {n c : Nat} {ls : List (List Int)} {nt nw : Nat} {f : Int → Option Hdr} {S S' : List Int} {s : PS} {O : Option Addr} {no co nt' : Nat} {hd : Int}
theorem EngS.grow (h : EngS w W G bt bw A n c ls nt nw f S s O no co hd) (hb : Below W.heap.size W W') : EngS w W' G bt bw A n c ls nt nw f S s O no co hd :=
  ⟨h.box.below hb, h.cls, MF.below h.set hb h.set.lt, h.wat.below hb, own_below h.out hb, h.below.trans (hb.mono h.below.size), h.loG, h.lot, h.low, h.ne⟩
theorem EngS.apart (h : EngS w W G bt bw A n c ls nt nw f S s O no co hd) : G ≠ bt ∧ G ≠ bw := by
  constructor
  · rintro rfl
    obtain ⟨D, ⟨es, clock, h1, _⟩, _⟩ := h.set
    rw [show W.heap[G]? = _ from h.box] at h1; cases h1
  · rintro rfl
    obtain ⟨es, clock, h1⟩ := h.wat.map.block
    rw [show W.heap[G]? = _ from h.box] at h1; cases h1
theorem own_ne_map {w : World} {base b size : Nat} {e : TypeId} {v : Value} {n : Nat} {xs : List Value} (h : w.ownsRow base e size v n xs) (hb : ∃ es clock, w.heap[b]? = some (.map es clock)) : v.ownBlock = none ∨ v.ownBlock ≠ some b := by
  obtain ⟨es, clock, h1⟩ := hb
  rcases h.2 with ⟨rfl, _⟩ | ⟨g, cap, cur, rfl, _, h5, _⟩
  · exact Or.inl rfl
  · right
    simp only [Value.ownBlock, ne_eq, Option.some.injEq]
    rintro rfl
    rw [h1] at h5; cases h5
theorem EngS.tmap (h : EngS w W G bt bw A n c ls nt nw f S s O no co hd) : ∃ es clock, W.heap[bt]? = some (.map es clock) := by
  obtain ⟨D, ⟨es, clock, h1, _⟩, _⟩ := h.set; exact ⟨es, clock, h1⟩
/-- the truths turned -/
theorem EngS.turn (h : EngS w W G bt bw A n c ls nt nw f S s O no co hd) (hs : SetM W' bt nt' S') (ht : W.mapTurned W' bt) : EngS w W' G bt bw A n c ls nt' nw f S' s O no co hd := by
  have hg := ht.grown
  refine ⟨(hg.block G h.box.lt (by simpa using h.apart.1)).trans h.box, h.cls, hs, h.wat.kept hg (by simpa using fun e => h.ne e.symm) (fun x g hx hgx => ?_), h.out.kept hg (own_ne_map h.out h.tmap), h.below.grown hg h.below.size (fun g hgg => ?_), h.loG, h.lot, h.low, h.ne⟩
  · have h1 := own_ne_map (h.wat.row x hx) h.tmap
    rw [hdrV_own, hgx] at h1
    rcases h1 with h1 | h1
    · cases h1
    · exact h1
  · obtain rfl : bt = g := by simpa using hgg
    exact h.lot
end

/-- the out row made longer, the engine's field written -/
theorem BoxE.set3 {w : World} {G bt : Nat} {A : Option Addr} {n c bw : Nat} {O : Option Addr} {no co : Nat} {hd : Int} (h : BoxE w G bt A n c bw O no co hd) (O' : Option Addr) (no' co' : Nat) : BoxE (w.setCell ⟨G, 3, none⟩ (.slice O' no' co')) G bt A n c bw O' no' co' hd := by
  unfold BoxE at *
  obtain ⟨hlt, hk⟩ := Array.getElem?_eq_some_iff.1 h
  show (w.heap.modify G _)[G]? = _
  rw [Array.getElem?_eq_getElem (by rw [Array.size_modify]; exact hlt), Array.getElem_modify_self, hk]
  rfl
theorem grown_setCell (w : World) (a : Addr) (v : Value) : w.grownBy (w.setCell a v) (some a.block) :=
  ⟨rfl, rfl, rfl, by show _ ≤ (w.heap.modify _ _).size; rw [Array.size_modify]; exact Nat.le_refl _, fun k hk hne => by
    have hne' : k ≠ a.block := by simpa using hne
    show (w.heap.modify a.block _)[k]? = _
    rw [Array.getElem?_modify, if_neg (fun e => hne' e.symm)]⟩
theorem own_ne_box {w : World} {base size : Nat} {e : TypeId} {v : Value} {n : Nat} {xs : List Value} (h : w.ownsRow base e size v n xs) {g : Nat} {cs : Array Value} {t : TypeId} {z : Nat × Nat} (hb : w.heap[g]? = some (.cells cs t z)) (ht : t ≠ e) : v.ownBlock = none ∨ v.ownBlock ≠ some g := by
  rcases h.2 with ⟨rfl, _⟩ | ⟨g', cap, cur, rfl, _, h5, _⟩
  · exact Or.inl rfl
  · right
    simp only [Value.ownBlock, ne_eq, Option.some.injEq]
    rintro rfl
    rw [hb] at h5
    simp only [Option.some.injEq, Obj.cells.injEq] at h5
    exact ht h5.2.1

theorem own_ne_own {w : World} {b1 b2 s1 s2 : Nat} {e1 e2 : TypeId} {v1 v2 : Value} {n1 n2 : Nat} {xs1 xs2 : List Value} (h1 : w.ownsRow b1 e1 s1 v1 n1 xs1) (h2 : w.ownsRow b2 e2 s2 v2 n2 xs2) (he : e2 ≠ e1) : v1.ownBlock = none ∨ v1.ownBlock ≠ v2.ownBlock := by
  rcases h2.2 with ⟨rfl, _⟩ | ⟨g', cap, cur, rfl, _, h5, _⟩
  · rcases h : v1.ownBlock with _ | g
    · exact Or.inl rfl
    · exact Or.inr (by simp [Value.ownBlock])
  · exact own_ne_box h1 h5 he
theorem some_ne {o : Option Nat} {g : Nat} (h : o = none ∨ o ≠ some g) : some g ≠ o := by
  rcases h with rfl | h
  · simp
  · exact fun e => h e.symm
theorem EngS.outs {w W W9 : World} {G bt bw : Nat} {A : Option Addr} {n c : Nat} {ls : List (List Int)} {nt nw : Nat} {f : Int → Option Hdr} {S : List Int} {s : PS} {O O' : Option Addr} {no co k co' : Nat} {hd : Int} {ts' : List Stp}
    (h : EngS w W G bt bw A n c ls nt nw f S s O no co hd) (hg : W.grownBy W9 (Value.slice O no co).ownBlock) (ho : W9.ownsRow w.heap.size 41 2 (.slice O' k co') k (flatS ts')) :
    EngS w (W9.setCell ⟨G, 3, none⟩ (.slice O' k co')) G bt bw A n c ls nt nw f S ⟨ts', s.wt⟩ O' k co' hd := by
  have nG := own_ne_box h.out (show W.heap[G]? = _ from h.box) (by decide)
  have hb9 : BoxE W9 G bt A n c bw O no co hd := (hg.block G h.box.lt (some_ne nG)).trans h.box
  have hgs := grown_setCell W9 ⟨G, 3, none⟩ (.slice O' k co')
  have hB9 : Below w.heap.size w W9 := h.below.grown hg h.below.size (fun g hgg => (own_lt h.out hgg).1)
  have hm9 : MF 4 edB W9 bt nt (setF S) := MF.kept h.set hg (some_ne (own_ne_map h.out h.tmap))
  have hw9 : Wat W9 w.heap.size bw nw f s.wt := h.wat.kept hg (some_ne (own_ne_map h.out h.wat.map.block)) (fun x g hx hgx => by
    have h1 := own_ne_own (h.wat.row x hx) h.out (by decide)
    rw [hdrV_own, hgx] at h1
    rcases h1 with h1 | h1
    · cases h1
    · exact h1)
  refine ⟨hb9.set3 _ _ _, h.cls, MF.kept hm9 hgs (by simpa using fun e => h.apart.1 e.symm), hw9.kept hgs (by simpa using fun e => h.apart.2 e.symm) (fun x g hx hgx => ?_), ho.kept hgs (own_ne_box ho (show W9.heap[G]? = _ from hb9) (by decide)), hB9.grown hgs hB9.size (fun g hgg => ?_), h.loG, h.lot, h.low, h.ne⟩
  · have h1 := own_ne_box (hw9.row x hx) (show W9.heap[G]? = _ from hb9) (by decide)
    rw [hdrV_own, hgx] at h1
    rcases h1 with h1 | h1
    · cases h1
    · exact h1
  · obtain rfl : G = g := by simpa using hgg
    exact h.loG

theorem vis_holds {ls : List (List Int)} {i : Nat} {s : PS} (h : (ell ls i).any (hasB (litsOf s.ts)) = true) : visT ls i s = (true, s) := by unfold visT; rw [if_pos h]
theorem vis_none {ls : List (List Int)} {i : Nat} {s : PS} (h : (ell ls i).any (hasB (litsOf s.ts)) = false) (h2 : opnT (litsOf s.ts) (ell ls i) = []) : visT ls i s = (false, s) := by unfold visT; rw [if_neg (by simp [h]), h2]
theorem vis_one {ls : List (List Int)} {i : Nat} {s : PS} {x : Int} (h : (ell ls i).any (hasB (litsOf s.ts)) = false) (h2 : opnT (litsOf s.ts) (ell ls i) = [x]) : visT ls i s = (true, ⟨s.ts ++ [⟨x, i⟩], s.wt⟩) := by unfold visT; rw [if_neg (by simp [h]), h2]
theorem vis_two {ls : List (List Int)} {i : Nat} {s : PS} {x y : Int} (h : (ell ls i).any (hasB (litsOf s.ts)) = false) (h2 : opnT (litsOf s.ts) (ell ls i) = [x, y]) : visT ls i s = (true, ⟨s.ts, addW (addW s.wt (-x) i) (-y) i⟩) := by unfold visT; rw [if_neg (by simp [h]), h2]

/-- a row of the call's own that is no key's row stays, and stays no key's row -/
def Keeps (base : Nat) (W W' : World) (f f' : Int → Option Hdr) : Prop :=
  ∀ (hh : Hdr) (zs : List Value), W.ownsRow base 3 1 (hdrV hh) hh.n zs → (∀ z g, wfI z = true → hh.g = some g → (hat f z).g ≠ some g) → W'.ownsRow base 3 1 (hdrV hh) hh.n zs ∧ ∀ z g, wfI z = true → hh.g = some g → (hat f' z).g ≠ some g
theorem Keeps.trans {base : Nat} {W W1 W2 : World} {f f1 f2 : Int → Option Hdr} (h : Keeps base W W1 f f1) (h2 : Keeps base W1 W2 f1 f2) : Keeps base W W2 f f2 := fun hh zs ho hn => by
  obtain ⟨a, b⟩ := h hh zs ho hn
  exact h2 hh zs a b
theorem Keeps.below {base : Nat} {W W' : World} {f : Int → Option Hdr} (h : Below W.heap.size W W') : Keeps base W W' f f := fun hh zs ho hn => ⟨own_below ho h, hn⟩
theorem Keeps.refl {base : Nat} {W : World} {f : Int → Option Hdr} : Keeps base W W f f := fun hh zs ho hn => ⟨ho, hn⟩
theorem Keeps.grown {base : Nat} {W W' : World} {f : Int → Option Hdr} {row : Option Nat} (hg : W.grownBy W' row) (h : ∀ (hh : Hdr) (zs : List Value), W.ownsRow base 3 1 (hdrV hh) hh.n zs → (hdrV hh).ownBlock = none ∨ (hdrV hh).ownBlock ≠ row) : Keeps base W W' f f := fun hh zs ho hn => ⟨ho.kept hg (h hh zs ho), hn⟩
/-- what a visit leaves -/
def Visd (w : World) (W : World) (f : Int → Option Hdr) (G bt bw : Nat) (A : Option Addr) (n c : Nat) (ls : List (List Int)) (nt nw : Nat) (i : Nat) (s : PS) (no : Nat) (hd : Int) (e : Ending) (W' : World) : Prop :=
  ∃ (nt' nw' : Nat) (f' : Int → Option Hdr) (O' : Option Addr) (no' co' : Nat), e = .returned (.bool (visT ls i s).1) ∧ Eng w W' G bt bw A n c ls nt' nw' f' (visT ls i s).2 O' no' co' hd ∧ nt' ≤ nt + 1 ∧ nw' ≤ nw + 2 ∧ no' ≤ no + 1 ∧ Keeps w.heap.size W W' f f'

theorem len_cases {l : List Int} (h : l.length ≤ 2) : l = [] ∨ (∃ x, l = [x]) ∨ ∃ x y, l = [x, y] := by
  match l, h with
  | [], _ => exact Or.inl rfl
  | [x], _ => exact Or.inr (Or.inl ⟨x, rfl⟩)
  | [x, y], _ => exact Or.inr (Or.inr ⟨x, y, rfl⟩)
  | x :: y :: z :: r, h => simp at h

set_option maxRecDepth 100000 in
set_option maxHeartbeats 2000000 in
theorem visit_still (w W : World) (G bt bw : Nat) (A : Option Addr) (n c : Nat) (ls : List (List Int)) (nt nw : Nat) (f : Int → Option Hdr) (s : PS) (O : Option Addr) (no co : Nat) (hd : Int) (i : Nat)
    (h : Eng w W G bt bw A n c ls nt nw f s O no co hd) (hi : i < n) (hok : Okl (ell ls i)) (hs : (ell ls i).any (hasB (litsOf s.ts)) = true ∨ opnT (litsOf s.ts) (ell ls i) = []) :
    Calls Try.prog 64 #[.pointer (some ⟨G, 0, none⟩), .int .i64 i] W (Visd w W f G bt bw A n c ls nt nw i s no hd) := by
  have E := Lib.hid h
  have hcall := look_any G bt A n c bw O no co hd ls nt (litsOf s.ts) i W h.box (h.cls.below h.below) h.set hi hok
  clear h
  cases ha : (ell ls i).any (hasB (litsOf s.ts)) with
  | true =>
    have HV := Lib.hid (vis_holds ha)
    have HA := Lib.hid ha
    clear hs ha
    go_enter Try.func64, Try.ntmps64
    go_wp2_with (go_at_call 81; refine hcall.mono ?_; clear hcall; rintro e W1 ⟨A1, n1, c1, rfl, _, hb1⟩; rw [HA.out]; have HB := Lib.hid hb1; clear hb1)
    go_ret
    exact ⟨nt, nw, f, O, no, co, by rw [HV.out]; rfl, by rw [HV.out]; exact E.out.grow HB.out, by omega, by omega, by omega, .below HB.out⟩
  | false =>
    have h2 : opnT (litsOf s.ts) (ell ls i) = [] := by
      rcases hs with h | h
      · rw [ha] at h; cases h
      · exact h
    have HV := Lib.hid (vis_none ha h2)
    have HA := Lib.hid ha
    have H2 := Lib.hid h2
    clear hs ha h2
    go_enter Try.func64, Try.ntmps64
    go_wp2_with (go_at_call 81; refine hcall.mono ?_; clear hcall; rintro e W1 ⟨A1, n1, c1, rfl, hro, hb1⟩; rw [HA.out]; obtain ⟨hl, _⟩ := hro HA.out; rw [H2.out] at hl; obtain rfl : n1 = 0 := hl.symm; have HB := Lib.hid hb1; clear hb1 hro)
    go_ret
    exact ⟨nt, nw, f, O, no, co, by rw [HV.out]; rfl, by rw [HV.out]; exact E.out.grow HB.out, by omega, by omega, by omega, .below HB.out⟩

end Go.Proofs.Ytenpenelikpeeaa

namespace Go.Proofs.Ytenpenelikpeeaa
open Go.RowKit Go.Shelf
set_option linter.unusedVariables false
set_option linter.unusedSimpArgs false

theorem EngS.watched {w W W9 : World} {G bt bw : Nat} {A : Option Addr} {n c : Nat} {ls : List (List Int)} {nt nw : Nat} {f : Int → Option Hdr} {S : List Int} {s : PS} {O : Option Addr} {no co : Nat} {hd : Int}
    (h : EngS w W G bt bw A n c ls nt nw f S s O no co hd) {k : Int} (hk : wfI k = true) (hn : nw < maxLen) (i : Int) {g' m cap' : Nat} (hg : W.grownBy W9 (hdrV (hat f k)).ownBlock)
    (ho : W9.ownsRow w.heap.size 3 1 (.slice (some ⟨g', 0, none⟩) m cap') m ((s.wt k ++ [i]).map (Value.int .i64))) (hnew : (hat f k).g = some g' ∨ W.heap.size ≤ g') :
    ∃ W', (Instr.mapUpdate 87 (.map (some bw)) (.int .i64 k) (.slice (some ⟨g', 0, none⟩) m cap')).run Try.prog W9 = .ok () W' ∧ EngS w W' G bt bw A n c ls nt (nw + 1) (putF f k ⟨some g', m, cap'⟩) S ⟨s.ts, addW s.wt k i⟩ O no co hd ∧ W9.mapTurned W' bw := by
  have hr := h.wat.row k hk
  have hb9 : BoxE W9 G bt A n c bw O no co hd := (hg.block G h.box.lt (some_ne (own_ne_box hr (show W.heap[G]? = _ from h.box) (by decide)))).trans h.box
  have hm9 : MF 4 edB W9 bt nt (setF S) := MF.kept h.set hg (some_ne (own_ne_map hr h.tmap))
  have hM9 : HM W9 bw nw f := h.wat.map.kept hg (some_ne (own_ne_map hr h.wat.map.block))
  have hB9 : Below w.heap.size w W9 := h.below.grown hg h.below.size (fun g hgg => (own_lt hr hgg).1)
  have hO9 : W9.ownsRow w.heap.size 41 2 (.slice O no co) no (flatS s.ts) := h.out.kept hg (own_ne_own h.out hr (by decide))
  have hrow9 : ∀ y, y ≠ k → wfI y = true → W9.ownsRow w.heap.size 3 1 (hdrV (hat f y)) (hat f y).n ((s.wt y).map (Value.int .i64)) := fun y hy hwy => by
    refine (h.wat.row y hwy).kept hg ?_
    rw [hdrV_own, hdrV_own]
    cases hgy : (hat f y).g with
    | none => exact Or.inl rfl
    | some g => exact Or.inr (fun e => h.wat.sep y k g hy hwy hk hgy e.symm)
  obtain ⟨W', h1, h2, h3⟩ := Wat.put Try.underlying87 hM9 hrow9 h.wat.sep hn hk ⟨some g', m, cap'⟩ (s.wt k ++ [i]) ho (fun y g hy hwy hgy e => by
    have e' : g' = g := by simpa using e
    subst e'
    rcases hnew with h4 | h4
    · exact h.wat.sep y k g' hy hwy hk hgy h4
    · have := (own_lt (h.wat.row y hwy) (g := g') (by rw [hdrV_own]; exact hgy)).2
      omega)
  have ht := h3.grown
  have hmap9 : ∃ es clock, W9.heap[bw]? = some (.map es clock) := hM9.block
  refine ⟨W', h1, ⟨(ht.block G hb9.lt (by simpa using h.apart.2)).trans hb9, h.cls, MF.kept hm9 ht (by simpa using h.ne), h2, hO9.kept ht (own_ne_map hO9 hmap9), hB9.grown ht hB9.size (fun g hgg => ?_), h.loG, h.lot, h.low, h.ne⟩, h3⟩
  obtain rfl : bw = g := by simpa using hgg
  exact h.low

end Go.Proofs.Ytenpenelikpeeaa

namespace Go.Proofs.Ytenpenelikpeeaa
open Go.RowKit Go.Shelf
set_option linter.unusedVariables false
set_option linter.unusedSimpArgs false

def watL (wt : Int → List Int) (i : Int) (l : List Int) : Int → List Int := l.foldl (fun wt y => addW wt (-y) i) wt
theorem EngS.box9 {w W W9 : World} {G bt bw : Nat} {A : Option Addr} {n c : Nat} {ls : List (List Int)} {nt nw : Nat} {f : Int → Option Hdr} {S : List Int} {s : PS} {O : Option Addr} {no co : Nat} {hd : Int}
    (h : EngS w W G bt bw A n c ls nt nw f S s O no co hd) {k : Int} (hk : wfI k = true) (hg : W.grownBy W9 (hdrV (hat f k)).ownBlock) : BoxE W9 G bt A n c bw O no co hd :=
  (hg.block G h.box.lt (some_ne (own_ne_box (h.wat.row k hk) (show W.heap[G]? = _ from h.box) (by decide)))).trans h.box
theorem EngS.map9 {w W W9 : World} {G bt bw : Nat} {A : Option Addr} {n c : Nat} {ls : List (List Int)} {nt nw : Nat} {f : Int → Option Hdr} {S : List Int} {s : PS} {O : Option Addr} {no co : Nat} {hd : Int}
    (h : EngS w W G bt bw A n c ls nt nw f S s O no co hd) {k : Int} (hk : wfI k = true) (hg : W.grownBy W9 (hdrV (hat f k)).ownBlock) : ∃ es clock, W9.heap[bw]? = some (.map es clock) :=
  (h.wat.map.kept hg (some_ne (own_ne_map (h.wat.row k hk) h.wat.map.block))).block
theorem Keeps.watched {base : Nat} {W W9 W' : World} {f : Int → Option Hdr} {k : Int} {hh : Hdr} {g' m cap' N bw : Nat} (hH : hat f k = hh) (hk : wfI k = true) (hg : W.grownBy W9 (hdrV hh).ownBlock)
    (hs : (Value.slice (some ⟨g', 0, none⟩) m cap').ownBlock = (hdrV hh).ownBlock ∨ (Value.slice (some ⟨g', 0, none⟩) m cap').ownBlock = some N) (hN : W.heap.size ≤ N) (ht : W9.mapTurned W' bw) (hb : ∃ es clock, W9.heap[bw]? = some (.map es clock)) :
    Keeps base W W' f (putF f k ⟨some g', m, cap'⟩) := by
  intro h2 zs ho hn
  have h9 : W9.ownsRow base 3 1 (hdrV h2) h2.n zs := ho.kept hg (by
    rw [hdrV_own, hdrV_own]
    cases e : h2.g with
    | none => exact Or.inl rfl
    | some g => exact Or.inr (fun e2 => hn k g hk e (by rw [hH]; exact e2.symm)))
  refine ⟨h9.kept ht.grown (own_ne_map h9 hb), fun z g hz e e2 => ?_⟩
  rw [hat_put] at e2
  by_cases e1 : z = k
  · rw [if_pos e1] at e2
    have e3 : g' = g := by simpa using e2
    subst e3
    rcases hs with hs | hs
    · rw [hdrV_own] at hs
      exact hn k g' hk e (by rw [hH]; exact hs.symm)
    · have e4 : g' = N := by simpa [Value.ownBlock] using hs
      have := (own_lt ho (g := g') (by rw [hdrV_own]; exact e)).2
      omega
  · rw [if_neg e1] at e2
    exact hn z g hz e e2
theorem addW_len (wt : Int → List Int) (k i z : Int) : (addW wt k i z).length ≤ (wt z).length + 1 := by
  unfold addW setW; by_cases e : z = k
  · rw [if_pos e, e]; simp
  · rw [if_neg e]; omega
theorem watL_snoc (wt : Int → List Int) (i : Int) (l : List Int) (y : Int) : watL wt i (l ++ [y]) = addW (watL wt i l) (-y) i := by unfold watL; rw [List.foldl_append]; rfl

theorem watL_len (wt : Int → List Int) (i : Int) (l : List Int) (z : Int) : (watL wt i l z).length ≤ (wt z).length + l.length := by
  induction l using snoc_ind with
  | h0 => simp [watL]
  | h1 l y ih => rw [watL_snoc]; have := addW_len (watL wt i l) (-y) i z; simp; omega
theorem watk_ne {f' : Int → Option Hdr} {k : Int} {hh : Hdr} {g' m cap' N b1 o1 : Nat} (hne : ∀ z g b off, wfI z = true → (hat f' z).g = some g → some (⟨b1, o1, none⟩ : Addr) = some ⟨b, off, none⟩ → g ≠ b) (hH : hat f' k = hh) (hk : wfI k = true)
    (hs : (Value.slice (some ⟨g', 0, none⟩) m cap').ownBlock = (hdrV hh).ownBlock ∨ (Value.slice (some ⟨g', 0, none⟩) m cap').ownBlock = some N) (hN : b1 < N) :
    ∀ z g b off, wfI z = true → (hat (putF f' k ⟨some g', m, cap'⟩) z).g = some g → some (⟨b1, o1, none⟩ : Addr) = some ⟨b, off, none⟩ → g ≠ b := by
  intro z g b off hz hg e
  rw [hat_put] at hg
  by_cases e1 : z = k
  · rw [if_pos e1] at hg
    have e2 : g' = g := by simpa using hg
    subst e2
    rw [hdrV_own] at hs
    rcases hs with hs | hs
    · exact hne k g' b off hk (by rw [hH]; exact hs.symm) e
    · have e3 : g' = N := by simpa [Value.ownBlock] using hs
      simp only [Option.some.injEq, Addr.mk.injEq, and_true] at e
      omega
  · rw [if_neg e1] at hg
    exact hne z g b off hz hg e
theorem watk_row {f' : Int → Option Hdr} {k : Int} {hh : Hdr} {b1 o1 : Nat} (hne : ∀ z g b off, wfI z = true → (hat f' z).g = some g → some (⟨b1, o1, none⟩ : Addr) = some ⟨b, off, none⟩ → g ≠ b) (hH : hat f' k = hh) (hk : wfI k = true) :
    ∀ b off, some (⟨b1, o1, none⟩ : Addr) = some ⟨b, off, none⟩ → some b ≠ (hdrV hh).ownBlock := by
  intro b off e h
  rw [hdrV_own] at h
  exact hne k b b off hk (by rw [hH]; exact h.symm) e rfl
set_option maxRecDepth 100000 in
set_option maxHeartbeats 2000000 in
theorem visit_two (w W : World) (G bt bw : Nat) (A : Option Addr) (n c : Nat) (ls : List (List Int)) (nt nw : Nat) (f : Int → Option Hdr) (s : PS) (O : Option Addr) (no co : Nat) (hd : Int) (i : Nat) (l : List Int)
    (h : Eng w W G bt bw A n c ls nt nw f s O no co hd) (hi : i < n) (hok : Okl (ell ls i)) (ha : (ell ls i).any (hasB (litsOf s.ts)) = false) (h2 : opnT (litsOf s.ts) (ell ls i) = l) (hl2 : l.length = 2) (hv : visT ls i s = (true, ⟨s.ts, watL s.wt i l⟩)) (hn : nw + 2 < maxLen) (hol : Okl l) (hi0 : i ≤ 1000000) (hwl : ∀ z, (s.wt z).length ≤ 1099511627776) :
    Calls Try.prog 64 #[.pointer (some ⟨G, 0, none⟩), .int .i64 i] W (Visd w W f G bt bw A n c ls nt nw i s no hd) := by
  have E := Lib.hid h
  have hcall := look_any G bt A n c bw O no co hd ls nt (litsOf s.ts) i W h.box (h.cls.below h.below) h.set hi hok
  have HV := Lib.hid hv
  have HA := Lib.hid ha
  have H2 := Lib.hid h2
  have HL := Lib.hid hl2
  have HO := Lib.hid hol
  clear h ha h2 hok hv hl2 hol
  go_enter Try.func64, Try.ntmps64
  go_wp2_with (go_at_call 81; refine hcall.mono ?_; clear hcall; rintro e W1 ⟨A1, n1, c1, rfl, hro, hb1⟩; rw [HA.out]; obtain ⟨hl, hri, hnew⟩ := hro HA.out; rw [H2.out] at hl hri; obtain rfl : n1 = 2 := (hl.symm.trans HL.out); have E1 := Lib.hid (E.out.grow hb1); have HRI := Lib.hid hri; have HNW := Lib.hid hnew; have HB1 := Lib.hid hb1; have KP1 : Hid (Keeps w.heap.size W W1 f f) := Lib.hid (.below hb1); clear hb1 hro hri hl hnew)
  have hsz1 := HB1.out.size
  go_loopw [17] (fun s17 W2 => ∃ (k : Nat) (f' : Int → Option Hdr), k ≤ 2 ∧ s17 = .int .i64 k ∧ EngS w W2 G bt bw A n c ls nt (nw + k) f' (litsOf s.ts) ⟨s.ts, watL s.wt i (l.take k)⟩ O no co hd ∧ RI W2 A1 2 c1 l ∧ (∀ z g b off, wfI z = true → (hat f' z).g = some g → A1 = some ⟨b, off, none⟩ → g ≠ b) ∧ Keeps w.heap.size W W2 f f') (fun i _ => 2 - (intOf i).toNat)
  case atStart => exact ⟨0, f, Nat.zero_le _, rfl, E1.out, HRI.out, fun z g b off hz hgz hA e => by
    have h1 := HNW.out b off hA
    have h2 := (own_lt (E.out.wat.row z hz) (g := g) (by rw [hdrV_own]; exact hgz)).2
    omega, KP1.out⟩
  case round =>
    obtain ⟨k, f', hk, rfl, he, hri, hne, hkp⟩ := hrel
    by_cases hlt : k < 2
    · have hll : k < l.length := by rw [HL.out]; exact hlt
      obtain ⟨W6, hW6, eW⟩ : ∃ W6, (EngS w W6 G bt bw A n c ls nt (nw + k) f' (litsOf s.ts) ⟨s.ts, watL s.wt i (l.take k)⟩ O no co hd ∧ RI W6 A1 2 c1 l ∧ Keeps w.heap.size W W6 f f') ∧ W6 = _ := ⟨_, ⟨he, hri, hkp⟩, rfl⟩
      subst eW
      have KP6 := Lib.hid hW6.2.2
      have EE := Lib.hid hW6.1
      have HNE := Lib.hid hne
      obtain ⟨b1, o1, rfl, hb1l, hc1⟩ := hW6.2.1.cells (by omega)
      have hri6 := hW6.2.1
      have e1 := hc1 k hlt
      obtain ⟨z, hz⟩ : ∃ z, elt l k = z := ⟨_, rfl⟩
      rw [hz] at e1
      obtain ⟨z0, z1, z2⟩ := HO.out z (by rw [← hz]; exact elt_mem hll)
      have hkw : wfI (-z) = true := wfI_lit (by omega) (by omega)
      obtain ⟨hh, hhe⟩ : ∃ hh, hat f' (-z) = hh := ⟨_, rfl⟩
      have lk := HM.look Try.underlying87 (EE.out.grow ((Below.refl _ _).drew)).wat.map hkw
      have hrow := (EE.out.grow ((Below.refl _ _).drew)).wat.row (-z) hkw
      have lk' : (Instr.lookup 87 (.map (some bw)) (.int .i64 (-z)) false).run Try.prog W6.drew = .ok (.slice hh.A hh.n hh.c) W6.drew := by rw [← hhe]; exact lk
      have lk2 : (Instr.lookup 87 (.map (some bw)) (.int .i64 (-z)) false).run Try.prog (W6.alloc (.cells #[.int .i64 (i : Int)] 3)).drew = .ok (.slice hh.A hh.n hh.c) (W6.alloc (.cells #[.int .i64 (i : Int)] 3)).drew := by
        rw [← hhe]; exact HM.look Try.underlying87 (EE.out.grow (((Below.refl _ _).alloc (Nat.le_refl _) _).drew)).wat.map hkw
      rw [hhe] at hrow
      have HRW := Lib.hid hrow
      have HH := Lib.hid hhe
      have NX := Lib.hid (show watL s.wt i (l.take (k + 1)) = addW (watL s.wt i (l.take k)) (-z) i by rw [take_snoc l k hll, watL_snoc, hz])
      have hneg2 : IntKind.i64.wrap (-z) = -z := IntWalk.i64_in _ (by omega)
      have g2 := EE.out.box.c2
      have hG := EE.out.box.lt
      have hbw := EE.out.wat.map.lt
      clear hW6 he hri hne hkp hc1 hz lk hrow hhe
      go_upto_region 5 with fail
      have hm : hh.n ≤ 1099511627778 := by
        have h1 := HRW.out.1
        have h2 := watL_len s.wt i (l.take k) (-z)
        have h3 := hwl (-z)
        simp only [List.length_map, List.length_take] at h1 h2
        omega
      have hsb := EE.out.below.size
      have HR6 := Lib.hid hri6
      clear hri6
      go_region_law (refine step_append_ri rfl (.tmp 33) (.tmp 35) rfl w.heap.size (hdrV hh) hh.n _ rfl (HRW.out.alloc _) (some ⟨W6.heap.size, 0, none⟩) 1 1 [(i : Int)] rfl (RI.lit W6.drew [(i : Int)] 1 _ rfl rfl (by omega)) (by omega) (by simp; omega) ?_; intro v3 w3 hap; obtain ⟨ho3, hg3, hs3⟩ := hap; obtain ⟨g', cap', rfl⟩ := own_succ ho3; obtain ⟨W', hrun, hE'⟩ := EngS.watched (EE.out.grow (((Below.refl _ _).drew).alloc (Nat.le_refl _) _)) hkw (by omega) i (by rw [HH.out]; exact hg3) ho3 (by rw [HH.out]; rw [hdrV_own] at hs3; rcases hs3 with e | e; exact Or.inl (e.symm.trans rfl); exact Or.inr (by have e2 : g' = _ := Option.some.inj e; rw [e2]; exact Nat.le_refl _)); have HE := Lib.hid hE'; have q9 := (EngS.box9 (EE.out.grow (((Below.refl _ _).drew).alloc (Nat.le_refl _) _)) hkw (by rw [HH.out]; exact hg3)).c2; have HG3 := Lib.hid hg3; have HM3 := Lib.hid (EngS.map9 (EE.out.grow (((Below.refl _ _).drew).alloc (Nat.le_refl _) _)) hkw (by rw [HH.out]; exact hg3)); have HS3 := Lib.hid hs3; clear ho3 hg3 hs3 hE')
      all_goals go_wp2
      all_goals
        go_roundw
        case rel => exact ⟨k + 1, putF f' (-z) ⟨some g', hh.n + 1, cap'⟩, by omega, by go_num, by rw [NX.out]; exact HE.out.1, (((HR6.out.below (((Below.refl _ _).drew).alloc (Nat.le_refl _) _)).grown HG3.out (fun _ => watk_row HNE.out HH.out hkw)).turned HE.out.2), watk_ne HNE.out HH.out hkw HS3.out (by simp; omega), (KP6.out.trans (.below (((Below.refl _ _).drew).alloc (Nat.le_refl _) _))).trans (.watched HH.out hkw HG3.out HS3.out (by simp) HE.out.2 HM3.out)⟩
        case measure => simp [intOf]; omega
    · obtain rfl : k = 2 := by omega
      have EE := Lib.hid he
      have HT : Hid (l.take 2 = l) := Lib.hid (List.take_of_length_le (by rw [HL.out]; omega))
      have KPE := Lib.hid hkp
      clear he hri hne hkp
      go_wp2
      go_ret
      refine ⟨nt, nw + 2, f', O, no, co, by rw [HV.out]; rfl, ?_, by omega, by omega, by omega, KPE.out⟩
      rw [HV.out]
      have := EE.out
      rw [HT.out] at this
      exact this

end Go.Proofs.Ytenpenelikpeeaa
