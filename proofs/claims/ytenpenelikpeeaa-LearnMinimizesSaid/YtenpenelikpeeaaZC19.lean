/-
  Words for a map from ints to rows of ints, each row the call's own: looked up, a row made longer, a key written. No condition.
  Unit propagation with watches in plain words: one visit. No program in sight. No condition.
  Unit propagation with watches in plain words: the passes, and the fixed point. No program in sight. No condition.
  What Prop answers, in plain words. No program in sight. No condition.
-/
import Derived.Test.YtenpenelikpeeaaZC18

namespace Go.Proofs.Ytenpenelikpeeaa
open Go.RowKit Go.Shelf
set_option linter.unusedVariables false
set_option linter.unusedSimpArgs false

/-- a row of the call's own, as a slice names it -/
structure Hdr where
  g : Option Nat
  n : Nat
  c : Nat
def Hdr.A (h : Hdr) : Option Addr := h.g.map fun g => ⟨g, 0, none⟩
def hdrV (h : Hdr) : Value := .slice h.A h.n h.c
def hd0 : Hdr := ⟨none, 0, 0⟩
theorem hdrV_inj {a b : Hdr} (h : hdrV a = hdrV b) : a = b := by
  obtain ⟨g, n, c⟩ := a
  obtain ⟨g', n', c'⟩ := b
  simp only [hdrV, Hdr.A, Value.slice.injEq] at h
  obtain ⟨h1, rfl, rfl⟩ := h
  cases g <;> cases g' <;> simp at h1
  · rfl
  · subst h1; rfl
theorem hdrV_own (h : Hdr) : (hdrV h).ownBlock = h.g := by
  obtain ⟨g, n, c⟩ := h
  cases g <;> rfl
/-- how such a value reads: through no place -/
def hdrD (h : Hdr) : DataW Unit := .slice (match h.g with | none => [] | some g => [.lit (.int .i64 g)]) [.lit (.int .i64 h.n), .lit (.int .i64 h.c)]
theorem hdrD_inj {a b : Hdr} (h : hdrD a = hdrD b) : a = b := by
  obtain ⟨g, n, c⟩ := a
  obtain ⟨g', n', c'⟩ := b
  cases g <;> cases g' <;> simp [hdrD] at h
  · obtain ⟨h1, h2⟩ := h
    obtain rfl : n = n' := by omega
    obtain rfl : c = c' := by omega
    rfl
  · rename_i g g'
    obtain ⟨h0, h1, h2⟩ := h
    obtain rfl : n = n' := by omega
    obtain rfl : c = c' := by omega
    obtain rfl : g = g' := by omega
    rfl
open Classical in
noncomputable def RH (v : Value) : Option (DataW Unit × List MemPlace) := if h : ∃ x : Hdr, v = hdrV x then some (hdrD h.choose, []) else none
theorem RH_mk (x : Hdr) : RH (hdrV x) = some (hdrD x, []) := by
  have h : ∃ y : Hdr, hdrV x = hdrV y := ⟨x, rfl⟩
  unfold RH
  rw [dif_pos h, ← hdrV_inj h.choose_spec]
theorem RH_inv {v : Value} {x : Hdr} {ps : List MemPlace} (h : RH v = some (hdrD x, ps)) : v = hdrV x := by
  unfold RH at h
  split at h
  · rename_i h1
    simp only [Option.some.injEq, Prod.mk.injEq] at h
    rw [← hdrD_inj h.1]
    exact h1.choose_spec
  · cases h

/-- the block is a map that holds what f says -/
def HM (w : World) (b n : Nat) (f : Int → Option Hdr) : Prop := ∃ D : DataW Unit, w.ownsMap Try.prog 3 RH b n D ∧ Holdsf hdrD D f
theorem HM.made (w : World) : HM (w.alloc (.map #[] 0)) w.heap.size 0 emptyF :=
  ⟨_, World.ownsMap_made w _ _ _, fun x _ => rfl, fun x v _ h => by cases h⟩
theorem HM.lt {w : World} {b n : Nat} {f : Int → Option Hdr} (h : HM w b n f) : b < w.heap.size := by
  obtain ⟨D, h1, h2⟩ := h; exact h1.lt
theorem HM.kept {w w' : World} {b n : Nat} {f : Int → Option Hdr} {row : Option Nat} (h : HM w b n f) (hg : w.grownBy w' row) (hne : some b ≠ row) : HM w' b n f := by
  obtain ⟨D, h1, h2⟩ := h; exact ⟨D, h1.kept hg hne, h2⟩
theorem HM.block {w : World} {b n : Nat} {f : Int → Option Hdr} (h : HM w b n f) : ∃ es clock, w.heap[b]? = some (.map es clock) := by
  obtain ⟨D, ⟨es, clock, h1, _⟩, _⟩ := h; exact ⟨es, clock, h1⟩
theorem HM.look {t : TypeId} (ht : Try.prog.underlying t = some (.map 3 28)) {w : World} {b n : Nat} {f : Int → Option Hdr} (h : HM w b n f) {x : Int} (hx : wfI x = true) :
    (Instr.lookup t (.map (some b)) (.int .i64 x) false).run Try.prog w = .ok (hdrV ((f x).getD hd0)) w := by
  obtain ⟨D, h1, h2, h3⟩ := h
  obtain ⟨v, ps, hrun, hv⟩ := h1.lookup (Maps.int_keyed Try.underlying3) ht (z := hdrV hd0) (Try.zeroValue28 w) (RH_mk hd0) (Maps.keyOf_int_mk Try.underlying3 hx)
  rw [hrun]
  cases hf : f x with
  | none =>
    rw [Maps.atKey_of_not_has (by rw [h2 x hx, hf]; rfl)] at hv
    rw [RH_inv hv]; rfl
  | some y =>
    rw [h3 x y hx hf] at hv
    rw [RH_inv hv]; rfl
theorem HM.put {t : TypeId} (ht : Try.prog.underlying t = some (.map 3 28)) {w : World} {b n : Nat} {f : Int → Option Hdr} (h : HM w b n f) (hn : n < maxLen) {x : Int} (hx : wfI x = true) (v : Hdr) :
    ∃ w', (Instr.mapUpdate t (.map (some b)) (.int .i64 x) (hdrV v)).run Try.prog w = .ok () w' ∧ HM w' b (n + 1) (putF f x v) ∧ w.mapTurned w' b := by
  obtain ⟨D, h1, h2⟩ := h
  obtain ⟨w', hrun, ho, hg⟩ := h1.store (Maps.int_keyed Try.underlying3) ht hn (Maps.keyOf_int_mk Try.underlying3 hx) (RH_mk v)
  exact ⟨w', hrun, ⟨_, ho, h2.put h1.isMap x v⟩, hg⟩

def hat (f : Int → Option Hdr) (x : Int) : Hdr := (f x).getD hd0
theorem hat_put (f : Int → Option Hdr) (x : Int) (v : Hdr) (y : Int) : hat (putF f x v) y = if y = x then v else hat f y := by
  unfold hat putF; by_cases h : y = x <;> simp [h]
def setW (wt : Int → List Int) (x : Int) (zs : List Int) : Int → List Int := fun y => if y = x then zs else wt y

/-- the watches: under each key a row of the call's own, no two of them one -/
structure Wat (w : World) (base bw nw : Nat) (f : Int → Option Hdr) (wt : Int → List Int) : Prop where
  map : HM w bw nw f
  row : ∀ x, wfI x = true → w.ownsRow base 3 1 (hdrV (hat f x)) (hat f x).n ((wt x).map (Value.int .i64))
  sep : ∀ x y g, x ≠ y → wfI x = true → wfI y = true → (hat f x).g = some g → (hat f y).g ≠ some g
theorem Wat.ne {w : World} {base bw nw : Nat} {f : Int → Option Hdr} {wt : Int → List Int} (h : Wat w base bw nw f wt) {x : Int} (hx : wfI x = true) : (hat f x).g ≠ some bw := by
  intro e
  obtain ⟨es, clock, h1⟩ := h.map.block
  obtain ⟨_, h2⟩ := h.row x hx
  have h3 := hdrV_own (hat f x)
  rcases h2 with ⟨h4, _⟩ | ⟨g, cap, cur, h4, _, h5, _⟩
  · rw [h4, e] at h3; cases h3
  · rw [h4, e] at h3
    simp only [Value.ownBlock, Option.some.injEq] at h3
    subst h3
    rw [h1] at h5; cases h5
theorem Wat.kept {w w' : World} {base bw nw : Nat} {f : Int → Option Hdr} {wt : Int → List Int} {row : Option Nat} (h : Wat w base bw nw f wt) (hg : w.grownBy w' row) (h1 : some bw ≠ row) (h2 : ∀ x g, wfI x = true → (hat f x).g = some g → some g ≠ row) : Wat w' base bw nw f wt := by
  refine ⟨h.map.kept hg h1, fun x hx => (h.row x hx).kept hg ?_, h.sep⟩
  rw [hdrV_own]
  cases hg2 : (hat f x).g with
  | none => exact Or.inl rfl
  | some g => exact Or.inr (h2 x g hx hg2)
theorem Wat.made {w : World} {base : Nat} (hb : base ≤ w.heap.size) : Wat (w.alloc (.map #[] 0)) base w.heap.size 0 emptyF (fun _ => []) :=
  ⟨HM.made w, fun x _ => World.ownsRow_nil _ _ _ _, fun x y g _ _ _ h => by cases h⟩
/-- a key written: its row is one that no other key has -/
theorem Wat.put {t : TypeId} (ht : Try.prog.underlying t = some (.map 3 28)) {w : World} {base bw nw : Nat} {f : Int → Option Hdr} {wt : Int → List Int} {x : Int} (hm : HM w bw nw f) (hrow : ∀ y, y ≠ x → wfI y = true → w.ownsRow base 3 1 (hdrV (hat f y)) (hat f y).n ((wt y).map (Value.int .i64)))
    (hsep : ∀ x y g, x ≠ y → wfI x = true → wfI y = true → (hat f x).g = some g → (hat f y).g ≠ some g) (hn : nw < maxLen) (hx : wfI x = true) (v : Hdr) (zs : List Int) (hv : w.ownsRow base 3 1 (hdrV v) v.n (zs.map (Value.int .i64))) (hne : ∀ y g, y ≠ x → wfI y = true → (hat f y).g = some g → v.g ≠ some g) :
    ∃ w', (Instr.mapUpdate t (.map (some bw)) (.int .i64 x) (hdrV v)).run Try.prog w = .ok () w' ∧ Wat w' base bw (nw + 1) (putF f x v) (setW wt x zs) ∧ w.mapTurned w' bw := by
  obtain ⟨es, clock, hblk⟩ := hm.block
  obtain ⟨w', h1, h2, h3⟩ := hm.put ht hn hx v
  have keep : ∀ (h : Hdr) (l : List Value), w.ownsRow base 3 1 (hdrV h) h.n l → w'.ownsRow base 3 1 (hdrV h) h.n l := by
    intro h l ho
    refine ho.kept h3.grown ?_
    rcases ho.2 with ⟨h4, _⟩ | ⟨g, cap, cur, h4, _, h5, _⟩
    · left; rw [h4]; rfl
    · right
      rw [h4]
      simp only [Value.ownBlock, ne_eq, Option.some.injEq]
      intro e
      subst e
      rw [hblk] at h5; cases h5
  refine ⟨w', h1, ⟨h2, fun y hy => ?_, fun a b g hab ha hb hga => ?_⟩, h3⟩
  · rw [hat_put]
    unfold setW
    by_cases e : y = x
    · rw [if_pos e, if_pos e]; exact keep v _ hv
    · rw [if_neg e, if_neg e]; exact keep _ _ (hrow y e hy)
  · rw [hat_put] at hga ⊢
    by_cases e1 : a = x
    · rw [if_pos e1] at hga
      rw [if_neg (fun e2 => hab (e1.trans e2.symm))]
      intro h
      exact hne b g (fun e2 => hab (e1.trans e2.symm)) hb h hga
    · rw [if_neg e1] at hga
      by_cases e2 : b = x
      · rw [if_pos e2]
        exact hne a g e1 ha hga
      · rw [if_neg e2]; exact hsep a b g hab ha hb hga

end Go.Proofs.Ytenpenelikpeeaa

namespace Go.Proofs.Ytenpenelikpeeaa
set_option linter.unusedVariables false
set_option linter.unusedSimpArgs false

theorem opn_mem {S l : List Int} : ∀ y ∈ opnT S l, y ∈ l ∧ hasB S (-y) = false := by
  induction l using snoc_ind with
  | h0 => intro y hy; cases hy
  | h1 l x ih =>
    intro y hy
    rw [opnT_snoc] at hy
    unfold opnS at hy
    split at hy
    · rename_i h
      simp only [Bool.and_eq_true, Bool.not_eq_true'] at h
      rcases List.mem_append.1 hy with h1 | h1
      · exact ⟨by simp [(ih y h1).1], (ih y h1).2⟩
      · rw [List.mem_singleton.1 h1]; exact ⟨by simp, h.1⟩
    · exact ⟨by simp [(ih y hy).1], (ih y hy).2⟩
theorem opn_nodup {S l : List Int} : (opnT S l).Nodup := by
  induction l using snoc_ind with
  | h0 => exact List.nodup_nil
  | h1 l x ih =>
    rw [opnT_snoc]; unfold opnS
    split
    · rename_i h
      simp only [Bool.and_eq_true, Bool.not_eq_true'] at h
      rw [List.nodup_append]
      refine ⟨ih, by simp, fun a ha b hb e => hasB_false.1 h.2.2 ?_⟩
      rw [List.mem_singleton.1 hb] at e
      exact e ▸ ha
    · exact ih
theorem opn_short {S l : List Int} (h : (opnT S l).length < 2) : ∀ y ∈ l, hasB S (-y) = false → y ∈ opnT S l := by
  induction l using snoc_ind with
  | h0 => intro y hy; cases hy
  | h1 l x ih =>
    intro y hy hf
    rw [opnT_snoc] at h ⊢
    unfold opnS at h ⊢
    split at h
    · rename_i hc
      rw [if_pos hc]
      have h2 : (opnT S l).length < 2 := by simp at h; omega
      rcases List.mem_append.1 hy with h1 | h1
      · simp [ih h2 y h1 hf]
      · simp [List.mem_singleton.1 h1]
    · rename_i hc
      rw [if_neg hc]
      rcases List.mem_append.1 hy with h1 | h1
      · exact ih h y h1 hf
      · rw [List.mem_singleton.1 h1] at hf ⊢
        rcases Decidable.em (x ∈ opnT S l) with h2 | h2
        · exact h2
        · exact absurd (by simp [hf, h, hasB_false.2 h2]) hc

theorem checkE_isB {x : Int} {ls : List (List Int)} (h : checkE x ls = 0) {l : List Int} (hl : l ∈ ls) {y : Int} (hy : y ∈ l) : isB y x = true := by
  unfold checkE at h
  split at h
  · cases h
  · split at h
    · cases h
    · rename_i h1 h2
      have h3 : allB x ls = true := by simpa using h2
      have h4 : litsB x l = true := List.all_eq_true.1 h3 l hl
      exact List.all_eq_true.1 h4 y hy

/-- the trail and the watches -/
structure PS where
  ts : List Stp
  wt : Int → List Int
def addW (wt : Int → List Int) (k i : Int) : Int → List Int := setW wt k (wt k ++ [i])
theorem addW_old {wt : Int → List Int} {k i y j : Int} (h : j ∈ wt y) : j ∈ addW wt k i y := by
  unfold addW setW
  by_cases e : y = k
  · rw [if_pos e, ← e]; simp [h]
  · rw [if_neg e]; exact h
theorem addW_new (wt : Int → List Int) (k i : Int) : i ∈ addW wt k i k := by unfold addW setW; simp
/-- one visit: false where the clause is falsified -/
def visT (ls : List (List Int)) (i : Nat) (s : PS) : Bool × PS :=
  if (ell ls i).any (hasB (litsOf s.ts)) = true then (true, s) else
  match opnT (litsOf s.ts) (ell ls i) with
  | [] => (false, s)
  | [x] => (true, ⟨s.ts ++ [⟨x, i⟩], s.wt⟩)
  | x :: y :: _ => (true, ⟨s.ts, addW (addW s.wt (-x) i) (-y) i⟩)

/-- satisfied, or two of its literals watched whose negations lie not behind -/
def Good (S : List Int) (wt : Int → List Int) (P : Int → Prop) (l : List Int) (i : Nat) : Prop :=
  l.any (hasB S) = true ∨ ∃ x y, x ∈ l ∧ y ∈ l ∧ x ≠ y ∧ (i : Int) ∈ wt (-x) ∧ (i : Int) ∈ wt (-y) ∧ ¬ P (-x) ∧ ¬ P (-y)
theorem Good.grow {S S' : List Int} {wt wt' : Int → List Int} {P : Int → Prop} {l : List Int} {i : Nat} (h : Good S wt P l i) (hS : ∀ y ∈ S, y ∈ S') (hw : ∀ k j, j ∈ wt k → j ∈ wt' k) : Good S' wt' P l i := by
  rcases h with h | ⟨x, y, h1, h2, h3, h4, h5, h6, h7⟩
  · obtain ⟨y, hy, hh⟩ := List.any_eq_true.1 h
    exact Or.inl (List.any_eq_true.2 ⟨y, hy, hasB_iff.2 (hS y (hasB_iff.1 hh))⟩)
  · exact Or.inr ⟨x, y, h1, h2, h3, hw _ _ h4, hw _ _ h5, h6, h7⟩

theorem litsOf_app (a b : List Stp) : litsOf (a ++ b) = litsOf a ++ litsOf b := by simp [litsOf]
/-- a step that a clause forces keeps the trail valid -/
theorem trail_more {x : Int} {ls : List (List Int)} {ts : List Stp} (h : trailB x ls ts = true) {y : Int} {i : Nat} (hi : i < ls.length) (hb : isB y x = true) (h1 : hasB (litsOf ts) y = false) (h2 : hasB (litsOf ts) (-y) = false) (hm : y ∈ ell ls i) (ho : ∀ z ∈ ell ls i, z ≠ y → hasB (litsOf ts) (-z) = true) :
    trailB x ls (ts ++ [⟨y, i⟩]) = true := by
  unfold trailB
  rw [List.length_append]
  have hl : ([(⟨y, (i : Int)⟩ : Stp)] : List Stp).length = 1 := rfl
  rw [hl, trailTo_succ, Bool.and_eq_true]
  constructor
  · unfold trailB trailTo at h
    unfold trailTo
    rw [List.all_eq_true] at h ⊢
    intro j hj
    have hj' := List.mem_range.1 hj
    rw [List.take_append_of_le_length (by omega), stp_left hj']
    exact h j hj
  · have e1 : (ts ++ [(⟨y, (i : Int)⟩ : Stp)]).take ts.length = ts := by simp
    have e2 : stp (ts ++ [(⟨y, (i : Int)⟩ : Stp)]) ts.length = ⟨y, i⟩ := by
      rw [stp_lt (by simp)]; simp
    rw [e1, e2]
    unfold stepOk whyOk
    have h3 : ((ell ls i).any fun z => (z != y) && !(hasB (litsOf ts) (-z))) = false := by
      rw [List.any_eq_false]
      intro z hz
      by_cases e : z = y
      · simp [e]
      · simp [ho z hz e]
    simp [hb, h1, h2, hasB_iff.2 hm, h3]
    omega

theorem vis_true {x : Int} {ls : List (List Int)} {i : Nat} {s s' : PS} (hc : checkE x ls = 0) (hi : i < ls.length) (ht : trailB x ls s.ts = true) (h : visT ls i s = (true, s')) :
    trailB x ls s'.ts = true ∧ (∃ more, s'.ts = s.ts ++ more) ∧ (∀ k j, j ∈ s.wt k → j ∈ s'.wt k) ∧ ∀ P : Int → Prop, (∀ y, P y → y ∈ litsOf s.ts) → Good (litsOf s'.ts) s'.wt P (ell ls i) i := by
  unfold visT at h
  split at h
  · rename_i ha
    simp only [Prod.mk.injEq, true_and] at h
    subst h
    exact ⟨ht, ⟨[], by simp⟩, fun _ _ h => h, fun P hP => Or.inl ha⟩
  · rename_i ha
    have ha' : (ell ls i).any (hasB (litsOf s.ts)) = false := by simpa using ha
    rw [List.any_eq_false] at ha'
    split at h
    · simp at h
    · rename_i y hop
      simp only [Prod.mk.injEq, true_and] at h
      subst h
      have hy := opn_mem (S := litsOf s.ts) (l := ell ls i) y (by rw [hop]; simp)
      have hz : ∀ z ∈ ell ls i, z ≠ y → hasB (litsOf s.ts) (-z) = true := fun z hz hne => by
        cases hf : hasB (litsOf s.ts) (-z) with
        | true => rfl
        | false =>
          have := opn_short (S := litsOf s.ts) (l := ell ls i) (by rw [hop]; simp) z hz hf
          rw [hop, List.mem_singleton] at this
          exact absurd this hne
      have hyB : isB y x = true := checkE_isB hc (ell_mem hi) hy.1
      refine ⟨trail_more ht hi hyB (by simpa using ha' y hy.1) hy.2 hy.1 hz, ⟨_, rfl⟩, fun _ _ h => h, fun P hP => Or.inl ?_⟩
      exact List.any_eq_true.2 ⟨y, hy.1, hasB_iff.2 (by rw [litsOf_app]; simp [litsOf])⟩
    · rename_i a b r hop
      simp only [Prod.mk.injEq, true_and] at h
      subst h
      have h1 := opn_mem (S := litsOf s.ts) (l := ell ls i) a (by rw [hop]; simp)
      have h2 := opn_mem (S := litsOf s.ts) (l := ell ls i) b (by rw [hop]; simp)
      have hn : a ≠ b := by
        have := opn_nodup (S := litsOf s.ts) (l := ell ls i)
        rw [hop] at this
        intro e
        exact (List.nodup_cons.1 this).1 (by simp [e])
      refine ⟨ht, ⟨[], by simp⟩, fun k j hj => addW_old (addW_old hj), fun P hP => Or.inr ⟨a, b, h1.1, h2.1, hn, addW_old (addW_new _ _ _), addW_new _ _ _, fun hp => ?_, fun hp => ?_⟩⟩
      · exact hasB_false.1 h1.2 (hP _ hp)
      · exact hasB_false.1 h2.2 (hP _ hp)
theorem vis_false {ls : List (List Int)} {i : Nat} {s s' : PS} (h : visT ls i s = (false, s')) : s' = s ∧ ∀ y ∈ ell ls i, hasB (litsOf s.ts) (-y) = true := by
  unfold visT at h
  split at h
  · simp at h
  · split at h
    · rename_i hop
      simp only [Prod.mk.injEq, true_and] at h
      refine ⟨h.symm, fun y hy => ?_⟩
      cases hf : hasB (litsOf s.ts) (-y) with
      | true => rfl
      | false =>
        have := opn_short (S := litsOf s.ts) (l := ell ls i) (by rw [hop]; simp) y hy hf
        rw [hop] at this; cases this
    · simp at h
    · simp at h

end Go.Proofs.Ytenpenelikpeeaa

namespace Go.Proofs.Ytenpenelikpeeaa
set_option linter.unusedVariables false
set_option linter.unusedSimpArgs false

/-- clauses visited in turn, up to a conflict -/
def passT (ls : List (List Int)) : List Nat → PS → Option Nat × PS
  | [], s => (none, s)
  | i :: r, s => if (visT ls i s).1 = true then passT ls r (visT ls i s).2 else (some i, s)
/-- the queue worked off -/
def drainT (ls : List (List Int)) : Nat → Nat → PS → Option Nat × PS
  | 0, _, s => (none, s)
  | f + 1, hd, s =>
    if hd < s.ts.length then
      if (passT ls ((s.wt (stp s.ts hd).lit).map Int.toNat) ⟨s.ts, setW s.wt (stp s.ts hd).lit []⟩).1 = none then drainT ls f (hd + 1) (passT ls ((s.wt (stp s.ts hd).lit).map Int.toNat) ⟨s.ts, setW s.wt (stp s.ts hd).lit []⟩).2
      else passT ls ((s.wt (stp s.ts hd).lit).map Int.toNat) ⟨s.ts, setW s.wt (stp s.ts hd).lit []⟩
    else (none, s)

/-- every watch is a clause -/
def WV (ls : List (List Int)) (wt : Int → List Int) : Prop := ∀ k, ∀ j ∈ wt k, 0 ≤ j ∧ j < (ls.length : Int)
theorem WV.set {ls : List (List Int)} {wt : Int → List Int} (h : WV ls wt) (k : Int) : WV ls (setW wt k []) := fun y j hj => by
  unfold setW at hj
  by_cases e : y = k
  · rw [if_pos e] at hj; cases hj
  · rw [if_neg e] at hj; exact h y j hj
theorem WV.add {ls : List (List Int)} {wt : Int → List Int} (h : WV ls wt) {k : Int} {i : Nat} (hi : i < ls.length) : WV ls (addW wt k i) := fun y j hj => by
  unfold addW setW at hj
  by_cases e : y = k
  · rw [if_pos e, List.mem_append, List.mem_singleton] at hj
    rcases hj with hj | hj
    · exact h k j hj
    · omega
  · rw [if_neg e] at hj; exact h y j hj
theorem vis_wv {ls : List (List Int)} {i : Nat} {s : PS} (h : WV ls s.wt) (hi : i < ls.length) : WV ls (visT ls i s).2.wt := by
  unfold visT
  split
  · exact h
  · split
    · exact h
    · exact h
    · exact (h.add hi).add hi

/-- what a pass leaves -/
structure Passed (x : Int) (ls : List (List Int)) (l : List Nat) (s s' : PS) : Prop where
  tr : trailB x ls s'.ts = true
  more : ∃ more, s'.ts = s.ts ++ more
  wt : ∀ k j, j ∈ s.wt k → j ∈ s'.wt k
  wv : WV ls s'.wt
theorem litsOf_sub {a b : List Stp} (h : ∃ more, b = a ++ more) : ∀ y ∈ litsOf a, y ∈ litsOf b := by
  obtain ⟨m, rfl⟩ := h
  intro y hy
  rw [litsOf_app]; simp [hy]
theorem pass_any {x : Int} {ls : List (List Int)} (hc : checkE x ls = 0) : ∀ (l : List Nat) (s : PS), (∀ i ∈ l, i < ls.length) → trailB x ls s.ts = true → WV ls s.wt →
    Passed x ls l s (passT ls l s).2 ∧
    ((passT ls l s).1 = none → ∀ i ∈ l, ∀ P : Int → Prop, (∀ y, P y → y ∈ litsOf s.ts) → Good (litsOf (passT ls l s).2.ts) (passT ls l s).2.wt P (ell ls i) i) ∧
    (∀ i, (passT ls l s).1 = some i → i ∈ l ∧ ∀ y ∈ ell ls i, hasB (litsOf (passT ls l s).2.ts) (-y) = true)
  | [], s, _, ht, hw => ⟨⟨ht, ⟨[], by simp [passT]⟩, fun _ _ h => h, hw⟩, fun _ i hi => (by cases hi), fun i hi => by simp [passT] at hi⟩
  | i :: r, s, hl, ht, hw => by
    have hi := hl i (by simp)
    rw [passT]
    cases hv : (visT ls i s).1 with
    | true =>
      have hv2 : visT ls i s = (true, (visT ls i s).2) := by rw [← hv]
      obtain ⟨t1, t2, t3, t4⟩ := vis_true hc hi ht hv2
      have hw2 := vis_wv hw hi
      generalize (visT ls i s).2 = s1 at *
      simp only [if_true]
      obtain ⟨p, q, c⟩ := pass_any hc r s1 (fun j hj => hl j (by simp [hj])) t1 hw2
      refine ⟨⟨p.tr, ?_, fun k j hj => p.wt k j (t3 k j hj), p.wv⟩, fun hnone j hj P hP => ?_, fun j hj => ⟨by simp [(c j hj).1], (c j hj).2⟩⟩
      · obtain ⟨a, ha⟩ := t2
        obtain ⟨b, hb⟩ := p.more
        exact ⟨a ++ b, by rw [hb, ha, List.append_assoc]⟩
      · rcases List.mem_cons.1 hj with e | e
        · subst e
          exact (t4 P hP).grow (litsOf_sub p.more) p.wt
        · exact q hnone j e P (fun y hy => litsOf_sub t2 y (hP y hy))
    | false =>
      have hv2 : visT ls i s = (false, (visT ls i s).2) := by rw [← hv]
      obtain ⟨_, hf⟩ := vis_false hv2
      simp only [Bool.false_eq_true, if_false]
      refine ⟨⟨ht, ⟨[], by simp⟩, fun _ _ h => h, hw⟩, fun h => by simp at h, fun j hj => ?_⟩
      simp only [Option.some.injEq] at hj
      subst hj
      exact ⟨by simp, hf⟩

/-- behind the head -/
def Beh (ts : List Stp) (hd : Nat) (y : Int) : Prop := y ∈ litsOf (ts.take hd)
theorem Beh.sub {ts : List Stp} {hd : Nat} : ∀ y, Beh ts hd y → y ∈ litsOf ts := fun y hy => by
  unfold Beh litsOf at hy
  unfold litsOf
  obtain ⟨s, hs, e⟩ := List.mem_map.1 hy
  exact List.mem_map.2 ⟨s, List.mem_of_mem_take hs, e⟩
theorem Beh.more {ts : List Stp} {hd : Nat} (h : hd ≤ ts.length) (m : List Stp) (y : Int) : Beh (ts ++ m) hd y ↔ Beh ts hd y := by
  unfold Beh; rw [List.take_append_of_le_length h]
theorem Beh.succ {ts : List Stp} {hd : Nat} (h : hd < ts.length) (y : Int) : Beh ts (hd + 1) y ↔ Beh ts hd y ∨ y = (stp ts hd).lit := by
  unfold Beh; rw [takes_snoc ts hd h, litsOf_app]; simp [litsOf]
theorem Good.behind {S : List Int} {wt : Int → List Int} {P Q : Int → Prop} {l : List Int} {i : Nat} (h : Good S wt P l i) (hq : ∀ y, Q y → P y) : Good S wt Q l i := by
  rcases h with h | ⟨x, y, h1, h2, h3, h4, h5, h6, h7⟩
  · exact Or.inl h
  · exact Or.inr ⟨x, y, h1, h2, h3, h4, h5, fun h => h6 (hq _ h), fun h => h7 (hq _ h)⟩

/-- the trail, its state, and what is good of it -/
structure Inv (x : Int) (ls : List (List Int)) (hd : Nat) (s : PS) : Prop where
  tr : trailB x ls s.ts = true
  wv : WV ls s.wt
  le : hd ≤ s.ts.length
  good : ∀ i, i < ls.length → Good (litsOf s.ts) s.wt (Beh s.ts hd) (ell ls i) i

theorem inv_step {x : Int} {ls : List (List Int)} (hc : checkE x ls = 0) {hd : Nat} {s s' : PS} (h : Inv x ls hd s) (hlt : hd < s.ts.length)
    (hp : passT ls ((s.wt (stp s.ts hd).lit).map Int.toNat) ⟨s.ts, setW s.wt (stp s.ts hd).lit []⟩ = (none, s')) : Inv x ls (hd + 1) s' ∧ ∃ more, s'.ts = s.ts ++ more := by
  obtain ⟨lit, hlit⟩ : ∃ lit, (stp s.ts hd).lit = lit := ⟨_, rfl⟩
  have hbs := Beh.succ hlt
  rw [hlit] at hp hbs
  have hl : ∀ i ∈ (s.wt lit).map Int.toNat, i < ls.length := fun i hi => by
    obtain ⟨j, hj, e⟩ := List.mem_map.1 hi
    have := h.wv lit j hj
    omega
  obtain ⟨p, q, _⟩ := pass_any hc ((s.wt lit).map Int.toNat) ⟨s.ts, setW s.wt lit []⟩ hl h.tr (h.wv.set lit)
  rw [hp] at p q
  have hm := p.more
  refine ⟨⟨p.tr, p.wv, ?_, fun i hi => ?_⟩, hm⟩
  · obtain ⟨m, e⟩ := hm
    have e' : s'.ts = s.ts ++ m := e
    show hd + 1 ≤ s'.ts.length
    rw [e', List.length_append]; omega
  · have hbeh : ∀ y, Beh s'.ts (hd + 1) y → Beh s.ts (hd + 1) y := fun y hy => by
      obtain ⟨m, e⟩ := hm
      have e' : s'.ts = s.ts ++ m := e
      rw [e', Beh.more (by omega)] at hy; exact hy
    refine Good.behind ?_ hbeh
    by_cases hin : i ∈ (s.wt lit).map Int.toNat
    · exact q rfl i hin _ Beh.sub
    · have hni : ¬ (i : Int) ∈ s.wt lit := fun hx => hin (List.mem_map.2 ⟨_, hx, by simp⟩)
      have h0 : Good (litsOf s.ts) (setW s.wt lit []) (Beh s.ts (hd + 1)) (ell ls i) i := by
        rcases h.good i hi with hg | ⟨a, b, h1, h2, h3, h4, h5, h6, h7⟩
        · exact Or.inl hg
        · have ea : -a ≠ lit := fun e => hni (e ▸ h4)
          have eb : -b ≠ lit := fun e => hni (e ▸ h5)
          refine Or.inr ⟨a, b, h1, h2, h3, ?_, ?_, fun hx => ?_, fun hx => ?_⟩
          · unfold setW; rw [if_neg ea]; exact h4
          · unfold setW; rw [if_neg eb]; exact h5
          · rcases (hbs _).1 hx with hx | hx
            · exact h6 hx
            · exact ea hx
          · rcases (hbs _).1 hx with hx | hx
            · exact h7 hx
            · exact eb hx
      exact h0.grow (litsOf_sub hm) p.wt

/-- what the propagation leaves -/
structure Fixed (x : Int) (ls : List (List Int)) (ts : List Stp) (r : Option Nat × PS) : Prop where
  tr : trailB x ls r.2.ts = true
  more : ∃ more, r.2.ts = ts ++ more
  clash : ∀ i, r.1 = some i → i < ls.length ∧ ∀ y ∈ ell ls i, hasB (litsOf r.2.ts) (-y) = true
  fixed : r.1 = none → ∀ i, i < ls.length → (ell ls i).any (hasB (litsOf r.2.ts)) = true ∨ ∃ a b, a ∈ ell ls i ∧ b ∈ ell ls i ∧ a ≠ b ∧ hasB (litsOf r.2.ts) (-a) = false ∧ hasB (litsOf r.2.ts) (-b) = false
theorem Inv.done {x : Int} {ls : List (List Int)} {s : PS} (h : Inv x ls s.ts.length s) : Fixed x ls s.ts (none, s) :=
  ⟨h.tr, ⟨[], by simp⟩, fun i hi => by simp at hi, fun _ i hi => by
    rcases h.good i hi with hg | ⟨a, b, h1, h2, h3, _, _, h6, h7⟩
    · exact Or.inl hg
    · refine Or.inr ⟨a, b, h1, h2, h3, ?_, ?_⟩
      · rw [hasB_false]; intro hx; apply h6; unfold Beh; rw [List.take_length]; exact hx
      · rw [hasB_false]; intro hx; apply h7; unfold Beh; rw [List.take_length]; exact hx⟩

theorem drain_any {x : Int} {ls : List (List Int)} (hc : checkE x ls = 0) (N : Nat) (hN : ∀ ts, trailB x ls ts = true → ts.length ≤ N) : ∀ (f hd : Nat) (s : PS), Inv x ls hd s → N < f + hd → Fixed x ls s.ts (drainT ls f hd s)
  | 0, hd, s, h, hf => by
    have h1 := hN _ h.tr
    have h2 := h.le
    omega
  | f + 1, hd, s, h, hf => by
    rw [drainT]
    split
    · rename_i hlt
      cases hp : passT ls ((s.wt (stp s.ts hd).lit).map Int.toNat) ⟨s.ts, setW s.wt (stp s.ts hd).lit []⟩ with
      | mk r s' =>
        cases r with
        | none =>
          simp only [if_true]
          obtain ⟨hI, m, hm⟩ := inv_step hc h hlt hp
          have ih := drain_any hc N hN f (hd + 1) s' hI (by omega)
          obtain ⟨m2, hm2⟩ := ih.more
          exact ⟨ih.tr, ⟨m ++ m2, by rw [hm2, hm, List.append_assoc]⟩, ih.clash, ih.fixed⟩
        | some i =>
          simp only [reduceCtorEq, if_false]
          have hl : ∀ i ∈ (s.wt (stp s.ts hd).lit).map Int.toNat, i < ls.length := fun i hi => by
            obtain ⟨j, hj, e⟩ := List.mem_map.1 hi
            have := h.wv _ j hj
            omega
          obtain ⟨p, _, c⟩ := pass_any hc _ ⟨s.ts, setW s.wt (stp s.ts hd).lit []⟩ hl h.tr (h.wv.set _)
          rw [hp] at p c
          exact ⟨p.tr, p.more, fun j hj => ⟨hl j (c j hj).1, (c j hj).2⟩, fun hx => by simp at hx⟩
    · rename_i hge
      have : hd = s.ts.length := by have := h.le; omega
      subst this
      exact h.done

end Go.Proofs.Ytenpenelikpeeaa

namespace Go.Proofs.Ytenpenelikpeeaa
set_option linter.unusedVariables false
set_option linter.unusedSimpArgs false

theorem trail_len {x : Int} {ls : List (List Int)} {ts : List Stp} (hx : 0 ≤ x) (h : trailB x ls ts = true) : ts.length ≤ x.toNat := by
  have T := trail_tr h
  have h1 : ∀ k, k < ts.length → 1 ≤ absI (stp ts k).lit ∧ absI (stp ts k).lit ≤ x := fun k hk => by
    have := isB_iff.1 (T.lit k hk)
    unfold absI; split <;> omega
  have hn : ((List.range ts.length).map fun k => absI (stp ts k).lit).Nodup := by
    refine List.pairwise_map.2 ?_
    refine (List.pairwise_lt_range (n := ts.length)).imp_of_mem ?_
    intro a b ha hb hab e
    have := T.apart a b hab (List.mem_range.1 hb)
    rcases absI_eq e with e1 | e1
    · exact this.1 e1
    · exact this.2 e1
  have := nodup_len _ ((List.range x.toNat).map fun k : Nat => ((k : Int) + 1)) hn (fun y hy => by
    obtain ⟨k, hk, rfl⟩ := List.mem_map.1 hy
    have h2 := h1 k (List.mem_range.1 hk)
    exact List.mem_map.2 ⟨(absI (stp ts k).lit - 1).toNat, List.mem_range.2 (by omega), by omega⟩)
  simpa using this

def propT (x : Int) (ls : List (List Int)) (ts : List Stp) : Option Nat × PS :=
  if (passT ls (List.range ls.length) ⟨ts, fun _ => []⟩).1 = none then drainT ls (x.toNat + 1) ts.length (passT ls (List.range ls.length) ⟨ts, fun _ => []⟩).2
  else passT ls (List.range ls.length) ⟨ts, fun _ => []⟩
theorem prop_fixed {x : Int} {ls : List (List Int)} {ts : List Stp} (h : propE x ls ts = 0) : Fixed x ls ts (propT x ls ts) := by
  obtain ⟨hc, ht⟩ := propE_zero h
  have hx := (checkE_n hc).1
  obtain ⟨p, q, c⟩ := pass_any hc (List.range ls.length) ⟨ts, fun _ => []⟩ (fun i hi => List.mem_range.1 hi) ht (fun k j hj => by cases hj)
  unfold propT
  cases hp : passT ls (List.range ls.length) ⟨ts, fun _ => []⟩ with
  | mk r s' =>
    rw [hp] at p q c
    obtain ⟨m, hm⟩ := p.more
    have hm' : s'.ts = ts ++ m := hm
    cases r with
    | none =>
      simp only [if_true]
      have hI : Inv x ls ts.length s' := ⟨p.tr, p.wv, by rw [hm', List.length_append]; omega, fun i hi => by
        have := q rfl i (List.mem_range.2 hi) (Beh ts ts.length) Beh.sub
        refine this.behind fun y hy => ?_
        rw [hm', Beh.more (Nat.le_refl _)] at hy
        exact hy⟩
      have ih := drain_any hc x.toNat (fun ts ht => trail_len hx ht) (x.toNat + 1) ts.length s' hI (by omega)
      obtain ⟨m2, hm2⟩ := ih.more
      exact ⟨ih.tr, ⟨m ++ m2, by rw [hm2, hm', List.append_assoc]⟩, ih.clash, ih.fixed⟩
    | some i =>
      simp only [reduceCtorEq, if_false]
      exact ⟨p.tr, p.more, fun j hj => ⟨List.mem_range.1 (c j hj).1, (c j hj).2⟩, fun hx => by simp at hx⟩

/-- a clause whose other literals are false: its last one becomes true, or there is a conflict -/
theorem fixed_unit {x : Int} {ls : List (List Int)} {ts : List Stp} {r : Option Nat × PS} (h : Fixed x ls ts r) (hn : r.1 = none) {l : List Int} (hl : l ∈ ls) {y : Int} (ho : ∀ z ∈ l, z ≠ y → hasB (litsOf ts) (-z) = true) : l.any (hasB (litsOf r.2.ts)) = true := by
  obtain ⟨i, hi, e⟩ := List.mem_iff_getElem.1 hl
  have he : ell ls i = l := by rw [ell_lt hi]; exact e
  rcases h.fixed hn i hi with hg | ⟨a, b, h1, h2, h3, h4, h5⟩
  · rw [he] at hg; exact hg
  · rw [he] at h1 h2
    have big : ∀ z, hasB (litsOf ts) z = true → hasB (litsOf r.2.ts) z = true := fun z hz => hasB_iff.2 (litsOf_sub h.more z (hasB_iff.1 hz))
    by_cases ea : a = y
    · have eb : b ≠ y := fun e => h3 (ea.trans e.symm)
      rw [big _ (ho b h2 eb)] at h5; cases h5
    · rw [big _ (ho a h1 ea)] at h4; cases h4
theorem trail_apart {x : Int} {ls : List (List Int)} {ts : List Stp} (h : trailB x ls ts = true) {y : Int} (h1 : hasB (litsOf ts) y = true) : hasB (litsOf ts) (-y) = false := by
  have T := trail_tr h
  rw [hasB_false]
  intro h2
  have full : litsOf ts = litsOf (ts.take ts.length) := by rw [List.take_length]
  rw [full, mem_litsTake (Nat.le_refl _)] at h2
  have h1' := hasB_iff.1 h1
  rw [full, mem_litsTake (Nat.le_refl _)] at h1'
  obtain ⟨a, ha, e1⟩ := h1'
  obtain ⟨b, hb, e2⟩ := h2
  have h0 := (isB_iff.1 (T.lit a ha)).1
  rcases Nat.lt_trichotomy a b with h3 | h3 | h3
  · exact (T.apart a b h3 hb).2 (by rw [e1, e2]; omega)
  · subst h3; rw [e1] at e2 h0; omega
  · exact (T.apart b a h3 ha).2 (by rw [e1, e2])

end Go.Proofs.Ytenpenelikpeeaa
