/-
  Plain facts on segments, heaps in a segment, partitions. No program. No condition.
-/
import Derived.Test.YthfadkilffmmlaaW8
namespace Go.Proofs.Ythfadkilffmmlaa
open Go.RowKit
set_option linter.unusedVariables false
set_option linter.unusedSimpArgs false

theorem drop_cut (x : List Int) {a b : Nat} (hab : a ≤ b) : x = x.take a ++ ((x.drop a).take (b - a) ++ x.drop b) := by
  have h : x.drop b = (x.drop a).drop (b - a) := by rw [List.drop_drop]; congr 1; omega
  rw [h, List.take_append_drop, List.take_append_drop]
theorem take_eq_of {x y : List Int} {a : Nat} (hl : y.length = x.length) (h : ∀ k, k < a → elt y k = elt x k) : y.take a = x.take a := by
  refine ext_elt (by simp [hl]) fun k hk => ?_
  have hk : k < a ∧ k < y.length := by simp at hk; omega
  have hy : elt (y.take a) k = elt y k := by unfold elt; simp [List.getD_eq_getElem?_getD, List.getElem?_take, hk.1]
  have hx : elt (x.take a) k = elt x k := by unfold elt; simp [List.getD_eq_getElem?_getD, List.getElem?_take, hk.1]
  rw [hy, hx]; exact h k hk.1
theorem drop_eq_of {x y : List Int} {b : Nat} (hl : y.length = x.length) (h : ∀ k, b ≤ k → elt y k = elt x k) : y.drop b = x.drop b := by
  refine ext_elt (by simp [hl]) fun k hk => ?_
  have hy : elt (y.drop b) k = elt y (b + k) := by unfold elt; simp [List.getD_eq_getElem?_getD]
  have hx : elt (x.drop b) k = elt x (b + k) := by unfold elt; simp [List.getD_eq_getElem?_getD]
  rw [hy, hx]; exact h _ (by omega)
/-- what lies in the segment lay in it -/
theorem Seg.from_ {a b : Nat} {x y : List Int} (h : Seg a b x y) (hb : b ≤ x.length) {k : Nat} (h1 : a ≤ k) (h2 : k < b) : ∃ k', a ≤ k' ∧ k' < b ∧ elt y k = elt x k' := by
  have hl := h.len
  have e1 := take_eq_of hl (fun k hk => h.out k (.inl hk) : ∀ k, k < a → elt y k = elt x k)
  have e2 := drop_eq_of hl (fun k hk => h.out k (.inr hk) : ∀ k, b ≤ k → elt y k = elt x k)
  have hp := h.perm
  rw [drop_cut x (show a ≤ b by omega), drop_cut y (show a ≤ b by omega), e1, e2, List.perm_append_left_iff, List.perm_append_right_iff] at hp
  have hm : elt y k ∈ (y.drop a).take (b - a) := by
    have : ((y.drop a).take (b - a))[k - a]? = some (elt y k) := by
      rw [List.getElem?_take_of_lt (by omega), List.getElem?_drop, show a + (k - a) = k by omega, List.getElem?_eq_getElem (by omega), elt_lt (by omega)]
    exact List.mem_of_getElem? this
  rw [hp.mem_iff] at hm
  obtain ⟨i, hi, e⟩ := List.getElem_of_mem hm
  simp at hi
  refine ⟨a + i, by omega, by omega, ?_⟩
  rw [← e, elt_lt (by omega)]
  simp

/-- what is behind a .. b - 1 is not below it, nor what is ahead above it, .. : pairs that do not both lie in a .. b - 1 are in order -/
def Fin_ (act : List Int) (a0 b0 a b : Nat) (zs : List Int) : Prop := ∀ p q, a0 ≤ p → p < q → q < b0 → ¬ (a ≤ p ∧ q < b) → ¬ ltO act (elt zs q) (elt zs p)
theorem Fin_.start {act : List Int} {a0 b0 : Nat} {zs : List Int} : Fin_ act a0 b0 a0 b0 zs := fun p q h1 h2 h3 h4 => absurd ⟨h1, h3⟩ h4
theorem Fin_.seg {act : List Int} {a0 b0 a b : Nat} {x y : List Int} (h : Fin_ act a0 b0 a b x) (hs : Seg a b x y) (ha : a0 ≤ a) (hb : b ≤ b0) (hl : b ≤ x.length) : Fin_ act a0 b0 a b y := by
  intro p q h1 h2 h3 h4
  by_cases hp : a ≤ p ∧ p < b
  · have hq : ¬ q < b := fun h => h4 ⟨hp.1, h⟩
    obtain ⟨p', p1, p2, e⟩ := hs.from_ hl hp.1 hp.2
    rw [e, hs.out q (.inr (by omega))]
    exact h p' q (by omega) (by omega) h3 (by omega)
  · rw [hs.out p (by omega)]
    by_cases hq : a ≤ q ∧ q < b
    · obtain ⟨q', q1, q2, e⟩ := hs.from_ hl hq.1 hq.2
      rw [e]
      exact h p q' h1 (by omega) (by omega) (by omega)
    · rw [hs.out q (by omega)]
      exact h p q h1 h2 h3 h4
theorem Fin_.done {act : List Int} {a0 b0 a b : Nat} {zs : List Int} (h : Fin_ act a0 b0 a b zs) (hs : SortedSeg act a b zs) : SortedSeg act a0 b0 zs := by
  intro p q h1 h2 h3
  by_cases hh : a ≤ p ∧ q < b
  · exact hs p q hh.1 h2 hh.2
  · exact h p q h1 h2 h3 hh

/-- the place ahead of a is not above what lies in a .. b - 1 -/
def Low (act : List Int) (a b : Nat) (zs : List Int) : Prop := 0 < a → ∀ k, a ≤ k → k < b → ¬ ltO act (elt zs k) (elt zs (a - 1))
theorem Low.seg {act : List Int} {a b : Nat} {x y : List Int} (h : Low act a b x) (hs : Seg a b x y) (hl : b ≤ x.length) : Low act a b y := by
  intro h0 k h1 h2
  obtain ⟨k', k1, k2, e⟩ := hs.from_ hl h1 h2
  rw [e, hs.out (a - 1) (.inl (by omega))]
  exact h h0 k' k1 k2
theorem Low.of_fin {act : List Int} {a0 b0 a b : Nat} {zs : List Int} (h : Fin_ act a0 b0 a b zs) (h0 : Low act a0 b0 zs) (ha : a0 ≤ a) (hb : b ≤ b0) : Low act a b zs := by
  intro hp k h1 h2
  by_cases e : a = a0
  · subst e; exact h0 hp k h1 (by omega)
  · exact h (a - 1) k (by omega) (by omega) (by omega) (by omega)

/-- what a partition leaves at m -/
structure Part (act : List Int) (a b m : Nat) (zs : List Int) : Prop where
  lo : a ≤ m
  hi : m < b
  left : ∀ k, a ≤ k → k < m → ltO act (elt zs k) (elt zs m)
  right : ∀ k, m < k → k < b → ¬ ltO act (elt zs k) (elt zs m)
theorem Part.seg_left {act : List Int} {a b m : Nat} {x y : List Int} (h : Part act a b m x) (hs : Seg a m x y) (hl : b ≤ x.length) : Part act a b m y := by
  refine ⟨h.lo, h.hi, fun k h1 h2 => ?_, fun k h1 h2 => ?_⟩
  · obtain ⟨k', k1, k2, e⟩ := hs.from_ (by have := h.hi; omega) h1 h2
    rw [e, hs.out m (.inr (Nat.le_refl _))]; exact h.left k' k1 k2
  · rw [hs.out k (.inr (by omega)), hs.out m (.inr (Nat.le_refl _))]; exact h.right k h1 h2
theorem Part.seg_right {act : List Int} {a b m : Nat} {x y : List Int} (h : Part act a b m x) (hs : Seg (m + 1) b x y) (hl : b ≤ x.length) : Part act a b m y := by
  refine ⟨h.lo, h.hi, fun k h1 h2 => ?_, fun k h1 h2 => ?_⟩
  · rw [hs.out k (.inl (by omega)), hs.out m (.inl (by omega))]; exact h.left k h1 h2
  · obtain ⟨k', k1, k2, e⟩ := hs.from_ hl (show m + 1 ≤ k by omega) h2
    rw [e, hs.out m (.inl (by omega))]; exact h.right k' (by omega) k2
theorem Part.fin_right {act : List Int} {a0 b0 a b m : Nat} {zs : List Int} (h : Part act a b m zs) (hf : Fin_ act a0 b0 a b zs) (hs : SortedSeg act a m zs) : Fin_ act a0 b0 (m + 1) b zs := by
  intro p q h1 h2 h3 h4
  by_cases hh : a ≤ p ∧ q < b
  · have hm1 := h.lo
    have hm2 := h.hi
    by_cases hq : q < m
    · exact hs p q hh.1 h2 hq
    · by_cases hp : p = m
      · subst hp; exact h.right q (by omega) hh.2
      · have e1 := h.left p hh.1 (by omega)
        by_cases hqm : q = m
        · subst hqm; exact ltO_asymm e1
        · have e2 := h.right q (by omega) hh.2
          exact leO_trans (ltO_asymm e1) e2
  · exact hf p q h1 h2 h3 hh
theorem Part.fin_left {act : List Int} {a0 b0 a b m : Nat} {zs : List Int} (h : Part act a b m zs) (hf : Fin_ act a0 b0 a b zs) (hs : SortedSeg act (m + 1) b zs) : Fin_ act a0 b0 a m zs := by
  intro p q h1 h2 h3 h4
  by_cases hh : a ≤ p ∧ q < b
  · have hm1 := h.lo
    have hm2 := h.hi
    by_cases hp : m < p
    · exact hs p q (by omega) h2 hh.2
    · by_cases hpm : p = m
      · subst hpm; exact h.right q h2 hh.2
      · have e1 := h.left p hh.1 (by omega)
        by_cases hqm : q = m
        · subst hqm; exact ltO_asymm e1
        · have e2 := h.right q (by omega) hh.2
          exact leO_trans (ltO_asymm e1) e2
  · exact hf p q h1 h2 h3 hh
theorem Part.low {act : List Int} {a b m : Nat} {zs : List Int} (h : Part act a b m zs) : Low act (m + 1) b zs := fun _ k h1 h2 => by
  rw [Nat.add_sub_cancel]; exact h.right k (by omega) h2
theorem Low.left {act : List Int} {a b m : Nat} {zs : List Int} (h : Low act a b zs) (hm : m ≤ b) : Low act a m zs := fun h0 k h1 h2 => h h0 k h1 (by omega)

/-- what an equal partition leaves -/
structure PartEq (act : List Int) (a b m : Nat) (p : Int) (zs : List Int) : Prop where
  lo : a < m
  hi : m ≤ b
  left : ∀ k, a ≤ k → k < m → ¬ ltO act p (elt zs k)
  right : ∀ k, m ≤ k → k < b → ltO act p (elt zs k)
theorem PartEq.fin {act : List Int} {a0 b0 a b m : Nat} {p : Int} {zs : List Int} (h : PartEq act a b m p zs) (hf : Fin_ act a0 b0 a b zs) (hl : Low act a b zs) (h0 : 0 < a) (hp : ¬ ltO act (elt zs (a - 1)) p) : Fin_ act a0 b0 m b zs := by
  intro x q h1 h2 h3 h4
  by_cases hh : a ≤ x ∧ q < b
  · have e0 := hl h0 q (by omega) hh.2
    have e1 := h.left x hh.1 (by omega)
    -- x is not above p, p not above the one ahead, that not above q
    have e3 := leO_trans e1 hp
    exact leO_trans e3 e0
  · exact hf x q h1 h2 h3 hh

/- heaps in a segment: the root lies at place f -/
def okPar (act : List Int) (f hi : Nat) (zs : List Int) (i : Nat) : Prop := ∀ c, (c = 2 * i + 1 ∨ c = 2 * i + 2) → c < hi → ¬ ltO act (elt zs (f + i)) (elt zs (f + c))
def HeapAt (act : List Int) (f lo hi : Nat) (zs : List Int) : Prop := ∀ i, lo ≤ i → okPar act f hi zs i
structure Sift (act : List Int) (f lo hi r : Nat) (zs : List Int) : Prop where
  other : ∀ i, lo ≤ i → i ≠ r → okPar act f hi zs i
  up : ∀ p, lo ≤ p → (r = 2 * p + 1 ∨ r = 2 * p + 2) → ∀ c, (c = 2 * r + 1 ∨ c = 2 * r + 2) → c < hi → ¬ ltO act (elt zs (f + p)) (elt zs (f + c))
theorem Sift.start {act : List Int} {f lo hi : Nat} {zs : List Int} (h : HeapAt act f (lo + 1) hi zs) : Sift act f lo hi lo zs :=
  ⟨fun i h1 h2 => h i (by omega), fun p h1 h2 => by omega⟩
theorem Sift.leaf {act : List Int} {f lo hi r : Nat} {zs : List Int} (h : Sift act f lo hi r zs) (hc : hi ≤ 2 * r + 1) : HeapAt act f lo hi zs := by
  intro i hi2
  by_cases e : i = r
  · subst e; intro c h1 h2; omega
  · exact h.other i hi2 e
/-- c is a greatest child of r -/
def Great (act : List Int) (f hi r c : Nat) (zs : List Int) : Prop := (c = 2 * r + 1 ∨ c = 2 * r + 2) ∧ c < hi ∧ ∀ d, (d = 2 * r + 1 ∨ d = 2 * r + 2) → d < hi → ¬ ltO act (elt zs (f + c)) (elt zs (f + d))
theorem Sift.stop {act : List Int} {f lo hi r c : Nat} {zs : List Int} (h : Sift act f lo hi r zs) (hg : Great act f hi r c zs) (hn : ¬ ltO act (elt zs (f + r)) (elt zs (f + c))) : HeapAt act f lo hi zs := by
  intro i hi2
  by_cases e : i = r
  · subst e; intro d h1 h2; exact leO_trans (hg.2.2 d h1 h2) hn
  · exact h.other i hi2 e
theorem Sift.step {act : List Int} {f lo hi r c : Nat} {zs : List Int} (h : Sift act f lo hi r zs) (hg : Great act f hi r c zs) (hlt : ltO act (elt zs (f + r)) (elt zs (f + c))) (hr : lo ≤ r) (hlen : f + hi ≤ zs.length) :
    Sift act f lo hi c (swp zs (f + r) (f + c)) := by
  obtain ⟨g1, g2, g3⟩ := hg
  have E : ∀ k, elt (swp zs (f + r) (f + c)) (f + k) = if c = k then elt zs (f + r) else if r = k then elt zs (f + c) else elt zs (f + k) := fun k => by
    rw [elt_swp _ _ _ _ (by omega) (by omega)]
    by_cases e1 : c = k
    · subst e1; simp
    · rw [if_neg e1, if_neg (by omega)]
      by_cases e2 : r = k
      · subst e2; simp
      · rw [if_neg e2, if_neg (by omega)]
  refine ⟨fun i h1 h2 d hd hdh => ?_, fun p h1 h2 d hd hdh => ?_⟩
  · rw [E, E, if_neg (fun e => h2 e.symm)]
    by_cases e1 : r = i
    · subst e1
      rw [if_pos rfl]
      by_cases e2 : c = d
      · subst e2; rw [if_pos rfl]; exact ltO_asymm hlt
      · rw [if_neg e2, if_neg (by omega)]; exact g3 d hd hdh
    · rw [if_neg e1]
      by_cases e2 : c = d
      · exfalso; omega
      · rw [if_neg e2]
        by_cases e3 : r = d
        · subst e3
          rw [if_pos rfl]
          exact h.up i h1 hd c g1 g2
        · rw [if_neg e3]; exact h.other i h1 (fun e => e1 e.symm) d hd hdh
  · have hp : p = r := by omega
    subst hp
    rw [E, E, if_neg (by omega), if_pos rfl, if_neg (by omega), if_neg (by omega)]
    exact h.other c (by omega) (by omega) d hd hdh
theorem Great.one {act : List Int} {f hi r : Nat} {zs : List Int} (h1 : 2 * r + 1 < hi) (h2 : ¬ 2 * r + 2 < hi) : Great act f hi r (2 * r + 1) zs :=
  ⟨.inl rfl, h1, fun d hd hdh => by have : d = 2 * r + 1 := by omega
                                    subst this; exact ltO_irrefl _ _⟩
theorem Great.first {act : List Int} {f hi r : Nat} {zs : List Int} (h1 : 2 * r + 1 < hi) (h : ¬ ltO act (elt zs (f + (2 * r + 1))) (elt zs (f + (2 * r + 2)))) : Great act f hi r (2 * r + 1) zs :=
  ⟨.inl rfl, h1, fun d hd hdh => by
    rcases hd with rfl | rfl
    · exact ltO_irrefl _ _
    · exact h⟩
theorem Great.second {act : List Int} {f hi r : Nat} {zs : List Int} (h1 : 2 * r + 2 < hi) (h : ltO act (elt zs (f + (2 * r + 1))) (elt zs (f + (2 * r + 2)))) : Great act f hi r (2 * r + 2) zs :=
  ⟨.inr rfl, h1, fun d hd hdh => by
    rcases hd with rfl | rfl
    · exact ltO_asymm h
    · exact ltO_irrefl _ _⟩
theorem HeapAt.top {act : List Int} {f hi : Nat} {zs : List Int} (h : HeapAt act f 0 hi zs) : ∀ n k, k ≤ n → k < hi → ¬ ltO act (elt zs f) (elt zs (f + k))
  | 0, k, hk, hh => by
    have : k = 0 := by omega
    subst this; exact ltO_irrefl _ _
  | n + 1, k, hk, hh => by
    by_cases h0 : k = 0
    · subst h0; exact ltO_irrefl _ _
    · have e1 := HeapAt.top h n ((k - 1) / 2) (by omega) (by omega)
      have e2 := h ((k - 1) / 2) (Nat.zero_le _) k (by omega) hh
      exact leO_trans e2 e1
theorem HeapAt.begin_ {act : List Int} {f hi : Nat} {zs : List Int} {k : Nat} (h : hi ≤ 2 * k + 1) : HeapAt act f k hi zs := fun i h1 c h2 h3 => by omega

/-- the second half of heap sort: the k least are a heap, the others are sorted and above them -/
structure Popd (act : List Int) (f n k : Nat) (zs : List Int) : Prop where
  heap : HeapAt act f 0 k zs
  fin : Fin_ act f (f + n) f (f + k) zs
theorem Popd.start {act : List Int} {f n : Nat} {zs : List Int} (h : HeapAt act f 0 n zs) : Popd act f n n zs := ⟨h, Fin_.start⟩
/-- the greatest goes to the end of the heap -/
theorem Popd.swap {act : List Int} {f n k : Nat} {zs : List Int} (h : Popd act f n (k + 1) zs) (hk : k < n) (hlen : f + n ≤ zs.length) :
    HeapAt act f 1 k (swp zs f (f + k)) ∧ Fin_ act f (f + n) f (f + k) (swp zs f (f + k)) := by
  have E : ∀ j, elt (swp zs f (f + k)) j = if f + k = j then elt zs f else if f = j then elt zs (f + k) else elt zs j := fun j => elt_swp _ _ _ _ (by omega) (by omega)
  constructor
  · intro i h1 c h2 h3
    rw [E, E, if_neg (by omega), if_neg (by omega), if_neg (by omega), if_neg (by omega)]
    exact h.heap i (Nat.zero_le _) c h2 (by omega)
  · have hs : Seg f (f + (k + 1)) zs (swp zs f (f + k)) := Seg.swp _ ⟨Nat.le_refl _, by omega⟩ ⟨by omega, by omega⟩ (by omega)
    have hf := h.fin.seg hs (Nat.le_refl _) (by omega) (by omega)
    intro p q h1 h2 h3 h4
    by_cases hq : q = f + k
    · subst hq
      obtain ⟨j, rfl⟩ : ∃ j, p = f + j := ⟨p - f, by omega⟩
      rw [E, E, if_pos rfl, if_neg (by omega)]
      by_cases e : f = f + j
      · rw [if_pos e]; exact h.heap.top k k (Nat.le_refl _) (by omega)
      · rw [if_neg e]; exact h.heap.top j j (Nat.le_refl _) (by omega)
    · exact hf p q h1 h2 h3 (by omega)
theorem Popd.done {act : List Int} {f n : Nat} {zs : List Int} (h : Popd act f n 0 zs) : SortedSeg act f (f + n) zs := h.fin.done fun p q h1 h2 h3 => by omega

end Go.Proofs.Ythfadkilffmmlaa
