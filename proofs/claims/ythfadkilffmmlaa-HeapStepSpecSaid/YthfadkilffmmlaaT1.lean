/-
  Plain facts on rescaled heaps. No program. No condition.
-/
import Derived.Test.YthfadkilffmmlaaW18
namespace Go.Proofs.Ythfadkilffmmlaa
open Go.RowKit
set_option linter.unusedVariables false
set_option linter.unusedSimpArgs false

theorem sclA_len (act : List Int) (y : Int) : (sclA act y).length = act.length := by unfold sclA; split <;> simp [down]
theorem big_no {act : List Int} {y : Int} (h : bigB act y = false) : y ≤ 1099511627776 ∧ ∀ k, k < act.length → elt act k ≤ 1099511627776 := by
  unfold bigB at h
  rw [Bool.or_eq_false_iff, decide_eq_false_iff_not, decide_eq_false_iff_not] at h
  unfold M40 at h
  refine ⟨by omega, fun k hk => ?_⟩
  have := le_maxTo act act.length k hk
  omega
theorem big_of {act : List Int} {y : Int} (h1 : y ≤ 1099511627776) (h0 : 0 < act.length) (h2 : ∀ k, k < act.length → elt act k ≤ 1099511627776) : bigB act y = false := by
  unfold bigB
  rw [Bool.or_eq_false_iff, decide_eq_false_iff_not, decide_eq_false_iff_not]
  unfold M40
  obtain ⟨j, hj, e⟩ := maxTo_mem act act.length
  have := h2 j (by omega)
  omega
theorem big_at {act : List Int} {y : Int} {k : Nat} (hk : k < act.length) (h : 1099511627776 < elt act k) : bigB act y = true := by
  cases hb : bigB act y
  · have := (big_no hb).2 k hk; omega
  · rfl
theorem big_y {act : List Int} {y : Int} (h : 1099511627776 < y) : bigB act y = true := by
  cases hb : bigB act y
  · have := (big_no hb).1; omega
  · rfl

theorem perm_sorted_link {act l l' : List Int} {y : Int} (hv : Valid act l y) {act' : List Int} (hp : l'.Perm l) (hs : SortedSeg act' 0 l'.length l') : ∀ i, 0 < i → i < l'.length → ltO act' (elt l' (i - 1)) (elt l' i) := by
  intro i h0 hi
  have h1 := hs (i - 1) i (by omega) (by omega) hi
  by_cases h2 : ltO act' (elt l' (i - 1)) (elt l' i)
  · exact h2
  · exfalso
    have e := leO_antisymm h2 h1
    have nd : l.Nodup := by
      rw [List.nodup_iff_pairwise_ne, List.pairwise_iff_getElem]
      intro p q hp hq hpq e2
      have := hv.sorted p q hpq hq
      rw [elt_lt hp, elt_lt hq, e2] at this
      exact ltO_irrefl _ _ this
    have nd' : l'.Nodup := hp.nodup_iff.2 nd
    rw [List.nodup_iff_pairwise_ne, List.pairwise_iff_getElem] at nd'
    refine nd' (i - 1) i (by omega) hi (by omega) ?_
    rw [elt_lt (by omega), elt_lt hi] at e
    exact e
theorem Valid.nodup {act l : List Int} {y : Int} (hv : Valid act l y) : l.Nodup := by
  rw [List.nodup_iff_pairwise_ne, List.pairwise_iff_getElem]
  intro p q hp hq hpq e2
  have := hv.sorted p q hpq hq
  rw [elt_lt hp, elt_lt hq, e2] at this
  exact ltO_irrefl _ _ this
theorem known_perm {act l l' : List Int} {y : Int} (hv : Valid act l y) (hp : l'.Perm l) {n : Nat} (hn : n = act.length) : ∀ i, i < l'.length → 0 < elt l' i ∧ elt l' i < n := by
  intro i hi
  rw [elt_lt hi, hn]
  have hm : l'[i] ∈ l := hp.mem_iff.1 (List.getElem_mem hi)
  obtain ⟨k, hk, e⟩ := List.getElem_of_mem hm
  have := hv.known k hk
  rw [elt_lt hk, e] at this
  exact this

/-- a rescaled heap with its queue sorted is valid -/
theorem scaled_valid {act l : List Int} {y : Int} (hv : Valid act l y) {a2 : List Int} {y2 : Int} (hl : a2.length = act.length) (hz : elt a2 0 = 0) (hm : Mid a2) (hy1 : 1 ≤ y2) (hy2 : y2 ≤ 4398046511104) {l' : List Int} (hp : l'.Perm l) (hs : SortedSeg (sclA a2 y2) 0 l'.length l') :
    Valid (sclA a2 y2) l' (sclY a2 y2) := by
  have hpos := hv.pos
  have hlen : (sclA a2 y2).length = act.length := by rw [sclA_len, hl]
  refine ⟨by omega, by have := hv.few; omega, ?_, fun k hk => ?_, ?_, ?_, known_perm hv hp hlen, perm_sorted_link hv hp hs⟩
  · unfold sclA; split
    · rw [elt_down _ _ (by omega), hz]; rfl
    · exact hz
  · have hk2 : k < a2.length := by rw [sclA_len] at hk; exact hk
    have := hm k hk2
    unfold sclA
    cases hb : bigB a2 y2
    · have := (big_no hb).2 k hk2
      simp; omega
    · simp only [if_true]; rw [elt_down _ _ hk2]; omega
  · unfold sclY; split <;> omega
  · unfold sclY
    cases hb : bigB a2 y2
    · have := (big_no hb).1; simp; omega
    · simp only [if_true]; omega

/-- Bump -/
theorem bump_valid {act l : List Int} {y : Int} (hv : Valid act l y) {v : Nat} (h0 : 0 < v) (h1 : v < act.length) {l' : List Int} (hp : l'.Perm l) (hs : SortedSeg (sclA (act.set v (elt act v + y)) y) 0 l'.length l') :
    Valid (sclA (act.set v (elt act v + y)) y) l' (sclY (act.set v (elt act v + y)) y) :=
  scaled_valid hv (by simp) (by rw [elt_set _ _ _ _ h1, if_neg (by omega)]; exact hv.zero) (hv.mid_set h1) hv.by1 (by have := hv.by2; omega) hp hs
theorem bump_small {act l : List Int} {y : Int} (hv : Valid act l y) {v : Nat} (h1 : v < act.length) (h : elt act v + y ≤ 1099511627776) : bigB (act.set v (elt act v + y)) y = false := by
  refine big_of hv.by2 (by simpa using hv.pos) fun k hk => ?_
  rw [List.length_set] at hk
  rw [elt_set _ _ _ _ h1]
  have := hv.rng k hk
  split <;> omega
theorem bump_great {act l : List Int} {y : Int} (hv : Valid act l y) {v : Nat} (h1 : v < act.length) (h : 1099511627776 < elt act v + y) : sclY (act.set v (elt act v + y)) y ≤ y := by
  have hb : bigB (act.set v (elt act v + y)) y = true := big_at (k := v) (by simpa using h1) (by rw [elt_set _ _ _ _ h1, if_pos rfl]; exact h)
  have := hv.by1
  simp only [sclY, hb, if_true]; omega

/-- Decay -/
theorem decay_valid {act l : List Int} {y : Int} (hv : Valid act l y) {l' : List Int} (hp : l'.Perm l) (hs : SortedSeg (sclA act (y + (y / 20 + 1))) 0 l'.length l') :
    Valid (sclA act (y + (y / 20 + 1))) l' (sclY act (y + (y / 20 + 1))) := by
  have := hv.by1
  have := hv.by2
  exact scaled_valid hv rfl hv.zero hv.mid (by omega) (by omega) hp hs
theorem decay_small {act l : List Int} {y : Int} (hv : Valid act l y) (h : y + (y / 20 + 1) ≤ 1099511627776) : bigB act (y + (y / 20 + 1)) = false :=
  big_of h hv.pos fun k hk => (hv.rng k hk).2
theorem decay_great {act l : List Int} {y : Int} (hv : Valid act l y) (h : 1099511627776 < y + (y / 20 + 1)) : sclY act (y + (y / 20 + 1)) ≤ y := by
  have hb : bigB act (y + (y / 20 + 1)) = true := big_y h
  have := hv.by1
  have := hv.by2
  simp only [sclY, hb, if_true]; omega

/-- the queue without v keeps its order -/
def others (l : List Int) (v : Int) : List Int := l.filter (fun x => decide (x ≠ v))
theorem others_cons (x : Int) (l : List Int) (v : Int) : others (x :: l) v = if x = v then others l v else x :: others l v := by
  by_cases h : x = v
  · simp [others, h]
  · simp [others, h]
theorem drop_cons {l : List Int} {k : Nat} (h : k < l.length) : l.drop k = elt l k :: l.drop (k + 1) := by
  rw [elt_lt h]; exact List.drop_eq_getElem_cons h
theorem pairwise_others {R S : Int → Int → Prop} {l : List Int} {v : Int} (h : l.Pairwise R) (hrs : ∀ a b, a ≠ v → b ≠ v → R a b → S a b) : (others l v).Pairwise S := by
  unfold others
  refine (h.filter _).imp_of_mem fun {a b} ha hb hr => ?_
  have ha' := (List.mem_filter.1 ha).2
  have hb' := (List.mem_filter.1 hb).2
  exact hrs a b (by simpa using ha') (by simpa using hb') hr
theorem ltO_set {act : List Int} {v : Nat} {x : Int} {a b : Int} (hv : v < act.length) (ha0 : 0 ≤ a) (hb0 : 0 ≤ b) (ha : a ≠ v) (hb : b ≠ v) : ltO (act.set v x) a b ↔ ltO act a b := by
  rw [ltO_iff, ltO_iff, elt_set _ _ _ _ hv, elt_set _ _ _ _ hv, if_neg (by omega), if_neg (by omega)]
theorem others_same {act l l' : List Int} {y x : Int} {v : Nat} (hv : Valid act l y) (h1 : v < act.length) (hp : l'.Perm l) (hs : SortedSeg (act.set v x) 0 l'.length l') : others l' v = others l v := by
  have hpf : (others l' v).Perm (others l v) := hp.filter _
  have s1 : (others l' v).Pairwise (fun a b => ¬ ltO act b a) := by
    unfold others
    refine ((SortedSeg.pairwise hs).filter _).imp_of_mem fun {a b} ha hb hr => ?_
    have ma := List.mem_filter.1 ha
    have mb := List.mem_filter.1 hb
    have ra := hv.dom a (hp.mem_iff.1 ma.1)
    have rb := hv.dom b (hp.mem_iff.1 mb.1)
    rw [ltO_set h1 rb.1 ra.1 (by simpa using mb.2) (by simpa using ma.2)] at hr
    exact hr
  have s2 : (others l v).Pairwise (fun a b => ¬ ltO act b a) := (SortedSeg.pairwise (sorted_of_valid hv)).filter _
  exact hpf.eq_of_pairwise (fun a b _ _ h1 h2 => leO_antisymm h2 h1) s1 s2

end Go.Proofs.Ythfadkilffmmlaa
