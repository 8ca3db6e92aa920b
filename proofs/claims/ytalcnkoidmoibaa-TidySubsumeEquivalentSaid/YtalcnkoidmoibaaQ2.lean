/-
  How many clauses tidy.Reduce keeps, and that none that is dropped is more active. No program in sight. No condition.
-/
import Derived.Test.YtalcnkoidmoibaaQ1
namespace Go.Proofs.Ytalcnkoidmoibaa
open Go.Sort
set_option linter.unusedVariables false
set_option linter.unusedSimpArgs false

theorem map_lrn (es : List Lrn) : (List.range es.length).map (lrn es) = es := by
  apply List.ext_getElem
  · simp
  · intro i h1 h2
    rw [List.getElem_map, List.getElem_range, lrn_lt h2]

def lgs (es : List Lrn) : Nat := (es.filter longB).length
def shs (es : List Lrn) : Nat := (es.filter fun e => !(longB e)).length

theorem count_at (es : List Lrn) (p : Lrn → Bool) : ((List.range es.length).filter fun i => p (lrn es i)).length = (es.filter p).length := by
  conv => rhs; rw [← map_lrn es]
  rw [List.filter_map, List.length_map]
  rfl

theorem sortedP_len (es : List Lrn) (n : Nat) (hn : es.length = n) : (sortedP es n).length = lgs es := by
  unfold sortedP lgs
  rw [List.length_mergeSort, ← count_at, hn, ← places_vals es n n (Nat.le_refl _), List.length_map]

theorem stay_le (keep : Int) (L : Nat) : stay keep L ≤ L := by unfold stay; omega

theorem mem_drop_kept (es : List Lrn) (n : Nat) (hn : es.length = n) (keep : Int) (i : Pl n) : i ∈ (sortedP es n).drop (stay keep (sortedP es n).length) ↔ keptB es keep i.1 = false := by
  have h := gone_iff es n hn keep i.1 i.2
  have hm : hasB (goneL es n keep) (i.1 : Int) = true ↔ i ∈ (sortedP es n).drop (stay keep (sortedP es n).length) := by
    rw [hasB_iff]
    unfold goneL
    rw [← List.map_drop, List.mem_map]
    constructor
    · rintro ⟨a, ha, e⟩
      have : a = i := Subtype.ext (by have : (a.1 : Int) = (i.1 : Int) := e; omega)
      rw [← this]; exact ha
    · intro h; exact ⟨_, h, rfl⟩
  rw [← hm, h]
  simp

theorem kept_longs (es : List Lrn) (keep : Int) : ((List.range es.length).filter fun i => longB (lrn es i) && keptB es keep i).length = stay keep (lgs es) := by
  obtain ⟨n, hn⟩ : ∃ n, es.length = n := ⟨_, rfl⟩
  have e : (fun i => longB (lrn es i) && keptB es keep i) = fun i => keptB es keep i && longB (lrn es i) := by funext j; rw [Bool.and_comm]
  rw [hn, e, ← List.filter_filter, ← places_vals es n n (Nat.le_refl _), List.filter_map, List.length_map]
  have hp : (sortedP es n).Perm (placesTo es n n (Nat.le_refl _)) := List.mergeSort_perm _ _
  rw [← (hp.filter _).length_eq, ← sortedP_len es n hn]
  have hs := stay_le keep (sortedP es n).length
  have hnd : (sortedP es n).Nodup := (List.mergeSort_perm _ _).nodup_iff.2 (places_nodup es n n (Nat.le_refl _))
  have h1 : ((sortedP es n).take (stay keep (sortedP es n).length)).filter ((fun i => keptB es keep i) ∘ fun x => x.1) = (sortedP es n).take (stay keep (sortedP es n).length) := by
    rw [List.filter_eq_self]
    intro a ha
    show keptB es keep a.1 = true
    cases hk : keptB es keep a.1 with
    | true => rfl
    | false =>
      have hd := (mem_drop_kept es n hn keep a).2 hk
      rw [← List.take_append_drop (stay keep (sortedP es n).length) (sortedP es n)] at hnd
      exact absurd rfl ((List.pairwise_append.1 hnd).2.2 a ha a hd)
  have h2 : ((sortedP es n).drop (stay keep (sortedP es n).length)).filter ((fun i => keptB es keep i) ∘ fun x => x.1) = [] := by
    rw [List.filter_eq_nil_iff]
    intro a ha
    show ¬ keptB es keep a.1 = true
    rw [(mem_drop_kept es n hn keep a).1 ha]; simp
  have h3 := List.take_append_drop (stay keep (sortedP es n).length) (sortedP es n)
  have h4 : (sortedP es n).filter ((fun i => keptB es keep i) ∘ fun x => x.1) = (sortedP es n).take (stay keep (sortedP es n).length) := by
    conv => lhs; rw [← h3]
    rw [List.filter_append, h1, h2, List.append_nil]
  rw [h4, List.length_take]
  omega

theorem redL_lgs (es : List Lrn) (keep : Int) : lgs (redL es keep) = stay keep (lgs es) := by
  rw [← kept_longs]
  unfold lgs redL redTo
  rw [List.filter_map, List.length_map, List.filter_filter]
  rfl

theorem redL_shs (es : List Lrn) (keep : Int) : shs (redL es keep) = shs es := by
  unfold shs redL redTo
  rw [List.filter_map, List.length_map, List.filter_filter, ← count_at]
  congr 2
  funext i
  unfold keptB
  show (!(longB (lrn es i)) && _) = _
  cases longB (lrn es i) <;> simp

theorem parts_len (es : List Lrn) : es.length = shs es + lgs es := by
  unfold shs lgs
  induction es with
  | nil => rfl
  | cons e es ih => cases h : longB e <;> simp [List.filter_cons, h] <;> omega

theorem redL_len (es : List Lrn) (keep : Int) : (redL es keep).length = shs es + stay keep (lgs es) := by
  rw [parts_len, redL_shs, redL_lgs]

theorem redL_again (es : List Lrn) (keep : Int) : (redL (redL es keep) keep).length = (redL es keep).length := by
  rw [redL_len, redL_shs, redL_lgs, redL_len]
  unfold stay
  omega

theorem rank_mono (es : List Lrn) (i j : Nat) (h : aheadB es i j = true) : rank es i ≤ rank es j := by
  unfold rank rankTo
  have hsub : ∀ l : List Nat, (l.filter fun k => longB (lrn es k) && aheadB es k i).length ≤ (l.filter fun k => longB (lrn es k) && aheadB es k j).length := by
    intro l
    induction l with
    | nil => simp
    | cons k l ih =>
      rw [List.filter_cons, List.filter_cons]
      have : (longB (lrn es k) && aheadB es k i) = true → (longB (lrn es k) && aheadB es k j) = true := by
        intro hk
        rw [Bool.and_eq_true] at hk ⊢
        refine ⟨hk.1, ?_⟩
        have h1 := hk.2
        unfold aheadB at *
        rw [decide_eq_true_eq, ordI_neg] at *
        omega
      by_cases h1 : (longB (lrn es k) && aheadB es k i) = true
      · rw [if_pos h1, if_pos (this h1)]; simpa using ih
      · rw [if_neg h1]
        split <;> simp <;> omega
  exact hsub _

/-- no dropped clause is more active than a kept one -/
theorem kept_act (es : List Lrn) (keep : Int) (i j : Nat) (hi : keptB es keep i = false) (hj : keptB es keep j = true) (hl : longB (lrn es j) = true) : (lrn es i).act ≤ (lrn es j).act := by
  have h1 : ¬ aheadB es i j = true := by
    intro h
    have := rank_mono es i j h
    unfold keptB at hi hj
    rw [hl] at hj
    simp at hi hj
    omega
  unfold aheadB at h1
  rw [decide_eq_true_eq, ordI_neg] at h1
  omega

theorem mem_redL {es : List Lrn} {keep : Int} {e : Lrn} : e ∈ redL es keep ↔ ∃ i, i < es.length ∧ keptB es keep i = true ∧ lrn es i = e := by
  unfold redL redTo
  rw [List.mem_map]
  constructor
  · rintro ⟨i, hi, h⟩
    rw [List.mem_filter, List.mem_range] at hi
    exact ⟨i, hi.1, hi.2, h⟩
  · rintro ⟨i, h1, h2, h3⟩
    exact ⟨i, List.mem_filter.2 ⟨List.mem_range.2 h1, h2⟩, h3⟩

end Go.Proofs.Ytalcnkoidmoibaa
