/-
  What tidy.Reduce keeps, in plain words: the short clauses, and the long ones of a rank below keep. No program in sight. No condition.
-/
import Derived.Test.YtalcnkoidmoibaaR1
namespace Go.Proofs.Ytalcnkoidmoibaa
open Go.Sort
set_option linter.unusedVariables false
set_option linter.unusedSimpArgs false

def longB (e : Lrn) : Bool := decide (2 < e.lv)
def aheadB (es : List Lrn) (i k : Nat) : Bool := decide (ordI es i k < 0)
/-- how many long clauses among the first k are ahead of i -/
def rankTo (es : List Lrn) (i k : Nat) : Nat := ((List.range k).filter fun j => longB (lrn es j) && aheadB es j i).length
def rank (es : List Lrn) (i : Nat) : Nat := rankTo es i es.length
def keptB (es : List Lrn) (keep : Int) (i : Nat) : Bool := !(longB (lrn es i)) || decide ((rank es i : Int) < keep)
def redTo (es : List Lrn) (keep : Int) (k : Nat) : List Lrn := ((List.range k).filter (keptB es keep)).map (lrn es)
def redL (es : List Lrn) (keep : Int) : List Lrn := redTo es keep es.length

theorem rankTo_succ (es : List Lrn) (i k : Nat) : rankTo es i (k + 1) = rankTo es i k + if (longB (lrn es k) && aheadB es k i) = true then 1 else 0 := by
  unfold rankTo
  rw [List.range_succ, List.filter_append, List.length_append]
  cases h : (longB (lrn es k) && aheadB es k i) <;> simp [h]
theorem rankTo_le (es : List Lrn) (i k : Nat) : rankTo es i k ≤ k := by
  unfold rankTo; exact Nat.le_trans (List.length_filter_le _ _) (by simp)
theorem redTo_succ (es : List Lrn) (keep : Int) (k : Nat) : redTo es keep (k + 1) = if keptB es keep k = true then redTo es keep k ++ [lrn es k] else redTo es keep k := by
  unfold redTo
  rw [List.range_succ, List.filter_append, List.map_append]
  cases h : keptB es keep k <;> simp [h]
theorem redTo_len (es : List Lrn) (keep : Int) (k : Nat) : (redTo es keep k).length ≤ k := by
  unfold redTo; rw [List.length_map]; exact Nat.le_trans (List.length_filter_le _ _) (by simp)

/-- in a list that ascends strictly, what lies behind the first m is what m others precede -/
theorem drop_rank {α : Type} {lt : α → α → Bool} (irr : ∀ a, lt a a = false) (asy : ∀ a b, lt a b = true → lt b a = false) {x : α} : ∀ (s : List α) (m : Nat), s.Pairwise (fun a b => lt a b = true) → x ∈ s → (x ∈ s.drop m ↔ m ≤ (s.filter fun y => lt y x).length)
  | [], m, _, h => by cases h
  | a :: s, m, hp, hx => by
    obtain ⟨h1, h2⟩ := List.pairwise_cons.1 hp
    rcases List.mem_cons.1 hx with e | e
    · subst e
      have h0 : ((x :: s).filter fun y => lt y x) = [] := by
        rw [List.filter_eq_nil_iff]
        intro b hb
        rcases List.mem_cons.1 hb with e | e
        · rw [e, irr]; simp
        · rw [asy _ _ (h1 b e)]; simp
      rw [h0]
      cases m with
      | zero => simp
      | succ m =>
        rw [List.drop_succ_cons]
        constructor
        · intro h
          have := h1 x (List.mem_of_mem_drop h)
          rw [irr] at this; cases this
        · intro h; simp at h
    · rw [List.filter_cons, if_pos (h1 x e)]
      cases m with
      | zero => simp [hx]
      | succ m =>
        rw [List.drop_succ_cons, drop_rank irr asy s m h2 e]
        simp

/-- the long places -/
def placesTo (es : List Lrn) (n k : Nat) (h : k ≤ n) : List (Pl n) := (List.range k).attach.filterMap fun i => if longB (lrn es i.1) = true then some ⟨i.1, by have := List.mem_range.1 i.2; omega⟩ else none

theorem mem_places {es : List Lrn} {n k : Nat} {h : k ≤ n} {i : Pl n} : i ∈ placesTo es n k h ↔ i.1 < k ∧ longB (lrn es i.1) = true := by
  unfold placesTo
  rw [List.mem_filterMap]
  constructor
  · rintro ⟨a, _, h2⟩
    split at h2
    · rename_i h3
      injection h2 with h2
      subst h2
      exact ⟨List.mem_range.1 a.2, h3⟩
    · cases h2
  · rintro ⟨h1, h2⟩
    exact ⟨⟨i.1, List.mem_range.2 h1⟩, by simp, by rw [if_pos h2]⟩

theorem places_vals (es : List Lrn) (n k : Nat) (h : k ≤ n) : (placesTo es n k h).map (·.1) = (List.range k).filter fun j => longB (lrn es j) := by
  unfold placesTo
  rw [List.map_filterMap]
  have : ∀ l : List Nat, ∀ (hl : ∀ i ∈ l, i < n), (l.attach.filterMap fun i => Option.map (fun x : Pl n => x.1) (if longB (lrn es i.1) = true then some ⟨i.1, hl i.1 i.2⟩ else none)) = l.filter fun j => longB (lrn es j) := by
    intro l hl
    rw [← List.filterMap_eq_filter]
    have h2 : l.filterMap (Option.guard fun j => longB (lrn es j)) = l.attach.filterMap fun i => Option.guard (fun j => longB (lrn es j)) i.1 := by
      conv => lhs; rw [← List.attach_map_subtype_val l]
      rw [List.filterMap_map]; rfl
    rw [h2]
    congr 1
    funext i
    unfold Option.guard
    split <;> rename_i h <;> simp [h]
  exact this (List.range k) (fun i hi => by have := List.mem_range.1 hi; omega)

theorem places_nodup (es : List Lrn) (n k : Nat) (h : k ≤ n) : (placesTo es n k h).Nodup := by
  have h1 : ((placesTo es n k h).map (·.1)).Nodup := by rw [places_vals]; exact List.nodup_range.filter _
  exact (List.pairwise_map.1 h1).imp fun hne e => hne (by rw [e])

def sortedP (es : List Lrn) (n : Nat) : List (Pl n) := (placesTo es n n (Nat.le_refl _)).mergeSort fun x y => !(ltOf (cfP es)) y x

theorem sortedP_up (es : List Lrn) (n : Nat) : (sortedP es n).Pairwise fun x y => ltOf (cfP es) x y = true := by
  have h : (sortedP es n).Pairwise fun x y => (!(ltOf (cfP es)) y x) = true := by
    refine List.pairwise_mergeSort ?_ ?_ _
    · intro a b c h1 h2
      simp only [Bool.not_eq_true'] at *
      exact (swoP es).ntrans c b a h2 h1
    · intro a b
      simp only [Bool.or_eq_true, Bool.not_eq_true']
      cases h1 : ltOf (cfP es) b a with
      | false => exact Or.inl rfl
      | true =>
        right
        cases h2 : ltOf (cfP es) a b with
        | false => rfl
        | true => have := (swoP es).trans _ _ _ h1 h2; rw [(swoP es).irrefl] at this; cases this
  have hnd : (sortedP es n).Nodup := (List.mergeSort_perm _ _).nodup_iff.2 (places_nodup es n n (Nat.le_refl _))
  refine (h.and hnd).imp ?_
  intro a b ⟨h1, h2⟩
  cases h3 : ltOf (cfP es) a b with
  | true => rfl
  | false => exact absurd (totP es a b h3 (by simpa using h1)) h2

theorem mem_sortedP {es : List Lrn} {n : Nat} {i : Pl n} : i ∈ sortedP es n ↔ longB (lrn es i.1) = true := by
  unfold sortedP
  rw [List.mem_mergeSort, mem_places]
  exact ⟨fun h => h.2, fun h => ⟨i.2, h⟩⟩

theorem rank_sorted (es : List Lrn) (n : Nat) (hn : es.length = n) (i : Pl n) : rank es i.1 = ((sortedP es n).filter fun y => ltOf (cfP es) y i).length := by
  have hp : (sortedP es n).Perm (placesTo es n n (Nat.le_refl _)) := List.mergeSort_perm _ _
  rw [(hp.filter _).length_eq]
  unfold rank rankTo
  rw [hn]
  have e : (fun j => longB (lrn es j) && aheadB es j i.1) = fun j => aheadB es j i.1 && longB (lrn es j) := by funext j; rw [Bool.and_comm]
  rw [e, ← List.filter_filter, ← places_vals es n n (Nat.le_refl _), List.filter_map, List.length_map]
  rfl

/-- how many of the sorted places stay -/
def stay (keep : Int) (L : Nat) : Nat := (min (max keep 0) (L : Int)).toNat
/-- what is gone -/
def goneL (es : List Lrn) (n : Nat) (keep : Int) : List Int := ((sortedP es n).map (fun i => (i.1 : Int))).drop (stay keep (sortedP es n).length)

theorem gone_iff (es : List Lrn) (n : Nat) (hn : es.length = n) (keep : Int) (i : Nat) (hi : i < n) : hasB (goneL es n keep) (i : Int) = !(keptB es keep i) := by
  have hm : hasB (goneL es n keep) (i : Int) = true ↔ (⟨i, hi⟩ : Pl n) ∈ (sortedP es n).drop (stay keep (sortedP es n).length) := by
    rw [hasB_iff]
    unfold goneL
    rw [← List.map_drop, List.mem_map]
    constructor
    · rintro ⟨a, ha, e⟩
      have : a = ⟨i, hi⟩ := Subtype.ext (by have : (a.1 : Int) = (i : Int) := e; show a.1 = i; omega)
      rw [← this]; exact ha
    · intro h; exact ⟨_, h, rfl⟩
  have hk : keptB es keep i = true ↔ ¬ (⟨i, hi⟩ : Pl n) ∈ (sortedP es n).drop (stay keep (sortedP es n).length) := by
    by_cases hl : longB (lrn es i) = true
    · have hin : (⟨i, hi⟩ : Pl n) ∈ sortedP es n := mem_sortedP.2 hl
      have hasy : ∀ a b : Pl n, ltOf (cfP es) a b = true → ltOf (cfP es) b a = false := by
        intro a b h1
        cases h2 : ltOf (cfP es) b a with
        | false => rfl
        | true => have := (swoP es).trans _ _ _ h1 h2; rw [(swoP es).irrefl] at this; cases this
      rw [drop_rank (swoP es).irrefl hasy (sortedP es n) _ (sortedP_up es n) hin, ← rank_sorted es n hn ⟨i, hi⟩]
      unfold keptB
      rw [hl]
      simp only [Bool.not_true, Bool.false_or, decide_eq_true_eq]
      have hlt : rank es i < (sortedP es n).length := by
        rw [rank_sorted es n hn ⟨i, hi⟩]
        refine Nat.lt_of_le_of_ne (List.length_filter_le _ _) fun e => ?_
        have := (List.length_filter_eq_length_iff.1 e) _ hin
        rw [(swoP es).irrefl] at this; cases this
      unfold stay
      omega
    · have h0 : keptB es keep i = true := by unfold keptB; simp at hl; rw [hl]; rfl
      refine ⟨fun _ hin => hl (mem_sortedP.1 (List.mem_of_mem_drop hin)), fun _ => h0⟩
  cases h1 : keptB es keep i with
  | true =>
    cases h2 : hasB (goneL es n keep) (i : Int) with
    | false => rfl
    | true => exact absurd (hm.1 h2) (hk.1 h1)
  | false =>
    cases h2 : hasB (goneL es n keep) (i : Int) with
    | true => rfl
    | false =>
      have : ¬ (⟨i, hi⟩ : Pl n) ∈ (sortedP es n).drop (stay keep (sortedP es n).length) := fun h => by rw [hm.2 h] at h2; cases h2
      rw [hk.2 this] at h1; cases h1

end Go.Proofs.Ytalcnkoidmoibaa
