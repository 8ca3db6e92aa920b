/-
  What tidy.Reduce keeps, in plain words: the short clauses, and the long ones of a rank below keep. No program in sight. No condition.
  How many clauses tidy.Reduce keeps, and that none that is dropped is more active. No program in sight. No condition.
  tidy.Reduce. No condition.
  The last step of a row where the call leaves a world of which 'Below' alone is known. No condition.
-/
import Derived.Test.YtalcnkoidmoibaaZA7
import Derived.Deep.DeepAppendWide
import Derived.Below
import Derived.ChangeSame
import Derived.ProofKit

namespace Go.Proofs.Ytalcnkoidmoibaa
open Go.Sort
set_option linter.unusedVariables false
set_option linter.unusedSimpArgs false

def longB (e : Lrn) : Bool := decide (2 < e.lv)
def aheadB (es : List Lrn) (i k : Nat) : Bool := decide (ordI es i k < 0)
/-- how many long clauses among the first k are ahead of i -/
def rankTo (es : List Lrn) (i k : Nat) : Nat := ((List.range k).filter fun j => longB (lrn es j) && aheadB es j i).length
def rank (es : List Lrn) (i : Nat) : Nat := rankTo es i es.length
def keptB (es : List Lrn) (keep : Int) (i : Nat) : Bool := !(longB (lrn es i)) || decide ((rank es i : Int) < keep)
def redTo (es : List Lrn) (keep : Int) (k : Nat) : List Lrn := ((List.range k).filter (keptB es keep)).map (lrn es)
def redL (es : List Lrn) (keep : Int) : List Lrn := redTo es keep es.length

theorem rankTo_succ (es : List Lrn) (i k : Nat) : rankTo es i (k + 1) = rankTo es i k + if (longB (lrn es k) && aheadB es k i) = true then 1 else 0 := by
  unfold rankTo
  rw [List.range_succ, List.filter_append, List.length_append]
  cases h : (longB (lrn es k) && aheadB es k i) <;> simp [h]
theorem rankTo_le (es : List Lrn) (i k : Nat) : rankTo es i k ≤ k := by
  unfold rankTo; exact Nat.le_trans (List.length_filter_le _ _) (by simp)
theorem redTo_succ (es : List Lrn) (keep : Int) (k : Nat) : redTo es keep (k + 1) = if keptB es keep k = true then redTo es keep k ++ [lrn es k] else redTo es keep k := by
  unfold redTo
  rw [List.range_succ, List.filter_append, List.map_append]
  cases h : keptB es keep k <;> simp [h]
theorem redTo_len (es : List Lrn) (keep : Int) (k : Nat) : (redTo es keep k).length ≤ k := by
  unfold redTo; rw [List.length_map]; exact Nat.le_trans (List.length_filter_le _ _) (by simp)

/-- in a list that ascends strictly, what lies behind the first m is what m others precede -/
theorem drop_rank {α : Type} {lt : α → α → Bool} (irr : ∀ a, lt a a = false) (asy : ∀ a b, lt a b = true → lt b a = false) {x : α} : ∀ (s : List α) (m : Nat), s.Pairwise (fun a b => lt a b = true) → x ∈ s → (x ∈ s.drop m ↔ m ≤ (s.filter fun y => lt y x).length)
  | [], m, _, h => by cases h
  | a :: s, m, hp, hx => by
    obtain ⟨h1, h2⟩ := List.pairwise_cons.1 hp
    rcases List.mem_cons.1 hx with e | e
    · subst e
      have h0 : ((x :: s).filter fun y => lt y x) = [] := by
        rw [List.filter_eq_nil_iff]
        intro b hb
        rcases List.mem_cons.1 hb with e | e
        · rw [e, irr]; simp
        · rw [asy _ _ (h1 b e)]; simp
      rw [h0]
      cases m with
      | zero => simp
      | succ m =>
        rw [List.drop_succ_cons]
        constructor
        · intro h
          have := h1 x (List.mem_of_mem_drop h)
          rw [irr] at this; cases this
        · intro h; simp at h
    · rw [List.filter_cons, if_pos (h1 x e)]
      cases m with
      | zero => simp [hx]
      | succ m =>
        rw [List.drop_succ_cons, drop_rank irr asy s m h2 e]
        simp

/-- the long places -/
def placesTo (es : List Lrn) (n k : Nat) (h : k ≤ n) : List (Pl n) := (List.range k).attach.filterMap fun i => if longB (lrn es i.1) = true then some ⟨i.1, by have := List.mem_range.1 i.2; omega⟩ else none

theorem mem_places {es : List Lrn} {n k : Nat} {h : k ≤ n} {i : Pl n} : i ∈ placesTo es n k h ↔ i.1 < k ∧ longB (lrn es i.1) = true := by
  unfold placesTo
  rw [List.mem_filterMap]
  constructor
  · rintro ⟨a, _, h2⟩
    split at h2
    · rename_i h3
      injection h2 with h2
      subst h2
      exact ⟨List.mem_range.1 a.2, h3⟩
    · cases h2
  · rintro ⟨h1, h2⟩
    exact ⟨⟨i.1, List.mem_range.2 h1⟩, by simp, by rw [if_pos h2]⟩

theorem places_vals (es : List Lrn) (n k : Nat) (h : k ≤ n) : (placesTo es n k h).map (·.1) = (List.range k).filter fun j => longB (lrn es j) := by
  unfold placesTo
  rw [List.map_filterMap]
  have : ∀ l : List Nat, ∀ (hl : ∀ i ∈ l, i < n), (l.attach.filterMap fun i => Option.map (fun x : Pl n => x.1) (if longB (lrn es i.1) = true then some ⟨i.1, hl i.1 i.2⟩ else none)) = l.filter fun j => longB (lrn es j) := by
    intro l hl
    rw [← List.filterMap_eq_filter]
    have h2 : l.filterMap (Option.guard fun j => longB (lrn es j)) = l.attach.filterMap fun i => Option.guard (fun j => longB (lrn es j)) i.1 := by
      conv => lhs; rw [← List.attach_map_subtype_val l]
      rw [List.filterMap_map]; rfl
    rw [h2]
    congr 1
    funext i
    unfold Option.guard
    split <;> rename_i h <;> simp [h]
  exact this (List.range k) (fun i hi => by have := List.mem_range.1 hi; omega)

theorem places_nodup (es : List Lrn) (n k : Nat) (h : k ≤ n) : (placesTo es n k h).Nodup := by
  have h1 : ((placesTo es n k h).map (·.1)).Nodup := by rw [places_vals]; exact List.nodup_range.filter _
  exact (List.pairwise_map.1 h1).imp fun hne e => hne (by rw [e])

def sortedP (es : List Lrn) (n : Nat) : List (Pl n) := (placesTo es n n (Nat.le_refl _)).mergeSort fun x y => !(ltOf (cfP es)) y x

theorem sortedP_up (es : List Lrn) (n : Nat) : (sortedP es n).Pairwise fun x y => ltOf (cfP es) x y = true := by
  have h : (sortedP es n).Pairwise fun x y => (!(ltOf (cfP es)) y x) = true := by
    refine List.pairwise_mergeSort ?_ ?_ _
    · intro a b c h1 h2
      simp only [Bool.not_eq_true'] at *
      exact (swoP es).ntrans c b a h2 h1
    · intro a b
      simp only [Bool.or_eq_true, Bool.not_eq_true']
      cases h1 : ltOf (cfP es) b a with
      | false => exact Or.inl rfl
      | true =>
        right
        cases h2 : ltOf (cfP es) a b with
        | false => rfl
        | true => have := (swoP es).trans _ _ _ h1 h2; rw [(swoP es).irrefl] at this; cases this
  have hnd : (sortedP es n).Nodup := (List.mergeSort_perm _ _).nodup_iff.2 (places_nodup es n n (Nat.le_refl _))
  refine (h.and hnd).imp ?_
  intro a b ⟨h1, h2⟩
  cases h3 : ltOf (cfP es) a b with
  | true => rfl
  | false => exact absurd (totP es a b h3 (by simpa using h1)) h2

theorem mem_sortedP {es : List Lrn} {n : Nat} {i : Pl n} : i ∈ sortedP es n ↔ longB (lrn es i.1) = true := by
  unfold sortedP
  rw [List.mem_mergeSort, mem_places]
  exact ⟨fun h => h.2, fun h => ⟨i.2, h⟩⟩

theorem rank_sorted (es : List Lrn) (n : Nat) (hn : es.length = n) (i : Pl n) : rank es i.1 = ((sortedP es n).filter fun y => ltOf (cfP es) y i).length := by
  have hp : (sortedP es n).Perm (placesTo es n n (Nat.le_refl _)) := List.mergeSort_perm _ _
  rw [(hp.filter _).length_eq]
  unfold rank rankTo
  rw [hn]
  have e : (fun j => longB (lrn es j) && aheadB es j i.1) = fun j => aheadB es j i.1 && longB (lrn es j) := by funext j; rw [Bool.and_comm]
  rw [e, ← List.filter_filter, ← places_vals es n n (Nat.le_refl _), List.filter_map, List.length_map]
  rfl

/-- how many of the sorted places stay -/
def stay (keep : Int) (L : Nat) : Nat := (min (max keep 0) (L : Int)).toNat
/-- what is gone -/
def goneL (es : List Lrn) (n : Nat) (keep : Int) : List Int := ((sortedP es n).map (fun i => (i.1 : Int))).drop (stay keep (sortedP es n).length)

theorem gone_iff (es : List Lrn) (n : Nat) (hn : es.length = n) (keep : Int) (i : Nat) (hi : i < n) : hasB (goneL es n keep) (i : Int) = !(keptB es keep i) := by
  have hm : hasB (goneL es n keep) (i : Int) = true ↔ (⟨i, hi⟩ : Pl n) ∈ (sortedP es n).drop (stay keep (sortedP es n).length) := by
    rw [hasB_iff]
    unfold goneL
    rw [← List.map_drop, List.mem_map]
    constructor
    · rintro ⟨a, ha, e⟩
      have : a = ⟨i, hi⟩ := Subtype.ext (by have : (a.1 : Int) = (i : Int) := e; show a.1 = i; omega)
      rw [← this]; exact ha
    · intro h; exact ⟨_, h, rfl⟩
  have hk : keptB es keep i = true ↔ ¬ (⟨i, hi⟩ : Pl n) ∈ (sortedP es n).drop (stay keep (sortedP es n).length) := by
    by_cases hl : longB (lrn es i) = true
    · have hin : (⟨i, hi⟩ : Pl n) ∈ sortedP es n := mem_sortedP.2 hl
      have hasy : ∀ a b : Pl n, ltOf (cfP es) a b = true → ltOf (cfP es) b a = false := by
        intro a b h1
        cases h2 : ltOf (cfP es) b a with
        | false => rfl
        | true => have := (swoP es).trans _ _ _ h1 h2; rw [(swoP es).irrefl] at this; cases this
      rw [drop_rank (swoP es).irrefl hasy (sortedP es n) _ (sortedP_up es n) hin, ← rank_sorted es n hn ⟨i, hi⟩]
      unfold keptB
      rw [hl]
      simp only [Bool.not_true, Bool.false_or, decide_eq_true_eq]
      have hlt : rank es i < (sortedP es n).length := by
        rw [rank_sorted es n hn ⟨i, hi⟩]
        refine Nat.lt_of_le_of_ne (List.length_filter_le _ _) fun e => ?_
        have := (List.length_filter_eq_length_iff.1 e) _ hin
        rw [(swoP es).irrefl] at this; cases this
      unfold stay
      omega
    · have h0 : keptB es keep i = true := by unfold keptB; simp at hl; rw [hl]; rfl
      refine ⟨fun _ hin => hl (mem_sortedP.1 (List.mem_of_mem_drop hin)), fun _ => h0⟩
  cases h1 : keptB es keep i with
  | true =>
    cases h2 : hasB (goneL es n keep) (i : Int) with
    | false => rfl
    | true => exact absurd (hm.1 h2) (hk.1 h1)
  | false =>
    cases h2 : hasB (goneL es n keep) (i : Int) with
    | true => rfl
    | false =>
      have : ¬ (⟨i, hi⟩ : Pl n) ∈ (sortedP es n).drop (stay keep (sortedP es n).length) := fun h => by rw [hm.2 h] at h2; cases h2
      rw [hk.2 this] at h1; cases h1

end Go.Proofs.Ytalcnkoidmoibaa

namespace Go.Proofs.Ytalcnkoidmoibaa
open Go.Sort
set_option linter.unusedVariables false
set_option linter.unusedSimpArgs false

theorem map_lrn (es : List Lrn) : (List.range es.length).map (lrn es) = es := by
  apply List.ext_getElem
  · simp
  · intro i h1 h2
    rw [List.getElem_map, List.getElem_range, lrn_lt h2]

def lgs (es : List Lrn) : Nat := (es.filter longB).length
def shs (es : List Lrn) : Nat := (es.filter fun e => !(longB e)).length

theorem count_at (es : List Lrn) (p : Lrn → Bool) : ((List.range es.length).filter fun i => p (lrn es i)).length = (es.filter p).length := by
  conv => rhs; rw [← map_lrn es]
  rw [List.filter_map, List.length_map]
  rfl

theorem sortedP_len (es : List Lrn) (n : Nat) (hn : es.length = n) : (sortedP es n).length = lgs es := by
  unfold sortedP lgs
  rw [List.length_mergeSort, ← count_at, hn, ← places_vals es n n (Nat.le_refl _), List.length_map]

theorem stay_le (keep : Int) (L : Nat) : stay keep L ≤ L := by unfold stay; omega

theorem mem_drop_kept (es : List Lrn) (n : Nat) (hn : es.length = n) (keep : Int) (i : Pl n) : i ∈ (sortedP es n).drop (stay keep (sortedP es n).length) ↔ keptB es keep i.1 = false := by
  have h := gone_iff es n hn keep i.1 i.2
  have hm : hasB (goneL es n keep) (i.1 : Int) = true ↔ i ∈ (sortedP es n).drop (stay keep (sortedP es n).length) := by
    rw [hasB_iff]
    unfold goneL
    rw [← List.map_drop, List.mem_map]
    constructor
    · rintro ⟨a, ha, e⟩
      have : a = i := Subtype.ext (by have : (a.1 : Int) = (i.1 : Int) := e; omega)
      rw [← this]; exact ha
    · intro h; exact ⟨_, h, rfl⟩
  rw [← hm, h]
  simp

theorem kept_longs (es : List Lrn) (keep : Int) : ((List.range es.length).filter fun i => longB (lrn es i) && keptB es keep i).length = stay keep (lgs es) := by
  obtain ⟨n, hn⟩ : ∃ n, es.length = n := ⟨_, rfl⟩
  have e : (fun i => longB (lrn es i) && keptB es keep i) = fun i => keptB es keep i && longB (lrn es i) := by funext j; rw [Bool.and_comm]
  rw [hn, e, ← List.filter_filter, ← places_vals es n n (Nat.le_refl _), List.filter_map, List.length_map]
  have hp : (sortedP es n).Perm (placesTo es n n (Nat.le_refl _)) := List.mergeSort_perm _ _
  rw [← (hp.filter _).length_eq, ← sortedP_len es n hn]
  have hs := stay_le keep (sortedP es n).length
  have hnd : (sortedP es n).Nodup := (List.mergeSort_perm _ _).nodup_iff.2 (places_nodup es n n (Nat.le_refl _))
  have h1 : ((sortedP es n).take (stay keep (sortedP es n).length)).filter ((fun i => keptB es keep i) ∘ fun x => x.1) = (sortedP es n).take (stay keep (sortedP es n).length) := by
    rw [List.filter_eq_self]
    intro a ha
    show keptB es keep a.1 = true
    cases hk : keptB es keep a.1 with
    | true => rfl
    | false =>
      have hd := (mem_drop_kept es n hn keep a).2 hk
      rw [← List.take_append_drop (stay keep (sortedP es n).length) (sortedP es n)] at hnd
      exact absurd rfl ((List.pairwise_append.1 hnd).2.2 a ha a hd)
  have h2 : ((sortedP es n).drop (stay keep (sortedP es n).length)).filter ((fun i => keptB es keep i) ∘ fun x => x.1) = [] := by
    rw [List.filter_eq_nil_iff]
    intro a ha
    show ¬ keptB es keep a.1 = true
    rw [(mem_drop_kept es n hn keep a).1 ha]; simp
  have h3 := List.take_append_drop (stay keep (sortedP es n).length) (sortedP es n)
  have h4 : (sortedP es n).filter ((fun i => keptB es keep i) ∘ fun x => x.1) = (sortedP es n).take (stay keep (sortedP es n).length) := by
    conv => lhs; rw [← h3]
    rw [List.filter_append, h1, h2, List.append_nil]
  rw [h4, List.length_take]
  omega

theorem redL_lgs (es : List Lrn) (keep : Int) : lgs (redL es keep) = stay keep (lgs es) := by
  rw [← kept_longs]
  unfold lgs redL redTo
  rw [List.filter_map, List.length_map, List.filter_filter]
  rfl

theorem redL_shs (es : List Lrn) (keep : Int) : shs (redL es keep) = shs es := by
  unfold shs redL redTo
  rw [List.filter_map, List.length_map, List.filter_filter, ← count_at]
  congr 2
  funext i
  unfold keptB
  show (!(longB (lrn es i)) && _) = _
  cases longB (lrn es i) <;> simp

theorem parts_len (es : List Lrn) : es.length = shs es + lgs es := by
  unfold shs lgs
  induction es with
  | nil => rfl
  | cons e es ih => cases h : longB e <;> simp [List.filter_cons, h] <;> omega

theorem redL_len (es : List Lrn) (keep : Int) : (redL es keep).length = shs es + stay keep (lgs es) := by
  rw [parts_len, redL_shs, redL_lgs]

theorem redL_again (es : List Lrn) (keep : Int) : (redL (redL es keep) keep).length = (redL es keep).length := by
  rw [redL_len, redL_shs, redL_lgs, redL_len]
  unfold stay
  omega

theorem rank_mono (es : List Lrn) (i j : Nat) (h : aheadB es i j = true) : rank es i ≤ rank es j := by
  unfold rank rankTo
  have hsub : ∀ l : List Nat, (l.filter fun k => longB (lrn es k) && aheadB es k i).length ≤ (l.filter fun k => longB (lrn es k) && aheadB es k j).length := by
    intro l
    induction l with
    | nil => simp
    | cons k l ih =>
      rw [List.filter_cons, List.filter_cons]
      have : (longB (lrn es k) && aheadB es k i) = true → (longB (lrn es k) && aheadB es k j) = true := by
        intro hk
        rw [Bool.and_eq_true] at hk ⊢
        refine ⟨hk.1, ?_⟩
        have h1 := hk.2
        unfold aheadB at *
        rw [decide_eq_true_eq, ordI_neg] at *
        omega
      by_cases h1 : (longB (lrn es k) && aheadB es k i) = true
      · rw [if_pos h1, if_pos (this h1)]; simpa using ih
      · rw [if_neg h1]
        split <;> simp <;> omega
  exact hsub _

/-- no dropped clause is more active than a kept one -/
theorem kept_act (es : List Lrn) (keep : Int) (i j : Nat) (hi : keptB es keep i = false) (hj : keptB es keep j = true) (hl : longB (lrn es j) = true) : (lrn es i).act ≤ (lrn es j).act := by
  have h1 : ¬ aheadB es i j = true := by
    intro h
    have := rank_mono es i j h
    unfold keptB at hi hj
    rw [hl] at hj
    simp at hi hj
    omega
  unfold aheadB at h1
  rw [decide_eq_true_eq, ordI_neg] at h1
  omega

theorem mem_redL {es : List Lrn} {keep : Int} {e : Lrn} : e ∈ redL es keep ↔ ∃ i, i < es.length ∧ keptB es keep i = true ∧ lrn es i = e := by
  unfold redL redTo
  rw [List.mem_map]
  constructor
  · rintro ⟨i, hi, h⟩
    rw [List.mem_filter, List.mem_range] at hi
    exact ⟨i, hi.1, hi.2, h⟩
  · rintro ⟨i, h1, h2, h3⟩
    exact ⟨i, List.mem_filter.2 ⟨List.mem_range.2 h1, h2⟩, h3⟩

end Go.Proofs.Ytalcnkoidmoibaa

namespace Go.Proofs.Ytalcnkoidmoibaa
open Go.RowKit Go.Shelf Go.Sort Go.Lib
set_option linter.unusedVariables false
set_option linter.unusedSimpArgs false

theorem infoLrn : (Try.prog.info? 44).map (fun i => (i.zero, i.size, i.bytes)) = some (some (.agg #[.slice none 0 0, .int .i64 0, .int .i64 0]), 3, 40) := by kernel_rfl

def cellsE (es : List Lrn) : List Value := es.flatMap fun e => [rowV e.r, .int .i64 e.lv, .int .i64 e.act]
theorem cellsE_snoc (es : List Lrn) (e : Lrn) : cellsE (es ++ [e]) = cellsE es ++ [rowV e.r, .int .i64 e.lv, .int .i64 e.act] := by simp [cellsE]
theorem cellsE_at : ∀ (es : List Lrn) (j : Nat), j < es.length → (cellsE es)[j * 3]? = some (rowV (lrn es j).r) ∧ (cellsE es)[j * 3 + 1]? = some (.int .i64 (lrn es j).lv) ∧ (cellsE es)[j * 3 + 2]? = some (.int .i64 (lrn es j).act)
  | [], j, h => by simp at h
  | e :: es, 0, h => ⟨rfl, rfl, rfl⟩
  | e :: es, j + 1, h => by
    have := cellsE_at es j (by simpa using h)
    have e3 : (j + 1) * 3 = j * 3 + 1 + 1 + 1 := by omega
    rw [e3]
    exact this

theorem RE.of_own {w : World} {base : Nat} {A : Option Addr} {n c : Nat} {es : List Lrn} (h : w.ownsRow base 44 3 (.slice A n c) n (cellsE es)) (hl : es.length = n) (hi : ∀ e ∈ es, RI w e.r.A e.r.n e.r.c e.r.zs) (hbig : n * 40 ≤ 140737488355328) : RE w A n c es := by
  obtain ⟨h1, h2⟩ := h
  rcases h2 with ⟨hv, hn⟩ | ⟨g, cap, cur, hv, hg, hh, hnc, hcm, hcs, htk⟩
  · simp only [Value.slice.injEq] at hv
    obtain ⟨rfl, _, rfl⟩ := hv
    subst hn
    exact ⟨hl, Nat.le_refl _, hbig, Nat.zero_le _, fun h => absurd h (by omega)⟩
  · simp only [Value.slice.injEq] at hv
    obtain ⟨rfl, _, rfl⟩ := hv
    refine ⟨hl, hnc, hbig, hcm, fun hn => ⟨g, 0, rfl, ?_, fun j hj => ?_⟩⟩
    · rcases Nat.lt_or_ge g w.heap.size with hlt | hge
      · exact hlt
      · rw [Array.getElem?_eq_none hge] at hh; cases hh
    · have hj' : j < es.length := by omega
      have e : ∀ k, k < n * 3 → cur[k]? = (cellsE es)[k]? := fun k hk => by
        rw [← htk, List.getElem?_take_of_lt hk, Array.getElem?_toList]
      obtain ⟨e0, e1, e2⟩ := cellsE_at es j hj'
      refine ⟨?_, ?_, ?_, hi _ (by rw [lrn_lt hj']; exact List.getElem_mem hj')⟩
      · simp [World.cell?, hh, e _ (by omega : j * 3 < n * 3), e0]
      · simp [World.cell?, hh, e _ (by omega : j * 3 + 1 < n * 3), e1]
      · simp [World.cell?, hh, e _ (by omega : j * 3 + 2 < n * 3), e2]

theorem cell_new_at (w : World) (v : Value) (t : TypeId) (s : Nat) (h : s = w.heap.size) : ∀ j u, [v][j]? = some u → (w.alloc (.cells #[v] t)).cell? ((⟨s, 0, none⟩ : Addr).add j) = some u := by
  subst h; exact cell_one_new _ _ _

theorem three_cell {W : World} {B : Nat} {u v x : Value} {t : TypeId} (h : W.heap[B]? = some (.cells #[u, v, x] t (0, 0))) : ∀ j y, [u, v, x][j]? = some y → W.cell? ((⟨B, 0, none⟩ : Addr).add j) = some y
  | 0, y, hj => by simp at hj; subst hj; simp [World.cell?, Addr.add, h]
  | 1, y, hj => by simp at hj; subst hj; simp [World.cell?, Addr.add, h]
  | 2, y, hj => by simp at hj; subst hj; simp [World.cell?, Addr.add, h]
  | j + 3, y, hj => by simp at hj
theorem cell_three_at (w : World) (u v x : Value) (t : TypeId) (s : Nat) (h : s = w.heap.size) : ∀ j y, [u, v, x][j]? = some y → (w.alloc (.cells #[u, v, x] t)).cell? ((⟨s, 0, none⟩ : Addr).add j) = some y := by
  subst h; exact three_cell (World.alloc_heap_new w _)

/-- what Reduce hands back -/
def Redd (es : List Lrn) (w : World) (e : Ending) (w' : World) : Prop :=
  ∃ A c, e = .returned (.slice A es.length c) ∧ RE w' A es.length c es ∧ Below w.heap.size w w'

theorem placesTo_succ (es : List Lrn) (n k : Nat) (h : k < n) : placesTo es n (k + 1) h = placesTo es n k (Nat.le_of_lt h) ++ (if longB (lrn es k) = true then [⟨k, h⟩] else []) := by
  have hinj : ∀ a b : List (Pl n), a.map (·.1) = b.map (·.1) → a = b := fun a b e => by
    exact (List.map_inj_right (fun x y e => Subtype.ext e)).1 e
  apply hinj
  rw [List.map_append, places_vals, places_vals, List.range_succ, List.filter_append]
  congr 1
  cases hl : longB (lrn es k) <;> simp [hl]
theorem places_len (es : List Lrn) (n k : Nat) (h : k ≤ n) : (placesTo es n k h).length ≤ k := by
  have : ((placesTo es n k h).map (·.1)).length ≤ k := by rw [places_vals]; exact Nat.le_trans (List.length_filter_le _ _) (by simp)
  simpa using this

/-- the first loop: the long places -/
structure L1 (w W0 wr : World) (es : List Lrn) (n k : Nat) (hk : k ≤ n) (O : Option Addr) (L co : Nat) : Prop where
  own : wr.ownsRow (w.heap.size + 1) 3 1 (.slice O L co) L (((placesTo es n k hk).map (fun i => (i.1 : Int))).map (Value.int .i64))
  len : (placesTo es n k hk).length = L
  below : Below (w.heap.size + 1) W0 wr
  nil : L = 0 → O = none ∧ co = 0

set_option maxRecDepth 4000 in
theorem sort_places (A : Option Addr) (n c : Nat) (es : List Lrn) (w wr : World) (H : RE w A n c es) (hn : n ≤ 60000) (hk : n ≤ n) (O : Option Addr) (L co : Nat) (h : L1 w (w.alloc (.cells #[.slice A n c] 22)) wr es n n hk O L co) :
    Calls Try.prog 31 #[.slice O L co, .func (.func 32) #[] #[.pointer (some ⟨w.heap.size, 0, none⟩)]] wr fun e w' => e = .returned (.tuple #[]) ∧ RI w' O L co ((sortedP es n).map (fun i => (i.1 : Int))) ∧ Below (w.heap.size + 1) wr w' := by
  have hLn : L ≤ n := by rw [← h.len]; exact places_len es n n hk
  by_cases h0 : L = 0
  · obtain ⟨rfl, rfl⟩ := h.nil h0
    subst h0
    have hs : sortedP es n = [] := by
      unfold sortedP
      rw [List.eq_nil_of_length_eq_zero h.len]
      exact List.mergeSort_nil
    rw [hs]
    exact (Try.slices_SortFunc_none (α := LitT) none 0 (.func (.func 32) #[] #[.pointer (some ⟨w.heap.size, 0, none⟩)]) wr).mono fun _ _ ⟨h1, h2⟩ => by subst h2; exact ⟨h1, RI.nil _ _ _ (Nat.zero_le _), Below.refl _ _⟩
  · rcases h.own.2 with ⟨hv, h1⟩ | ⟨g, cap, cur, hv, hg, hr⟩
    · exact absurd h1 h0
    · simp only [Value.slice.injEq] at hv
      obtain ⟨rfl, -, rfl⟩ := hv
      have hsz : (w.alloc (.cells #[.slice A n c] 22)).heap.size = w.heap.size + 1 := by simp
      have hb := h.below
      have := sort_red (w.alloc (.cells #[.slice A n c] 22)) wr w.heap.size n c A es (w.heap.size + 1) g L co (placesTo es n n hk) (by omega) h.own hg (by omega)
        (Boxed.new w 22 (.slice A n c)).cell (by rw [hsz]; omega) (H.below ((Below.refl _ _).alloc (Nat.le_refl _) _)) (by rw [hsz]; exact hb) (by rw [hsz]; omega)
      refine this.mono ?_
      rintro e w' ⟨rfl, h2, h3⟩
      exact ⟨rfl, h2.ri (by omega), h3⟩

set_option maxRecDepth 100000 in
set_option maxHeartbeats 1000000 in
theorem reduce_any (A : Option Addr) (n c : Nat) (es : List Lrn) (keep : Int) (w : World) (h : RE w A n c es) (hn : n ≤ 60000) :
    Calls Try.prog 13 #[.slice A n c, .int .i64 keep] w (Redd (redL es keep) w) := by
  obtain ⟨i0, hi, hz0, hz1, hz2⟩ := info_parts infoInt
  obtain ⟨j0, gi, gz0, gz1, gz2⟩ := info_parts infoLrn
  have H := Lib.hid h
  clear h
  go_enter Try.func13, Try.ntmps13
  go_wp2
  have HB0 := Lib.hid ((Below.refl w.heap.size w).alloc (Nat.le_refl _) (.cells #[.slice A n c] 22))
  go_loopw [5, 16] (fun s5 s16 wr => ∃ (k : Nat) (hk : k ≤ n) (O : Option Addr) (L co : Nat), s16 = .int .i64 k ∧ s5 = .slice O L co ∧ L1 w (w.alloc (.cells #[.slice A n c] 22)) wr es n k hk O L co) (fun _ i _ => n - (intOf i).toNat)
  case atStart => exact ⟨0, Nat.zero_le _, none, 0, 0, rfl, rfl, World.ownsRow_nil _ _ _ _, rfl, Below.refl _ _, fun _ => ⟨rfl, rfl⟩⟩
  case round =>
    obtain ⟨k, hk, O, L, co, rfl, rfl, h1⟩ := hrel
    have hLk : L ≤ k := by rw [← h1.len]; exact places_len es n k hk
    have hsz : w.heap.size + 1 ≤ wr.heap.size := by have := h1.below.size; simpa using this
    have H1 := Lib.hid h1
    clear h1
    by_cases hlt : k < n
    · obtain ⟨b, off, rfl, hbl, hc⟩ := H.out.cells (by omega)
      obtain ⟨c0, c1, c2, -⟩ := hc k hlt
      clear hc
      have hW : Below w.heap.size w wr := HB0.out.trans (H1.out.below.mono (by omega))
      have c0' := (hW.cell (p := ⟨b, off + k * 3, none⟩) hbl).trans c0
      have c1' := (hW.cell (p := ⟨b, off + k * 3 + 1, none⟩) hbl).trans c1
      have c2' := (hW.cell (p := ⟨b, off + k * 3 + 2, none⟩) hbl).trans c2
      have hps := placesTo_succ es n k hlt
      unfold longB at hps
      clear c0 c1 c2 hW
      rcases hE : lrn es k with ⟨⟨A1, n1, c1, z1⟩, lv, act⟩
      rw [hE] at c0' c1' c2' hps
      simp only [rowV] at c0' c1' c2' hps
      clear hE
      by_cases hlg : 2 < lv
      · rw [if_pos (by simpa using hlg)] at hps
        have HP := Lib.hid hps
        clear hps
        go_wp2_with (at_builtin; refine wpList_append_own_at _ rfl (.tmp 24) (.tmp 26) 31 rfl (w.heap.size + 1) 3 i0 (.int .i64 0) 1 8 Try.underlying31 hi hz0 hz1 hz2 rfl (by decide) (.slice O L co) L _ rfl ((H1.out.own.alloc _).alloc _) ⟨_, 0, none⟩ 1 1 [.int .i64 k] rfl rfl (cell_new_at _ _ _ _ (by simp)) (by simp [Value.oneCell']) (by unfold maxLen; omega) (by omega) (by simp; omega) ?_; intro v' w4 hown' hgrow hnil hloc; obtain ⟨g', cap', rfl⟩ := own_succ hown'; have G1 := Lib.hid (grown_below (grown_below hgrow)); have O1 := Lib.hid hown'; clear hown' hgrow hnil hloc)
        go_roundw
        case rel =>
          refine ⟨k + 1, hlt, some ⟨g', 0, none⟩, L + 1, cap', by go_num, rfl, ⟨?_, ?_, ?_, fun h => absurd h (by omega)⟩⟩
          · rw [HP.out, List.map_append, List.map_append]; exact O1.out
          · rw [HP.out, List.length_append, H1.out.len]; rfl
          · exact H1.out.below.grown G1.out hsz (fun g hg => (own_lt H1.out.own hg).1)
        case measure => simp [intOf]; omega
      · rw [if_neg (by simpa using hlg), List.append_nil] at hps
        have HP := Lib.hid hps
        clear hps
        go_wp2_with fail
        go_roundw
        case rel =>
          refine ⟨k + 1, hlt, O, L, co, by go_num, rfl, ⟨?_, ?_, ?_, H1.out.nil⟩⟩
          · rw [HP.out]; exact H1.out.own.alloc _
          · rw [HP.out, H1.out.len]
          · exact H1.out.below.alloc hsz _
        case measure => simp [intOf]; omega
    · obtain rfl : k = n := by omega
      have hsort := sort_places A k c es w wr H.out hn hk O L co H1.out
      have hmm := @run_makeMap Try.prog
      obtain ⟨m, hm⟩ : ∃ m, stay keep L = m := ⟨_, rfl⟩
      have hmL : m ≤ L := by rw [← hm]; exact stay_le _ _
      have hmin : min (max keep 0) (L : Int) = (m : Int) := by rw [← hm]; unfold stay; omega
      have hlen : (sortedP es k).length = L := by
        rw [← H1.out.len]; unfold sortedP; rw [List.length_mergeSort]
      have hgl : goneL es k keep = ((sortedP es k).map (fun i => (i.1 : Int))).drop m := by unfold goneL; rw [hlen, hm]
      have hwf : ∀ x ∈ goneL es k keep, (Lit.int .i64 x).wf = true := by
        intro x hx
        rw [hgl] at hx
        obtain ⟨y, _, rfl⟩ := List.mem_map.1 (List.mem_of_mem_drop hx)
        exact wf_lit (by omega) (by have := y.2; omega)
      have HWF := Lib.hid hwf
      have HGL := Lib.hid hgl
      have hglen : (goneL es k keep).length = L - m := by rw [hgl, List.length_drop, List.length_map, hlen]
      have HGN := Lib.hid hglen
      clear hwf hgl hglen hm hlen
      have HG := Lib.hid (fun i hi => gone_iff es k H.out.len keep i hi)
      go_wp2_with (go_at_call 31; refine hsort.mono ?_; clear hsort; rintro e w3 ⟨rfl, hr3, hb3⟩; have HR3 := Lib.hid hr3; have HW3 := Lib.hid ((HB0.out.trans (H1.out.below.mono (by omega))).trans (hb3.mono (by omega))); have hs3 : w.heap.size + 1 ≤ w3.heap.size := Nat.le_trans hsz hb3.size; have BX3 := Lib.hid ((hb3.cell (p := ⟨w.heap.size, 0, none⟩) (by simp)).trans ((H1.out.below.cell (p := ⟨w.heap.size, 0, none⟩) (by simp)).trans (Boxed.new w 22 (.slice A k c)).cell)); clear hr3 hb3)
      all_goals
        go_loopw [41] (fun s41 wr2 => ∃ j : Nat, j ≤ L - m ∧ s41 = .int .i64 j ∧ SM wr2 w3.heap.size j ((goneL es k keep).take j) ∧ Below w3.heap.size w3 wr2) (fun i _ => (L - m) - (intOf i).toNat)
        case atStart => exact ⟨0, Nat.zero_le _, rfl, (by rw [List.take_zero]; exact SM.made _), (Below.refl _ _).alloc (Nat.le_refl _) _⟩
        case round =>
          obtain ⟨j, hj, rfl, hsm, hb2⟩ := hrel
          have HB2 := Lib.hid hb2
          have HSM := Lib.hid hsm
          clear hb2 hsm
          by_cases hjl : j < L - m
          · obtain ⟨b3, off3, rfl, hb3, hc3⟩ := HR3.out.cells (by omega)
            have hcj := (HB2.out.cell (p := ⟨b3, off3 + (m + j), none⟩) hb3).trans (hc3 (m + j) (by omega))
            rw [← Nat.add_assoc] at hcj
            clear hc3
            have hl : j < (goneL es k keep).length := by rw [HGN.out]; exact hjl
            have hel : elt ((sortedP es k).map (fun i => (i.1 : Int))) (m + j) = elt (goneL es k keep) j := by
              rw [HGL.out]; simp [elt, List.getElem?_drop]
            rw [hel] at hcj
            obtain ⟨w5, hrun, hS1, hg1⟩ := HSM.out.put (by simp [maxLen]; omega) (HWF.out _ (elt_mem hl))
            have HS1 := Lib.hid hS1
            have HG1 := Lib.hid hg1
            have HEL := Lib.hid hl
            clear hS1 hg1 hl hel
            first
              | (exfalso; have := HR3.out.cap; omega)
              | skip
            all_goals go_wp2
            all_goals go_roundw
            all_goals first
              | exact ⟨j + 1, by omega, by go_num, by rw [take_snoc _ _ HEL.out]; exact HS1.out, HB2.out.grown HG1.out HB2.out.size (fun j e => (by cases e; exact Nat.le_refl _))⟩
              | (simp [intOf]; omega)
          · have hS := HSM.out
            rw [List.take_of_length_le (by rw [HGN.out]; omega)] at hS
            have HS := Lib.hid hS
            clear hS HSM
            have HW4 := Lib.hid (HW3.out.trans (HB2.out.mono (by omega)))
            have hbx := (HB2.out.cell (p := ⟨w.heap.size, 0, none⟩) (by simp; omega)).trans BX3.out
            have hs4 : w3.heap.size < wr.heap.size := HS.out.lt
            go_wp2
            go_loopw [11, 50] (fun s11 s50 W => ∃ (i : Nat) (O3 : Option Addr) (L3 c3 : Nat), i ≤ k ∧ s50 = .int .i64 i ∧ s11 = .slice O3 L3 c3 ∧ W.ownsRow wr.heap.size 44 3 (.slice O3 L3 c3) L3 (cellsE (redTo es keep i)) ∧ (redTo es keep i).length = L3 ∧ Below wr.heap.size wr W) (fun _ i _ => k - (intOf i).toNat)
            case atStart => exact ⟨0, none, 0, 0, Nat.zero_le _, rfl, rfl, World.ownsRow_nil _ _ _ _, rfl, Below.refl _ _⟩
            case round =>
              obtain ⟨i, O3, L3, c3, hi3, rfl, rfl, hown, hl3, hb4⟩ := hrel
              have hL3 : L3 ≤ i := by rw [← hl3]; exact redTo_len es keep i
              have HB4 := Lib.hid hb4
              have HL3 := Lib.hid hl3
              have HO := Lib.hid hown
              have hs5 := hb4.size
              clear hb4 hl3 hown
              by_cases hil : i < k
              · obtain ⟨b, off, rfl, hbl, hc⟩ := H.out.cells (by omega)
                obtain ⟨c0, c1, c2, -⟩ := hc i hil
                clear hc
                have hW := HW4.out.trans (HB4.out.mono (by omega))
                have c0' := (hW.cell (p := ⟨b, off + i * 3, none⟩) hbl).trans c0
                have c1' := (hW.cell (p := ⟨b, off + i * 3 + 1, none⟩) hbl).trans c1
                have c2' := (hW.cell (p := ⟨b, off + i * 3 + 2, none⟩) hbl).trans c2
                have hps := redTo_succ es keep i
                have hlk := fun o => ((HS.out.below HB4.out hs4).alloc o).look (wf_lit (x := (i : Int)) (by omega) (by omega))
                have hg := HG.out i hil
                clear c0 c1 c2 hW
                cases hkp : keptB es keep i
                all_goals
                  rw [hkp] at hg hps
                  rw [hg] at hlk
                  clear hg hkp
                  rcases hE : lrn es i with ⟨⟨A1, n1, c1, z1⟩, lv, act⟩
                  rw [hE] at c0' c1' c2' hps
                  simp only [rowV] at c0' c1' c2'
                  simp only [Bool.false_eq_true, if_false, if_true, Bool.not_true, Bool.not_false] at hps hlk
                  have HP := Lib.hid hps
                  clear hps hE
                · go_wp2
                  go_roundw
                  case rel => exact ⟨i + 1, O3, L3, c3, by omega, by go_num, rfl, by rw [HP.out]; exact HO.out.alloc _, by rw [HP.out]; exact HL3.out, HB4.out.alloc hs5 _⟩
                  case measure => simp [intOf]; omega
                · go_wp2_with (at_builtin; refine wpList_append_own_at _ rfl (.tmp 59) (.tmp 61) 22 rfl _ 44 j0 (.agg #[.slice none 0 0, .int .i64 0, .int .i64 0]) 3 40 Try.underlying22 gi gz0 gz1 gz2 rfl (by decide) (.slice O3 L3 c3) L3 _ rfl ((HO.out.alloc _).alloc _) ⟨_, 0, none⟩ 1 1 [.slice A1 n1 c1, .int .i64 lv, .int .i64 act] rfl rfl (cell_three_at _ _ _ _ _ _ (by simp)) (by simp [Value.oneCell']) (by unfold maxLen; omega) (by omega) (by simp; omega) ?_; intro v' w6 hown' hgrow hnil hloc; obtain ⟨g', cap', rfl⟩ := own_succ hown'; have G1 := Lib.hid (grown_below (grown_below hgrow)); have O1 := Lib.hid hown'; clear hown' hgrow hnil hloc)
                  go_roundw
                  case rel => exact ⟨i + 1, some ⟨g', 0, none⟩, L3 + 1, cap', by omega, by go_num, rfl, by rw [HP.out, cellsE_snoc]; exact O1.out, by rw [HP.out, List.length_append, HL3.out]; rfl, HB4.out.grown G1.out hs5 (fun g hg => (own_lt HO.out hg).1)⟩
                  case measure => simp [intOf]; omega
              · obtain rfl : i = k := by omega
                go_wp2
                go_ret
                have hlen : (redL es keep).length = L3 := by unfold redL; rw [H.out.len]; exact HL3.out
                have hW := HW4.out.trans (HB4.out.mono (by omega))
                have hre : redL es keep = redTo es keep i := by unfold redL; rw [H.out.len]
                refine ⟨O3, c3, by rw [hlen]; rfl, ?_, hW⟩
                rw [hlen, hre]
                refine RE.of_own HO.out HL3.out ?_ (by omega)
                intro e he
                rw [← hre] at he
                obtain ⟨j, hj, _, rfl⟩ := mem_redL.1 he
                rw [H.out.len] at hj
                obtain ⟨b, off, _, _, hc⟩ := H.out.cells (by omega)
                exact (hc j hj).2.2.2.below hW

end Go.Proofs.Ytalcnkoidmoibaa

namespace Go.Proofs.Ytalcnkoidmoibaa
open Go.RowKit Go.WideShapes Go.ChangeShapes
set_option linter.unusedSimpArgs false
section
variable {H : Type} {enc : TypeId × Value → H} {P : Program}
theorem post_of_below {f : Func} {s : ChangeSpec} {apart fresh handsOn again : Bool} {W W' : World} {args : Array Value} {v : Value} {ds gs : List (DataW H)} {before pa pv : List MemPlace}
    (hW : DataW.Whole enc P f.params.toList s.vars apart W args.toList ds gs before)
    (hres : ∀ (b : Nat) (sp : Nat → Bool) (hd : Bool), DataW.TrodAll enc P W' b sp hd f.resultTypes.toList (v.resultList f.resultTypes.size) (s.fn H (ds ++ gs)).results [])
    (hargs : ∀ sp : Nat → Bool, (∀ p ∈ before, sp p.block = true) → DataW.TrodAll enc P W' 0 sp true f.params.toList args.toList (s.fn H (ds ++ gs)).args pa)
    (hvars : ∀ sp : Nat → Bool, (∀ p ∈ before, sp p.block = true) → DataW.TrodVars enc P W' sp s.vars (s.fn H (ds ++ gs)).vars pv)
    (hps : before = pa ++ pv) (hb : Below W.heap.size W W')
    (hok : ∀ (j : Nat) (t : TypeId) (r : Value), f.resultTypes[j]? = some t → (v.resultList f.resultTypes.size)[j]? = some r → Value.okWide P W' .any 0 t r) :
    s.post enc P f apart fresh handsOn again W args v W' := by
  have hlt : ∀ p ∈ before, p.block < W.heap.size := fun p hp => hW.lt p hp
  have hold : ∀ p ∈ before, (fun b => decide (b < W.heap.size)) p.block = true := fun p hp => by simpa using hlt p hp
  refine ⟨ds, gs, before, [], pa, pv, hW, hres _ _ _, hargs _ hold, hvars _ hold, World.keptBut_mono (fun p hp => ⟨hp, ?_⟩) (hb.frame (· ∈ before)), fun _ => ?_⟩
  · rw [hps, List.mem_append] at hp
    exact Or.inr hp
  · obtain ⟨_, _, _, _, _, hz, hn⟩ := hW
    refine ⟨hok, _, _, ([] ++ pa) ++ pv, ⟨[] ++ pa, pv, trodAll_append (hargs _ (fun _ _ => rfl)) (hres _ _ _), hvars _ (fun _ _ => rfl), rfl, ?_, ?_⟩, ?_⟩
    · intro b off hp
      have hin : MemPlace.cell b off ∈ before := by rw [hps]; simpa using hp
      rw [hb.frozen (hlt _ hin)]
      exact hz b off hin
    · intro ha
      have := hn ha
      rw [hps] at this
      simpa using this
    · intro p hp _
      rw [hps]
      simpa using hp
end

end Go.Proofs.Ytalcnkoidmoibaa
