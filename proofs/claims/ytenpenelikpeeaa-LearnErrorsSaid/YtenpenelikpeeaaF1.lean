/-
  What Less answers, in plain words. No program in sight. No condition.
-/
import Derived.Test.YtenpenelikpeeaaE4
namespace Go.Proofs.Ytenpenelikpeeaa
set_option linter.unusedVariables false
set_option linter.unusedSimpArgs false

/-- a literal of a new variable -/
def unl (x : Int) (pre : List Int) (y : Int) : Bool := isB y x && (!(hasB pre y) && !(hasB pre (-y)))
def unlTo (x : Int) (l : List Int) (k : Nat) : Bool := (List.range k).all fun j => unl x (l.take j) (elt l j)
def unlB (x : Int) (l : List Int) : Bool := unlTo x l l.length
theorem unlTo_succ (x : Int) (l : List Int) (k : Nat) : unlTo x l (k + 1) = (unlTo x l k && unl x (l.take k) (elt l k)) := by simp [unlTo, List.range_succ]
theorem unlB_no {x : Int} {l : List Int} {k : Nat} (hk : k < l.length) (h : unl x (l.take k) (elt l k) = false) : unlB x l = false := by
  unfold unlB unlTo
  rw [List.all_eq_false]
  exact ⟨k, List.mem_range.2 hk, by rw [h]; simp⟩
theorem unlB_at {x : Int} {l : List Int} (h : unlB x l = true) {k : Nat} (hk : k < l.length) : unl x (l.take k) (elt l k) = true :=
  List.all_eq_true.1 h k (List.mem_range.2 hk)
theorem unlTo_isB {x : Int} {l : List Int} : ∀ {k : Nat}, k ≤ l.length → unlTo x l k = true → ∀ y ∈ l.take k, isB y x = true
  | 0, _, _, y, hy => by simp at hy
  | k + 1, hk, h, y, hy => by
    rw [unlTo_succ, Bool.and_eq_true] at h
    rw [take_snoc l k (by omega), List.mem_append, List.mem_singleton] at hy
    rcases hy with hy | hy
    · exact unlTo_isB (by omega) h.1 y hy
    · rw [hy]; unfold unl at h; simp only [Bool.and_eq_true] at h; exact h.2.1
theorem unlTo_nodup {x : Int} {l : List Int} : ∀ {k : Nat}, k ≤ l.length → unlTo x l k = true → (l.take k).Nodup ∧ ∀ y ∈ l.take k, ¬ -y ∈ l.take k
  | 0, _, _ => ⟨by simp, fun y hy => by simp at hy⟩
  | k + 1, hk, h => by
    have h0 := h
    rw [unlTo_succ, Bool.and_eq_true] at h
    obtain ⟨h1, h2⟩ := unlTo_nodup (by omega) h.1
    have hI := unlTo_isB hk h0
    unfold unl at h
    simp only [Bool.and_eq_true, Bool.not_eq_true', hasB_false] at h
    obtain ⟨h3, h4, h5, h6⟩ := h
    rw [take_snoc l k (by omega)] at hI ⊢
    refine ⟨?_, fun y hy hn => ?_⟩
    · rw [List.nodup_append]
      refine ⟨h1, by simp, fun a ha b hb e => ?_⟩
      rw [List.mem_singleton.1 hb] at e
      exact h5 (e ▸ ha)
    · have h0 := (isB_iff.1 (hI y hy)).1
      simp only [List.mem_append, List.mem_singleton] at hy hn
      rcases hy with hy | hy <;> rcases hn with hn | hn
      · exact h2 y hy hn
      · exact h6 (by rw [← hn, Int.neg_neg]; exact hy)
      · exact h6 (by rw [← hy]; exact hn)
      · omega
def lessOk (x : Int) (ts : List Stp) (l : List Int) : Bool := unlB x l && deadB ts l
theorem lessOk_facts {x : Int} {ts : List Stp} {l : List Int} (h : lessOk x ts l = true) (hx : x ≤ 65536) : Okl l ∧ Cons l ∧ l.Nodup ∧ Under ts ts.length l := by
  unfold lessOk at h
  rw [Bool.and_eq_true] at h
  have hf : l.take l.length = l := List.take_length
  have h1 := unlTo_isB (Nat.le_refl _) h.1
  have h2 := unlTo_nodup (Nat.le_refl _) h.1
  rw [hf] at h1 h2
  have hok : Okl l := fun y hy => by have := isB_iff.1 (h1 y hy); omega
  exact ⟨hok, ⟨hok, h2.2⟩, h2.1, dead_under.1 h.2⟩

/-- the greatest level -/
def topT (ts : List Stp) (l : List Int) : Int := l.foldl (fun m y => max m (lvlT ts y)) 0
theorem topT_snoc (ts : List Stp) (l : List Int) (y : Int) : topT ts (l ++ [y]) = max (topT ts l) (lvlT ts y) := by unfold topT; rw [List.foldl_append]; rfl
theorem topT_bd {ts : List Stp} : ∀ {l : List Int}, 0 ≤ topT ts l ∧ (Under ts ts.length l → topT ts l ≤ ts.length) := by
  intro l
  induction l using snoc_ind with
  | h0 => exact ⟨Int.le_refl _, fun _ => by unfold topT; simp⟩
  | h1 l y ih =>
    rw [topT_snoc]
    refine ⟨by have := ih.1; omega, fun hu => ?_⟩
    have h1 := ih.2 (fun u hu' => hu u (by simp [hu']))
    have h2 := lvl_le (hu y (by simp))
    have h3 : lastT ts ≤ ts.length := by unfold lastT; have := cntD_le ts; omega
    omega

/-- is the literal that a step determines redundant? -/
def redAt (ls : List (List Int)) (ts : List Stp) (l : List Int) (prev : List Bool) (k : Nat) : Bool :=
  decide (levAt ts k = 0) || (decide (0 ≤ (stp ts k).why) && (ell ls (stp ts k).why.toNat).all fun y => y == (stp ts k).lit || (hasB l y || prev.getD (plc ts (-y)) false))
def redTo (ls : List (List Int)) (ts : List Stp) (l : List Int) : Nat → List Bool
  | 0 => []
  | k + 1 => redTo ls ts l k ++ [redAt ls ts l (redTo ls ts l k) k]
def redB (ls : List (List Int)) (ts : List Stp) (l : List Int) (k : Nat) : Bool := redAt ls ts l (redTo ls ts l k) k
theorem redTo_len (ls : List (List Int)) (ts : List Stp) (l : List Int) : ∀ k, (redTo ls ts l k).length = k
  | 0 => rfl
  | k + 1 => by rw [redTo, List.length_append, redTo_len ls ts l k]; rfl
theorem redTo_at (ls : List (List Int)) (ts : List Stp) (l : List Int) : ∀ {k j : Nat}, j < k → (redTo ls ts l k).getD j false = redB ls ts l j
  | k + 1, j, h => by
    rw [redTo]
    rcases Nat.lt_or_ge j k with h1 | h1
    · rw [List.getD_eq_getElem?_getD, List.getElem?_append_left (by rw [redTo_len]; exact h1), ← List.getD_eq_getElem?_getD]
      exact redTo_at ls ts l h1
    · obtain rfl : j = k := by omega
      rw [List.getD_eq_getElem?_getD, List.getElem?_append_right (by rw [redTo_len]; omega), redTo_len]
      simp [redB]
theorem redTo_out (ls : List (List Int)) (ts : List Stp) (l : List Int) {k j : Nat} (h : k ≤ j) : (redTo ls ts l k).getD j false = false := by
  rw [List.getD_eq_getElem?_getD, List.getElem?_eq_none (by rw [redTo_len]; exact h)]; rfl
theorem redB_eq {x : Int} {ls : List (List Int)} {ts : List Stp} (h : Tr x ls ts) (l : List Int) {k : Nat} (hk : k < ts.length) :
    redB ls ts l k = (decide (levAt ts k = 0) || (decide (0 ≤ (stp ts k).why) && (ell ls (stp ts k).why.toNat).all fun y => y == (stp ts k).lit || (hasB l y || redB ls ts l (plc ts (-y))))) := by
  unfold redB
  conv => lhs; unfold redAt
  rcases Int.lt_or_le (stp ts k).why 0 with h0 | h0
  · have : decide (0 ≤ (stp ts k).why) = false := by simpa using h0
    rw [this, Bool.false_and, Bool.false_and]
  · have hr := (h.reason k hk h0).2
    have he : ((ell ls (stp ts k).why.toNat).all fun y => y == (stp ts k).lit || (hasB l y || (redTo ls ts l k).getD (plc ts (-y)) false)) = (ell ls (stp ts k).why.toNat).all fun y => y == (stp ts k).lit || (hasB l y || redB ls ts l (plc ts (-y))) := by
      rw [Bool.eq_iff_iff, List.all_eq_true, List.all_eq_true]
      refine forall_congr' fun y => imp_congr_right fun hy => ?_
      by_cases e : y = (stp ts k).lit
      · simp [e]
      · obtain ⟨j, hj, e2⟩ := hr y hy e
        have hp := h.plc (k := j) (by omega)
        rw [e2] at hp
        rw [hp, redTo_at ls ts l hj]
    rw [he]
    rfl

/-- what Less keeps -/
def keepB (ls : List (List Int)) (ts : List Stp) (l : List Int) (y : Int) : Bool := (decide (0 < topT ts l) && lvlT ts y == topT ts l) || !(redB ls ts l (plc ts (-y)))
def lessL (ls : List (List Int)) (ts : List Stp) (l : List Int) : List Int := risL (l.filter (keepB ls ts l))

end Go.Proofs.Ytenpenelikpeeaa
