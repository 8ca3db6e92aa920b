/-
  The errors of First in plain words: what a further decision does. No program in sight. No condition.
-/
import Derived.Test.YtenpenelikpeeaaH3
namespace Go.Proofs.Ytenpenelikpeeaa
set_option linter.unusedVariables false
set_option linter.unusedSimpArgs false

theorem errors_bad {x : Int} {ls : List (List Int)} {ts : List Stp} {q : Int} (h : propE x ls ts ≠ 0 ∨ q < 0 ∨ (ls.length : Int) ≤ q) : firstE x ls ts q ≠ 0 := fun e => by
  have R := rd_of e
  have h1 := R.q0
  have h2 := R.q1
  rcases h with h | h | h
  · exact h R.prop
  · omega
  · omega
theorem errors_alive {x : Int} {ls : List (List Int)} {ts : List Stp} {q : Int} (h : propE x ls ts = 0) (hd : deadB ts (ell ls q.toNat) = false) : firstE x ls ts q = 1 := firstE_arg h (Or.inr (Or.inr hd))
theorem errors_dead {x : Int} {ls : List (List Int)} {ts : List Stp} {q : Int} (h : propE x ls ts = 0) (h0 : 0 ≤ q) (h1 : q < (ls.length : Int)) (hd : deadB ts (ell ls q.toNat) = true) : firstE x ls ts q = 0 ∨ firstE x ls ts q = 200 := by
  have h2 : ¬(q < 0 ∨ (ls.length : Int) ≤ q ∨ deadB ts (ell ls q.toNat) = false) := by
    rintro (h3 | h3 | h3)
    · omega
    · omega
    · rw [hd] at h3; cases h3
  by_cases h3 : lastT ts = 0 ∨ hiN ts (lastT ts) (start ls q) = 0
  · exact Or.inr (firstE_back h h2 h3)
  · exact Or.inl (firstE_ok h h2 h3)

theorem stp_left {a b : List Stp} {k : Nat} (h : k < a.length) : stp (a ++ b) k = stp a k := by
  rw [stp_lt h, stp_lt (by simp; omega), List.getElem_append_left h]
theorem plc_left {a b : List Stp} {y : Int} (h : plc a y < a.length) : plc (a ++ b) y = plc a y := by
  obtain ⟨h1, h2⟩ := plc_lt h
  refine plc_at (by simp; omega) (by rw [stp_left h]; exact h1) (fun j hj => ?_)
  rw [stp_left (by omega)]; exact h2 j hj
theorem levAt_left {a b : List Stp} {k : Nat} (h : k < a.length) : levAt (a ++ b) k = levAt a k := by
  unfold levAt; rw [List.take_append_of_le_length (by omega)]
theorem lvlT_left {a b : List Stp} {y : Int} (h : plc a (-y) < a.length) : lvlT (a ++ b) y = lvlT a y := by
  rw [lvlT_of h, lvlT_of (by rw [plc_left h]; simp; omega), plc_left h, levAt_left h]
theorem lastT_more (ts : List Stp) (y : Int) : lastT (ts ++ [⟨y, -1⟩]) = lastT ts + 1 := by
  unfold lastT; rw [cntD_snoc]; simp

theorem errors_more {x : Int} {ls : List (List Int)} {ts : List Stp} {q y : Int} (h0 : 0 ≤ q) (h1 : q < (ls.length : Int)) (hd : deadB ts (ell ls q.toNat) = true) (h : propE x ls (ts ++ [⟨y, -1⟩]) = 0) : firstE x ls (ts ++ [⟨y, -1⟩]) q = 200 := by
  have hu := dead_under.1 hd
  have hd' : deadB (ts ++ [⟨y, -1⟩]) (ell ls q.toNat) = true := dead_under.2 fun z hz => by
    have := hu z hz
    rw [plc_left this]; simp; omega
  refine firstE_back h ?_ (Or.inr ?_)
  · rintro (h3 | h3 | h3)
    · omega
    · omega
    · rw [hd'] at h3; cases h3
  · rcases Nat.eq_zero_or_pos (hiN (ts ++ [⟨y, -1⟩]) (lastT (ts ++ [⟨y, -1⟩])) (start ls q)) with e | e
    · exact e
    · obtain ⟨z, hz, hl⟩ := hiN_pos.1 e
      have hz2 : z ∈ ell ls q.toNat := by
        unfold start at hz
        rw [mem_moreL] at hz
        rcases hz with hz | hz
        · cases hz
        · exact hz.1
      have h3 := hu z hz2
      rw [lvlT_left h3, lastT_more] at hl
      have := lvl_le h3
      omega

/-- the law's own test of a clause -/
def dTo (ts : List Stp) (l : List Int) (k : Nat) : Bool := (l.take k).all fun y => decide (0 ≤ lvlT ts y)
theorem dTo_succ {ts : List Stp} {l : List Int} {k : Nat} (h : k < l.length) : dTo ts l (k + 1) = (dTo ts l k && decide (0 ≤ lvlT ts (elt l k))) := by
  unfold dTo; rw [take_snoc l k h, List.all_append]; simp
theorem lvlT_ge {ts : List Stp} {y : Int} : 0 ≤ lvlT ts y ↔ plc ts (-y) < ts.length := by
  constructor
  · intro h
    unfold lvlT at h
    split at h
    · assumption
    · omega
  · intro h
    rw [lvlT_of h]; exact levAt_nn ts _
theorem dTo_all (ts : List Stp) (l : List Int) : dTo ts l l.length = deadB ts l := by
  unfold dTo deadB
  rw [List.take_length, Bool.eq_iff_iff, List.all_eq_true, List.all_eq_true]
  refine forall_congr' fun y => imp_congr_right fun _ => ?_
  rw [decide_eq_true_iff, decide_eq_true_iff, lvlT_ge]

end Go.Proofs.Ytenpenelikpeeaa
