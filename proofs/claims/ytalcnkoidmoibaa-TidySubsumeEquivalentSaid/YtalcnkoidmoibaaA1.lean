/-
  Contracts of small functions. No condition.
-/
import Derived.Test.YtalcnkoidmoibaaMem
import Derived.Deep.QuietTactic
import Derived.BigQuiet
import Derived.StillTailTactics
namespace Go.Proofs.Ytalcnkoidmoibaa
open Go.RowKit
set_option linter.unusedVariables false
set_option linter.unusedSimpArgs false

set_option maxHeartbeats 400000 in
theorem has_any (A : Option Addr) (n c : Nat) (zs : List Int) (x : Int) (w : World) (h : RI w A n c zs) :
    Calls Try.prog 42 #[.slice A n c, .int .i64 x] w fun e w' => e = .returned (.bool (hasB zs x)) ∧ w = w' := by
  have hn := h.small
  have H := Lib.hid h
  clear h
  go_enter Try.func42, Try.ntmps42
  go_wp2
  go_loop [5] (fun i => ∃ k : Nat, k ≤ n ∧ i = .int .i64 k ∧ hasB (zs.take k) x = false) (fun i => n - (intOf i).toNat)
  case atStart => exact ⟨0, Nat.zero_le _, rfl, rfl⟩
  case round =>
    obtain ⟨k, hk, rfl, hno⟩ := hrel
    have HN := Lib.hid hno
    clear hno
    by_cases hlt : k < n
    · obtain ⟨b, off, rfl, hb, hc⟩ := H.out.cells (by omega)
      have hck := hc k hlt
      clear hc
      go_wp2
      · go_ret
        exact ⟨ret_bool (hasB_of_at (by rw [H.out.len]; exact hlt) (by assumption)).symm, rfl⟩
      · go_round
        case rel => exact ⟨k + 1, by omega, by go_num, hasB_step (by rw [H.out.len]; exact hlt) (by assumption) HN.out⟩
        case measure => simp [intOf]; omega
    · go_wp2
      go_ret
      exact ⟨ret_bool (hasB_full H.out.len hlt HN.out).symm, rfl⟩

set_option maxHeartbeats 400000 in
theorem ints_any (A : Option Addr) (n c : Nat) (zs : List Int) (A' : Option Addr) (n' c' : Nat) (zs' : List Int) (w : World) (h : RI w A n c zs) (h' : RI w A' n' c' zs') :
    Calls Try.prog 18 #[.slice A n c, .slice A' n' c'] w fun e w' => e = .returned (.bool (sameB zs zs')) ∧ ∃ q, w' = w.drewN q := by
  have hn := h.small
  have hn' := h'.small
  have H := Lib.hid h
  have H' := Lib.hid h'
  clear h h'
  by_cases hne : n = n'
  · subst hne
    go_enter Try.func18, Try.ntmps18
    go_wp2
    go_loopw [5] (fun i wr => ∃ k q : Nat, k ≤ n ∧ i = .int .i64 k ∧ zs.take k = zs'.take k ∧ wr = w.drewN q) (fun i _ => n - (intOf i).toNat)
    case atStart => exact ⟨0, 0, Nat.zero_le _, rfl, rfl, rfl⟩
    case round =>
      obtain ⟨k, q, hk, rfl, hno, rfl⟩ := hrel
      have HN := Lib.hid hno
      clear hno
      by_cases hlt : k < n
      · obtain ⟨b, off, rfl, hb, hc⟩ := H.out.cells (by omega)
        have hck := hc k hlt
        clear hc
        obtain ⟨b', off', rfl, hb', hc'⟩ := H'.out.cells (by omega)
        have hck' := hc' k hlt
        clear hc'
        have hl1 : (k : Int) < (n : Int) := by omega
        go_wp2_with fail
        go_quiet (fail)
        go_wp2
        · have hne : (elt zs k != elt zs' k) = true := by assumption
          go_ret
          exact ⟨ret_bool (sameB_at (by rw [H.out.len]; exact hlt) (by rw [H'.out.len]; exact hlt) (by simpa using hne)).symm, _, World.drewN_drewN ..⟩
        · have heq : (elt zs k != elt zs' k) = false := by assumption
          go_roundw
          case rel => exact ⟨k + 1, _, by omega, by go_num, take_eq_step (by rw [H.out.len]; exact hlt) (by rw [H'.out.len]; exact hlt) HN.out (by simpa using heq), rfl⟩
          case measure => simp [intOf]; omega
      · go_wp2
        go_ret
        exact ⟨ret_bool (sameB_full H.out.len H'.out.len hlt HN.out).symm, q, rfl⟩
  · have hb : ((n : Int) != (n' : Int)) = true := by rw [bne_iff_ne]; omega
    go_enter Try.func18, Try.ntmps18
    go_wp2
    go_ret
    exact ⟨ret_bool (sameB_len (by rw [H.out.len, H'.out.len]; exact hne)).symm, 0, rfl⟩

/-- the three-way comparison -/
def cmpI (x y : Int) : Int := if x < y then -1 else if y < x then 1 else 0

set_option maxHeartbeats 400000 in
theorem nan_any (x : Int) (w : World) : Calls Try.prog 66 #[.int .i64 x] w fun e w' => e = .returned (.bool false) ∧ w = w' := by
  go_enter Try.func66, Try.ntmps66
  go_wp2
  go_ret
  exact ⟨ret_bool (by simp), rfl⟩



set_option maxHeartbeats 400000 in
theorem compare_any (x y : Int) (w : World) : Calls Try.prog 34 #[.int .i64 x, .int .i64 y] w fun e w' => e = .returned (.int .i64 (cmpI x y)) ∧ w = w' := by
  by_cases h1 : x < y
  · go_enter Try.func34, Try.ntmps34
    go_wp2_with (go_at_call 66; refine (nan_any _ _).mono ?_; rintro e w' ⟨rfl, rfl⟩)
    go_ret
    exact ⟨ret_int (by simp [cmpI, h1]), rfl⟩
  · by_cases h2 : y < x
    all_goals
      go_enter Try.func34, Try.ntmps34
      go_wp2_with (go_at_call 66; refine (nan_any _ _).mono ?_; rintro e w' ⟨rfl, rfl⟩)
      go_ret
      exact ⟨ret_int (by unfold cmpI; split <;> (try split) <;> omega), rfl⟩

/-- the first that is not 0 -/
def orI (x y : Int) : Int := if x = 0 then y else x

set_option maxHeartbeats 400000 in
theorem or_any (g : Nat) (x y : Int) (w : World) (h0 : w.cell? ⟨g, 0, none⟩ = some (.int .i64 x)) (h1 : w.cell? ⟨g, 1, none⟩ = some (.int .i64 y)) :
    Calls Try.prog 33 #[.slice (some ⟨g, 0, none⟩) 2 2] w fun e w' => e = .returned (.int .i64 (orI x y)) ∧ w = w' := by
  by_cases hx : x = 0
  · have hx1 : (x != 0) = false := by simp [hx]
    have HX := Lib.hid hx
    clear hx
    by_cases hy : y = 0
    · have hy1 : (y != 0) = false := by simp [hy]
      have HY := Lib.hid hy
      clear hy
      go_enter Try.func33, Try.ntmps33
      go_wp2
      refine wp_loop_rounds 3 ?_
      rw [rounds_succ]
      go_wp2
      rw [rounds_succ]
      go_wp2
      rw [rounds_succ]
      go_wp2
      go_ret
      exact ⟨ret_int (by rw [orI, if_pos HX.out, HY.out]), rfl⟩
    · have hy1 : (y != 0) = true := by simpa using hy
      clear hy
      go_enter Try.func33, Try.ntmps33
      go_wp2
      refine wp_loop_rounds 2 ?_
      rw [rounds_succ]
      go_wp2
      rw [rounds_succ]
      go_wp2
      go_ret
      exact ⟨ret_int (by rw [orI, if_pos HX.out]), rfl⟩
  · have hx1 : (x != 0) = true := by simpa using hx
    have HX := Lib.hid hx
    clear hx
    go_enter Try.func33, Try.ntmps33
    go_wp2
    refine wp_loop_rounds 1 ?_
    rw [rounds_succ]
    go_wp2
    go_ret
    exact ⟨ret_int (by rw [orI, if_neg HX.out]), rfl⟩


def isB (x n : Int) : Bool := decide (x ≠ 0) && decide (-n ≤ x) && decide (x ≤ n)
theorem isB_iff {x n : Int} : isB x n = true ↔ x ≠ 0 ∧ -n ≤ x ∧ x ≤ n := by simp [isB, and_assoc]

theorem neg_small {n : Int} (h0 : 0 ≤ n) (h1 : n ≤ 65536) : wrap64 (-n) = -n := by unfold wrap64; omega
theorem sub_small {n : Int} (h0 : 0 ≤ n) (h1 : n ≤ 65536) : wrap64 (0 - n) = -n := by unfold wrap64; omega

set_option maxHeartbeats 400000 in
theorem is_any (x n : Int) (w : World) (h0 : 0 ≤ n) (h1 : n ≤ 65536) : Calls Try.prog 69 #[.int .i64 x, .int .i64 n] w fun e w' => e = .returned (.bool (isB x n)) ∧ w = w' := by
  have hw := sub_small h0 h1
  by_cases hx : x = 0
  · have hx1 : (x != 0) = false := by simp [hx]
    have HX := Lib.hid hx
    clear hx
    go_enter Try.func69, Try.ntmps69
    go_wp2
    go_ret
    exact ⟨ret_bool (by simp [isB, HX.out]), rfl⟩
  · have hx1 : (x != 0) = true := by simpa using hx
    have HX := Lib.hid hx
    clear hx
    by_cases h2 : -n ≤ x
    · by_cases h3 : x ≤ n
      all_goals
        go_enter Try.func69, Try.ntmps69
        go_wp2
        go_ret
        exact ⟨ret_bool (by simp [isB, HX.out, h2, h3]), rfl⟩
    · go_enter Try.func69, Try.ntmps69
      go_wp2
      go_ret
      exact ⟨ret_bool (by rw [isB, decide_eq_false (show ¬ -n ≤ x by omega), Bool.and_false, Bool.false_and]), rfl⟩

set_option maxHeartbeats 400000 in
theorem may_any (x n : Int) (w : World) (h0 : 0 ≤ n) (h1 : n ≤ 65536) : Calls Try.prog 49 #[.int .i64 x, .int .i64 n] w fun e w' => e = .returned (.bool (isB x n)) ∧ w = w' := by
  have hw := neg_small h0 h1
  by_cases hx : x = 0
  · have hx1 : (x != 0) = false := by simp [hx]
    have HX := Lib.hid hx
    clear hx
    go_enter Try.func49, Try.ntmps49
    go_wp2
    go_ret
    exact ⟨ret_bool (by simp [isB, HX.out]), rfl⟩
  · have hx1 : (x != 0) = true := by simpa using hx
    have HX := Lib.hid hx
    clear hx
    by_cases h2 : -n ≤ x
    · by_cases h3 : x ≤ n
      all_goals
        go_enter Try.func49, Try.ntmps49
        go_wp2
        go_ret
        exact ⟨ret_bool (by simp [isB, HX.out, h2, h3]), rfl⟩
    · go_enter Try.func49, Try.ntmps49
      go_wp2
      go_ret
      exact ⟨ret_bool (by rw [isB, decide_eq_false (show ¬ -n ≤ x by omega), Bool.and_false, Bool.false_and]), rfl⟩

def absI (x : Int) : Int := if x < 0 then -x else x

set_option maxHeartbeats 400000 in
theorem of_any (x : Int) (w : World) (h0 : -65536 ≤ x) (h1 : x ≤ 65536) : Calls Try.prog 51 #[.int .i64 x] w fun e w' => e = .returned (.int .i64 (absI x)) ∧ w = w' := by
  have hw : wrap64 (-x) = -x := by unfold wrap64; omega
  go_enter Try.func51, Try.ntmps51
  go_wp2
  all_goals
    go_ret
    exact ⟨ret_int (by unfold absI; split <;> omega), rfl⟩

end Go.Proofs.Ytalcnkoidmoibaa
