/-
  Contracts of Luby. No condition.
-/
import Derived.Test.YthfadkilffmmlaaMem
namespace Go.Proofs.Ythfadkilffmmlaa
open Go.RowKit
set_option linter.unusedVariables false
set_option linter.unusedSimpArgs false

/-- the greatest power of two that is not above i -/
def pw (i : Nat) : Nat := 2 ^ Nat.log2 i
theorem pw_le {i : Nat} (h : 1 ≤ i) : pw i ≤ i := Nat.log2_self_le (by omega)
theorem lt_pw (i : Nat) : i < 2 * pw i := by
  have : i < 2 ^ (Nat.log2 i + 1) := Nat.lt_log2_self
  rw [Nat.pow_succ] at this; unfold pw; omega
theorem pw_pos (i : Nat) : 1 ≤ pw i := Nat.one_le_two_pow
theorem pw_eq {i m : Nat} (h1 : 2 ^ m ≤ i) (h2 : i < 2 * 2 ^ m) : pw i = 2 ^ m := by
  have h0 : i ≠ 0 := by have : 1 ≤ 2 ^ m := Nat.one_le_two_pow; omega
  unfold pw
  rw [(Nat.log2_eq_iff h0).2 ⟨h1, by rw [Nat.pow_succ]; omega⟩]

def lubF : Nat → Nat → Nat
  | 0, _ => 0
  | f + 1, i => if i + 1 = 2 * pw i then pw i else lubF f (i - pw i + 1)
theorem lub_less {i : Nat} (h : 1 ≤ i) (h2 : i + 1 ≠ 2 * pw i) : 1 ≤ i - pw i + 1 ∧ i - pw i + 1 < i := by
  have h3 := pw_le h
  have h4 := lt_pw i
  have h5 := pw_pos i
  constructor
  · omega
  · rcases Nat.lt_or_ge 1 (pw i) with h6 | h6
    · omega
    · have : pw i = 1 := by omega
      omega
theorem lubF_fuel : ∀ (f f' i : Nat), 1 ≤ i → i ≤ f → i ≤ f' → lubF f i = lubF f' i
  | 0, _, i, h1, h, _ => absurd h (by omega)
  | _ + 1, 0, i, h1, _, h => absurd h (by omega)
  | f + 1, f' + 1, i, h1, h, h' => by
    by_cases e : i + 1 = 2 * pw i
    · simp [lubF, e]
    · have := lub_less h1 e
      simp only [lubF, if_neg e]
      exact lubF_fuel f f' _ this.1 (by omega) (by omega)
/-- Luby's sequence -/
def luby (i : Nat) : Nat := lubF i i
theorem luby_full {i : Nat} (h : 1 ≤ i) (e : i + 1 = 2 * pw i) : luby i = pw i := by
  obtain ⟨j, rfl⟩ : ∃ j, i = j + 1 := ⟨i - 1, by omega⟩
  simp [luby, lubF, e]
theorem luby_step {i : Nat} (h : 1 ≤ i) (e : i + 1 ≠ 2 * pw i) : luby i = luby (i - pw i + 1) := by
  obtain ⟨j, rfl⟩ : ∃ j, i = j + 1 := ⟨i - 1, by omega⟩
  have := lub_less h e
  show lubF (j + 1) (j + 1) = _
  simp only [lubF, if_neg e]
  exact lubF_fuel _ _ _ this.1 (by omega) (by omega)

/-- what Luby answers -/
def lubI (i : Int) : Int := if i < 1 ∨ 1099511627776 < i then 0 else (luby i.toNat : Int)

set_option maxHeartbeats 1000000 in
theorem luby_bad (i : Int) (w : World) (h : i < 1 ∨ 1099511627776 < i) :
    Calls Try.prog 17 #[.int .i64 i] w fun e w' => e = .returned (.int .i64 0) ∧ w = w' := by
  by_cases h1 : i < 1
  · clear h
    go_enter Try.func17, Try.ntmps17
    go_wp2
    go_ret
    exact ⟨rfl, rfl⟩
  · have h2 : 1099511627776 < i := by omega
    clear h
    go_enter Try.func17, Try.ntmps17
    go_wp2
    go_ret
    exact ⟨rfl, rfl⟩

theorem pw_of {q k : Nat} (hq : ∃ m, q = 2 ^ m) (h1 : k < q) (h2 : q ≤ 2 * k) : q = 2 * pw k := by
  obtain ⟨m, rfl⟩ := hq
  cases m with
  | zero => simp at h1; omega
  | succ m => rw [Nat.pow_succ] at *; rw [pw_eq (m := m) (by omega) (by omega)]; omega

theorem pow40 {m : Nat} (h : 2 ^ m ≤ 1099511627776) : m ≤ 40 := by
  rcases Nat.lt_or_ge 40 m with h1 | h1
  · have := Nat.pow_le_pow_right (n := 2) (by omega) h1
    omega
  · exact h1

set_option maxHeartbeats 1000000 in
theorem luby_ok (i : Nat) (w : World) (h1 : 1 ≤ i) (h2 : i ≤ 1099511627776) :
    Calls Try.prog 17 #[.int .i64 i] w fun e w' => e = .returned (.int .i64 (luby i)) ∧ w = w' := by
  generalize hL : luby i = L
  have HL := Lib.hid hL
  clear hL
  have hd1 : decide ((i : Int) < 1) = false := by simp; omega
  have hd2 : decide (1099511627776 < (i : Int)) = false := by simp; omega
  go_enter Try.func17, Try.ntmps17
  go_wp2
  go_loop [0, 2, 3] (fun i _ _ => ∃ k : Nat, 1 ≤ k ∧ k ≤ 1099511627776 ∧ i = .int .i64 k ∧ luby k = L) (fun i _ _ => (intOf i).toNat)
  case atStart => exact ⟨i, h1, h2, rfl, HL.out⟩
  case round =>
    obtain ⟨k, hk1, hk2, rfl, hk3⟩ := hrel
    have HK := Lib.hid hk3
    clear hk3
    go_wp2
    go_loop [3] (fun p => ∃ q : Nat, p = .int .i64 q ∧ q ≤ 2 * k ∧ ∃ m, q = 2 ^ m) (fun p => 2 * k - (intOf p).toNat)
    case atStart => exact ⟨1, rfl, by omega, 0, rfl⟩
    case round =>
      obtain ⟨q, rfl, hq1, hq2⟩ := hrel
      have HQ := Lib.hid hq2
      clear hq2
      by_cases hlt : q ≤ k
      · have hqp : 1 ≤ q := by obtain ⟨m, hm⟩ := HQ.out; rw [hm]; exact Nat.one_le_two_pow
        go_wp2
        go_round
        case rel => exact ⟨q * 2, by go_num, by omega, by obtain ⟨m, hm⟩ := HQ.out; exact ⟨m + 1, by rw [hm, Nat.pow_succ]⟩⟩
        case measure => simp [intOf]; omega
      · have hpq := pw_of HQ.out (by omega) hq1
        have hp1 := pw_pos k
        have HP := Lib.hid hpq
        clear hpq
        by_cases hf : k + 1 = q
        · have hf1 : (k : Int) = (q : Int) - 1 := by omega
          have hf2 : ((k : Int) == (q : Int) - 1) = true := by simpa using hf1
          have HF := Lib.hid hf
          clear hf hf1
          go_wp2
          go_ret
          refine ⟨ret_int ?_, rfl⟩
          rw [← HK.out, luby_full hk1 (by rw [HF.out]; exact HP.out), HP.out]
          omega
        · have hf2 : ((k : Int) == (q : Int) - 1) = false := beq_eq_false_iff_ne.2 (by omega)
          have hles := lub_less hk1 (by rw [← HP.out]; exact hf)
          have hple := pw_le hk1
          have HS := Lib.hid (luby_step hk1 (by rw [← HP.out]; exact hf))
          go_wp2
          have hpq := HP.out
          go_round
          case rel => exact ⟨k - pw k + 1, by omega, by omega, by rw [hpq]; exact congrArg (Value.int .i64) (by omega), by rw [← HS.out]; exact HK.out⟩
          case measure => simp [intOf]; omega

theorem luby_any (i : Int) (w : World) : Calls Try.prog 17 #[.int .i64 i] w fun e w' => e = .returned (.int .i64 (lubI i)) ∧ w = w' := by
  by_cases h : i < 1 ∨ 1099511627776 < i
  · rw [lubI, if_pos h]; exact luby_bad i w h
  · rw [lubI, if_neg h]
    obtain ⟨k, rfl⟩ := Int.eq_ofNat_of_zero_le (show 0 ≤ i by omega)
    exact luby_ok k w (by omega) (by omega)

end Go.Proofs.Ythfadkilffmmlaa
