/-
  Proved: chalklinelaw21.HeapLubySequence returns true for every two ints, and leaves its arguments as they were. No condition.
  (The frame of the last part was written by the kit's proof-skeleton.mjs.)
-/
import Derived.Test.YthfadkilffmmlaaRows
import Derived.WalkKit
import Derived.ProofKit
import Derived.OpenShut
import Derived.Test.YthfadkilffmmlaaW19
import Derived.Test.YthfadkilffmmlaaPost
import Derived.Laws.BitsAllLaws
import Derived.Laws.BitsLemmas
namespace Go.Proofs.Ythfadkilffmmlaa.heapLubySequence
open Go.ChangeShapes Go.WideShapes Go.ChangeAt Go.RowKit
set_option linter.unusedVariables false
set_option linter.unusedSimpArgs false

theorem own : ownKnob Try.prog.godebug = none := by kernel_rfl

/-! ### STEP 1: THE WALK: the Go text returns true. 'Grown w w'': the world has at most new blocks (Derived/RowKit3.lean). Part the cases AHEAD of 'go_enter' where a test parts the walk; take each callee by a contract of your own. -/
theorem luby_all (k : Nat) : luby (2 * (2 ^ k - 1) + 1) = 2 ^ k := by
  have h1 : 1 ≤ 2 ^ k := Nat.one_le_two_pow
  have hp : pw (2 * (2 ^ k - 1) + 1) = 2 ^ k := pw_eq (by omega) (by omega)
  rw [luby_full (by omega) (by rw [hp]; omega), hp]
theorem luby_twice (k i : Nat) (h1 : 1 ≤ i) (h2 : i ≤ 2 ^ k - 1) : luby (2 ^ k - 1 + i) = luby i := by
  have h0 : 1 ≤ 2 ^ k := Nat.one_le_two_pow
  have hp : pw (2 ^ k - 1 + i) = 2 ^ k := pw_eq (by omega) (by omega)
  rw [luby_step (by omega) (by rw [hp]; omega), hp]
  congr 1
  omega
theorem luby_pow : ∀ (n i : Nat), i ≤ n → 1 ≤ i → ∃ m, luby i = 2 ^ m
  | 0, i, h, h1 => absurd h (by omega)
  | n + 1, i, h, h1 => by
    by_cases e : i + 1 = 2 * pw i
    · exact ⟨_, luby_full h1 e⟩
    · have := lub_less h1 e
      rw [luby_step h1 e]
      exact luby_pow n _ (by omega) this.1
theorem and_pow (m : Nat) (h : 2 ^ m < 9223372036854775808) : bits .and .i64 ((2 ^ m : Nat) : Int) (((2 ^ m : Nat) : Int) - 1) = 0 := by
  have h1 : 1 ≤ 2 ^ m := Nat.one_le_two_pow
  rw [show ((2 ^ m : Nat) : Int) - 1 = ((2 ^ m - 1 : Nat) : Int) by omega]
  have e : ∀ a : Nat, a < 9223372036854775808 → (BitVec.ofInt 64 (a : Int)).toNat = a := fun a ha => by
    rw [BitVec.ofInt_natCast, BitVec.toNat_ofNat]; exact Nat.mod_eq_of_lt (by omega)
  show IntKind.i64.wrap ((BitVec.ofInt 64 ((2 ^ m : Nat) : Int) &&& BitVec.ofInt 64 ((2 ^ m - 1 : Nat) : Int)).toNat : Int) = _
  rw [BitVec.toNat_and, e _ h, e _ (by omega), Nat.and_two_pow_sub_one_eq_mod, Nat.mod_self]
  rfl
theorem lub_le (i : Nat) (h : 1 ≤ i) : luby i ≤ i := by
  have : ∀ n i, i ≤ n → 1 ≤ i → luby i ≤ i := by
    intro n
    induction n with
    | zero => intro i h h1; omega
    | succ n ih =>
      intro i h h1
      by_cases e : i + 1 = 2 * pw i
      · rw [luby_full h1 e]; exact pw_le h1
      · have := lub_less h1 e
        rw [luby_step h1 e]
        have := ih _ (by omega) this.1
        omega
  exact this i i (Nat.le_refl _) h
theorem lubI_nat (i : Nat) (h1 : 1 ≤ i) (h2 : i ≤ 1099511627776) : lubI i = luby i := by
  rw [lubI, if_neg (by omega), Int.toNat_natCast]

set_option maxHeartbeats 1000000 in
theorem lubyOut (a0 : Int) (a1 : Int) (w : World) (h : a0 < 0 ∨ 12 < a0) :
    Calls Try.prog 9 #[.int .i64 a0, .int .i64 a1] w fun e w' => e = .returned (.bool true) ∧ Below w.heap.size w w' := by
  by_cases h1 : a0 < 0
  · clear h
    go_enter Try.func9, Try.ntmps9
    go_wp2_with fail
    refine (live_any _).mono ?_
    rintro e w1 ⟨rfl, hb⟩
    go_wp2_with fail
    go_ret
    exact ⟨rfl, hb⟩
  · have h2 : 12 < a0 := by omega
    clear h
    go_enter Try.func9, Try.ntmps9
    go_wp2_with fail
    refine (live_any _).mono ?_
    rintro e w1 ⟨rfl, hb⟩
    go_wp2_with fail
    go_ret
    exact ⟨rfl, hb⟩

theorem two_pow_le {k : Nat} (h : k ≤ 12) : 2 ^ k ≤ 4096 := Nat.pow_le_pow_right (n := 2) (by omega) h

set_option maxHeartbeats 1000000 in
theorem lubyIn (k : Nat) (a1 : Int) (w : World) (hk : k ≤ 12) (wf1 : (Lit.int .i64 a1).wf = true) :
    Calls Try.prog 9 #[.int .i64 k, .int .i64 a1] w fun e w' => e = .returned (.bool true) ∧ Below w.heap.size w w' := by
  have hd1 : decide ((k : Int) < 0) = false := decide_eq_false (by omega)
  have hd2 : decide (12 < (k : Int)) = false := decide_eq_false (by omega)
  obtain ⟨Q, hQ⟩ : ∃ Q : Nat, 2 ^ k = Q := ⟨_, rfl⟩
  have hq : (2 : Int) ^ k = (Q : Int) := by rw [← hQ]; simp
  have hQ1 : 1 ≤ Q := by rw [← hQ]; exact Nat.one_le_two_pow
  have hQ2 : Q ≤ 4096 := by rw [← hQ]; exact two_pow_le hk
  have hl1 : lubI (2 * ((Q : Int) - 1) + 1) = Q := by
    have := luby_all k
    rw [hQ] at this
    rw [show 2 * ((Q : Int) - 1) + 1 = ((2 * (Q - 1) + 1 : Nat) : Int) by omega, lubI_nat _ (by omega) (by omega), this]
  have HL1 := Lib.hid hl1
  have HQ := Lib.hid hQ
  clear hQ hl1
  by_cases hi1 : a1 < 1
  · go_enter Try.func9, Try.ntmps9
    go_wp2_with fail
    refine (live_any _).mono ?_
    rintro e w1 ⟨rfl, hb⟩
    go_wp2_with fail
    refine (luby_any _ _).mono ?_
    rintro e w1 ⟨rfl, rfl⟩
    rw [HL1.out]
    go_wp2_with fail
    go_ret
    exact ⟨rfl, hb⟩
  · obtain ⟨i, rfl⟩ := Int.eq_ofNat_of_zero_le (show 0 ≤ a1 by omega)
    by_cases hi2 : (Q : Int) - 1 < i
    · go_enter Try.func9, Try.ntmps9
      go_wp2_with fail
      refine (live_any _).mono ?_
      rintro e w1 ⟨rfl, hb⟩
      go_wp2_with fail
      refine (luby_any _ _).mono ?_
      rintro e w1 ⟨rfl, rfl⟩
      rw [HL1.out]
      go_wp2_with fail
      go_ret
      exact ⟨rfl, hb⟩
    · have h1 : 1 ≤ i := by omega
      have h2 : i ≤ Q - 1 := by omega
      obtain ⟨m, hm⟩ := luby_pow i i (Nat.le_refl _) h1
      have hle := lub_le i h1
      have hl2 : lubI (i : Int) = ((2 ^ m : Nat) : Int) := by rw [lubI_nat _ h1 (by omega), hm]
      have hl3 : lubI ((Q : Int) - 1 + i) = ((2 ^ m : Nat) : Int) := by
        have := luby_twice k i h1 (by rw [HQ.out]; exact h2)
        rw [HQ.out] at this
        rw [show (Q : Int) - 1 + (i : Int) = ((Q - 1 + i : Nat) : Int) by omega, lubI_nat _ (by omega) (by omega), this, hm]
      have HL2 := Lib.hid hl2
      have HL3 := Lib.hid hl3
      rw [hm] at hle
      have hand := and_pow m (by omega)
      have hx1 : 1 ≤ 2 ^ m := Nat.one_le_two_pow
      clear hm hl2 hl3
      generalize 2 ^ m = X at *
      have hx2 : (1 : Int) ≤ X := by omega
      go_enter Try.func9, Try.ntmps9
      go_wp2_with fail
      refine (live_any _).mono ?_
      rintro e w1 ⟨rfl, hb⟩
      go_wp2_with fail
      refine (luby_any _ _).mono ?_
      rintro e w1 ⟨rfl, rfl⟩
      rw [HL1.out]
      go_wp2_with fail
      refine (luby_any _ _).mono ?_
      rintro e w1 ⟨rfl, rfl⟩
      rw [HL2.out]
      go_wp2_with fail
      refine (luby_any _ _).mono ?_
      rintro e w1 ⟨rfl, rfl⟩
      rw [HL3.out]
      go_wp2_with fail
      go_ret
      exact ⟨rfl, hb⟩

theorem walk (a0 : Int) (a1 : Int) (w0 : (Lit.int .i64 a0).wf = true) (w1 : (Lit.int .i64 a1).wf = true) (w : World) :
    Calls Try.prog 9 #[.int .i64 a0, .int .i64 a1] w fun e w' => e = .returned (.bool true) ∧ Below w.heap.size w w' := by
  by_cases h : a0 < 0 ∨ 12 < a0
  · exact lubyOut a0 a1 w h
  · obtain ⟨k, rfl⟩ := Int.eq_ofNat_of_zero_le (show 0 ≤ a0 by omega)
    exact lubyIn k a1 w (by omega) w1

/-! ### THE ROW's STEP: WRITTEN OUT: LEAVE IT -/
set_option maxRecDepth 100000 in
theorem lifted (os : Os) (started : os.Started) (H : Type) (enc : TypeId × Value → H) :
    ReturnsInHanded {} Try.checked os 9 .any (Rows.heapLubySequenceSpec.pre6 enc Try.prog Try.f9 Rows.heapLubySequenceRow.domain false) (Rows.heapLubySequenceSpec.post enc Try.prog Try.f9 false true false false) := by
  refine returnsInHanded_of_change (C := Try.checked) own started (by kernel_rfl) Try.func9
    (ChangeSpec.witness6 (enc := enc) (C := Try.checked) false ⟨#[], #[.int .i64 0, .int .i64 0], []⟩ 8 (by kernel_rfl) (by kernel_rfl) (by kernel_rfl) (by kernel_rfl)) ?_
  intro W base args ds gs before hval0 hW hcnd _
  have hval : ∀ (j : Nat) t v, Try.f9.params[j]? = some t → args[j]? = some v → Value.okWide Try.prog W .any base t v := hval0
  have hW' := hW
  obtain ⟨p, q, hA0, hV, rfl, hfz, hnd⟩ := hW
  have hA : DataW.TrodAll enc Try.prog W 0 (fun _ => true) true Try.f9.params.toList args.toList ds p := hA0
  rw [Try.params9] at hA hval
  obtain ⟨v0, vs0, d0, ds0, p0, q0, hargs, rfl, rfl, h0, r0⟩ := trodAll_cons hA
  obtain ⟨v1, vs1, d1, ds1, p1, q1, rfl, rfl, rfl, h1, r1⟩ := trodAll_cons r0
  obtain ⟨rfl, rfl, rfl⟩ := trodAll_nil r1
  obtain rfl : args = #[v0, v1] := by cases args; simp_all
  obtain ⟨rfl, rfl⟩ := trodVars_none hV
  obtain ⟨a0, rfl, rfl, rfl, w0⟩ := open_int Try.underlying3 (hval 0 3 v0 rfl rfl) h0
  obtain ⟨a1, rfl, rfl, rfl, w1⟩ := open_int Try.underlying3 (hval 1 3 v1 rfl rfl) h1
  clear hA0 hval0
  simp only [List.append_nil] at hW'
  refine (walk a0 a1 w0 w1 W).mono fun e W' ⟨he, hg⟩ => ?_
  subst he
  exact ⟨_, rfl, post_of_below (pa := []) (pv := []) hW' (fun _ _ _ => (trodAll_cons_mk (shut_bool Try.underlying4 _) trodAll_mk0)) (fun sp _ => (trodAll_cons_mk (shut_int Try.underlying3 w0) (trodAll_cons_mk (shut_int Try.underlying3 w1) trodAll_mk0))) (fun _ _ => rfl) rfl
    hg (ok_one (by kernel_rfl) rfl (okWide_bool_mk Try.underlying4 _))⟩

theorem over : Rows.heapLubySequenceRow.holds Try.pinned (OpenSpec.ofChange Rows.heapLubySequenceSpec) :=
  OpenClaim.holds_of_wide 9 Try.f9 rfl rfl rfl rfl rfl rfl rfl ⟨rfl, rfl, rfl, rfl, rfl⟩ rfl rfl rfl rfl rfl (by kernel_rfl) Try.func9 (by kernel_rfl)
    (of_decide_eq_true (by kernel_rfl)) (by unfold Func.isWrapper; first | (rw [if_pos (by decide +kernel)]; kernel_rfl) | (rw [if_neg (by decide +kernel)]; exact ⟨rfl, rfl⟩))
    (fun os started H enc _ => lifted os started H enc)

/-- ████ THE STATEMENT ████ -/
theorem proved : Rows.HeapLubySequenceSaid :=
  over
#print axioms proved
end Go.Proofs.Ythfadkilffmmlaa.heapLubySequence
