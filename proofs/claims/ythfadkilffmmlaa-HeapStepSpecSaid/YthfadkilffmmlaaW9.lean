/-
  Contracts of slices.Max and of slices.SortFunc up to 12 elements, over the order of the queue. No condition.
-/
import Derived.Test.YthfadkilffmmlaaW8
import Derived.Test.YthfadkilffmmlaaShelf
namespace Go.Proofs.Ythfadkilffmmlaa
open Go.RowKit
set_option linter.unusedVariables false
set_option linter.unusedSimpArgs false

/-- the greatest of the first k elements -/
def maxTo (zs : List Int) : Nat → Int
  | 0 => elt zs 0
  | k + 1 => max (maxTo zs k) (elt zs k)
theorem le_maxTo (zs : List Int) : ∀ (k j : Nat), j < k → elt zs j ≤ maxTo zs k
  | 0, j, h => absurd h (by omega)
  | k + 1, j, h => by
    rcases Nat.lt_or_ge j k with h1 | h1
    · have := le_maxTo zs k j h1; simp only [maxTo]; omega
    · have : j = k := by omega
      subst this; simp only [maxTo]; omega
theorem maxTo_mem (zs : List Int) : ∀ k : Nat, ∃ j, (j < k ∨ j = 0) ∧ maxTo zs k = elt zs j
  | 0 => ⟨0, .inr rfl, rfl⟩
  | k + 1 => by
    obtain ⟨j, hj, e⟩ := maxTo_mem zs k
    simp only [maxTo]
    rcases Int.le_total (maxTo zs k) (elt zs k) with h | h
    · exact ⟨k, .inl (by omega), by omega⟩
    · exact ⟨j, by omega, by omega⟩

set_option maxHeartbeats 1000000 in
theorem max_any (A : Option Addr) (n c : Nat) (zs : List Int) (w : World) (h : RI w A n c zs) (hn0 : 0 < n) :
    Calls Try.prog 46 #[.slice A n c] w fun e w' => e = .returned (.int .i64 (maxTo zs n)) ∧ w = w' := by
  have hn := h.small
  have h1 : ¬ (n : Int) < 1 := by omega
  have h0 : (0 : Int) < n := by omega
  obtain ⟨b, off, rfl, hb, hc⟩ := h.cells hn0
  have hc0 := hc 0 hn0
  simp only [Nat.add_zero] at hc0
  have HC := Lib.hid hc
  clear hc h
  go_enter Try.func46, Try.ntmps46
  go_wp2
  go_loop [3, 4] (fun m i => ∃ k : Nat, 1 ≤ k ∧ k ≤ n ∧ i = .int .i64 k ∧ m = .int .i64 (maxTo zs k)) (fun _ i => n - (intOf i).toNat)
  case atStart => exact ⟨1, Nat.le_refl _, hn0, rfl, by simp [maxTo]⟩
  case round =>
    obtain ⟨k, hk0, hk, rfl, rfl⟩ := hrel
    by_cases hlt : k < n
    · have hck := HC.out k hlt
      go_wp2
      go_round
      case rel => exact ⟨k + 1, by omega, by omega, by go_num, rfl⟩
      case measure => simp [intOf]; omega
    · have : k = n := by omega
      subst this
      go_wp2
      go_ret
      exact ⟨rfl, rfl⟩

set_option maxHeartbeats 1000000 in
theorem pdq_small (W0 : World) (g B : Nat) (act : List Int) (C : Cx W0 g B act) (rest : List Value) (zs0 : List Int) (hd : Dom act.length zs0) (n c : Nat) (lim : Int) (W : World) (hS : Srt W0 g rest zs0 W) (hn : zs0.length = n) (h12 : n ≤ 12) :
    Calls Try.prog 54 #[.slice (some ⟨g, 0, none⟩) n c, .int .i64 0, .int .i64 n, .int .i64 lim, fvO B] W (Sorts act 0 n W0 g rest zs0) := by
  have HI := Lib.hid (insertion_any W0 g B act C rest zs0 hd n c 0 n W hS hn (by omega) (Nat.zero_le _) (Nat.le_refl _))
  clear C hd hS hn
  have hle : (n : Int) ≤ 12 := by omega
  go_enter Try.func54, Try.ntmps54
  go_wp2_with fail
  refine wp_loop_rounds 1 ?_
  rw [rounds_succ]
  go_wp2_with fail
  refine HI.out.mono ?_
  rintro e w2 ⟨zs', rfl, h1, h2, h3⟩
  go_wp2_with fail
  (try simp only [Exit.inBlock, Exit.then])
  refine bodyPost_ret (results_none rfl _ _ _) rfl ?_
  exact ⟨zs', rfl, h1, h2, h3⟩

/-- what is asked of slices.SortFunc up to N elements -/
def SortOk (N : Nat) : Prop :=
  ∀ (W0 : World) (g B : Nat) (act : List Int), Cx W0 g B act → ∀ (rest : List Value) (zs0 : List Int), Dom act.length zs0 → ∀ (n c : Nat) (W : World), Srt W0 g rest zs0 W → zs0.length = n → n ≤ N →
    Calls Try.prog 47 #[.slice (some ⟨g, 0, none⟩) n c, fvO B] W (Sorts act 0 n W0 g rest zs0)

set_option maxHeartbeats 1000000 in
theorem sort_small : SortOk 12 := by
  intro W0 g B act C rest zs0 hd n c W hS hn h12
  have HI := Lib.hid (fun lim => pdq_small W0 g B act C rest zs0 hd n c lim W hS hn h12)
  clear C hd hS hn
  have hw : IntKind.u64.wrap (n : Int) = n := by rw [IntKind.wrap_u64]; omega
  go_enter Try.func47, Try.ntmps47
  go_wp2_with fail
  refine (Try.bits_Len (n : Int) _ (by omega) (by omega)).mono ?_
  rintro e w2 ⟨rfl, rfl⟩
  go_wp2_with fail
  refine (HI.out _).mono ?_
  rintro e w2 ⟨zs', rfl, h1, h2, h3⟩
  go_wp2_with fail
  go_end0
  exact ⟨zs', rfl, h1, h2, h3⟩

end Go.Proofs.Ythfadkilffmmlaa
