/-
  slices.Equal, slices.EqualFunc, cnf.Same at equal arguments. No condition.
-/
import Derived.Test.YtalcnkoidmoibaaG1
namespace Go.Proofs.Ytalcnkoidmoibaa
open Go.RowKit Go.Shelf
set_option linter.unusedVariables false
set_option linter.unusedSimpArgs false

set_option maxHeartbeats 400000 in
theorem equal_true (A : Option Addr) (n c : Nat) (zs : List Int) (A' : Option Addr) (c' : Nat) (w : World) (h : RI w A n c zs) (h' : RI w A' n c' zs) :
    Calls Try.prog 59 #[.slice A n c, .slice A' n c'] w fun e w' => e = .returned (.bool true) ∧ Below w.heap.size w w' := by
  have hn := h.small
  have H := Lib.hid h
  have H' := Lib.hid h'
  clear h h'
  go_enter Try.func59, Try.ntmps59
  go_wp2
  go_loopw [13] (fun i wr => ∃ k q : Nat, k ≤ n ∧ i = .int .i64 k ∧ wr = w.drewN q) (fun i _ => n - (intOf i).toNat)
  case atStart => exact ⟨0, 0, Nat.zero_le _, rfl, rfl⟩
  case round =>
    obtain ⟨k, q, hk, rfl, rfl⟩ := hrel
    by_cases hlt : k < n
    · obtain ⟨b, off, rfl, hb, hc⟩ := H.out.cells (by omega)
      have hck := hc k hlt
      clear hc
      obtain ⟨b', off', rfl, hb', hc'⟩ := H'.out.cells (by omega)
      have hck' := hc' k hlt
      clear hc'
      have hl1 : (k : Int) < (n : Int) := by omega
      go_wp2_with fail
      go_quiet (fail)
      go_wp2
      go_roundw
      case rel => exact ⟨k + 1, _, by omega, by go_num, rfl⟩
      case measure => simp [intOf]; omega
    · go_wp2
      go_ret
      exact ⟨rfl, drewN_below _ _⟩

theorem enters59 : ∀ args w, (callFunc 59 args).run Try.prog w = .ok (.enter 59 args) w := enters_of Try.func59 (by kernel_rfl) rfl

set_option maxHeartbeats 400000 in
theorem equalFunc_true (A : Option Addr) (n c : Nat) (ls : List (List Int)) (A' : Option Addr) (c' : Nat) (w : World) (h : RL w A n c ls) (h' : RL w A' n c' ls) :
    Calls Try.prog 58 #[.slice A n c, .slice A' n c', .func (.func 59) #[] #[]] w fun e w' => e = .returned (.bool true) ∧ Below w.heap.size w w' := by
  have hn := h.small
  have H := Lib.hid h
  have H' := Lib.hid h'
  have eg := enters59
  clear h h'
  go_enter Try.func58, Try.ntmps58
  go_wp2
  go_loopw [17] (fun i wr => ∃ k : Nat, k ≤ n ∧ i = .int .i64 k ∧ Below w.heap.size w wr) (fun i _ => n - (intOf i).toNat)
  case atStart => exact ⟨0, Nat.zero_le _, rfl, Below.refl _ _⟩
  case round =>
    obtain ⟨k, hk, rfl, hb⟩ := hrel
    have HB := Lib.hid hb
    clear hb
    by_cases hlt : k < n
    · obtain ⟨b, off, rfl, hbl, hc⟩ := (H.out.below HB.out).cells (by omega)
      obtain ⟨a1, n1, c1, hck, hr1⟩ := hc k hlt
      clear hc
      obtain ⟨b', off', rfl, hbl', hc'⟩ := (H'.out.below HB.out).cells (by omega)
      obtain ⟨a2, n2, c2, hck', hr2⟩ := hc' k hlt
      clear hc'
      have hn12 : n1 = n2 := by rw [← hr1.len, ← hr2.len]
      subst hn12
      have hcall := equal_true a1 n1 c1 (ell ls k) a2 c2 wr hr1 hr2
      clear hr1 hr2
      go_wp2_with (go_at_fn 59; refine hcall.mono ?_; clear hcall; rintro e w2 ⟨rfl, hb2⟩; have HB2 := Lib.hid hb2; clear hb2)
      go_roundw
      case rel => exact ⟨k + 1, by omega, by go_num, HB.out.trans (HB2.out.mono HB.out.size)⟩
      case measure => simp [intOf]; omega
    · go_wp2
      go_ret
      exact ⟨rfl, HB.out⟩

set_option maxHeartbeats 400000 in
theorem cnfSame_true (x : Int) (A : Option Addr) (n c : Nat) (ls : List (List Int)) (A' : Option Addr) (c' : Nat) (w : World) (h : RL w A n c ls) (h' : RL w A' n c' ls) :
    Calls Try.prog 28 #[.agg #[.int .i64 x, .slice A n c], .agg #[.int .i64 x, .slice A' n c']] w fun e w' => e = .returned (.bool true) ∧ Below w.heap.size w w' := by
  have hb0 : Below w.heap.size w ((w.alloc (.cells #[.int .i64 x, .slice A n c] 29)).alloc (.cells #[.int .i64 x, .slice A' n c'] 29)) := ((Below.refl _ _).alloc (Nat.le_refl _) _).alloc (by simp) _
  have hcall := equalFunc_true A n c ls A' c' _ (h.below hb0) (h'.below hb0)
  have HB0 := Lib.hid hb0
  clear h h' hb0
  go_enter Try.func28, Try.ntmps28
  go_wp2_with (go_at_call 58; refine hcall.mono ?_; clear hcall; rintro e w2 ⟨rfl, hb2⟩; have HB2 := Lib.hid hb2; clear hb2)
  go_ret
  exact ⟨rfl, HB0.out.trans (HB2.out.mono HB0.out.size)⟩

end Go.Proofs.Ytalcnkoidmoibaa
