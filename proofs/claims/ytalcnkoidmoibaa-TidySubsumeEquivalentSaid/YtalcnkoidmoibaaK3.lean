/-
  The law TidySubsumeSpec, walked. No condition.
-/
import Derived.Test.YtalcnkoidmoibaaK1
import Derived.Test.YtalcnkoidmoibaaE4
namespace Go.Proofs.Ytalcnkoidmoibaa
open Go.RowKit Go.Shelf
set_option linter.unusedVariables false
set_option linter.unusedSimpArgs false

theorem fewL_len {ls : List (List Int)} (h : fewL ls = true) : ls.length ≤ 60 ∧ sumL ls ≤ 1000 := by
  unfold fewL at h; simpa using h

theorem few_val (r : Bool) (x : Int) (A : Option Addr) (n c : Nat) (ls : List (List Int)) (w : World) (h : RL w A n c ls) (hr : fewL ls = r) :
    Calls Try.prog 15 #[.agg #[.int .i64 x, .slice A n c]] w fun e w' => e = .returned (.bool r) ∧ Below w.heap.size w w' := by
  have := few_any x A n c ls w h
  rw [hr] at this
  exact this
theorem sameC_true (x : Int) (A : Option Addr) (n c : Nat) (ls : List (List Int)) (A' : Option Addr) (n' c' : Nat) (w : World) (h : RL w A n c ls) (h' : RL w A' n' c' ls) :
    Calls Try.prog 21 #[.agg #[.int .i64 x, .slice A n c], .agg #[.int .i64 x, .slice A' n' c']] w fun e w' => e = .returned (.bool true) ∧ Below w.heap.size w w' := by
  have := sameC_any x A n c ls x A' n' c' ls w h h'
  have e : samesB ls ls = true := by simp [samesB]
  simpa [e] using this

set_option maxHeartbeats 1000000 in
theorem subsumeSpec_any (x : Int) (A : Option Addr) (n c : Nat) (ls : List (List Int)) (w : World) (h : RL w A n c ls) :
    Calls Try.prog 5 #[.agg #[.int .i64 x, .slice A n c]] w (Truly w) := by
  have H := Lib.hid (h.alloc (.cells #[.int .i64 x, .slice A n c] 29))
  have HB0 := Lib.hid ((Below.refl w.heap.size w).alloc (Nat.le_refl _) (.cells #[.int .i64 x, .slice A n c] 29))
  have BX := Lib.hid (Two.new w (.int .i64 x) (.slice A n c))
  have hlen := h.len
  clear h
  cases hf : fewL ls
  · have HF := Lib.hid hf
    clear hf
    go_enter Try.func5, Try.ntmps5
    go_wp2_with (first
      | (go_at_call 11; refine (live_any _).mono ?_; rintro e w1 ⟨rfl, hb1⟩; have HB1 := Lib.hid hb1; have t1 := (BX.out.below hb1); have q0 := t1.c0; have q1 := t1.c1; clear hb1 t1)
      | (go_at_call 15; refine (few_val false x A n c ls _ (H.out.below HB1.out) HF.out).mono ?_; rintro e w2 ⟨rfl, hb2⟩; have HB2 := Lib.hid hb2; clear hb2))
    go_ret
    exact ⟨rfl, HB0.out.trans ((HB1.out.trans (HB2.out.mono HB1.out.size)).mono HB0.out.size)⟩
  · have HF := Lib.hid hf
    have hn := (fewL_len hf).1
    rw [hlen] at hn
    clear hf
    have hs1 := fun W (h : RL W A n c ls) => subsume_any x A n c ls W h (by omega)
    have hs2 := fun W (h : RL W A n c ls) => subsumeR_any x A n c ls W h (by omega)
    unfold Subd at hs1 hs2
    generalize (if checkE x ls = 0 then x else 0) = x' at hs1 hs2
    generalize (if checkE x ls = 0 then subL ls else []) = ls' at hs1 hs2
    generalize checkE x ls = e' at hs1 hs2
    clear hlen
    go_enter Try.func5, Try.ntmps5
    go_wp2_with (first
      | (go_at_call 11; refine (live_any _).mono ?_; rintro e w1 ⟨rfl, hb1⟩; have HB1 := Lib.hid (HB0.out.trans (hb1.mono HB0.out.size)); have HR1 := Lib.hid (H.out.below hb1); have BX1 := Lib.hid (BX.out.below hb1); have q0 := BX1.out.c0; have q1 := BX1.out.c1; clear hb1)
      | (go_at_call 15; refine (few_val true x A n c ls _ HR1.out HF.out).mono ?_; rintro e w2 ⟨rfl, hb2⟩; have HB2 := Lib.hid (HB1.out.trans (hb2.mono HB1.out.size)); have HR2 := Lib.hid (HR1.out.below hb2); have BX2 := Lib.hid (BX1.out.below hb2); clear q0 q1; have q0 := BX2.out.c0; have q1 := BX2.out.c1; clear hb2)
      | (go_at_call 19; refine (hs1 _ HR2.out).mono ?_; clear hs1; rintro e w3 ⟨A3, c3, rfl, hr3, hb3⟩; have HR3 := Lib.hid (HR2.out.below hb3); have HO3 := Lib.hid hr3; have BX3 := Lib.hid (BX2.out.below hb3); have HB3 := Lib.hid (HB2.out.trans (hb3.mono HB2.out.size)); clear q0 q1; have hsz3 := BX3.out.lt; have q0 := BX3.out.c0; have q1 := BX3.out.c1; clear hr3 hb3)
      | (go_at_call 20; refine (hs2 _ (HR3.out.alloc _)).mono ?_; clear hs2; rintro e w4 ⟨A4, c4, rfl, hr4, hb4⟩; have T4 := Lib.hid ((Two.new w3 (.int .i64 x') (.slice A3 ls'.length c3)).below hb4); have HO4 := Lib.hid ((HO3.out.alloc _).below hb4); have HO5 := Lib.hid hr4; have HB4 := Lib.hid (HB3.out.trans (((Below.refl _ w3).alloc (Nat.le_refl _) (.cells #[.int .i64 x', .slice A3 ls'.length c3] 29) |>.trans (hb4.mono (by simp))).mono HB3.out.size)); have hsz4 := T4.out.lt; clear q0 q1; have q0 := T4.out.c0; have q1 := T4.out.c1; clear hr4 hb4)
      | (go_at_call 21; refine (sameC_true x' A3 _ c3 ls' A4 _ c4 _ (HO4.out.alloc _) (HO5.out.alloc _)).mono ?_; rintro e w5 ⟨rfl, hb5⟩; have HB5 := Lib.hid (HB4.out.trans (((Below.refl _ w4).alloc (Nat.le_refl _) (.cells #[.int .i64 x', .slice A4 ls'.length c4] 29) |>.trans (hb5.mono (by simp))).mono HB4.out.size)); clear hb5))
    go_ret
    exact ⟨ret_bool (by simp), HB5.out⟩

end Go.Proofs.Ytalcnkoidmoibaa
