/-
  The law TidyVivifySpec, walked. No condition.
-/
import Derived.Test.YtalcnkoidmoibaaK4
import Derived.Test.YtalcnkoidmoibaaF3
namespace Go.Proofs.Ytalcnkoidmoibaa
open Go.RowKit Go.Shelf
set_option linter.unusedVariables false
set_option linter.unusedSimpArgs false

set_option maxRecDepth 100000 in
set_option maxHeartbeats 2000000 in
theorem vivifySpec_any (x : Int) (A : Option Addr) (n c : Nat) (ls : List (List Int)) (k : Int) (w : World) (h : RL w A n c ls) :
    Calls Try.prog 4 #[.agg #[.int .i64 x, .slice A n c], .int .i64 k] w (Truly w) := by
  have H := Lib.hid (h.alloc (.cells #[.int .i64 x, .slice A n c] 29))
  have HB0 := Lib.hid ((Below.refl w.heap.size w).alloc (Nat.le_refl _) (.cells #[.int .i64 x, .slice A n c] 29))
  have BX := Lib.hid (Two.new w (.int .i64 x) (.slice A n c))
  have hlen := h.len
  clear h
  cases hf : fewL ls
  · have HF := Lib.hid hf
    clear hf
    go_enter Try.func4, Try.ntmps4
    go_wp2_with (first
      | (go_at_call 11; refine (live_any _).mono ?_; rintro e w1 ⟨rfl, hb1⟩; have HB1 := Lib.hid hb1; have t1 := (BX.out.below hb1); have q0 := t1.c0; have q1 := t1.c1; clear hb1 t1)
      | (go_at_call 15; refine (few_val false x A n c ls _ (H.out.below HB1.out) HF.out).mono ?_; rintro e w2 ⟨rfl, hb2⟩; have HB2 := Lib.hid hb2; clear hb2))
    go_ret
    exact ⟨rfl, HB0.out.trans ((HB1.out.trans (HB2.out.mono HB1.out.size)).mono HB0.out.size)⟩
  · have HF := Lib.hid hf
    obtain ⟨hn, hsum⟩ := fewL_len hf
    rw [hlen] at hn
    clear hf
    have hv := fun W (h : RL W A n c ls) => vivify_any x A n c ls k W h (by omega)
    have hr := fun W (h : RL W A n c ls) => vivifyR_any x A n c ls k W h (by omega) (by omega)
    unfold Viv at hv hr
    generalize vivE x ls k = e' at hv hr
    generalize vivL x ls k = z at hv hr
    generalize hz : z.length = m at hv hr
    clear hlen hz
    go_enter Try.func4, Try.ntmps4
    go_wp2_with (first
      | (go_at_call 11; refine (live_any _).mono ?_; rintro e w1 ⟨rfl, hb1⟩; have HB1 := Lib.hid (HB0.out.trans (hb1.mono HB0.out.size)); have HR1 := Lib.hid (H.out.below hb1); have BX1 := Lib.hid (BX.out.below hb1); have q0 := BX1.out.c0; have q1 := BX1.out.c1; clear hb1)
      | (go_at_call 15; refine (few_val true x A n c ls _ HR1.out HF.out).mono ?_; rintro e w2 ⟨rfl, hb2⟩; have HB2 := Lib.hid (HB1.out.trans (hb2.mono HB1.out.size)); have HR2 := Lib.hid (HR1.out.below hb2); have BX2 := Lib.hid (BX1.out.below hb2); clear q0 q1; have q0 := BX2.out.c0; have q1 := BX2.out.c1; clear hb2)
      | (go_at_call 16; refine (hv _ HR2.out).mono ?_; clear hv; rintro e w3 ⟨A3, c3, rfl, hr3, hb3⟩; have HR3 := Lib.hid (HR2.out.below hb3); have HZ3 := Lib.hid hr3; have BX3 := Lib.hid (BX2.out.below hb3); have HB3 := Lib.hid (HB2.out.trans (hb3.mono HB2.out.size)); clear q0 q1; have q0 := BX3.out.c0; have q1 := BX3.out.c1; clear hr3 hb3)
      | (go_at_call 17; refine (hr _ HR3.out).mono ?_; clear hr; rintro e w4 ⟨A4, c4, rfl, hr4, hb4⟩; have HZ4 := Lib.hid hr4; have HY4 := Lib.hid (HZ3.out.below hb4); have HB4 := Lib.hid (HB3.out.trans (hb4.mono HB3.out.size)); clear q0 q1 hr4 hb4)
      | (go_at_call 18; refine (ints_val true _ _ _ _ _ _ _ _ _ HY4.out HZ4.out (by simp [sameB])).mono ?_; rintro e w7 ⟨rfl, hb7⟩; have HB7 := Lib.hid (HB4.out.trans (hb7.mono HB4.out.size)); clear hb7))
    go_ret
    exact ⟨ret_bool (by simp), HB7.out⟩

end Go.Proofs.Ytalcnkoidmoibaa
