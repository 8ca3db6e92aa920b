/-
  The law TidyVivifyShrinks, walked. No condition.
-/
import Derived.Test.YtalcnkoidmoibaaK3
import Derived.Test.YtalcnkoidmoibaaU2
import Derived.Test.YtalcnkoidmoibaaP5
namespace Go.Proofs.Ytalcnkoidmoibaa
open Go.RowKit Go.Shelf
set_option linter.unusedVariables false
set_option linter.unusedSimpArgs false

theorem subsumes_val (r : Bool) (A : Option Addr) (n c : Nat) (zs : List Int) (A' : Option Addr) (n' c' : Nat) (zs' : List Int) (w : World) (h : RI w A n c zs) (h' : RI w A' n' c' zs') (hz : Wfl zs) (hz' : Wfl zs') (hr : subB zs zs' = r) :
    Calls Try.prog 24 #[.slice A n c, .slice A' n' c'] w fun e w' => e = .returned (.bool r) ∧ Below w.heap.size w w' := by
  have := subsumes_any A n c zs A' n' c' zs' w h h' hz hz'
  rw [hr] at this
  exact this

theorem okl_wfl {zs : List Int} (h : Okl zs) : Wfl zs := fun y hy => wf_lit (h y hy).2.1 (h y hy).2.2

set_option maxRecDepth 100000 in
set_option maxHeartbeats 2000000 in
theorem vivifyShrinks_any (x : Int) (A : Option Addr) (n c : Nat) (ls : List (List Int)) (k : Int) (w : World) (h : RL w A n c ls) :
    Calls Try.prog 6 #[.agg #[.int .i64 x, .slice A n c], .int .i64 k] w (Truly w) := by
  have H := Lib.hid (h.alloc (.cells #[.int .i64 x, .slice A n c] 29))
  have HB0 := Lib.hid ((Below.refl w.heap.size w).alloc (Nat.le_refl _) (.cells #[.int .i64 x, .slice A n c] 29))
  have BX := Lib.hid (Two.new w (.int .i64 x) (.slice A n c))
  have hlen := h.len
  clear h
  cases hf : fewL ls
  · have HF := Lib.hid hf
    clear hf
    go_enter Try.func6, Try.ntmps6
    go_wp2_with (first
      | (go_at_call 11; refine (live_any _).mono ?_; rintro e w1 ⟨rfl, hb1⟩; have HB1 := Lib.hid hb1; have t1 := (BX.out.below hb1); have q0 := t1.c0; have q1 := t1.c1; clear hb1 t1)
      | (go_at_call 15; refine (few_val false x A n c ls _ (H.out.below HB1.out) HF.out).mono ?_; rintro e w2 ⟨rfl, hb2⟩; have HB2 := Lib.hid hb2; clear hb2))
    go_ret
    exact ⟨rfl, HB0.out.trans ((HB1.out.trans (HB2.out.mono HB1.out.size)).mono HB0.out.size)⟩
  · have HF := Lib.hid hf
    obtain ⟨hn, hsum⟩ := fewL_len hf
    rw [hlen] at hn
    clear hf
    have hv := fun W (h : RL W A n c ls) => vivify_any x A n c ls k W h (by omega)
    unfold Viv at hv
    by_cases hE : vivE x ls k = 0
    · obtain ⟨hce, hk0, hkl⟩ := vivE_zero hE
      obtain ⟨j, rfl⟩ : ∃ j : Nat, k = j := ⟨k.toNat, by omega⟩
      have hjn : j < n := by omega
      obtain ⟨g1, g2, g3, g4⟩ := viv_again hE
      have g5 : (vivL x ls (j : Int)).length ≤ 1000 := by
        have e1 : vivL x ls (j : Int) = vivT (ls.eraseIdx j) (normP (ell ls j)) [] := by unfold vivL; rw [if_pos hE]; simp
        rw [e1]
        exact Nat.le_trans (viv_part _ _).length_le (Nat.le_trans (normP_len _) (Nat.le_trans (sumL_ell ls j) hsum))
      have g6 : Okl (vivL x ls (j : Int)) := fun y hy => checkE_lits hce _ (ell_mem (by omega)) y (g4 y hy)
      have g7 := sumL_set ls j (vivL x ls (j : Int))
      have hv2 := fun W A' c' (h : RL W A' n c' (ls.set j (vivL x ls (j : Int)))) => vivify_any x A' n c' (ls.set j (vivL x ls (j : Int))) j W h (by omega)
      unfold Viv at hv2
      rw [hE] at hv
      rw [g1] at hv2
      generalize vivL x (ls.set j (vivL x ls (j : Int))) (j : Int) = y at hv2 g2
      generalize vivL x ls (j : Int) = z at hv hv2 g2 g3 g5 g6 g7 g4
      have g8 : Okl y := fun v hv => g6 v (g2.subset hv)
      have g9 : subB y z = true := subB_iff.2 fun v hv => g2.subset hv
      have g10 := g2.length_le
      obtain ⟨m, hm⟩ : ∃ m, z.length = m := ⟨_, rfl⟩
      obtain ⟨m2, hm2⟩ : ∃ m2, y.length = m2 := ⟨_, rfl⟩
      rw [hm] at hv g5 g10
      rw [hm2] at hv2 g10
      have hno := fun W A' c' (h : RI W A' m c' z) => norm_any A' m c' z W h
      unfold Normed at hno
      rw [g3, hm] at hno
      have G8 := Lib.hid (okl_wfl g8)
      have G6 := Lib.hid (okl_wfl g6)
      have G9 := Lib.hid g9
      clear hE hce g1 g2 g3 g4 g6 g7 g8 g9 hm hm2 hlen hkl hk0
      have k0 : ¬ (j : Int) < 0 := by omega
      have k1 : ¬ (n : Int) ≤ (j : Int) := by omega
      have hwi := fun W A' c' (h : RL W A n c ls) (h' : RI W A' m c' z) => with_any x A n c ls j A' m c' z W h hjn h' (by omega)
      unfold Withd at hwi
      have hle : (m2 : Int) ≤ (m : Int) := by omega
      generalize bothP z = bo at hno
      go_enter Try.func6, Try.ntmps6
      cases bo
      all_goals
        go_wp2_with (first
          | (go_at_call 11; refine (live_any _).mono ?_; rintro e w1 ⟨rfl, hb1⟩; have HB1 := Lib.hid (HB0.out.trans (hb1.mono HB0.out.size)); have HR1 := Lib.hid (H.out.below hb1); have BX1 := Lib.hid (BX.out.below hb1); have q0 := BX1.out.c0; have q1 := BX1.out.c1; clear hb1)
          | (go_at_call 15; refine (few_val true x A n c ls _ HR1.out HF.out).mono ?_; rintro e w2 ⟨rfl, hb2⟩; have HB2 := Lib.hid (HB1.out.trans (hb2.mono HB1.out.size)); have HR2 := Lib.hid (HR1.out.below hb2); have BX2 := Lib.hid (BX1.out.below hb2); clear q0 q1; have q0 := BX2.out.c0; have q1 := BX2.out.c1; clear hb2)
          | (go_at_call 22; refine (hwi _ _ _ HR3.out HZ3.out).mono ?_; clear hwi; rintro e w4 ⟨A4, c4, rfl, hr4, hb4⟩; have HR4 := Lib.hid hr4; have HZ4 := Lib.hid (HZ3.out.below hb4); have HB4 := Lib.hid (HB3.out.trans (hb4.mono HB3.out.size)); clear q0 q1 hr4 hb4)
          | (go_at_call 23; refine (hno _ _ _ HZ5.out).mono ?_; clear hno; rintro e w6 ⟨A6, c6, rfl, hr6, hb6⟩; have HN6 := Lib.hid hr6; have HY6 := Lib.hid (HY5.out.below hb6); have HZ6 := Lib.hid (HZ5.out.below hb6); have HB6 := Lib.hid (HB5.out.trans (hb6.mono HB5.out.size)); clear hr6 hb6)
          | (go_at_call 18; refine (ints_val true _ _ _ _ _ _ _ _ _ HN6.out HZ6.out (by simp [sameB])).mono ?_; rintro e w7 ⟨rfl, hb7⟩; have HY7 := Lib.hid (HY6.out.below hb7); have HZ7 := Lib.hid (HZ6.out.below hb7); have HB7 := Lib.hid (HB6.out.trans (hb7.mono HB6.out.size)); clear hb7)
          | (go_at_call 24; refine (subsumes_val true _ _ _ _ _ _ _ _ _ HY7.out HZ7.out G8.out G6.out G9.out).mono ?_; rintro e w8 ⟨rfl, hb8⟩; have HB8 := Lib.hid (HB7.out.trans (hb8.mono HB7.out.size)); clear hb8)
          | (go_at_call 16; ((with_reducible refine (hv2 _ _ _ HR4.out).mono ?_)); clear hv2; rintro e w5 ⟨A5, c5, rfl, hr5, hb5⟩; have HY5 := Lib.hid hr5; have HZ5 := Lib.hid (HZ4.out.below hb5); have HB5 := Lib.hid (HB4.out.trans (hb5.mono HB4.out.size)); clear hr5 hb5)
          | (go_at_call 16; refine (hv _ HR2.out).mono ?_; clear hv; rintro e w3 ⟨A3, c3, rfl, hr3, hb3⟩; have HR3 := Lib.hid (HR2.out.below hb3); have HZ3 := Lib.hid hr3; have BX3 := Lib.hid (BX2.out.below hb3); have HB3 := Lib.hid (HB2.out.trans (hb3.mono HB2.out.size)); clear q0 q1; have q0 := BX3.out.c0; have q1 := BX3.out.c1; clear hr3 hb3))
        go_ret
        exact ⟨ret_bool (by simp), HB8.out⟩
    · generalize vivE x ls k = e' at hv hE
      generalize vivL x ls k = z at hv
      have he : (e' != 0) = true := by simpa using hE
      clear hE hlen
      go_enter Try.func6, Try.ntmps6
      go_wp2_with (first
        | (go_at_call 11; refine (live_any _).mono ?_; rintro e w1 ⟨rfl, hb1⟩; have HB1 := Lib.hid (HB0.out.trans (hb1.mono HB0.out.size)); have HR1 := Lib.hid (H.out.below hb1); have BX1 := Lib.hid (BX.out.below hb1); have q0 := BX1.out.c0; have q1 := BX1.out.c1; clear hb1)
        | (go_at_call 15; refine (few_val true x A n c ls _ HR1.out HF.out).mono ?_; rintro e w2 ⟨rfl, hb2⟩; have HB2 := Lib.hid (HB1.out.trans (hb2.mono HB1.out.size)); have HR2 := Lib.hid (HR1.out.below hb2); have BX2 := Lib.hid (BX1.out.below hb2); clear q0 q1; have q0 := BX2.out.c0; have q1 := BX2.out.c1; clear hb2)
        | (go_at_call 16; refine (hv _ HR2.out).mono ?_; clear hv; rintro e w3 ⟨A3, c3, rfl, hr3, hb3⟩; have HB3 := Lib.hid (HB2.out.trans (hb3.mono HB2.out.size)); clear q0 q1 hr3 hb3))
      go_ret
      exact ⟨rfl, HB3.out⟩

end Go.Proofs.Ytalcnkoidmoibaa
