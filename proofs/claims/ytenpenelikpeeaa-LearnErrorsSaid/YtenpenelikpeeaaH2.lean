/-
  The law LearnSound returns true. No condition.
-/
import Derived.Test.YtenpenelikpeeaaG3
import Derived.Test.YtenpenelikpeeaaH1
namespace Go.Proofs.Ytenpenelikpeeaa
open Go.RowKit Go.Shelf
set_option linter.unusedVariables false
set_option linter.unusedSimpArgs false

theorem value_val (r : Bool) (x : Int) (A : Option Addr) (n c : Nat) (ls : List (List Int)) (A' : Option Addr) (n' c' : Nat) (bs : List Bool) (w : World) (h : RL w A n c ls) (h' : RB w A' n' c' bs) (hr : valueT x ls bs = r) :
    Calls Try.prog 21 #[.agg #[.int .i64 x, .slice A n c], .slice A' n' c'] w fun e w' => e = .returned (.bool r) ∧ Below w.heap.size w w' := by
  have := value_any x A n c ls A' n' c' bs w h h'
  rw [hr] at this; exact this
theorem value_all {x : Int} {ls : List (List Int)} {bs : List Bool} (h : valueT x ls bs = true) : ls.all (holdsT bs) = true := by
  unfold valueT at h; rw [Bool.and_eq_true] at h; exact h.2
theorem firstL_okl {x : Int} {ls : List (List Int)} {ts : List Stp} {q : Int} (h : firstE x ls ts q = 0) : Okl (firstL x ls ts q) := (under_cons (rd_of h).tr (rd_of h).big (firstL_under h)).1
theorem first_no {x : Int} {ls : List (List Int)} {ts : List Stp} {q : Int} (h : firstE x ls ts q ≠ 0) : firstL x ls ts q = [] ∧ firstB x ls ts q = 0 := firstB_of x ls ts q h

set_option maxRecDepth 100000 in
set_option maxHeartbeats 4000000 in
theorem lawSound_any (x : Int) (A : Option Addr) (n c : Nat) (ls : List (List Int)) (A' : Option Addr) (n' c' : Nat) (ts : List Stp) (q : Int) (Ab : Option Addr) (nb cb : Nat) (bs : List Bool) (w : World) (h : RL w A n c ls) (h' : RS w A' n' c' ts) (hB : RB w Ab nb cb bs) :
    Calls Try.prog 7 #[.agg #[.int .i64 x, .slice A n c], .slice A' n' c', .int .i64 q, .slice Ab nb cb] w fun e w' => e = .returned (.bool true) ∧ Below w.heap.size w w' := by
  have H := Lib.hid h
  have H' := Lib.hid h'
  have HBs := Lib.hid hB
  have BX := Lib.hid (Two.new w (.int .i64 x) (.slice A n c))
  have HB0 := Lib.hid (below1 w (.cells #[.int .i64 x, .slice A n c] 24))
  have HTS := Lib.hid h'.len
  have hnb := hB.big
  clear h h' hB
  cases hf : fewB ls ts with
  | false =>
    have HF := Lib.hid hf
    clear hf
    go_enter Try.func7, Try.ntmps7
    go_wp2_with (first
      | (go_at_call 11; refine (live_any _).mono ?_; rintro e w1 ⟨rfl, hb⟩; have HB1 := Lib.hid (bthen HB0.out hb); have t0 := (BX.out.below hb).c0; have t1 := (BX.out.below hb).c1; clear hb)
      | (go_at_call 12; refine (lfew_val false x A n c ls A' n' c' ts _ (H.out.below HB1.out) (H'.out.below HB1.out) HF.out).mono ?_; rintro e w2 ⟨rfl, hb⟩; have HB2 := Lib.hid (bthen HB1.out hb); clear hb))
    go_ret
    exact ⟨rfl, HB2.out⟩
  | true =>
    obtain ⟨f1, f2, f3⟩ := few_facts hf
    have HF := Lib.hid hf
    have F1 := Lib.hid f1
    have hn30 : n' ≤ 30 := by rw [← HTS.out]; exact f3
    clear hf f1 f2 f3
    by_cases hb0 : nb ≤ 1000
    · have d1 : decide ((1000 : Int) < (nb : Int)) = false := by rw [decide_eq_false_iff_not]; omega
      cases hv : valueT x ls bs with
      | false =>
        have HV := Lib.hid hv
        clear hv
        go_enter Try.func7, Try.ntmps7
        go_wp2_with (first
          | (go_at_call 11; refine (live_any _).mono ?_; rintro e w1 ⟨rfl, hb⟩; have HB1 := Lib.hid (bthen HB0.out hb); have BX1 := Lib.hid (BX.out.below hb); have t0 := BX1.out.c0; have t1 := BX1.out.c1; clear hb)
          | (go_at_call 12; refine (lfew_val true x A n c ls A' n' c' ts _ (H.out.below HB1.out) (H'.out.below HB1.out) HF.out).mono ?_; rintro e w2 ⟨rfl, hb⟩; have HB2 := Lib.hid (bthen HB1.out hb); have BX2 := Lib.hid (BX1.out.below hb); clear t0 t1; have t0 := BX2.out.c0; have t1 := BX2.out.c1; clear hb)
          | (go_at_call 21; refine (value_val false x A n c ls Ab nb cb bs _ (H.out.below HB2.out) (HBs.out.below HB2.out) HV.out).mono ?_; rintro e w3 ⟨rfl, hb⟩; have HB3 := Lib.hid (bthen HB2.out hb); clear hb))
        go_ret
        exact ⟨rfl, HB3.out⟩
      | true =>
        have HV := Lib.hid hv
        by_cases hE : firstE x ls ts q = 0
        · obtain ⟨zs, hzs⟩ : ∃ zs, firstL x ls ts q = zs := ⟨_, rfl⟩
          obtain ⟨k, hk⟩ : ∃ k, zs.length = k := ⟨_, rfl⟩
          obtain ⟨bk, hbk⟩ : ∃ bk, firstB x ls ts q = bk := ⟨_, rfl⟩
          obtain ⟨ys, hys⟩ : ∃ ys, lessR x ls ts zs = ys := ⟨_, rfl⟩
          obtain ⟨m, hm⟩ : ∃ m, ys.length = m := ⟨_, rfl⟩
          have Z := Lib.hid (And.intro hzs (And.intro hk (And.intro hbk hE)))
          have Y := Lib.hid (And.intro hys (And.intro hm (show lessE x ls ts zs = 0 by rw [← hzs]; exact firstL_takes hE)))
          have HW := Lib.hid (okl_wfl (show Okl zs by rw [← hzs]; exact firstL_okl hE))
          have hk30 : k ≤ 30 := by have := firstL_len hE; rw [hzs, hk, HTS.out] at this; omega
          have S1 := Lib.hid (show holdsT bs zs = true by rw [← hzs]; exact first_holds hE (value_all hv))
          have S2 := Lib.hid (show holdsT bs ys = true by rw [← hys, ← hzs]; exact both_hold hE (value_all hv))
          clear hv hE hzs hk hbk hys hm
          go_enter Try.func7, Try.ntmps7
          go_upto_region 5 with (first
            | (go_at_call 11; refine (live_any _).mono ?_; rintro e w1 ⟨rfl, hb⟩; have HB1 := Lib.hid (bthen HB0.out hb); have BX1 := Lib.hid (BX.out.below hb); have t0 := BX1.out.c0; have t1 := BX1.out.c1; clear hb)
            | (go_at_call 12; refine (lfew_val true x A n c ls A' n' c' ts _ (H.out.below HB1.out) (H'.out.below HB1.out) HF.out).mono ?_; rintro e w2 ⟨rfl, hb⟩; have HB2 := Lib.hid (bthen HB1.out hb); have BX2 := Lib.hid (BX1.out.below hb); clear t0 t1; have t0 := BX2.out.c0; have t1 := BX2.out.c1; clear hb)
            | (go_at_call 21; refine (value_val true x A n c ls Ab nb cb bs _ (H.out.below HB2.out) (HBs.out.below HB2.out) HV.out).mono ?_; rintro e w3 ⟨rfl, hb⟩; have HB3 := Lib.hid (bthen HB2.out hb); have BX3 := Lib.hid (BX2.out.below hb); clear hb))
          clear t0 t1
          have t0 := BX3.out.c0
          have t1 := BX3.out.c1
          go_upto_region 8 with (go_at_call 13; refine (first_any x A n c ls A' n' c' ts q _ (H.out.below HB3.out) (H'.out.below HB3.out) (by omega) (fun l hl => Nat.le_trans (F1.out l hl) (by omega))).mono ?_; rintro e w4 hfp; obtain ⟨A4, c4, rfl, hr4, hb4⟩ := hfp.named Z.out.1 Z.out.2.1 Z.out.2.2.1 Z.out.2.2.2; have HB4 := Lib.hid (bthen HB3.out hb4); have BX4 := Lib.hid (BX3.out.below hb4); have HR4 := Lib.hid hr4; clear hfp hr4 hb4)
          clear t0 t1
          have t0 := BX4.out.c0
          have t1 := BX4.out.c1
          go_upto_region 9 with (go_at_call 16; refine (less_any x A n c ls A' n' c' ts A4 k c4 zs _ (H.out.below HB4.out) (H'.out.below HB4.out) HR4.out HW.out (by omega) (by omega)).mono ?_; rintro e w5 hfp; obtain ⟨A5, c5, rfl, hr5, hb5⟩ := hfp.named Y.out.1 Y.out.2.1 Y.out.2.2; have HB5 := Lib.hid (bthen HB4.out hb5); have HR5 := Lib.hid hr5; have HRa := Lib.hid (HR4.out.below hb5); clear hfp hr5 hb5)
          clear t0 t1
          have T1 := Lib.hid True.intro
          go_wp2_with (go_at_call 22; first
            | (have _t := T1.out; clear T1; refine (holds_val true A4 k c4 zs Ab nb cb bs _ HRa.out (HBs.out.below HB5.out) S1.out).mono ?_; rintro e w6 ⟨rfl, hb6⟩; have HB6 := Lib.hid (bthen HB5.out hb6); have HRb := Lib.hid (HR5.out.below hb6); clear hb6)
            | (refine (holds_val true A5 m c5 ys Ab nb cb bs _ HRb.out (HBs.out.below HB6.out) S2.out).mono ?_; rintro e w7 ⟨rfl, hb7⟩; have HB7 := Lib.hid (bthen HB6.out hb7); clear hb7))
          go_ret
          exact ⟨rfl, HB7.out⟩
        · obtain ⟨er, her⟩ : ∃ er, firstE x ls ts q = er := ⟨_, rfl⟩
          have Z := Lib.hid (And.intro (first_no hE).1 (And.intro (first_no hE).2 her))
          have hr : (er != 0) = true := by rw [← her]; simpa using hE
          clear hv hE her
          go_enter Try.func7, Try.ntmps7
          go_upto_region 5 with (first
            | (go_at_call 11; refine (live_any _).mono ?_; rintro e w1 ⟨rfl, hb⟩; have HB1 := Lib.hid (bthen HB0.out hb); have BX1 := Lib.hid (BX.out.below hb); have t0 := BX1.out.c0; have t1 := BX1.out.c1; clear hb)
            | (go_at_call 12; refine (lfew_val true x A n c ls A' n' c' ts _ (H.out.below HB1.out) (H'.out.below HB1.out) HF.out).mono ?_; rintro e w2 ⟨rfl, hb⟩; have HB2 := Lib.hid (bthen HB1.out hb); have BX2 := Lib.hid (BX1.out.below hb); clear t0 t1; have t0 := BX2.out.c0; have t1 := BX2.out.c1; clear hb)
            | (go_at_call 21; refine (value_val true x A n c ls Ab nb cb bs _ (H.out.below HB2.out) (HBs.out.below HB2.out) HV.out).mono ?_; rintro e w3 ⟨rfl, hb⟩; have HB3 := Lib.hid (bthen HB2.out hb); have BX3 := Lib.hid (BX2.out.below hb); clear hb))
          clear t0 t1
          have t0 := BX3.out.c0
          have t1 := BX3.out.c1
          go_wp2_with (go_at_call 13; refine (first_any x A n c ls A' n' c' ts q _ (H.out.below HB3.out) (H'.out.below HB3.out) (by omega) (fun l hl => Nat.le_trans (F1.out l hl) (by omega))).mono ?_; rintro e w4 hfp; obtain ⟨A4, c4, rfl, hr4, hb4⟩ := hfp.named Z.out.1 rfl Z.out.2.1 Z.out.2.2; have HB4 := Lib.hid (bthen HB3.out hb4); clear hfp hr4 hb4)
          go_ret
          exact ⟨rfl, HB4.out⟩
    · have d1 : decide ((1000 : Int) < (nb : Int)) = true := by rw [decide_eq_true_iff]; omega
      go_enter Try.func7, Try.ntmps7
      go_wp2_with (first
        | (go_at_call 11; refine (live_any _).mono ?_; rintro e w1 ⟨rfl, hb⟩; have HB1 := Lib.hid (bthen HB0.out hb); have t0 := (BX.out.below hb).c0; have t1 := (BX.out.below hb).c1; clear hb)
        | (go_at_call 12; refine (lfew_val true x A n c ls A' n' c' ts _ (H.out.below HB1.out) (H'.out.below HB1.out) HF.out).mono ?_; rintro e w2 ⟨rfl, hb⟩; have HB2 := Lib.hid (bthen HB1.out hb); clear hb))
      go_ret
      exact ⟨rfl, HB2.out⟩

end Go.Proofs.Ytenpenelikpeeaa
