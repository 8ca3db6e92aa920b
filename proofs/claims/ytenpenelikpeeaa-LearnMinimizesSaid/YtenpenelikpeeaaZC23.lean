/-
  The laws LearnFirst and LearnRedundant return true. No condition.
  The law LearnSound returns true. No condition.
  The law LearnAsserting returns true. No condition.
  A state that unit propagation has closed: what it makes of the clauses of First and Less. No program in sight. No condition.
-/
import Derived.Test.YtenpenelikpeeaaZC17
import Derived.Test.YtenpenelikpeeaaZC18
import Derived.IntWalk
import Derived.Test.YtenpenelikpeeaaZC21

namespace Go.Proofs.Ytenpenelikpeeaa
open Go.RowKit Go.Shelf
set_option linter.unusedVariables false
set_option linter.unusedSimpArgs false

/-- First, its result's length named -/
def FirstW (zs : List Int) (k : Nat) (bk e' : Int) (w : World) (e : Ending) (w' : World) : Prop := FirstV zs k bk e' w e w'
theorem FirstP.named {zs ys : List Int} {k : Nat} {bk bk' e' e'' : Int} {w : World} {e : Ending} {w' : World} (h : FirstP zs bk e' w e w') (h1 : zs = ys) (h2 : ys.length = k) (h3 : bk = bk') (h4 : e' = e'') : FirstV ys k bk' e'' w e w' := by
  subst h1 h2 h3 h4; exact h
theorem LessP.named {zs ys : List Int} {k : Nat} {e' e'' : Int} {w : World} {e : Ending} {w' : World} (h : LessP zs e' w e w') (h1 : zs = ys) (h2 : ys.length = k) (h4 : e' = e'') : LessV ys k e'' w e w' := by
  subst h1 h2 h4; exact h

set_option maxRecDepth 100000 in
set_option maxHeartbeats 2000000 in
theorem lawFirst_any (x : Int) (A : Option Addr) (n c : Nat) (ls : List (List Int)) (A' : Option Addr) (n' c' : Nat) (ts : List Stp) (q : Int) (w : World) (h : RL w A n c ls) (h' : RS w A' n' c' ts) :
    Calls Try.prog 3 #[.agg #[.int .i64 x, .slice A n c], .slice A' n' c', .int .i64 q] w fun e w' => e = .returned (.bool true) ∧ Below w.heap.size w w' := by
  have H := Lib.hid h
  have H' := Lib.hid h'
  have BX := Lib.hid (Two.new w (.int .i64 x) (.slice A n c))
  have HB0 := Lib.hid (below1 w (.cells #[.int .i64 x, .slice A n c] 24))
  have HTS := Lib.hid h'.len
  clear h h'
  cases hf : fewB ls ts with
  | false =>
    have HF := Lib.hid hf
    clear hf
    go_enter Try.func3, Try.ntmps3
    go_wp2_with (first
      | (go_at_call 11; refine (live_any _).mono ?_; rintro e w1 ⟨rfl, hb⟩; have HB1 := Lib.hid (bthen HB0.out hb); have t0 := (BX.out.below hb).c0; have t1 := (BX.out.below hb).c1; clear hb)
      | (go_at_call 12; refine (lfew_val false x A n c ls A' n' c' ts _ (H.out.below HB1.out) (H'.out.below HB1.out) HF.out).mono ?_; rintro e w2 ⟨rfl, hb⟩; have HB2 := Lib.hid (bthen HB1.out hb); clear hb))
    go_ret
    exact ⟨rfl, HB2.out⟩
  | true =>
    obtain ⟨f1, f2, f3⟩ := few_facts hf
    have HF := Lib.hid hf
    have F1 := Lib.hid f1
    have hn30 : n' ≤ 30 := by rw [← HTS.out]; exact f3
    obtain ⟨zs, hzs⟩ : ∃ zs, firstL x ls ts q = zs := ⟨_, rfl⟩
    obtain ⟨k, hk⟩ : ∃ k, zs.length = k := ⟨_, rfl⟩
    obtain ⟨bk, hbk⟩ : ∃ bk, firstB x ls ts q = bk := ⟨_, rfl⟩
    obtain ⟨er, her⟩ : ∃ er, firstE x ls ts q = er := ⟨_, rfl⟩
    have Z := Lib.hid (And.intro hzs (And.intro hk (And.intro hbk her)))
    clear hf f1 f2 f3 hzs hk hbk her
    go_enter Try.func3, Try.ntmps3
    go_upto_region 5 with (first
      | (go_at_call 11; refine (live_any _).mono ?_; rintro e w1 ⟨rfl, hb⟩; have HB1 := Lib.hid (bthen HB0.out hb); have BX1 := Lib.hid (BX.out.below hb); have t0 := BX1.out.c0; have t1 := BX1.out.c1; clear hb)
      | (go_at_call 12; refine (lfew_val true x A n c ls A' n' c' ts _ (H.out.below HB1.out) (H'.out.below HB1.out) HF.out).mono ?_; rintro e w2 ⟨rfl, hb⟩; have HB2 := Lib.hid (bthen HB1.out hb); have BX2 := Lib.hid (BX1.out.below hb); clear hb))
    clear t0 t1
    have t0 := BX2.out.c0
    have t1 := BX2.out.c1
    go_upto_region 6 with (go_at_call 13; refine (first_any x A n c ls A' n' c' ts q _ (H.out.below HB2.out) (H'.out.below HB2.out) (by omega) (fun l hl => Nat.le_trans (F1.out l hl) (by omega))).mono ?_; rintro e w3 hfp; obtain ⟨A3, c3, rfl, hr3, hb3⟩ := hfp.named Z.out.1 Z.out.2.1 Z.out.2.2.1 Z.out.2.2.2; have HB3 := Lib.hid (bthen HB2.out hb3); have BX3 := Lib.hid (BX2.out.below hb3); have HR3 := Lib.hid hr3; clear hfp hr3 hb3)
    clear t0 t1
    have t0 := BX3.out.c0
    have t1 := BX3.out.c1
    go_upto_region 7 with (go_at_call 14; refine (rfirst_any x A n c ls A' n' c' ts q _ (H.out.below HB3.out) (H'.out.below HB3.out) (by omega) (fun l hl => Nat.le_trans (F1.out l hl) (by omega))).mono ?_; rintro e w4 hfp; obtain ⟨A4, c4, rfl, hr4, hb4⟩ := hfp.named Z.out.1 Z.out.2.1 Z.out.2.2.1 Z.out.2.2.2; have HB4 := Lib.hid (bthen HB3.out hb4); have HR4 := Lib.hid hr4; have HR5 := Lib.hid (HR3.out.below hb4); clear hfp hr4 hb4)
    clear t0 t1
    go_wp2_with (go_at_call 15; refine (ints_val true A3 k c3 zs A4 k c4 zs _ HR5.out HR4.out (sameB_iff.2 rfl)).mono ?_; rintro e w5 ⟨rfl, hb5⟩; have HB5 := Lib.hid (bthen HB4.out hb5); clear hb5)
    go_ret
    exact ⟨rfl, HB5.out⟩

set_option maxRecDepth 100000 in
set_option maxHeartbeats 2000000 in
theorem lawRedundant_any (x : Int) (A : Option Addr) (n c : Nat) (ls : List (List Int)) (A' : Option Addr) (n' c' : Nat) (ts : List Stp) (Al : Option Addr) (nl cl : Nat) (l : List Int) (w : World) (h : RL w A n c ls) (h' : RS w A' n' c' ts) (hl : RI w Al nl cl l) (hw : Wfl l) :
    Calls Try.prog 4 #[.agg #[.int .i64 x, .slice A n c], .slice A' n' c', .slice Al nl cl] w fun e w' => e = .returned (.bool true) ∧ Below w.heap.size w w' := by
  have H := Lib.hid h
  have H' := Lib.hid h'
  have HL := Lib.hid hl
  have HW := Lib.hid hw
  have BX := Lib.hid (Two.new w (.int .i64 x) (.slice A n c))
  have HB0 := Lib.hid (below1 w (.cells #[.int .i64 x, .slice A n c] 24))
  have HTS := Lib.hid h'.len
  have hnl := hl.small
  clear h h' hl hw
  cases hf : fewB ls ts with
  | false =>
    have HF := Lib.hid hf
    clear hf
    go_enter Try.func4, Try.ntmps4
    go_wp2_with (first
      | (go_at_call 11; refine (live_any _).mono ?_; rintro e w1 ⟨rfl, hb⟩; have HB1 := Lib.hid (bthen HB0.out hb); have t0 := (BX.out.below hb).c0; have t1 := (BX.out.below hb).c1; clear hb)
      | (go_at_call 12; refine (lfew_val false x A n c ls A' n' c' ts _ (H.out.below HB1.out) (H'.out.below HB1.out) HF.out).mono ?_; rintro e w2 ⟨rfl, hb⟩; have HB2 := Lib.hid (bthen HB1.out hb); clear hb))
    go_ret
    exact ⟨rfl, HB2.out⟩
  | true =>
    obtain ⟨f1, f2, f3⟩ := few_facts hf
    have HF := Lib.hid hf
    have F1 := Lib.hid f1
    have hn30 : n' ≤ 30 := by rw [← HTS.out]; exact f3
    by_cases hl30 : nl ≤ 30
    · have d1 : decide ((30 : Int) < (nl : Int)) = false := by rw [decide_eq_false_iff_not]; omega
      obtain ⟨zs, hzs⟩ : ∃ zs, lessR x ls ts l = zs := ⟨_, rfl⟩
      obtain ⟨k, hk⟩ : ∃ k, zs.length = k := ⟨_, rfl⟩
      obtain ⟨er, her⟩ : ∃ er, lessE x ls ts l = er := ⟨_, rfl⟩
      have Z := Lib.hid (And.intro hzs (And.intro hk her))
      clear hf f1 f2 f3 hzs hk her
      go_enter Try.func4, Try.ntmps4
      go_upto_region 5 with (first
        | (go_at_call 11; refine (live_any _).mono ?_; rintro e w1 ⟨rfl, hb⟩; have HB1 := Lib.hid (bthen HB0.out hb); have BX1 := Lib.hid (BX.out.below hb); have t0 := BX1.out.c0; have t1 := BX1.out.c1; clear hb)
        | (go_at_call 12; refine (lfew_val true x A n c ls A' n' c' ts _ (H.out.below HB1.out) (H'.out.below HB1.out) HF.out).mono ?_; rintro e w2 ⟨rfl, hb⟩; have HB2 := Lib.hid (bthen HB1.out hb); have BX2 := Lib.hid (BX1.out.below hb); clear hb))
      clear t0 t1
      have t0 := BX2.out.c0
      have t1 := BX2.out.c1
      go_upto_region 6 with (go_at_call 16; refine (less_any x A n c ls A' n' c' ts Al nl cl l _ (H.out.below HB2.out) (H'.out.below HB2.out) (HL.out.below HB2.out) HW.out (by omega) (by omega)).mono ?_; rintro e w3 hfp; obtain ⟨A3, c3, rfl, hr3, hb3⟩ := hfp.named Z.out.1 Z.out.2.1 Z.out.2.2; have HB3 := Lib.hid (bthen HB2.out hb3); have BX3 := Lib.hid (BX2.out.below hb3); have HR3 := Lib.hid hr3; clear hfp hr3 hb3)
      clear t0 t1
      have t0 := BX3.out.c0
      have t1 := BX3.out.c1
      go_upto_region 7 with (go_at_call 17; refine (rless_any x A n c ls A' n' c' ts Al nl cl l _ (H.out.below HB3.out) (H'.out.below HB3.out) (HL.out.below HB3.out) HW.out (by omega) (by omega) (fun l hl => Nat.le_trans (F1.out l hl) (by omega))).mono ?_; rintro e w4 hfp; obtain ⟨A4, c4, rfl, hr4, hb4⟩ := hfp.named Z.out.1 Z.out.2.1 Z.out.2.2; have HB4 := Lib.hid (bthen HB3.out hb4); have HR4 := Lib.hid hr4; have HR5 := Lib.hid (HR3.out.below hb4); clear hfp hr4 hb4)
      clear t0 t1
      go_wp2_with (go_at_call 15; refine (ints_val true A3 k c3 zs A4 k c4 zs _ HR5.out HR4.out (sameB_iff.2 rfl)).mono ?_; rintro e w5 ⟨rfl, hb5⟩; have HB5 := Lib.hid (bthen HB4.out hb5); clear hb5)
      go_ret
      exact ⟨rfl, HB5.out⟩
    · have d1 : decide ((30 : Int) < (nl : Int)) = true := by rw [decide_eq_true_iff]; omega
      clear hf f1 f2 f3
      go_enter Try.func4, Try.ntmps4
      go_wp2_with (first
        | (go_at_call 11; refine (live_any _).mono ?_; rintro e w1 ⟨rfl, hb⟩; have HB1 := Lib.hid (bthen HB0.out hb); have t0 := (BX.out.below hb).c0; have t1 := (BX.out.below hb).c1; clear hb)
        | (go_at_call 12; refine (lfew_val true x A n c ls A' n' c' ts _ (H.out.below HB1.out) (H'.out.below HB1.out) HF.out).mono ?_; rintro e w2 ⟨rfl, hb⟩; have HB2 := Lib.hid (bthen HB1.out hb); clear hb))
      go_ret
      exact ⟨rfl, HB2.out⟩

end Go.Proofs.Ytenpenelikpeeaa

namespace Go.Proofs.Ytenpenelikpeeaa
open Go.RowKit Go.Shelf
set_option linter.unusedVariables false
set_option linter.unusedSimpArgs false

theorem value_val (r : Bool) (x : Int) (A : Option Addr) (n c : Nat) (ls : List (List Int)) (A' : Option Addr) (n' c' : Nat) (bs : List Bool) (w : World) (h : RL w A n c ls) (h' : RB w A' n' c' bs) (hr : valueT x ls bs = r) :
    Calls Try.prog 21 #[.agg #[.int .i64 x, .slice A n c], .slice A' n' c'] w fun e w' => e = .returned (.bool r) ∧ Below w.heap.size w w' := by
  have := value_any x A n c ls A' n' c' bs w h h'
  rw [hr] at this; exact this
theorem value_all {x : Int} {ls : List (List Int)} {bs : List Bool} (h : valueT x ls bs = true) : ls.all (holdsT bs) = true := by
  unfold valueT at h; rw [Bool.and_eq_true] at h; exact h.2
theorem firstL_okl {x : Int} {ls : List (List Int)} {ts : List Stp} {q : Int} (h : firstE x ls ts q = 0) : Okl (firstL x ls ts q) := (under_cons (rd_of h).tr (rd_of h).big (firstL_under h)).1
theorem first_no {x : Int} {ls : List (List Int)} {ts : List Stp} {q : Int} (h : firstE x ls ts q ≠ 0) : firstL x ls ts q = [] ∧ firstB x ls ts q = 0 := firstB_of x ls ts q h

set_option maxRecDepth 100000 in
set_option maxHeartbeats 4000000 in
theorem lawSound_any (x : Int) (A : Option Addr) (n c : Nat) (ls : List (List Int)) (A' : Option Addr) (n' c' : Nat) (ts : List Stp) (q : Int) (Ab : Option Addr) (nb cb : Nat) (bs : List Bool) (w : World) (h : RL w A n c ls) (h' : RS w A' n' c' ts) (hB : RB w Ab nb cb bs) :
    Calls Try.prog 7 #[.agg #[.int .i64 x, .slice A n c], .slice A' n' c', .int .i64 q, .slice Ab nb cb] w fun e w' => e = .returned (.bool true) ∧ Below w.heap.size w w' := by
  have H := Lib.hid h
  have H' := Lib.hid h'
  have HBs := Lib.hid hB
  have BX := Lib.hid (Two.new w (.int .i64 x) (.slice A n c))
  have HB0 := Lib.hid (below1 w (.cells #[.int .i64 x, .slice A n c] 24))
  have HTS := Lib.hid h'.len
  have hnb := hB.big
  clear h h' hB
  cases hf : fewB ls ts with
  | false =>
    have HF := Lib.hid hf
    clear hf
    go_enter Try.func7, Try.ntmps7
    go_wp2_with (first
      | (go_at_call 11; refine (live_any _).mono ?_; rintro e w1 ⟨rfl, hb⟩; have HB1 := Lib.hid (bthen HB0.out hb); have t0 := (BX.out.below hb).c0; have t1 := (BX.out.below hb).c1; clear hb)
      | (go_at_call 12; refine (lfew_val false x A n c ls A' n' c' ts _ (H.out.below HB1.out) (H'.out.below HB1.out) HF.out).mono ?_; rintro e w2 ⟨rfl, hb⟩; have HB2 := Lib.hid (bthen HB1.out hb); clear hb))
    go_ret
    exact ⟨rfl, HB2.out⟩
  | true =>
    obtain ⟨f1, f2, f3⟩ := few_facts hf
    have HF := Lib.hid hf
    have F1 := Lib.hid f1
    have hn30 : n' ≤ 30 := by rw [← HTS.out]; exact f3
    clear hf f1 f2 f3
    by_cases hb0 : nb ≤ 1000
    · have d1 : decide ((1000 : Int) < (nb : Int)) = false := by rw [decide_eq_false_iff_not]; omega
      cases hv : valueT x ls bs with
      | false =>
        have HV := Lib.hid hv
        clear hv
        go_enter Try.func7, Try.ntmps7
        go_wp2_with (first
          | (go_at_call 11; refine (live_any _).mono ?_; rintro e w1 ⟨rfl, hb⟩; have HB1 := Lib.hid (bthen HB0.out hb); have BX1 := Lib.hid (BX.out.below hb); have t0 := BX1.out.c0; have t1 := BX1.out.c1; clear hb)
          | (go_at_call 12; refine (lfew_val true x A n c ls A' n' c' ts _ (H.out.below HB1.out) (H'.out.below HB1.out) HF.out).mono ?_; rintro e w2 ⟨rfl, hb⟩; have HB2 := Lib.hid (bthen HB1.out hb); have BX2 := Lib.hid (BX1.out.below hb); clear t0 t1; have t0 := BX2.out.c0; have t1 := BX2.out.c1; clear hb)
          | (go_at_call 21; refine (value_val false x A n c ls Ab nb cb bs _ (H.out.below HB2.out) (HBs.out.below HB2.out) HV.out).mono ?_; rintro e w3 ⟨rfl, hb⟩; have HB3 := Lib.hid (bthen HB2.out hb); clear hb))
        go_ret
        exact ⟨rfl, HB3.out⟩
      | true =>
        have HV := Lib.hid hv
        by_cases hE : firstE x ls ts q = 0
        · obtain ⟨zs, hzs⟩ : ∃ zs, firstL x ls ts q = zs := ⟨_, rfl⟩
          obtain ⟨k, hk⟩ : ∃ k, zs.length = k := ⟨_, rfl⟩
          obtain ⟨bk, hbk⟩ : ∃ bk, firstB x ls ts q = bk := ⟨_, rfl⟩
          obtain ⟨ys, hys⟩ : ∃ ys, lessR x ls ts zs = ys := ⟨_, rfl⟩
          obtain ⟨m, hm⟩ : ∃ m, ys.length = m := ⟨_, rfl⟩
          have Z := Lib.hid (And.intro hzs (And.intro hk (And.intro hbk hE)))
          have Y := Lib.hid (And.intro hys (And.intro hm (show lessE x ls ts zs = 0 by rw [← hzs]; exact firstL_takes hE)))
          have HW := Lib.hid (okl_wfl (show Okl zs by rw [← hzs]; exact firstL_okl hE))
          have hk30 : k ≤ 30 := by have := firstL_len hE; rw [hzs, hk, HTS.out] at this; omega
          have S1 := Lib.hid (show holdsT bs zs = true by rw [← hzs]; exact first_holds hE (value_all hv))
          have S2 := Lib.hid (show holdsT bs ys = true by rw [← hys, ← hzs]; exact both_hold hE (value_all hv))
          clear hv hE hzs hk hbk hys hm
          go_enter Try.func7, Try.ntmps7
          go_upto_region 5 with (first
            | (go_at_call 11; refine (live_any _).mono ?_; rintro e w1 ⟨rfl, hb⟩; have HB1 := Lib.hid (bthen HB0.out hb); have BX1 := Lib.hid (BX.out.below hb); have t0 := BX1.out.c0; have t1 := BX1.out.c1; clear hb)
            | (go_at_call 12; refine (lfew_val true x A n c ls A' n' c' ts _ (H.out.below HB1.out) (H'.out.below HB1.out) HF.out).mono ?_; rintro e w2 ⟨rfl, hb⟩; have HB2 := Lib.hid (bthen HB1.out hb); have BX2 := Lib.hid (BX1.out.below hb); clear t0 t1; have t0 := BX2.out.c0; have t1 := BX2.out.c1; clear hb)
            | (go_at_call 21; refine (value_val true x A n c ls Ab nb cb bs _ (H.out.below HB2.out) (HBs.out.below HB2.out) HV.out).mono ?_; rintro e w3 ⟨rfl, hb⟩; have HB3 := Lib.hid (bthen HB2.out hb); have BX3 := Lib.hid (BX2.out.below hb); clear hb))
          clear t0 t1
          have t0 := BX3.out.c0
          have t1 := BX3.out.c1
          go_upto_region 8 with (go_at_call 13; refine (first_any x A n c ls A' n' c' ts q _ (H.out.below HB3.out) (H'.out.below HB3.out) (by omega) (fun l hl => Nat.le_trans (F1.out l hl) (by omega))).mono ?_; rintro e w4 hfp; obtain ⟨A4, c4, rfl, hr4, hb4⟩ := hfp.named Z.out.1 Z.out.2.1 Z.out.2.2.1 Z.out.2.2.2; have HB4 := Lib.hid (bthen HB3.out hb4); have BX4 := Lib.hid (BX3.out.below hb4); have HR4 := Lib.hid hr4; clear hfp hr4 hb4)
          clear t0 t1
          have t0 := BX4.out.c0
          have t1 := BX4.out.c1
          go_upto_region 9 with (go_at_call 16; refine (less_any x A n c ls A' n' c' ts A4 k c4 zs _ (H.out.below HB4.out) (H'.out.below HB4.out) HR4.out HW.out (by omega) (by omega)).mono ?_; rintro e w5 hfp; obtain ⟨A5, c5, rfl, hr5, hb5⟩ := hfp.named Y.out.1 Y.out.2.1 Y.out.2.2; have HB5 := Lib.hid (bthen HB4.out hb5); have HR5 := Lib.hid hr5; have HRa := Lib.hid (HR4.out.below hb5); clear hfp hr5 hb5)
          clear t0 t1
          have T1 := Lib.hid True.intro
          go_wp2_with (go_at_call 22; first
            | (have _t := T1.out; clear T1; refine (holds_val true A4 k c4 zs Ab nb cb bs _ HRa.out (HBs.out.below HB5.out) S1.out).mono ?_; rintro e w6 ⟨rfl, hb6⟩; have HB6 := Lib.hid (bthen HB5.out hb6); have HRb := Lib.hid (HR5.out.below hb6); clear hb6)
            | (refine (holds_val true A5 m c5 ys Ab nb cb bs _ HRb.out (HBs.out.below HB6.out) S2.out).mono ?_; rintro e w7 ⟨rfl, hb7⟩; have HB7 := Lib.hid (bthen HB6.out hb7); clear hb7))
          go_ret
          exact ⟨rfl, HB7.out⟩
        · obtain ⟨er, her⟩ : ∃ er, firstE x ls ts q = er := ⟨_, rfl⟩
          have Z := Lib.hid (And.intro (first_no hE).1 (And.intro (first_no hE).2 her))
          have hr : (er != 0) = true := by rw [← her]; simpa using hE
          clear hv hE her
          go_enter Try.func7, Try.ntmps7
          go_upto_region 5 with (first
            | (go_at_call 11; refine (live_any _).mono ?_; rintro e w1 ⟨rfl, hb⟩; have HB1 := Lib.hid (bthen HB0.out hb); have BX1 := Lib.hid (BX.out.below hb); have t0 := BX1.out.c0; have t1 := BX1.out.c1; clear hb)
            | (go_at_call 12; refine (lfew_val true x A n c ls A' n' c' ts _ (H.out.below HB1.out) (H'.out.below HB1.out) HF.out).mono ?_; rintro e w2 ⟨rfl, hb⟩; have HB2 := Lib.hid (bthen HB1.out hb); have BX2 := Lib.hid (BX1.out.below hb); clear t0 t1; have t0 := BX2.out.c0; have t1 := BX2.out.c1; clear hb)
            | (go_at_call 21; refine (value_val true x A n c ls Ab nb cb bs _ (H.out.below HB2.out) (HBs.out.below HB2.out) HV.out).mono ?_; rintro e w3 ⟨rfl, hb⟩; have HB3 := Lib.hid (bthen HB2.out hb); have BX3 := Lib.hid (BX2.out.below hb); clear hb))
          clear t0 t1
          have t0 := BX3.out.c0
          have t1 := BX3.out.c1
          go_wp2_with (go_at_call 13; refine (first_any x A n c ls A' n' c' ts q _ (H.out.below HB3.out) (H'.out.below HB3.out) (by omega) (fun l hl => Nat.le_trans (F1.out l hl) (by omega))).mono ?_; rintro e w4 hfp; obtain ⟨A4, c4, rfl, hr4, hb4⟩ := hfp.named Z.out.1 rfl Z.out.2.1 Z.out.2.2; have HB4 := Lib.hid (bthen HB3.out hb4); clear hfp hr4 hb4)
          go_ret
          exact ⟨rfl, HB4.out⟩
    · have d1 : decide ((1000 : Int) < (nb : Int)) = true := by rw [decide_eq_true_iff]; omega
      go_enter Try.func7, Try.ntmps7
      go_wp2_with (first
        | (go_at_call 11; refine (live_any _).mono ?_; rintro e w1 ⟨rfl, hb⟩; have HB1 := Lib.hid (bthen HB0.out hb); have t0 := (BX.out.below hb).c0; have t1 := (BX.out.below hb).c1; clear hb)
        | (go_at_call 12; refine (lfew_val true x A n c ls A' n' c' ts _ (H.out.below HB1.out) (H'.out.below HB1.out) HF.out).mono ?_; rintro e w2 ⟨rfl, hb⟩; have HB2 := Lib.hid (bthen HB1.out hb); clear hb))
      go_ret
      exact ⟨rfl, HB2.out⟩

end Go.Proofs.Ytenpenelikpeeaa

namespace Go.Proofs.Ytenpenelikpeeaa
open Go.RowKit Go.Shelf
set_option linter.unusedVariables false
set_option linter.unusedSimpArgs false

theorem lev_val (r : Int) (A : Option Addr) (n c : Nat) (ts : List Stp) (x : Int) (w : World) (h : RS w A n c ts) (hn : n ≤ 1000000) (h0 : -65536 ≤ x) (h1 : x ≤ 65536) (hr : lvlT ts x = r) :
    Calls Try.prog 19 #[.slice A n c, .int .i64 x] w fun e w' => e = .returned (.int .i64 r) ∧ Below w.heap.size w w' := by
  have := levelLaw_any A n c ts x w h hn h0 h1
  rw [hr] at this; exact this

set_option maxRecDepth 100000 in
set_option maxHeartbeats 4000000 in
theorem lawAsserting_any (x : Int) (A : Option Addr) (n c : Nat) (ls : List (List Int)) (A' : Option Addr) (n' c' : Nat) (ts : List Stp) (q : Int) (w : World) (h : RL w A n c ls) (h' : RS w A' n' c' ts) :
    Calls Try.prog 5 #[.agg #[.int .i64 x, .slice A n c], .slice A' n' c', .int .i64 q] w fun e w' => e = .returned (.bool true) ∧ Below w.heap.size w w' := by
  have H := Lib.hid h
  have H' := Lib.hid h'
  have BX := Lib.hid (Two.new w (.int .i64 x) (.slice A n c))
  have HB0 := Lib.hid (below1 w (.cells #[.int .i64 x, .slice A n c] 24))
  have HTS := Lib.hid h'.len
  clear h h'
  cases hf : fewB ls ts with
  | false =>
    have HF := Lib.hid hf
    clear hf
    go_enter Try.func5, Try.ntmps5
    go_wp2_with (first
      | (go_at_call 11; refine (live_any _).mono ?_; rintro e w1 ⟨rfl, hb⟩; have HB1 := Lib.hid (bthen HB0.out hb); have t0 := (BX.out.below hb).c0; have t1 := (BX.out.below hb).c1; clear hb)
      | (go_at_call 12; refine (lfew_val false x A n c ls A' n' c' ts _ (H.out.below HB1.out) (H'.out.below HB1.out) HF.out).mono ?_; rintro e w2 ⟨rfl, hb⟩; have HB2 := Lib.hid (bthen HB1.out hb); clear hb))
    go_ret
    exact ⟨rfl, HB2.out⟩
  | true =>
    obtain ⟨f1, f2, f3⟩ := few_facts hf
    have HF := Lib.hid hf
    have F1 := Lib.hid f1
    have hn30 : n' ≤ 30 := by rw [← HTS.out]; exact f3
    clear hf f1 f2 f3
    by_cases hE : firstE x ls ts q = 0
    · obtain ⟨zs, hzs⟩ : ∃ zs, firstL x ls ts q = zs := ⟨_, rfl⟩
      obtain ⟨m, hm⟩ : ∃ m, zs.length = m := ⟨_, rfl⟩
      obtain ⟨bk, hbk⟩ : ∃ bk, firstB x ls ts q = bk := ⟨_, rfl⟩
      obtain ⟨L, hL⟩ : ∃ L, lastT ts = L := ⟨_, rfl⟩
      have Z := Lib.hid (And.intro hzs (And.intro hm (And.intro hbk hE)))
      obtain ⟨a1, a2, a3, a4, a5⟩ := asserting hE
      have hL0 : 0 ≤ L ∧ L ≤ 30 := by have := cntD_le ts; have h3 := HTS.out; unfold lastT at hL; omega
      have hb0 : 0 ≤ bk := by rw [← hbk, ← a2]; exact (mostT_spec _ _ _).1
      rw [hzs, hL] at a1 a2
      rw [hbk] at a2 a3
      rw [hL] at a3
      rw [hzs] at a5
      rw [HTS.out] at a4
      have hm30 : m ≤ 30 := by have := firstL_len hE; rw [hzs, hm, HTS.out] at this; omega
      have AS := Lib.hid (show AscV zs by rw [← hzs]; exact firstL_asc hE)
      have OK := Lib.hid (show Okl zs by rw [← hzs]; exact firstL_okl hE)
      have A1 := Lib.hid a1
      have A2 := Lib.hid a2
      have A5 := Lib.hid a5
      have HM := Lib.hid hm
      have LL := Lib.hid (show elt (levL ts) (n' - 1) = L by rw [levL_at (by rw [HTS.out]; omega), ← hL, lastT_lev (by rw [HTS.out]; omega), HTS.out])
      have dl : decide (bk < L) = true := by rw [decide_eq_true_iff]; exact a3
      clear hzs hm hbk hE a1 a2 a5 hL
      go_enter Try.func5, Try.ntmps5
      go_upto_region 5 with (first
        | (go_at_call 11; refine (live_any _).mono ?_; rintro e w1 ⟨rfl, hb⟩; have HB1 := Lib.hid (bthen HB0.out hb); have BX1 := Lib.hid (BX.out.below hb); have t0 := BX1.out.c0; have t1 := BX1.out.c1; clear hb)
        | (go_at_call 12; refine (lfew_val true x A n c ls A' n' c' ts _ (H.out.below HB1.out) (H'.out.below HB1.out) HF.out).mono ?_; rintro e w2 ⟨rfl, hb⟩; have HB2 := Lib.hid (bthen HB1.out hb); have BX2 := Lib.hid (BX1.out.below hb); clear hb))
      clear t0 t1
      have t0 := BX2.out.c0
      have t1 := BX2.out.c1
      go_upto_region 8 with (go_at_call 13; refine (first_any x A n c ls A' n' c' ts q _ (H.out.below HB2.out) (H'.out.below HB2.out) (by omega) (fun l hl => Nat.le_trans (F1.out l hl) (by omega))).mono ?_; rintro e w4 hfp; obtain ⟨A4, c4, rfl, hr4, hb4⟩ := hfp.named Z.out.1 Z.out.2.1 Z.out.2.2.1 Z.out.2.2.2; have HB4 := Lib.hid (bthen HB2.out hb4); have HR4 := Lib.hid hr4; clear hfp hr4 hb4)
      clear t0 t1
      go_upto_region 9 with (go_at_call 18; refine (levels_any A' n' c' ts _ (H'.out.below HB4.out) (by omega)).mono ?_; rintro e w5 ⟨A5, c5, rfl, hr5, hb5⟩; have HB5 := Lib.hid (bthen HB4.out hb5); have HR5 := Lib.hid (HR4.out.below hb5); have HV5 := Lib.hid hr5; clear hr5 hb5)
      obtain ⟨b5, o5, rfl, hb5l, hc5⟩ := HV5.out.cells (by omega)
      have e5 := hc5 (n' - 1) (by omega)
      rw [LL.out] at e5
      clear hc5 hb5l
      have hn1 : ((n' : Int) - 1).toNat = n' - 1 := by omega
      have hn0 : ((n' : Int) == 0) = false := by rw [beq_eq_false_iff_ne]; omega
      go_wp2
      go_loopw [12, 13, 14] (fun s12 s13 s14 W => ∃ k : Nat, k ≤ m ∧ s14 = .int .i64 k ∧ s12 = .int .i64 (hiN ts L (zs.take k)) ∧ s13 = .int .i64 (mostT ts L (zs.take k)) ∧ Below w5.heap.size w5 W) (fun _ _ i _ => m - (intOf i).toNat)
      case atStart => exact ⟨0, Nat.zero_le _, rfl, rfl, rfl, Below.refl _ _⟩
      case round =>
        rename_i W
        obtain ⟨k, hk, rfl, rfl, rfl, hbW⟩ := hrel
        have HW := Lib.hid hbW
        have HB6 := Lib.hid (bthen HB5.out hbW)
        clear hbW
        by_cases hlt : k < m
        · have hl : k < zs.length := by rw [HM.out]; exact hlt
          have hmem := elt_mem hl
          obtain ⟨y, hy⟩ : ∃ y, elt zs k = y := ⟨_, rfl⟩
          obtain ⟨v, hv⟩ : ∃ v, lvlT ts y = v := ⟨_, rfl⟩
          rw [hy] at hmem
          have hv0 : 0 < v := by rw [← hv]; exact A5.out y hmem
          obtain ⟨o1, o2, o3⟩ := OK.out y hmem
          obtain ⟨hi, hhi⟩ : ∃ hi, hiN ts L (zs.take k) = hi := ⟨_, rfl⟩
          obtain ⟨ms, hms⟩ : ∃ ms, mostT ts L (zs.take k) = ms := ⟨_, rfl⟩
          have hi30 : hi ≤ 30 := by rw [← hhi]; have := hi_le ts L (zs.take k); rw [List.length_take] at this; omega
          have NX1 := Lib.hid (show hiN ts L (zs.take (k + 1)) = hi + (if v = L then 1 else 0) by rw [take_snoc zs k hl, hiN_snoc, hhi, hy, hv])
          have NX2 := Lib.hid (show mostT ts L (zs.take (k + 1)) = if v = L then ms else max ms v by rw [take_snoc zs k hl, mostT_snoc, hms, hy, hv])
          obtain ⟨b4, o4, rfl, hb4l, hc4⟩ := (HR5.out.below HW.out).cells (by omega)
          have e4 := hc4 k hlt
          rw [hy] at e4
          have V := Lib.hid hv
          have dv : decide (v ≤ 0) = false := by rw [decide_eq_false_iff_not]; omega
          have hneg := lit_neg' o2 o3
          have hmx : max y (-y) = absI y := by unfold absI; split <;> omega
          rw [hhi, hms]
          have hyk := hy
          clear hy hv hhi hms hmem hl
          by_cases hk0 : 0 < k
          · have dk : decide ((0 : Int) < (k : Int)) = true := by rw [decide_eq_true_iff]; omega
            obtain ⟨y', hy'⟩ : ∃ y', elt zs (k - 1) = y' := ⟨_, rfl⟩
            have e3 := hc4 (k - 1) (by omega)
            rw [hy'] at e3
            obtain ⟨p1, p2, p3⟩ := OK.out y' (by rw [← hy']; exact elt_mem (by rw [HM.out]; omega))
            have hneg' := lit_neg' p2 p3
            have hmx' : max y' (-y') = absI y' := by unfold absI; split <;> omega
            have dab : decide (absI y ≤ absI y') = false := by
              rw [decide_eq_false_iff_not, ← hyk, ← hy']
              have := asc_at AS.out (show k - 1 < k by omega) (by rw [HM.out]; exact hlt)
              omega
            have hs1 : IntKind.i64.wrap ((k : Int) - 1) = (k : Int) - 1 := IntWalk.i64_in _ (by omega)
            have hs2 : 0 ≤ (k : Int) - 1 := by omega
            have hs3 : ((k : Int) - 1).toNat = k - 1 := by omega
            have hs4 : (k : Int) - 1 < (m : Int) := by omega
            have hs5 : k - 1 < m := by omega
            clear hc4 hy' hyk
            go_upto_region 18 with (go_at_call 19; refine (lev_val v A' n' c' ts y _ ((H'.out.below HB6.out)) (by omega) o2 o3 V.out).mono ?_; rintro e w7 ⟨rfl, hb7⟩; have HB7 := Lib.hid (bthen HB6.out hb7); have HW7 := Lib.hid (bthen HW.out hb7); have e4' := (hb7.cell (p := ⟨b4, o4 + k, none⟩) hb4l).trans e4; have e3' := (hb7.cell (p := ⟨b4, o4 + (k - 1), none⟩) hb4l).trans e3; have hl7 := Nat.lt_of_lt_of_le hb4l hb7.size; clear hb7)
            refine wp_region_grow (by kernel_rfl) (by kernel_rfl) ?_
            have g1 := fun u : Gr w7 => u.cell (p := ⟨b4, o4 + k, none⟩) hl7 e4'
            have g2 := fun u : Gr w7 => u.cell (p := ⟨b4, o4 + (k - 1), none⟩) hl7 e3'
            repeat (go_big_quiet_step (fail))
            refine wpQuiet_nil ?_
            intro w8 hb8; replace hb8 := Gr.out hb8
            have HW8 := Lib.hid (bthen HW7.out hb8)
            clear hb8 g1 g2 hs1 hs2 hs3 hs4 hs5
            by_cases hvL : v = L
            · have dvL : (v == L) = true := by simpa using hvL
              rw [if_pos hvL] at NX1 NX2
              go_wp2
              go_roundw
              case rel => exact ⟨k + 1, by omega, by go_num, by rw [NX1.out]; go_num, by rw [NX2.out], HW8.out⟩
              case measure => simp [intOf]; omega
            · have dvL : (v == L) = false := by simpa using hvL
              rw [if_neg hvL] at NX1 NX2
              go_wp2
              go_roundw
              case rel => exact ⟨k + 1, by omega, by go_num, by rw [NX1.out]; rfl, by rw [NX2.out], HW8.out⟩
              case measure => simp [intOf]; omega
          · have dk : decide ((0 : Int) < (k : Int)) = false := by rw [decide_eq_false_iff_not]; omega
            clear hc4 hyk
            go_upto_region 18 with (go_at_call 19; refine (lev_val v A' n' c' ts y _ ((H'.out.below HB6.out)) (by omega) o2 o3 V.out).mono ?_; rintro e w7 ⟨rfl, hb7⟩; have HB7 := Lib.hid (bthen HB6.out hb7); have HW7 := Lib.hid (bthen HW.out hb7); clear hb7)
            refine wp_region_grow (by kernel_rfl) (by kernel_rfl) ?_
            repeat (go_big_quiet_step (fail))
            refine wpQuiet_nil ?_
            intro w8 hb8; replace hb8 := Gr.out hb8
            have HW8 := Lib.hid (bthen HW7.out hb8)
            clear hb8
            by_cases hvL : v = L
            · have dvL : (v == L) = true := by simpa using hvL
              rw [if_pos hvL] at NX1 NX2
              go_wp2
              go_roundw
              case rel => exact ⟨k + 1, by omega, by go_num, by rw [NX1.out]; go_num, by rw [NX2.out], HW8.out⟩
              case measure => simp [intOf]; omega
            · have dvL : (v == L) = false := by simpa using hvL
              rw [if_neg hvL] at NX1 NX2
              go_wp2
              go_roundw
              case rel => exact ⟨k + 1, by omega, by go_num, by rw [NX1.out]; rfl, by rw [NX2.out], HW8.out⟩
              case measure => simp [intOf]; omega
        · obtain rfl : k = m := by omega
          have e1 : hiN ts L (zs.take k) = 1 := by rw [← HM.out, List.take_length]; exact A1.out
          have e2 : mostT ts L (zs.take k) = bk := by rw [← HM.out, List.take_length]; exact A2.out
          rw [e1, e2]
          clear e1 e2
          go_wp2
          go_ret
          exact ⟨rfl, HB6.out⟩
    · obtain ⟨er, her⟩ : ∃ er, firstE x ls ts q = er := ⟨_, rfl⟩
      have Z := Lib.hid (And.intro (first_no hE).1 (And.intro (first_no hE).2 her))
      have hr : (er != 0) = true := by rw [← her]; simpa using hE
      clear hE her
      go_enter Try.func5, Try.ntmps5
      go_upto_region 5 with (first
        | (go_at_call 11; refine (live_any _).mono ?_; rintro e w1 ⟨rfl, hb⟩; have HB1 := Lib.hid (bthen HB0.out hb); have BX1 := Lib.hid (BX.out.below hb); have t0 := BX1.out.c0; have t1 := BX1.out.c1; clear hb)
        | (go_at_call 12; refine (lfew_val true x A n c ls A' n' c' ts _ (H.out.below HB1.out) (H'.out.below HB1.out) HF.out).mono ?_; rintro e w2 ⟨rfl, hb⟩; have HB2 := Lib.hid (bthen HB1.out hb); have BX2 := Lib.hid (BX1.out.below hb); clear hb))
      clear t0 t1
      have t0 := BX2.out.c0
      have t1 := BX2.out.c1
      go_wp2_with (go_at_call 13; refine (first_any x A n c ls A' n' c' ts q _ (H.out.below HB2.out) (H'.out.below HB2.out) (by omega) (fun l hl => Nat.le_trans (F1.out l hl) (by omega))).mono ?_; rintro e w4 hfp; obtain ⟨A4, c4, rfl, hr4, hb4⟩ := hfp.named Z.out.1 rfl Z.out.2.1 Z.out.2.2; have HB4 := Lib.hid (bthen HB2.out hb4); clear hfp hr4 hb4)
      go_ret
      exact ⟨rfl, HB4.out⟩

end Go.Proofs.Ytenpenelikpeeaa

namespace Go.Proofs.Ytenpenelikpeeaa
set_option linter.unusedVariables false
set_option linter.unusedSimpArgs false

/-- closed under the unit rule, and no clause false -/
structure Clo (ls : List (List Int)) (T : Int → Prop) : Prop where
  unit : ∀ i, i < ls.length → ∀ y ∈ ell ls i, (∀ z ∈ ell ls i, z ≠ y → T (-z)) → T y
  open' : ∀ i, i < ls.length → ¬ ∀ z ∈ ell ls i, T (-z)

section
variable {x : Int} {ls : List (List Int)} {ts : List Stp} {T : Int → Prop}
theorem clo_low (h : Tr x ls ts) (hT : ∀ i, i < ls.length → ∀ y ∈ ell ls i, (∀ z ∈ ell ls i, z ≠ y → T (-z)) → T y) : ∀ k, k < ts.length → levAt ts k = 0 → T (stp ts k).lit := by
  intro k
  induction k using Nat.strongRecOn with
  | _ k ih =>
    intro hk hl
    have hw : 0 ≤ (stp ts k).why := by
      rcases Int.lt_or_le (stp ts k).why 0 with h0 | h0
      · have h1 := (h.why k hk).1
        have h2 := levAt_yes hk (show (stp ts k).why = -1 by omega)
        omega
      · exact h0
    have hi := (h.why k hk).2
    refine hT _ (by omega) _ (h.reason k hk hw).1 fun z hz hne => ?_
    obtain ⟨j, hj, e2⟩ := (h.reason k hk hw).2 z hz hne
    have h3 := levAt_mono (ts := ts) (j := j) (k := k) (by omega)
    have h4 := levAt_nn ts j
    rw [← e2]
    exact ih j hj (by omega) (by omega)
theorem clo_red (h : Tr x ls ts) (hT : ∀ i, i < ls.length → ∀ y ∈ ell ls i, (∀ z ∈ ell ls i, z ≠ y → T (-z)) → T y) (l : List Int) : ∀ k, k < ts.length → redB ls ts l k = true → (∀ z ∈ l, plc ts (-z) < k → T (-z)) → T (stp ts k).lit := by
  intro k
  induction k using Nat.strongRecOn with
  | _ k ih =>
    intro hk hr hl
    rw [redB_eq h l hk, Bool.or_eq_true, Bool.and_eq_true] at hr
    rcases hr with hr | ⟨hw, hr⟩
    · exact clo_low h hT k hk (of_decide_eq_true hr)
    · have hw := of_decide_eq_true hw
      have hi := (h.why k hk).2
      refine hT _ (by omega) _ (h.reason k hk hw).1 fun z hz hne => ?_
      obtain ⟨j, hj, e2⟩ := (h.reason k hk hw).2 z hz hne
      have hp := h.plc (k := j) (by omega)
      have h1 := List.all_eq_true.1 hr z hz
      rw [Bool.or_eq_true, Bool.or_eq_true] at h1
      rcases h1 with h1 | h1 | h1
      · exact absurd (by simpa using h1) hne
      · exact hl z (hasB_iff.1 h1) (by rw [← e2, hp]; exact hj)
      · rw [← e2, hp] at h1
        rw [← e2]
        exact ih j hj (by omega) h1 fun u hu hlt => hl u hu (by omega)
/-- what Less keeps false makes the whole clause false -/
theorem clo_less (h : Tr x ls ts) (hT : ∀ i, i < ls.length → ∀ y ∈ ell ls i, (∀ z ∈ ell ls i, z ≠ y → T (-z)) → T y) {l : List Int} (hu : Under ts ts.length l) (hl : ∀ y ∈ lessL ls ts l, T (-y)) : ∀ (k : Nat) (y : Int), plc ts (-y) = k → y ∈ l → T (-y) := by
  intro k
  induction k using Nat.strongRecOn with
  | _ k ih =>
    intro y hk hy
    cases hb : keepB ls ts l y with
    | true =>
      refine hl y ?_
      unfold lessL
      rw [mem_risL, List.mem_filter]
      exact ⟨hy, hb⟩
    | false =>
      unfold keepB at hb
      rw [Bool.or_eq_false_iff] at hb
      have hr : redB ls ts l (plc ts (-y)) = true := by simpa using hb.2
      have hp := hu y hy
      have := clo_red h hT l _ hp hr fun z hz hlt => ih _ (by omega) z rfl hz
      rwa [(plc_lt hp).1] at this
theorem clo_uip (h : Tr x ls ts) (hT : ∀ i, i < ls.length → ∀ y ∈ ell ls i, (∀ z ∈ ell ls i, z ≠ y → T (-z)) → T y) : ∀ (f : Nat) (S : List Int), Under ts ts.length S → S.Nodup → 0 < hiN ts (lastT ts) S → (∀ y ∈ uipL ls ts (lastT ts) f S, T (-y)) → ∀ y ∈ S, T (-y)
  | 0, S, _, _, _, hS => hS
  | f + 1, S, hu, hn, hi, hS => by
    rw [uipL] at hS
    split at hS
    · exact hS
    · rename_i hc2
      rw [latT_count] at hc2
      obtain ⟨h2, h3, h4, h5, h6, h7⟩ := ref_step h hu hn (by omega)
      have ih := clo_uip h hT f _ (h4.mono (by omega)) h5 h6 hS
      intro y hy
      by_cases e : y = (latT ts (lastT ts) S).1
      · have h8 := (h.why _ h2).2
        have h9 := hT _ (by omega) _ (h.reason _ h2 h3).1 fun z hz hne => ih z (by
          unfold stepU
          rw [mem_moreL]
          refine Or.inr ⟨hz, fun e2 => hne ?_⟩
          rw [e2, (plc_lt h2).1])
        rw [(plc_lt h2).1, ← e] at h9
        exact h9
      · exact ih y (by unfold stepU; rw [mem_moreL, mem_without]; exact Or.inl ⟨hy, e⟩)
/-- the clause of First cannot be false in a closed state -/
theorem clo_first {q : Int} (hE : firstE x ls ts q = 0) (hC : Clo ls T) : ¬ ∀ y ∈ firstL x ls ts q, T (-y) := by
  intro hf
  have R := rd_of hE
  have h0 := clo_uip R.tr hC.unit ts.length (start ls q) (start_under R.dead) (start_nodup _ _) R.hi (by
    intro y hy
    have hp := R.under y hy
    by_cases h1 : 0 < lvlT ts y
    · exact hf y ((mem_firstL hE).2 ⟨hy, h1⟩)
    · rw [lvlT_of hp] at h1
      have h2 := levAt_nn ts (plc ts (-y))
      have h3 := clo_low R.tr hC.unit _ hp (by omega)
      rwa [(plc_lt hp).1] at h3)
  refine hC.open' q.toNat (by have := R.q0; have := R.q1; omega) fun z hz => h0 z ?_
  unfold start
  rw [mem_moreL]
  exact Or.inr ⟨hz, (checkE_lits R.chk _ (ell_mem (by have := R.q0; have := R.q1; omega)) z hz).1⟩
theorem clo_less_first {q : Int} (hE : firstE x ls ts q = 0) (hC : Clo ls T) : ¬ ∀ y ∈ lessR x ls ts (firstL x ls ts q), T (-y) := by
  intro hf
  have R := rd_of hE
  refine clo_first hE hC fun y hy => ?_
  unfold lessR at hf
  rw [if_pos (firstL_takes hE)] at hf
  exact clo_less R.tr hC.unit (firstL_under hE) hf _ y rfl hy
end

/-- a fixed point without a conflict is such a state -/
theorem fixed_clo {x : Int} {ls : List (List Int)} {ts : List Stp} {r : Option Nat × PS} (h : Fixed x ls ts r) (hn : r.1 = none) : Clo ls (fun y => hasB (litsOf r.2.ts) y = true) := by
  have key : ∀ i, i < ls.length → ∀ y, (∀ z ∈ ell ls i, z ≠ y → hasB (litsOf r.2.ts) (-z) = true) → y ∈ ell ls i ∧ hasB (litsOf r.2.ts) y = true := by
    intro i hi y ho
    rcases h.fixed hn i hi with hg | ⟨a, b, h1, h2, h3, h4, h5⟩
    · obtain ⟨u, hu, hh⟩ := List.any_eq_true.1 hg
      by_cases e : u = y
      · rw [← e]; exact ⟨hu, hh⟩
      · have h1 := ho u hu e
        have h2 := trail_apart h.tr hh
        rw [h1] at h2; cases h2
    · by_cases ea : a = y
      · have eb : b ≠ y := fun e => h3 (ea.trans e.symm)
        rw [ho b h2 eb] at h5; cases h5
      · rw [ho a h1 ea] at h4; cases h4
  refine ⟨fun i hi y hy ho => (key i hi y ho).2, fun i hi ho => ?_⟩
  rcases h.fixed hn i hi with hg | ⟨a, b, h1, h2, h3, h4, h5⟩
  · obtain ⟨u, hu, hh⟩ := List.any_eq_true.1 hg
    have h2 := trail_apart h.tr hh
    rw [ho u hu] at h2; cases h2
  · rw [ho a h1] at h4; cases h4

/-- the level function and the literals of a trail -/
theorem plc_has {ts : List Stp} {y : Int} : plc ts y < ts.length ↔ hasB (litsOf ts) y = true := by
  rw [hasB_iff]
  constructor
  · intro h
    have := (plc_lt h).1
    rw [← this]
    exact List.mem_map.2 ⟨_, stp_mem h, rfl⟩
  · intro h
    obtain ⟨s, hs, e⟩ := List.mem_map.1 h
    exact List.findIdx_lt_length_of_exists ⟨s, hs, by simp [e]⟩
theorem lvl_neg {ts : List Stp} {y : Int} : lvlT ts y < 0 ↔ hasB (litsOf ts) (-y) = false := by
  unfold lvlT
  split
  · rename_i h
    have h2 := levAt_nn ts (plc ts (-y))
    rw [plc_has.1 h]
    constructor
    · intro h3; omega
    · intro h3; cases h3
  · rename_i h
    constructor
    · intro _
      cases hb : hasB (litsOf ts) (-y) with
      | false => rfl
      | true => exact absurd (plc_has.2 hb) h
    · intro _; omega
theorem lits_flip (ts : List Stp) (y : Int) : hasB (litsOf (flipT ts)) (-y) = hasB (litsOf ts) y := by
  rw [Bool.eq_iff_iff, hasB_iff, hasB_iff]
  unfold litsOf flipT
  simp only [List.mem_map, List.map_map]
  constructor
  · rintro ⟨s, hs, e⟩
    exact ⟨s, hs, by simp at e; omega⟩
  · rintro ⟨s, hs, e⟩
    exact ⟨s, hs, by simp; omega⟩
theorem lvl_flip {ts : List Stp} {y : Int} : lvlT (flipT ts) y < 0 ↔ hasB (litsOf ts) y = false := by rw [lvl_neg, lits_flip]
/-- a decision -/
theorem trail_decide {x : Int} {ls : List (List Int)} {ts : List Stp} (h : trailB x ls ts = true) {y : Int} (hb : isB y x = true) (h1 : hasB (litsOf ts) y = false) (h2 : hasB (litsOf ts) (-y) = false) : trailB x ls (ts ++ [⟨y, -1⟩]) = true := by
  unfold trailB
  rw [List.length_append]
  have hl : ([(⟨y, -1⟩ : Stp)] : List Stp).length = 1 := rfl
  rw [hl, trailTo_succ, Bool.and_eq_true]
  constructor
  · unfold trailB trailTo at h
    unfold trailTo
    rw [List.all_eq_true] at h ⊢
    intro j hj
    have hj' := List.mem_range.1 hj
    rw [List.take_append_of_le_length (by omega), stp_left hj']
    exact h j hj
  · have e1 : (ts ++ [(⟨y, -1⟩ : Stp)]).take ts.length = ts := by simp
    have e2 : stp (ts ++ [(⟨y, -1⟩ : Stp)]) ts.length = ⟨y, -1⟩ := by
      rw [stp_lt (by simp)]; simp
    rw [e1, e2]
    unfold stepOk
    simp [hb, h1, h2]
    omega

end Go.Proofs.Ytenpenelikpeeaa
