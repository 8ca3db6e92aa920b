/-
  The laws LearnFirst and LearnRedundant return true. No condition.
-/
import Derived.Test.YtenpenelikpeeaaG2
namespace Go.Proofs.Ytenpenelikpeeaa
open Go.RowKit Go.Shelf
set_option linter.unusedVariables false
set_option linter.unusedSimpArgs false

/-- First, its result's length named -/
def FirstW (zs : List Int) (k : Nat) (bk e' : Int) (w : World) (e : Ending) (w' : World) : Prop := FirstV zs k bk e' w e w'
theorem FirstP.named {zs ys : List Int} {k : Nat} {bk bk' e' e'' : Int} {w : World} {e : Ending} {w' : World} (h : FirstP zs bk e' w e w') (h1 : zs = ys) (h2 : ys.length = k) (h3 : bk = bk') (h4 : e' = e'') : FirstV ys k bk' e'' w e w' := by
  subst h1 h2 h3 h4; exact h
theorem LessP.named {zs ys : List Int} {k : Nat} {e' e'' : Int} {w : World} {e : Ending} {w' : World} (h : LessP zs e' w e w') (h1 : zs = ys) (h2 : ys.length = k) (h4 : e' = e'') : LessV ys k e'' w e w' := by
  subst h1 h2 h4; exact h

set_option maxRecDepth 100000 in
set_option maxHeartbeats 2000000 in
theorem lawFirst_any (x : Int) (A : Option Addr) (n c : Nat) (ls : List (List Int)) (A' : Option Addr) (n' c' : Nat) (ts : List Stp) (q : Int) (w : World) (h : RL w A n c ls) (h' : RS w A' n' c' ts) :
    Calls Try.prog 3 #[.agg #[.int .i64 x, .slice A n c], .slice A' n' c', .int .i64 q] w fun e w' => e = .returned (.bool true) ∧ Below w.heap.size w w' := by
  have H := Lib.hid h
  have H' := Lib.hid h'
  have BX := Lib.hid (Two.new w (.int .i64 x) (.slice A n c))
  have HB0 := Lib.hid (below1 w (.cells #[.int .i64 x, .slice A n c] 24))
  have HTS := Lib.hid h'.len
  clear h h'
  cases hf : fewB ls ts with
  | false =>
    have HF := Lib.hid hf
    clear hf
    go_enter Try.func3, Try.ntmps3
    go_wp2_with (first
      | (go_at_call 11; refine (live_any _).mono ?_; rintro e w1 ⟨rfl, hb⟩; have HB1 := Lib.hid (bthen HB0.out hb); have t0 := (BX.out.below hb).c0; have t1 := (BX.out.below hb).c1; clear hb)
      | (go_at_call 12; refine (lfew_val false x A n c ls A' n' c' ts _ (H.out.below HB1.out) (H'.out.below HB1.out) HF.out).mono ?_; rintro e w2 ⟨rfl, hb⟩; have HB2 := Lib.hid (bthen HB1.out hb); clear hb))
    go_ret
    exact ⟨rfl, HB2.out⟩
  | true =>
    obtain ⟨f1, f2, f3⟩ := few_facts hf
    have HF := Lib.hid hf
    have F1 := Lib.hid f1
    have hn30 : n' ≤ 30 := by rw [← HTS.out]; exact f3
    obtain ⟨zs, hzs⟩ : ∃ zs, firstL x ls ts q = zs := ⟨_, rfl⟩
    obtain ⟨k, hk⟩ : ∃ k, zs.length = k := ⟨_, rfl⟩
    obtain ⟨bk, hbk⟩ : ∃ bk, firstB x ls ts q = bk := ⟨_, rfl⟩
    obtain ⟨er, her⟩ : ∃ er, firstE x ls ts q = er := ⟨_, rfl⟩
    have Z := Lib.hid (And.intro hzs (And.intro hk (And.intro hbk her)))
    clear hf f1 f2 f3 hzs hk hbk her
    go_enter Try.func3, Try.ntmps3
    go_upto_region 5 with (first
      | (go_at_call 11; refine (live_any _).mono ?_; rintro e w1 ⟨rfl, hb⟩; have HB1 := Lib.hid (bthen HB0.out hb); have BX1 := Lib.hid (BX.out.below hb); have t0 := BX1.out.c0; have t1 := BX1.out.c1; clear hb)
      | (go_at_call 12; refine (lfew_val true x A n c ls A' n' c' ts _ (H.out.below HB1.out) (H'.out.below HB1.out) HF.out).mono ?_; rintro e w2 ⟨rfl, hb⟩; have HB2 := Lib.hid (bthen HB1.out hb); have BX2 := Lib.hid (BX1.out.below hb); clear hb))
    clear t0 t1
    have t0 := BX2.out.c0
    have t1 := BX2.out.c1
    go_upto_region 6 with (go_at_call 13; refine (first_any x A n c ls A' n' c' ts q _ (H.out.below HB2.out) (H'.out.below HB2.out) (by omega) (fun l hl => Nat.le_trans (F1.out l hl) (by omega))).mono ?_; rintro e w3 hfp; obtain ⟨A3, c3, rfl, hr3, hb3⟩ := hfp.named Z.out.1 Z.out.2.1 Z.out.2.2.1 Z.out.2.2.2; have HB3 := Lib.hid (bthen HB2.out hb3); have BX3 := Lib.hid (BX2.out.below hb3); have HR3 := Lib.hid hr3; clear hfp hr3 hb3)
    clear t0 t1
    have t0 := BX3.out.c0
    have t1 := BX3.out.c1
    go_upto_region 7 with (go_at_call 14; refine (rfirst_any x A n c ls A' n' c' ts q _ (H.out.below HB3.out) (H'.out.below HB3.out) (by omega) (fun l hl => Nat.le_trans (F1.out l hl) (by omega))).mono ?_; rintro e w4 hfp; obtain ⟨A4, c4, rfl, hr4, hb4⟩ := hfp.named Z.out.1 Z.out.2.1 Z.out.2.2.1 Z.out.2.2.2; have HB4 := Lib.hid (bthen HB3.out hb4); have HR4 := Lib.hid hr4; have HR5 := Lib.hid (HR3.out.below hb4); clear hfp hr4 hb4)
    clear t0 t1
    go_wp2_with (go_at_call 15; refine (ints_val true A3 k c3 zs A4 k c4 zs _ HR5.out HR4.out (sameB_iff.2 rfl)).mono ?_; rintro e w5 ⟨rfl, hb5⟩; have HB5 := Lib.hid (bthen HB4.out hb5); clear hb5)
    go_ret
    exact ⟨rfl, HB5.out⟩

set_option maxRecDepth 100000 in
set_option maxHeartbeats 2000000 in
theorem lawRedundant_any (x : Int) (A : Option Addr) (n c : Nat) (ls : List (List Int)) (A' : Option Addr) (n' c' : Nat) (ts : List Stp) (Al : Option Addr) (nl cl : Nat) (l : List Int) (w : World) (h : RL w A n c ls) (h' : RS w A' n' c' ts) (hl : RI w Al nl cl l) (hw : Wfl l) :
    Calls Try.prog 4 #[.agg #[.int .i64 x, .slice A n c], .slice A' n' c', .slice Al nl cl] w fun e w' => e = .returned (.bool true) ∧ Below w.heap.size w w' := by
  have H := Lib.hid h
  have H' := Lib.hid h'
  have HL := Lib.hid hl
  have HW := Lib.hid hw
  have BX := Lib.hid (Two.new w (.int .i64 x) (.slice A n c))
  have HB0 := Lib.hid (below1 w (.cells #[.int .i64 x, .slice A n c] 24))
  have HTS := Lib.hid h'.len
  have hnl := hl.small
  clear h h' hl hw
  cases hf : fewB ls ts with
  | false =>
    have HF := Lib.hid hf
    clear hf
    go_enter Try.func4, Try.ntmps4
    go_wp2_with (first
      | (go_at_call 11; refine (live_any _).mono ?_; rintro e w1 ⟨rfl, hb⟩; have HB1 := Lib.hid (bthen HB0.out hb); have t0 := (BX.out.below hb).c0; have t1 := (BX.out.below hb).c1; clear hb)
      | (go_at_call 12; refine (lfew_val false x A n c ls A' n' c' ts _ (H.out.below HB1.out) (H'.out.below HB1.out) HF.out).mono ?_; rintro e w2 ⟨rfl, hb⟩; have HB2 := Lib.hid (bthen HB1.out hb); clear hb))
    go_ret
    exact ⟨rfl, HB2.out⟩
  | true =>
    obtain ⟨f1, f2, f3⟩ := few_facts hf
    have HF := Lib.hid hf
    have F1 := Lib.hid f1
    have hn30 : n' ≤ 30 := by rw [← HTS.out]; exact f3
    by_cases hl30 : nl ≤ 30
    · have d1 : decide ((30 : Int) < (nl : Int)) = false := by rw [decide_eq_false_iff_not]; omega
      obtain ⟨zs, hzs⟩ : ∃ zs, lessR x ls ts l = zs := ⟨_, rfl⟩
      obtain ⟨k, hk⟩ : ∃ k, zs.length = k := ⟨_, rfl⟩
      obtain ⟨er, her⟩ : ∃ er, lessE x ls ts l = er := ⟨_, rfl⟩
      have Z := Lib.hid (And.intro hzs (And.intro hk her))
      clear hf f1 f2 f3 hzs hk her
      go_enter Try.func4, Try.ntmps4
      go_upto_region 5 with (first
        | (go_at_call 11; refine (live_any _).mono ?_; rintro e w1 ⟨rfl, hb⟩; have HB1 := Lib.hid (bthen HB0.out hb); have BX1 := Lib.hid (BX.out.below hb); have t0 := BX1.out.c0; have t1 := BX1.out.c1; clear hb)
        | (go_at_call 12; refine (lfew_val true x A n c ls A' n' c' ts _ (H.out.below HB1.out) (H'.out.below HB1.out) HF.out).mono ?_; rintro e w2 ⟨rfl, hb⟩; have HB2 := Lib.hid (bthen HB1.out hb); have BX2 := Lib.hid (BX1.out.below hb); clear hb))
      clear t0 t1
      have t0 := BX2.out.c0
      have t1 := BX2.out.c1
      go_upto_region 6 with (go_at_call 16; refine (less_any x A n c ls A' n' c' ts Al nl cl l _ (H.out.below HB2.out) (H'.out.below HB2.out) (HL.out.below HB2.out) HW.out (by omega) (by omega)).mono ?_; rintro e w3 hfp; obtain ⟨A3, c3, rfl, hr3, hb3⟩ := hfp.named Z.out.1 Z.out.2.1 Z.out.2.2; have HB3 := Lib.hid (bthen HB2.out hb3); have BX3 := Lib.hid (BX2.out.below hb3); have HR3 := Lib.hid hr3; clear hfp hr3 hb3)
      clear t0 t1
      have t0 := BX3.out.c0
      have t1 := BX3.out.c1
      go_upto_region 7 with (go_at_call 17; refine (rless_any x A n c ls A' n' c' ts Al nl cl l _ (H.out.below HB3.out) (H'.out.below HB3.out) (HL.out.below HB3.out) HW.out (by omega) (by omega) (fun l hl => Nat.le_trans (F1.out l hl) (by omega))).mono ?_; rintro e w4 hfp; obtain ⟨A4, c4, rfl, hr4, hb4⟩ := hfp.named Z.out.1 Z.out.2.1 Z.out.2.2; have HB4 := Lib.hid (bthen HB3.out hb4); have HR4 := Lib.hid hr4; have HR5 := Lib.hid (HR3.out.below hb4); clear hfp hr4 hb4)
      clear t0 t1
      go_wp2_with (go_at_call 15; refine (ints_val true A3 k c3 zs A4 k c4 zs _ HR5.out HR4.out (sameB_iff.2 rfl)).mono ?_; rintro e w5 ⟨rfl, hb5⟩; have HB5 := Lib.hid (bthen HB4.out hb5); clear hb5)
      go_ret
      exact ⟨rfl, HB5.out⟩
    · have d1 : decide ((30 : Int) < (nl : Int)) = true := by rw [decide_eq_true_iff]; omega
      clear hf f1 f2 f3
      go_enter Try.func4, Try.ntmps4
      go_wp2_with (first
        | (go_at_call 11; refine (live_any _).mono ?_; rintro e w1 ⟨rfl, hb⟩; have HB1 := Lib.hid (bthen HB0.out hb); have t0 := (BX.out.below hb).c0; have t1 := (BX.out.below hb).c1; clear hb)
        | (go_at_call 12; refine (lfew_val true x A n c ls A' n' c' ts _ (H.out.below HB1.out) (H'.out.below HB1.out) HF.out).mono ?_; rintro e w2 ⟨rfl, hb⟩; have HB2 := Lib.hid (bthen HB1.out hb); clear hb))
      go_ret
      exact ⟨rfl, HB2.out⟩

end Go.Proofs.Ytenpenelikpeeaa
