/-
  play of the law's package. No condition.
  The law LearnRup returns true. No condition.
-/
import Derived.Test.YtenpenelikpeeaaZC28
import Derived.Test.YtenpenelikpeeaaZC26

namespace Go.Proofs.Ytenpenelikpeeaa
open Go.RowKit Go.Shelf
set_option linter.unusedVariables false
set_option linter.unusedSimpArgs false

set_option maxRecDepth 100000 in
set_option maxHeartbeats 1000000 in
theorem levelG_any (A : Option Addr) (n c : Nat) (ts : List Stp) (x : Int) (w : World) (h : RS w A n c ts) (hn : n ≤ 1000000) (z : Int) (hz : wrap64 (-x) = z) :
    Calls Try.prog 19 #[.slice A n c, .int .i64 x] w fun e w' => e = .returned (.int .i64 (lvlT ts (-z))) ∧ Below w.heap.size w w' := by
  have H := Lib.hid h
  have hneg := hz
  clear hz
  clear h
  go_enter Try.func19, Try.ntmps19
  go_wp2_with (go_at_call 18; refine (levels_any A n c ts _ H.out hn).mono ?_; rintro e w2 ⟨A2, c2, rfl, hr2, hb2⟩; have HR2 := Lib.hid hr2; have HB2 := Lib.hid hb2; clear hr2 hb2)
  go_loopw [6] (fun s6 W => ∃ k : Nat, k ≤ n ∧ s6 = .int .i64 k ∧ (∀ j, j < k → (stp ts j).lit ≠ z) ∧ W = w2) (fun i _ => n - (intOf i).toNat)
  case atStart => exact ⟨0, Nat.zero_le _, rfl, fun j hj => absurd hj (by omega), rfl⟩
  case round =>
    obtain ⟨k, hk, rfl, hno, rfl⟩ := hrel
    have HN := Lib.hid hno
    clear hno
    by_cases hlt : k < n
    · have hl : k < ts.length := by rw [H.out.len]; exact hlt
      obtain ⟨b, off, rfl, hbl, hc⟩ := (H.out.below HB2.out).cells (by omega)
      obtain ⟨hc0, -⟩ := hc k hlt
      obtain ⟨b2, off2, rfl, hbl2, hc2⟩ := HR2.out.cells (by omega)
      have hck2 := hc2 k hlt
      clear hc hc2
      by_cases hx : (stp ts k).lit = z
      · have E := Lib.hid (lvlT_at (x := -z) hl (by rw [Int.neg_neg]; exact hx) (fun j hj => by rw [Int.neg_neg]; exact HN.out j hj))
        have hxb : ((stp ts k).lit == z) = true := by simpa using hx
        clear hx hl
        go_wp2
        go_ret
        exact ⟨ret_int E.out.symm, HB2.out⟩
      · have E := Lib.hid hx
        have hxb : ((stp ts k).lit == z) = false := by simpa using hx
        clear hx hl
        go_wp2
        go_roundw
        case rel =>
          refine ⟨k + 1, by omega, by go_num, fun j hj => ?_, by first | rfl | trivial⟩
          rcases Nat.lt_or_ge j k with h1 | h1
          · exact HN.out j h1
          · obtain rfl : j = k := by omega
            exact E.out
        case measure => simp [intOf]; omega
    · have E := Lib.hid (lvlT_none (ts := ts) (x := -z) (fun j hj => by rw [Int.neg_neg]; exact HN.out j (by rw [H.out.len] at hj; omega)))
      go_wp2
      go_ret
      exact ⟨ret_int E.out.symm, HB2.out⟩


theorem levG_val (r : Int) (A : Option Addr) (n c : Nat) (ts : List Stp) (x : Int) (w : World) (h : RS w A n c ts) (hn : n ≤ 1000000) (z : Int) (hz : wrap64 (-x) = z) (hr : lvlT ts (-z) = r) :
    Calls Try.prog 19 #[.slice A n c, .int .i64 x] w fun e w' => e = .returned (.int .i64 r) ∧ Below w.heap.size w w' := by
  subst hr; exact levelG_any A n c ts x w h hn z hz

set_option maxRecDepth 100000 in
set_option maxHeartbeats 1000000 in
theorem prop_bad (r : Int) (x : Int) (A : Option Addr) (n c : Nat) (ls : List (List Int)) (A' : Option Addr) (n' c' : Nat) (ts : List Stp) (w : World) (h : RL w A n c ls) (h' : RS w A' n' c' ts) (hn' : n' ≤ 1000000) (hr : propE x ls ts = r) (hr0 : r ≠ 0) :
    Calls Try.prog 27 #[.agg #[.int .i64 x, .slice A n c], .slice A' n' c'] w fun e w' => e = .returned (.tuple #[.slice none 0 0, .int .i64 0, .int .i64 r]) ∧ Below w.heap.size w w' := by
  have H := Lib.hid h
  have H' := Lib.hid h'
  have HR := Lib.hid hr
  have HB0 := Lib.hid (below1 w (.cells #[.int .i64 x, .slice A n c] 24))
  have BX := Lib.hid (Two.new w (.int .i64 x) (.slice A n c))
  have d0 : (r != 0) = true := by simpa using hr0
  have d1 : (r == 0) = false := by simpa using hr0
  clear h h' hr hr0
  go_enter Try.func27, Try.ntmps27
  go_wp2_with fail
  go_step3
  go_wp2_with (go_at_call 20; refine (pcheck_val r x A n c ls A' n' c' ts _ (H.out.below HB0.out) (H'.out.below HB0.out) (by omega) HR.out).mono ?_; rintro e w1 ⟨rfl, hb1⟩; have HB1 := Lib.hid (bthen HB0.out hb1); clear hb1)
  try rw [Exit.noGoto_ret]
  go_ret3
  exact ⟨rfl, HB1.out⟩

theorem prop_outside {x : Int} {ls : List (List Int)} {ts : List Stp} {y : Int} (h : isB y x = false) : propE x ls (ts ++ [⟨y, -1⟩]) ≠ 0 := by
  intro h0
  have := (trail_tr (propE_zero h0).2).lit ts.length (by simp)
  rw [stp_lt (by simp)] at this
  simp at this
  rw [this] at h; cases h

/-- what play hands back -/
def PlayR (x : Int) (ls : List (List Int)) (w : World) (e : Ending) (w' : World) : Prop :=
  (∃ A k c, e = .returned (.tuple #[.slice A k c, .int .i64 (-1)]) ∧ Below w.heap.size w w') ∨
  ∃ A k c rp i, e = .returned (.tuple #[.slice A k c, .int .i64 (i : Nat)]) ∧ Below w.heap.size w w' ∧ Played x ls rp ∧ rp.1 = some i ∧ RS w' A k c rp.2.ts
/-- its state at a round's head -/
def PlayS (x : Int) (ls : List (List Int)) (ts : List Stp) (q er : Int) : Prop := er ≠ 0 ∨ (er = 0 ∧ ∃ rp, Played x ls rp ∧ rp.2.ts = ts ∧ q = cfl rp.1)

set_option maxRecDepth 100000 in
set_option maxHeartbeats 8000000 in
theorem play_any (x : Int) (A : Option Addr) (n c : Nat) (ls : List (List Int)) (Ad : Option Addr) (nd cd : Nat) (d : List Int) (w : World) (h : RL w A n c ls) (hd : RI w Ad nd cd d) (hw : Wfl d) (hc : checkE x ls = 0) (hn : n ≤ 50) (h12 : ∀ l ∈ ls, l.length ≤ 12) (hx30 : x ≤ 30) :
    Calls Try.prog 24 #[.agg #[.int .i64 x, .slice A n c], .slice Ad nd cd] w (PlayR x ls w) := by
  have H := Lib.hid h
  have HD := Lib.hid hd
  have HWd := Lib.hid hw
  have HC := Lib.hid hc
  have H12 := Lib.hid h12
  have HDL := Lib.hid hd.len
  have hds := hd.small
  have BX := Lib.hid (Two.new w (.int .i64 x) (.slice A n c))
  have HB0 := Lib.hid (below1 w (.cells #[.int .i64 x, .slice A n c] 24))
  have hxb := checkE_n hc
  have PS0 := Lib.hid (played_start hc)
  obtain ⟨rp, hrp⟩ : ∃ rp, propT x ls [] = rp := ⟨_, rfl⟩
  rw [hrp] at PS0
  obtain ⟨r1, hr1⟩ : ∃ r1, rp.1 = r1 := ⟨_, rfl⟩
  obtain ⟨xs, hxs⟩ : ∃ xs, rp.2.ts = xs := ⟨_, rfl⟩
  obtain ⟨kx, hkx⟩ : ∃ kx, xs.length = kx := ⟨_, rfl⟩
  have HRP := Lib.hid (And.intro hrp (And.intro hr1 (And.intro hxs hkx)))
  have PE0 : Hid (propE x ls [] = 0) := Lib.hid (by unfold propE; rw [if_neg (by simpa using hc), if_pos (show trailB x ls [] = true from rfl)])
  have NIL : Hid (∀ W, RS W none 0 0 []) := Lib.hid (fun W => RS.nil W none 0 (by unfold maxLen; omega))
  have S0 : Hid (PlayS x ls xs (cfl r1) 0) := Lib.hid (Or.inr ⟨rfl, rp, PS0.out, hxs, by rw [hr1]⟩)
  clear h hd hw hc h12 hrp hr1 hxs hkx
  go_enter Try.func24, Try.ntmps24
  go_wp2_with (go_at_call 27; refine (prop_ok x A n c ls none 0 0 [] _ (H.out.below HB0.out) (NIL.out _) PE0.out (by omega) (by omega) (fun l hl => Nat.le_trans (H12.out l hl) (by omega))).mono ?_; rintro e w1 hpd; obtain ⟨Ax, cx, rfl, hrx, hb1⟩ := hpd.named HRP.out; have HB1 := Lib.hid (bthen HB0.out hb1); have BX1 := Lib.hid (BX.out.below hb1); have HX1 := Lib.hid hrx; clear hpd hrx hb1)
  obtain ⟨cr, hcr⟩ : ∃ cr, cfl r1 = cr := ⟨_, rfl⟩
  rw [hcr] at S0
  rw [hcr]
  clear hcr
  go_loopw [6, 7, 8, 9] (fun s6 s7 s8 s9 W => ∃ (i : Nat) (At : Option Addr) (kt ct : Nat) (ts : List Stp) (q er : Int), i ≤ nd ∧ s9 = .int .i64 i ∧ s6 = .slice At kt ct ∧ s7 = .int .i64 q ∧ s8 = .int .i64 er ∧ RS W At kt ct ts ∧ PlayS x ls ts q er ∧ Below w1.heap.size w1 W) (fun _ _ _ i _ => nd - (intOf i).toNat)
  case atStart => exact ⟨0, _, _, _, xs, cr, 0, Nat.zero_le _, rfl, rfl, rfl, rfl, HX1.out, S0.out, Below.refl _ _⟩
  case round =>
    obtain ⟨i, At, kt, ct, ts, q, er, hi, rfl, rfl, rfl, rfl, hrs, hps, hbW⟩ := hrel
    obtain ⟨W2, hw2, eW⟩ : ∃ W2, (RS W2 At kt ct ts ∧ Below w1.heap.size w1 W2) ∧ W2 = _ := ⟨_, ⟨hrs, hbW⟩, rfl⟩
    subst eW
    have HS2 := Lib.hid hw2.1
    have HW2 := Lib.hid hw2.2
    have HB2 := Lib.hid (bthen HB1.out hw2.2)
    have BX2 := Lib.hid (BX1.out.below hw2.2)
    clear hrs hbW hw2
    rcases hps with her | ⟨rfl, rp2, hpl, hts, hq⟩
    · have d0 : (er != 0) = true := by simpa using her
      by_cases hlt : i < nd
      · obtain ⟨b4, o4, rfl, hb4l, hc4⟩ := (HD.out.below HB2.out).cells (by omega)
        have e4 := hc4 i hlt
        clear hc4
        go_wp2
        all_goals
          go_ret2
          exact Or.inl ⟨_, _, _, rfl, HB2.out⟩
      · go_wp2
        go_ret2
        exact Or.inl ⟨_, _, _, rfl, HB2.out⟩
    · have HPL := Lib.hid hpl
      have HTSE := Lib.hid hts
      cases hr2 : rp2.1 with
      | some i2 =>
        have HI2 := Lib.hid hr2
        rw [hr2] at hq
        have hq2 : q = (i2 : Int) := hq
        subst hq2
        have d0 : decide ((0 : Int) ≤ (i2 : Int)) = true := by rw [decide_eq_true_iff]; omega
        have DONE : Hid (∀ W', Below w.heap.size w W' → RS W' At kt ct ts → PlayR x ls w (.returned (.tuple #[.slice At kt ct, .int .i64 (i2 : Nat)])) W') := Lib.hid (fun W' hb hr => Or.inr ⟨_, _, _, rp2, i2, rfl, hb, HPL.out, HI2.out, by rw [HTSE.out]; exact hr⟩)
        clear hpl hts hr2 hq
        by_cases hlt : i < nd
        · obtain ⟨b4, o4, rfl, hb4l, hc4⟩ := (HD.out.below HB2.out).cells (by omega)
          have e4 := hc4 i hlt
          clear hc4
          go_wp2
          all_goals
            go_ret2
            exact DONE.out _ HB2.out HS2.out
        · go_wp2
          go_ret2
          exact DONE.out _ HB2.out HS2.out
      | none =>
        have HN2 := Lib.hid hr2
        rw [hr2] at hq
        have hq2 : q = -1 := hq
        subst hq2
        have htr := hpl.tr
        rw [hts] at htr
        have hkt : kt ≤ 30 := by rw [← HS2.out.len]; have := trail_len hxb.1 htr; omega
        have TB := Lib.hid (lits_bound (trail_tr htr) hxb.2)
        have HTRT := Lib.hid htr
        clear hpl hts hr2 hq htr
        by_cases hlt : i < nd ∧ i < 20
        · obtain ⟨hlt, h20⟩ := hlt
          have hdl : i < d.length := by rw [HDL.out]; exact hlt
          obtain ⟨y, hy⟩ : ∃ y, elt d i = y := ⟨_, rfl⟩
          have hyw := HWd.out y (by rw [← hy]; exact elt_mem hdl)
          have hyr : -9223372036854775808 ≤ y ∧ y ≤ 9223372036854775807 := by
            simpa [Lit.wf, IntKind.min, IntKind.max, IntKind.bits, IntKind.signed] using hyw
          obtain ⟨b4, o4, hAd, hb4l, hc4⟩ := (HD.out.below HB2.out).cells (by omega)
          have e4 := hc4 i hlt
          rw [hy] at e4
          subst hAd
          obtain ⟨z, hz⟩ : ∃ z, wrap64 (-y) = z := ⟨_, rfl⟩
          have HZ := Lib.hid hz
          have t0 := BX2.out.c0
          have t1 := BX2.out.c1
          clear hc4 hy hdl hyw
          have PSN : Hid (PlayS x ls ts (-1) 0) := Lib.hid (Or.inr ⟨rfl, rp2, HPL.out, HTSE.out, by rw [HN2.out]; rfl⟩)
          by_cases hy0 : y = 0
          · have dy : (y == 0) = true := by simpa using hy0
            clear hz
            go_wp2
            go_roundw
            case rel => exact ⟨i + 1, At, kt, ct, ts, -1, 0, by omega, by go_num, rfl, rfl, rfl, HS2.out, PSN.out, HW2.out⟩
            case measure => simp [intOf]; omega
          · have dy : (y == 0) = false := by simpa using hy0
            by_cases hyx : x < y
            · have dx : decide (x < y) = true := by rw [decide_eq_true_iff]; exact hyx
              clear hz
              go_wp2
              go_roundw
              case rel => exact ⟨i + 1, At, kt, ct, ts, -1, 0, by omega, by go_num, rfl, rfl, rfl, HS2.out, PSN.out, HW2.out⟩
              case measure => simp [intOf]; omega
            · have dx : decide (x < y) = false := by rw [decide_eq_false_iff_not]; exact hyx
              by_cases hzx : x < z
              · have dz : decide (x < z) = true := by rw [decide_eq_true_iff]; exact hzx
                go_wp2
                go_roundw
                case rel => exact ⟨i + 1, At, kt, ct, ts, -1, 0, by omega, by go_num, rfl, rfl, rfl, HS2.out, PSN.out, HW2.out⟩
                case measure => simp [intOf]; omega
              · have dz : decide (x < z) = false := by rw [decide_eq_false_iff_not]; exact hzx
                obtain ⟨v, hv⟩ : ∃ v, lvlT ts (-z) = v := ⟨_, rfl⟩
                obtain ⟨v2, hv2⟩ : ∃ v2, lvlT (flipT ts) (-z) = v2 := ⟨_, rfl⟩
                have V := Lib.hid hv
                have V2 := Lib.hid hv2
                clear hv hv2
                by_cases h0 : 0 ≤ v
                · have dv : decide (0 ≤ v) = true := by rw [decide_eq_true_iff]; exact h0
                  go_wp2_with (go_at_call 19; refine (levG_val v At kt ct ts y _ HS2.out (by omega) z HZ.out V.out).mono ?_; rintro e w3 ⟨rfl, hb3⟩; have HW3 := Lib.hid (bthen HW2.out hb3); have HS3 := Lib.hid (HS2.out.below hb3); clear hb3)
                  go_roundw
                  case rel => exact ⟨i + 1, At, kt, ct, ts, -1, 0, by omega, by go_num, rfl, rfl, rfl, HS3.out, PSN.out, HW3.out⟩
                  case measure => simp [intOf]; omega
                · have dv : decide (0 ≤ v) = false := by rw [decide_eq_false_iff_not]; exact h0
                  have HAR : Hid True := Lib.hid True.intro
                  by_cases h2 : 0 ≤ v2
                  · have dv2 : decide (0 ≤ v2) = true := by rw [decide_eq_true_iff]; exact h2
                    go_wp2_with (first
                      | (go_at_call 19; have _t := HAR.out; refine (levG_val v At kt ct ts y _ HS2.out (by omega) z HZ.out V.out).mono ?_; rintro e w3 ⟨rfl, hb3⟩; have HW3 := Lib.hid (bthen HW2.out hb3); have HS3 := Lib.hid (HS2.out.below hb3); clear hb3 HAR)
                      | (go_at_call 29; refine (flip_any At kt ct ts _ HS3.out (by omega) TB.out).mono ?_; rintro e w4 ⟨A4, c4, rfl, hr4, hb4⟩; have HR4 := Lib.hid hr4; have HW4 := Lib.hid (bthen HW3.out hb4); have HS4 := Lib.hid (HS3.out.below hb4); clear hr4 hb4)
                      | (go_at_call 19; refine (levG_val v2 A4 kt c4 (flipT ts) y _ HR4.out (by omega) z HZ.out V2.out).mono ?_; rintro e w5 ⟨rfl, hb5⟩; have HW5 := Lib.hid (bthen HW4.out hb5); have HS5 := Lib.hid (HS4.out.below hb5); clear hb5))
                    go_roundw
                    case rel => exact ⟨i + 1, At, kt, ct, ts, -1, 0, by omega, by go_num, rfl, rfl, rfl, HS5.out, PSN.out, HW5.out⟩
                    case measure => simp [intOf]; omega
                  · have dv2 : decide (0 ≤ v2) = false := by rw [decide_eq_false_iff_not]; exact h2
                    go_upto_region 8 with (first
                      | (go_at_call 19; have _t := HAR.out; refine (levG_val v At kt ct ts y _ HS2.out (by omega) z HZ.out V.out).mono ?_; rintro e w3 ⟨rfl, hb3⟩; have HW3 := Lib.hid (bthen HW2.out hb3); have HS3 := Lib.hid (HS2.out.below hb3); clear hb3 HAR)
                      | (go_at_call 29; refine (flip_any At kt ct ts _ HS3.out (by omega) TB.out).mono ?_; rintro e w4 ⟨A4, c4, rfl, hr4, hb4⟩; have HR4 := Lib.hid hr4; have HW4 := Lib.hid (bthen HW3.out hb4); have HS4 := Lib.hid (HS3.out.below hb4); clear hr4 hb4)
                      | (go_at_call 19; refine (levG_val v2 A4 kt c4 (flipT ts) y _ HR4.out (by omega) z HZ.out V2.out).mono ?_; rintro e w5 ⟨rfl, hb5⟩; have HW5 := Lib.hid (bthen HW4.out hb5); have HS5 := Lib.hid (HS4.out.below hb5); clear hb5))
                    clear t0 t1
                    have HB5 := Lib.hid (bthen HB1.out HW5.out)
                    have BX5 := Lib.hid (BX1.out.below HW5.out)
                    obtain ⟨k2, ys, ci, er2, hcall, hps2⟩ : ∃ (k2 : Nat) (ys : List Stp) (ci er2 : Int), (∀ A7 c7 w7, Below w5.heap.size w5 w7 → RS w7 A7 (kt + 1) c7 (ts ++ [⟨y, -1⟩]) → Calls Try.prog 27 #[.agg #[.int .i64 x, .slice A n c], .slice A7 (kt + 1) c7] w7 fun e w' => ∃ A' c', e = .returned (.tuple #[.slice A' k2 c', .int .i64 ci, .int .i64 er2]) ∧ RS w' A' k2 c' ys ∧ Below w7.heap.size w7 w') ∧ PlayS x ls ys ci er2 := by
                      cases hib : isB y x with
                      | true =>
                        have hyi := isB_iff.1 hib
                        have hzy : z = -y := by rw [← HZ.out]; exact lit_neg' (by omega) (by omega)
                        have g1 : hasB (litsOf rp2.2.ts) (-y) = false := by
                          have := lvl_neg (ts := ts) (y := -z)
                          rw [V.out, Int.neg_neg] at this
                          rw [HTSE.out, ← hzy]; exact this.1 (by omega)
                        have g2 : hasB (litsOf rp2.2.ts) y = false := by
                          have := lvl_flip (ts := ts) (y := -z)
                          rw [V2.out] at this
                          have h3 := this.1 (by omega)
                          rw [hzy, Int.neg_neg] at h3
                          rw [HTSE.out]; exact h3
                        obtain ⟨p1, p2⟩ := played_decide HPL.out HN2.out hib g2 g1
                        rw [HTSE.out] at p1 p2
                        refine ⟨(propT x ls (ts ++ [⟨y, -1⟩])).2.ts.length, (propT x ls (ts ++ [⟨y, -1⟩])).2.ts, cfl (propT x ls (ts ++ [⟨y, -1⟩])).1, 0, fun A7 c7 w7 hb7 hr7 => ?_, Or.inr ⟨rfl, _, p2, rfl, rfl⟩⟩
                        exact prop_ok x A n c ls A7 (kt + 1) c7 _ w7 (H.out.below (bthen HB5.out hb7)) hr7 p1 (by omega) (by omega) (fun l hl => Nat.le_trans (H12.out l hl) (by omega))
                      | false =>
                        have hne := prop_outside (ls := ls) (ts := ts) hib
                        refine ⟨0, [], 0, propE x ls (ts ++ [⟨y, -1⟩]), fun A7 c7 w7 hb7 hr7 => ?_, Or.inl hne⟩
                        refine (prop_bad _ x A n c ls A7 (kt + 1) c7 _ w7 (H.out.below (bthen HB5.out hb7)) hr7 (by omega) rfl hne).mono fun e w' ⟨h1, h2⟩ => ?_
                        exact ⟨none, 0, h1, RS.nil _ _ _ (by unfold maxLen; omega), h2⟩
                    have ST := Lib.hid (stepsP w.heap.size w5 x A n c At kt ct ts y ci er2 k2 ys BX5.out HS5.out (by omega) hcall : StepsOk _ _ _ _ _ (GP w.heap.size w5 x A n c At kt ct ts y ci er2 k2 ys) _ _ _)
                    have PS2 := Lib.hid hps2
                    have HD5 : Hid (Below w5.heap.size w5 w5.drew) := Lib.hid ((Below.refl _ _).drew)
                    clear hcall hps2
                    refine wp_region_facts (regAt Try.f24 8) 15 82 _ _ [(2, .pointer (some ⟨w.heap.size, 0, none⟩)), (6, .slice At kt ct), (10, .int .i64 y)] _ (GP w.heap.size w5 x A n c At kt ct ts y ci er2 k2 ys) _ (by kernel_rfl) (by kernel_rfl) (by kernel_rfl) (by kernel_rfl) (by kernel_rfl) (by decide +kernel) (by decide +kernel) (by decide +kernel) (by decide +kernel) (by decide +kernel) (by rfl) ⟨rfl, rfl, rfl, trivial⟩ HD5.out ST.out _ (by rfl) ?_
                    intro vals w11 hB11 hG11 a' ha'
                    obtain ⟨A9, c9, f13, g13⟩ : ∃ A' c', vals 13 = .slice A' k2 c' ∧ RS w11 A' k2 c' ys := (hG11 13 (by omega) rfl :)
                    have f14 : vals 14 = .int .i64 ci := (hG11 14 (by omega) rfl :)
                    have f12 : vals 12 = .int .i64 er2 := (hG11 12 (by omega) rfl :)
                    simp only [putsL, Act.put, List.take, f13, f14, f12] at ha'
                    subst ha'
                    have HR9 := Lib.hid g13
                    have HW11 := Lib.hid (bthen HW5.out hB11)
                    clear g13 hB11 hG11
                    simp only [Gives, execOp]
                    simp [GivesR, go_sem, Act.eval, Act.put]
                    go_wp2
                    go_roundw
                    case rel => exact ⟨i + 1, A9, k2, c9, ys, ci, er2, by omega, by go_num, rfl, rfl, rfl, HR9.out, PS2.out, HW11.out⟩
                    case measure => simp [intOf]; omega
        · go_wp2
          all_goals
            go_ret2
            exact Or.inl ⟨_, _, _, rfl, HB2.out⟩

end Go.Proofs.Ytenpenelikpeeaa

namespace Go.Proofs.Ytenpenelikpeeaa
open Go.RowKit Go.Shelf
set_option linter.unusedVariables false
set_option linter.unusedSimpArgs false

theorem lessR_sub {x : Int} {ls : List (List Int)} {ts : List Stp} {l : List Int} : (∀ y ∈ lessR x ls ts l, y ∈ l) ∧ (lessR x ls ts l).length ≤ l.length := by
  unfold lessR
  split
  · refine ⟨fun y hy => (mem_lessL.1 hy).1, ?_⟩
    unfold lessL
    rw [len_risL]
    exact List.length_filter_le _ _
  · exact ⟨(fun y hy => (by cases hy)), by simp⟩
theorem firstL_isB {x : Int} {ls : List (List Int)} {ts : List Stp} {q : Int} (h : firstE x ls ts q = 0) : ∀ y ∈ firstL x ls ts q, isB y x = true := fun y hy => by
  have R := rd_of h
  have h1 := firstL_under h y hy
  have h2 := isB_iff.1 (R.tr.lit _ h1)
  rw [(plc_lt h1).1] at h2
  rw [isB_iff]; omega

set_option maxRecDepth 100000 in
set_option maxHeartbeats 8000000 in
theorem lawRup_any (x : Int) (A : Option Addr) (n c : Nat) (ls : List (List Int)) (Ad : Option Addr) (nd cd : Nat) (d : List Int) (w : World) (h : RL w A n c ls) (hd : RI w Ad nd cd d) (hw : Wfl d) :
    Calls Try.prog 8 #[.agg #[.int .i64 x, .slice A n c], .slice Ad nd cd] w fun e w' => e = .returned (.bool true) ∧ Below w.heap.size w w' := by
  have H := Lib.hid h
  have HD := Lib.hid hd
  have HWd := Lib.hid hw
  have BX := Lib.hid (Two.new w (.int .i64 x) (.slice A n c))
  have HB0 := Lib.hid (below1 w (.cells #[.int .i64 x, .slice A n c] 24))
  have HLS := Lib.hid h.len
  have NIL : Hid (∀ W, RS W none 0 0 []) := Lib.hid (fun W => RS.nil W none 0 (by unfold maxLen; omega))
  clear h hd hw
  cases hf : fewB ls [] with
  | false =>
    have HF := Lib.hid hf
    clear hf
    go_enter Try.func8, Try.ntmps8
    go_wp2_with (first
      | (go_at_call 11; refine (live_any _).mono ?_; rintro e w1 ⟨rfl, hb⟩; have HB1 := Lib.hid (bthen HB0.out hb); have t0 := (BX.out.below hb).c0; have t1 := (BX.out.below hb).c1; clear hb)
      | (go_at_call 12; refine (lfew_val false x A n c ls none 0 0 [] _ (H.out.below HB1.out) (NIL.out _) HF.out).mono ?_; rintro e w2 ⟨rfl, hb⟩; have HB2 := Lib.hid (bthen HB1.out hb); clear hb))
    go_ret
    exact ⟨rfl, HB2.out⟩
  | true =>
    obtain ⟨f1, f2, -⟩ := few_facts hf
    have HF := Lib.hid hf
    have F1 := Lib.hid f1
    have hn50 : n ≤ 50 := by rw [← HLS.out]; exact f2
    clear hf f1 f2
    by_cases hx : 30 < x
    · have d1 : decide ((30 : Int) < x) = true := by rw [decide_eq_true_iff]; omega
      go_enter Try.func8, Try.ntmps8
      go_wp2_with (first
        | (go_at_call 11; refine (live_any _).mono ?_; rintro e w1 ⟨rfl, hb⟩; have HB1 := Lib.hid (bthen HB0.out hb); have BX1 := Lib.hid (BX.out.below hb); have t0 := BX1.out.c0; have t1 := BX1.out.c1; clear hb)
        | (go_at_call 12; refine (lfew_val true x A n c ls none 0 0 [] _ (H.out.below HB1.out) (NIL.out _) HF.out).mono ?_; rintro e w2 ⟨rfl, hb⟩; have HB2 := Lib.hid (bthen HB1.out hb); have t2 := (BX1.out.below hb).c0; clear hb))
      go_ret
      exact ⟨rfl, HB2.out⟩
    · have d1 : decide ((30 : Int) < x) = false := by rw [decide_eq_false_iff_not]; exact hx
      by_cases hce : checkE x ls = 0
      · have HCE := Lib.hid hce
        have hxb := checkE_n hce
        clear hce
        go_enter Try.func8, Try.ntmps8
        go_upto_region 5 with (first
          | (go_at_call 11; refine (live_any _).mono ?_; rintro e w1 ⟨rfl, hb⟩; have HB1 := Lib.hid (bthen HB0.out hb); have BX1 := Lib.hid (BX.out.below hb); have t0 := BX1.out.c0; have t1 := BX1.out.c1; clear hb)
          | (go_at_call 12; refine (lfew_val true x A n c ls none 0 0 [] _ (H.out.below HB1.out) (NIL.out _) HF.out).mono ?_; rintro e w2 ⟨rfl, hb⟩; have HB2 := Lib.hid (bthen HB1.out hb); have BX2 := Lib.hid (BX1.out.below hb); clear t0 t1; have t0 := BX2.out.c0; have t1 := BX2.out.c1; clear hb)
          | (go_at_call 23; refine (check_val 0 x A n c ls _ (H.out.below HB2.out) HCE.out).mono ?_; rintro e w3 ⟨rfl, hb⟩; have HB3 := Lib.hid (bthen HB2.out hb); have BX3 := Lib.hid (BX2.out.below hb); clear hb))
        clear t0 t1
        have t0 := BX3.out.c0
        have t1 := BX3.out.c1
        go_wp2_with fail
        refine (play_any x A n c ls Ad nd cd d _ (H.out.below HB3.out) (HD.out.below HB3.out) HWd.out HCE.out hn50 F1.out (by omega)).mono ?_
        rintro e w4 (⟨A4, k4, c4, rfl, hb4⟩ | ⟨A4, k4, c4, rp, i4, rfl, hb4, hpl, hri, hrs⟩)
        · have HB4 := Lib.hid (bthen HB3.out hb4)
          clear hb4 t0 t1
          go_wp2
          go_ret
          exact ⟨rfl, HB4.out⟩
        · have HB4 := Lib.hid (bthen HB3.out hb4)
          have BX4 := Lib.hid (BX3.out.below hb4)
          clear hb4 t0 t1
          have t0 := BX4.out.c0
          have t1 := BX4.out.c1
          have di : decide ((i4 : Int) < 0) = false := by rw [decide_eq_false_iff_not]; omega
          obtain ⟨ts, hts⟩ : ∃ ts, rp.2.ts = ts := ⟨_, rfl⟩
          have hpf := played_first hpl hri
          have htr := hpl.tr
          rw [hts] at hrs hpf htr
          have HRS := Lib.hid hrs
          have hk4 : k4 ≤ 30 := by rw [← hrs.len]; have := trail_len hxb.1 htr; omega
          have HKL := Lib.hid hrs.len
          clear hrs hpl hri hts htr
          rcases hpf with hE | ⟨hE, hL⟩
          · obtain ⟨zs, hzs⟩ : ∃ zs, firstL x ls ts i4 = zs := ⟨_, rfl⟩
            obtain ⟨k, hk⟩ : ∃ k, zs.length = k := ⟨_, rfl⟩
            obtain ⟨bk, hbk⟩ : ∃ bk, firstB x ls ts i4 = bk := ⟨_, rfl⟩
            obtain ⟨ys, hys⟩ : ∃ ys, lessR x ls ts zs = ys := ⟨_, rfl⟩
            obtain ⟨m, hm⟩ : ∃ m, ys.length = m := ⟨_, rfl⟩
            have hsub := lessR_sub (x := x) (ls := ls) (ts := ts) (l := zs)
            rw [hys, hm, hk] at hsub
            have hib : ∀ y ∈ zs, isB y x = true := by rw [← hzs]; exact firstL_isB hE
            have Z := Lib.hid (And.intro hzs (And.intro hk (And.intro hbk hE)))
            have Y := Lib.hid (And.intro hys (And.intro hm (show lessE x ls ts zs = 0 by rw [← hzs]; exact firstL_takes hE)))
            have HW := Lib.hid (okl_wfl (show Okl zs by rw [← hzs]; exact firstL_okl hE))
            have hk30 : k ≤ 30 := by have := firstL_len hE; rw [hzs, hk, HKL.out] at this; omega
            have dm : decide (m ≤ k) = true := by rw [decide_eq_true_iff]; exact hsub.2
            have dm2 : decide ((m : Int) ≤ (k : Int)) = true := by rw [decide_eq_true_iff]; have := hsub.2; omega
            have B1 := Lib.hid hib
            have B2 := Lib.hid (fun y hy => hib y (hsub.1 y hy))
            have N1 := Lib.hid (show NoClo ls zs by rw [← hzs]; exact noclo_first hE)
            have N2 := Lib.hid (show NoClo ls ys by rw [← hys, ← hzs]; exact noclo_less hE)
            have hmk := hsub.2
            clear hzs hk hbk hys hm hsub hib hE
            go_upto_region 12 with (go_at_call 13; refine (first_any x A n c ls A4 k4 c4 ts i4 _ (H.out.below HB4.out) HRS.out (by omega) (fun l hl => Nat.le_trans (F1.out l hl) (by omega))).mono ?_; rintro e w5 hfp; obtain ⟨A5, c5, rfl, hr5, hb5⟩ := hfp.named Z.out.1 Z.out.2.1 Z.out.2.2.1 Z.out.2.2.2; have HB5 := Lib.hid (bthen HB4.out hb5); have BX5 := Lib.hid (BX4.out.below hb5); have HRS5 := Lib.hid (HRS.out.below hb5); have HR5 := Lib.hid hr5; clear hfp hr5 hb5)
            clear t0 t1
            have t0 := BX5.out.c0
            have t1 := BX5.out.c1
            go_upto_region 13 with (go_at_call 16; refine (less_any x A n c ls A4 k4 c4 ts A5 k c5 zs _ (H.out.below HB5.out) HRS5.out HR5.out HW.out (by omega) (by omega)).mono ?_; rintro e w6 hfp; obtain ⟨A6, c6, rfl, hr6, hb6⟩ := hfp.named Y.out.1 Y.out.2.1 Y.out.2.2; have HB6 := Lib.hid (bthen HB5.out hb6); have BX6 := Lib.hid (BX5.out.below hb6); have HR6 := Lib.hid hr6; have HRa := Lib.hid (HR5.out.below hb6); clear hfp hr6 hb6)
            clear t0 t1
            have t0 := BX6.out.c0
            have t1 := BX6.out.c1
            have T1 : Hid True := Lib.hid True.intro
            go_wp2_with (first
              | (go_at_call 25; have _t := T1.out; refine (unit_any x A n c ls A5 k c5 zs _ (H.out.below HB6.out) HRa.out HCE.out B1.out N1.out hn50 F1.out (by omega)).mono ?_; rintro e w7 ⟨rfl, hb7⟩; have HB7 := Lib.hid (bthen HB6.out hb7); have BX7 := Lib.hid (BX6.out.below hb7); have HRb := Lib.hid (HR6.out.below hb7); clear hb7 T1 t0 t1; have t0 := BX7.out.c0; have t1 := BX7.out.c1)
              | (go_at_call 25; refine (unit_any x A n c ls A6 m c6 ys _ (H.out.below HB7.out) HRb.out HCE.out B2.out N2.out hn50 F1.out (by omega)).mono ?_; rintro e w8 ⟨rfl, hb8⟩; have HB8 := Lib.hid (bthen HB7.out hb8); clear hb8))
            go_ret
            exact ⟨rfl, HB8.out⟩
          · have hne : firstE x ls ts i4 ≠ 0 := by rw [hE]; decide
            have Z := Lib.hid (And.intro (first_no hne).1 (And.intro (show ([] : List Int).length = 0 from rfl) (And.intro (first_no hne).2 hE)))
            have LL : Hid (∀ k, 0 < k4 → k = k4 - 1 → elt (levL ts) k = 0) := Lib.hid (fun k h0 hk => by subst hk; rw [levL_at (by rw [HKL.out]; omega), ← hL, lastT_lev (by rw [HKL.out]; omega), HKL.out])
            clear hE hL hne
            go_upto_region 10 with (go_at_call 13; refine (first_any x A n c ls A4 k4 c4 ts i4 _ (H.out.below HB4.out) HRS.out (by omega) (fun l hl => Nat.le_trans (F1.out l hl) (by omega))).mono ?_; rintro e w5 hfp; obtain ⟨A5, c5, rfl, hr5, hb5⟩ := hfp.named Z.out.1 Z.out.2.1 Z.out.2.2.1 Z.out.2.2.2; have HB5 := Lib.hid (bthen HB4.out hb5); have HRS5 := Lib.hid (HRS.out.below hb5); clear hfp hr5 hb5)
            clear t0 t1
            go_upto_region 11 with (go_at_call 18; refine (levels_any A4 k4 c4 ts _ HRS5.out (by omega)).mono ?_; rintro e w6 ⟨A6, c6, rfl, hr6, hb6⟩; have HB6 := Lib.hid (bthen HB5.out hb6); have HV6 := Lib.hid hr6; clear hr6 hb6)
            by_cases h0 : k4 = 0
            · subst h0
              go_wp2
              go_ret
              exact ⟨rfl, HB6.out⟩
            · obtain ⟨b5, o5, rfl, hb5l, hc5⟩ := HV6.out.cells (by omega)
              have e5 := hc5 (k4 - 1) (by omega)
              rw [LL.out (k4 - 1) (by omega) rfl] at e5
              have hn1 : ((k4 : Int) - 1).toNat = k4 - 1 := by omega
              have hn0 : ((k4 : Int) == 0) = false := by rw [beq_eq_false_iff_ne]; omega
              clear hc5 hb5l
              go_wp2
              go_ret
              exact ⟨rfl, HB6.out⟩
      · obtain ⟨er, her⟩ : ∃ er, checkE x ls = er := ⟨_, rfl⟩
        have HCE := Lib.hid her
        have d2 : (er != 0) = true := by rw [← her]; simpa using hce
        clear hce her
        go_enter Try.func8, Try.ntmps8
        go_wp2_with (first
          | (go_at_call 11; refine (live_any _).mono ?_; rintro e w1 ⟨rfl, hb⟩; have HB1 := Lib.hid (bthen HB0.out hb); have BX1 := Lib.hid (BX.out.below hb); have t0 := BX1.out.c0; have t1 := BX1.out.c1; clear hb)
          | (go_at_call 12; refine (lfew_val true x A n c ls none 0 0 [] _ (H.out.below HB1.out) (NIL.out _) HF.out).mono ?_; rintro e w2 ⟨rfl, hb⟩; have HB2 := Lib.hid (bthen HB1.out hb); have BX2 := Lib.hid (BX1.out.below hb); clear t0 t1; have t0 := BX2.out.c0; have t1 := BX2.out.c1; clear hb)
          | (go_at_call 23; refine (check_val er x A n c ls _ (H.out.below HB2.out) HCE.out).mono ?_; rintro e w3 ⟨rfl, hb⟩; have HB3 := Lib.hid (bthen HB2.out hb); clear hb))
        go_ret
        exact ⟨rfl, HB3.out⟩

end Go.Proofs.Ytenpenelikpeeaa
