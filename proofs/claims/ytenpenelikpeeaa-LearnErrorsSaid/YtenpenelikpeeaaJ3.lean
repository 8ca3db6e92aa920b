/-
  The law LearnErrors returns true. No condition.
-/
import Derived.Test.YtenpenelikpeeaaH4
import Derived.Test.YtenpenelikpeeaaJ1
import Derived.Test.YtenpenelikpeeaaJ2
namespace Go.Proofs.Ytenpenelikpeeaa
open Go.RowKit Go.Shelf
set_option linter.unusedVariables false
set_option linter.unusedSimpArgs false

set_option maxRecDepth 100000 in
set_option maxHeartbeats 4000000 in
theorem lawErrors_any (x : Int) (A : Option Addr) (n c : Nat) (ls : List (List Int)) (A' : Option Addr) (n' c' : Nat) (ts : List Stp) (q yx : Int) (w : World) (h : RL w A n c ls) (h' : RS w A' n' c' ts) :
    Calls Try.prog 6 #[.agg #[.int .i64 x, .slice A n c], .slice A' n' c', .int .i64 q, .int .i64 yx] w fun e w' => e = .returned (.bool true) ∧ Below w.heap.size w w' := by
  have H := Lib.hid h
  have H' := Lib.hid h'
  have BX := Lib.hid (Two.new w (.int .i64 x) (.slice A n c))
  have HB0 := Lib.hid (below1 w (.cells #[.int .i64 x, .slice A n c] 24))
  have HTS := Lib.hid h'.len
  have HLS := Lib.hid h.len
  clear h h'
  cases hf : fewB ls ts with
  | false =>
    have HF := Lib.hid hf
    clear hf
    go_enter Try.func6, Try.ntmps6
    go_wp2_with (first
      | (go_at_call 11; refine (live_any _).mono ?_; rintro e w1 ⟨rfl, hb⟩; have HB1 := Lib.hid (bthen HB0.out hb); have t0 := (BX.out.below hb).c0; have t1 := (BX.out.below hb).c1; clear hb)
      | (go_at_call 12; refine (lfew_val false x A n c ls A' n' c' ts _ (H.out.below HB1.out) (H'.out.below HB1.out) HF.out).mono ?_; rintro e w2 ⟨rfl, hb⟩; have HB2 := Lib.hid (bthen HB1.out hb); clear hb))
    go_ret
    exact ⟨rfl, HB2.out⟩
  | true =>
    obtain ⟨f1, f2, f3⟩ := few_facts hf
    have HF := Lib.hid hf
    have F1 := Lib.hid f1
    have hn30 : n' ≤ 30 := by rw [← HTS.out]; exact f3
    have hn50 : n ≤ 50 := by rw [← HLS.out]; exact f2
    clear hf f1 f2 f3
    by_cases hbad : propE x ls ts ≠ 0 ∨ q < 0 ∨ (ls.length : Int) ≤ q
    · have hE := errors_bad hbad
      obtain ⟨er, her⟩ : ∃ er, firstE x ls ts q = er := ⟨_, rfl⟩
      have Z := Lib.hid (And.intro (first_no hE).1 (And.intro (first_no hE).2 her))
      have hr : (er != 0) = true := by rw [← her]; simpa using hE
      obtain ⟨r, hpr⟩ : ∃ r, propE x ls ts = r := ⟨_, rfl⟩
      have HP := Lib.hid hpr
      rw [hpr, HLS.out] at hbad
      have hc : (r != 0) = true ∨ ((r != 0) = false ∧ decide (q < 0) = true) ∨ ((r != 0) = false ∧ decide (q < 0) = false ∧ decide ((n : Int) ≤ q) = true) := by
        by_cases hr0 : r = 0
        · right
          subst hr0
          by_cases hq : q < 0
          · exact Or.inl ⟨rfl, decide_eq_true hq⟩
          · refine Or.inr ⟨rfl, decide_eq_false hq, decide_eq_true ?_⟩
            rcases hbad with hb | hb | hb
            · exact absurd rfl hb
            · exact absurd hb hq
            · exact hb
        · exact Or.inl (by simpa using hr0)
      clear hE her hpr hbad
      rcases hc with d1 | ⟨d1, d2⟩ | ⟨d1, d2, d3⟩
      all_goals
        go_enter Try.func6, Try.ntmps6
        go_upto_region 5 with (first
          | (go_at_call 11; refine (live_any _).mono ?_; rintro e w1 ⟨rfl, hb⟩; have HB1 := Lib.hid (bthen HB0.out hb); have BX1 := Lib.hid (BX.out.below hb); have t0 := BX1.out.c0; have t1 := BX1.out.c1; clear hb)
          | (go_at_call 12; refine (lfew_val true x A n c ls A' n' c' ts _ (H.out.below HB1.out) (H'.out.below HB1.out) HF.out).mono ?_; rintro e w2 ⟨rfl, hb⟩; have HB2 := Lib.hid (bthen HB1.out hb); have BX2 := Lib.hid (BX1.out.below hb); clear hb))
        clear t0 t1
        have t0 := BX2.out.c0
        have t1 := BX2.out.c1
        go_upto_region 6 with (go_at_call 13; refine (first_any x A n c ls A' n' c' ts q _ (H.out.below HB2.out) (H'.out.below HB2.out) (by omega) (fun l hl => Nat.le_trans (F1.out l hl) (by omega))).mono ?_; rintro e w4 hfp; obtain ⟨A4, c4, rfl, hr4, hb4⟩ := hfp.named Z.out.1 rfl Z.out.2.1 Z.out.2.2; have HB4 := Lib.hid (bthen HB2.out hb4); have BX4 := Lib.hid (BX2.out.below hb4); clear hfp hr4 hb4)
        clear t0 t1
        have t0 := BX4.out.c0
        have t1 := BX4.out.c1
        go_wp2_with (go_at_call 20; refine (pcheck_val r x A n c ls A' n' c' ts _ (H.out.below HB4.out) (H'.out.below HB4.out) (by omega) HP.out).mono ?_; rintro e w5 ⟨rfl, hb5⟩; have HB5 := Lib.hid (bthen HB4.out hb5); have t2 := (BX4.out.below hb5).c0; have t3 := (BX4.out.below hb5).c1; clear hb5)
        go_ret
        exact ⟨rfl, HB5.out⟩
    · have hP : propE x ls ts = 0 := by rcases Decidable.em (propE x ls ts = 0) with h | h; exact h; exact absurd (Or.inl h) hbad
      have hq0 : 0 ≤ q := by rcases Int.lt_or_le q 0 with h | h; exact absurd (Or.inr (Or.inl h)) hbad; exact h
      have hq1 : q < (ls.length : Int) := by rcases Int.lt_or_le q ls.length with h | h; exact h; exact absurd (Or.inr (Or.inr h)) hbad
      obtain ⟨j, rfl⟩ : ∃ j : Nat, q = j := ⟨q.toNat, by omega⟩
      have hj : j < n := by rw [← HLS.out]; omega
      have dq0 : decide ((j : Int) < 0) = false := by rw [decide_eq_false_iff_not]; omega
      have dq1 : decide ((n : Int) ≤ (j : Int)) = false := by rw [decide_eq_false_iff_not]; omega
      have dq2 : decide (n ≤ j) = false := by rw [decide_eq_false_iff_not]; omega
      obtain ⟨zl, hzl⟩ : ∃ zl, ell ls j = zl := ⟨_, rfl⟩
      obtain ⟨b, off, rfl, hbl, hcl⟩ := H.out.cells (by omega)
      obtain ⟨A1, m, c1, hcj, hr1⟩ := hcl j hj
      rw [hzl] at hr1
      have HM := Lib.hid hr1.len
      have hm12 : m ≤ 12 := by rw [← HM.out, ← hzl]; exact F1.out _ (ell_mem (by omega))
      have OK := Lib.hid (show Okl zl by rw [← hzl]; exact checkE_lits (propE_zero hP).1 _ (ell_mem (by omega)))
      have HR1 := Lib.hid hr1
      have HCJ := Lib.hid (And.intro hbl hcj)
      obtain ⟨zs, hzs⟩ : ∃ zs, firstL x ls ts j = zs := ⟨_, rfl⟩
      obtain ⟨kz, hkz⟩ : ∃ kz, zs.length = kz := ⟨_, rfl⟩
      obtain ⟨bk, hbk⟩ : ∃ bk, firstB x ls ts j = bk := ⟨_, rfl⟩
      obtain ⟨er, her⟩ : ∃ er, firstE x ls ts j = er := ⟨_, rfl⟩
      have Z := Lib.hid (And.intro hzs (And.intro hkz (And.intro hbk her)))
      have HP := Lib.hid hP
      have HD0 := Lib.hid (fun hd : deadB ts zl = false => (show er = 1 by rw [← her]; exact errors_alive hP (by rw [Int.toNat_natCast, hzl]; exact hd)))
      have HD1 := Lib.hid (fun hd : deadB ts zl = true => (show er = 0 ∨ er = 200 by rw [← her]; exact errors_dead hP hq0 hq1 (by rw [Int.toNat_natCast, hzl]; exact hd)))
      have HDM := Lib.hid (fun (hd : deadB ts zl = true) (hp : propE x ls (ts ++ [⟨yx, -1⟩]) = 0) => errors_more (x := x) (ts := ts) (q := j) (y := yx) hq0 hq1 (by rw [Int.toNat_natCast, hzl]; exact hd) hp)
      have HZL := Lib.hid hzl
      clear hP hq0 hq1 hzl hbl hcl hcj hr1 hzs hkz hbk her hbad
      go_enter Try.func6, Try.ntmps6
      go_upto_region 5 with (first
        | (go_at_call 11; refine (live_any _).mono ?_; rintro e w1 ⟨rfl, hb⟩; have HB1 := Lib.hid (bthen HB0.out hb); have BX1 := Lib.hid (BX.out.below hb); have t0 := BX1.out.c0; have t1 := BX1.out.c1; clear hb)
        | (go_at_call 12; refine (lfew_val true x _ n c ls A' n' c' ts _ (H.out.below HB1.out) (H'.out.below HB1.out) HF.out).mono ?_; rintro e w2 ⟨rfl, hb⟩; have HB2 := Lib.hid (bthen HB1.out hb); have BX2 := Lib.hid (BX1.out.below hb); clear hb))
      clear t0 t1
      have t0 := BX2.out.c0
      have t1 := BX2.out.c1
      go_upto_region 6 with (go_at_call 13; refine (first_any x _ n c ls A' n' c' ts j _ (H.out.below HB2.out) (H'.out.below HB2.out) (by omega) (fun l hl => Nat.le_trans (F1.out l hl) (by omega))).mono ?_; rintro e w4 hfp; obtain ⟨A4, c4, rfl, hr4, hb4⟩ := hfp.named Z.out.1 Z.out.2.1 Z.out.2.2.1 Z.out.2.2.2; have HB4 := Lib.hid (bthen HB2.out hb4); have BX4 := Lib.hid (BX2.out.below hb4); clear hfp hr4 hb4)
      clear t0 t1
      have t0 := BX4.out.c0
      have t1 := BX4.out.c1
      go_upto_region 8 with (go_at_call 20; refine (pcheck_val 0 x _ n c ls A' n' c' ts _ (H.out.below HB4.out) (H'.out.below HB4.out) (by omega) HP.out).mono ?_; rintro e w5 ⟨rfl, hb5⟩; have HB5 := Lib.hid (bthen HB4.out hb5); have BX5 := Lib.hid (BX4.out.below hb5); have t2 := BX5.out.c0; have t3 := BX5.out.c1; clear hb5)
      clear t0 t1 t2 t3
      go_wp2
      go_loopw [12, 13] (fun s12 s13 W => ∃ k : Nat, k ≤ m ∧ s13 = .int .i64 k ∧ s12 = .bool (dTo ts zl k) ∧ Below w5.heap.size w5 W) (fun _ i _ => m - (intOf i).toNat)
      case atStart => exact ⟨0, Nat.zero_le _, rfl, rfl, Below.refl _ _⟩
      case round =>
        obtain ⟨k, hk, rfl, rfl, hbW⟩ := hrel
        obtain ⟨W6, hbW, eW⟩ : ∃ W6, Below w5.heap.size w5 W6 ∧ W6 = _ := ⟨_, hbW, rfl⟩
        subst eW
        have BX6 := Lib.hid (BX5.out.below hbW)
        have HW := Lib.hid hbW
        have HB6 := Lib.hid (bthen HB5.out hbW)
        clear hbW
        have t0 := BX6.out.c0
        have t1 := BX6.out.c1
        have t2 := (HB6.out.cell (p := ⟨b, off + j, none⟩) HCJ.out.1).trans HCJ.out.2
        by_cases hlt : k < m
        · have hl : k < zl.length := by rw [HM.out]; exact hlt
          obtain ⟨y, hy⟩ : ∃ y, elt zl k = y := ⟨_, rfl⟩
          obtain ⟨v, hv⟩ : ∃ v, lvlT ts y = v := ⟨_, rfl⟩
          obtain ⟨o1, o2, o3⟩ := OK.out y (by rw [← hy]; exact elt_mem hl)
          have nx : dTo ts zl (k + 1) = (dTo ts zl k && decide (0 ≤ v)) := by rw [dTo_succ hl, hy, hv]
          obtain ⟨b1, off1, rfl, hb1, hc1⟩ := (HR1.out.below HB6.out).cells (by omega)
          have e4 := hc1 k hlt
          rw [hy] at e4
          have V := Lib.hid hv
          clear hy hv hl hc1
          cases hd : dTo ts zl k with
          | true =>
            rw [hd, Bool.true_and] at nx
            have NX := Lib.hid nx
            clear nx hd
            go_wp2_with (go_at_call 19; refine (lev_val v A' n' c' ts y _ (H'.out.below HB6.out) (by omega) o2 o3 V.out).mono ?_; rintro e w7 ⟨rfl, hb7⟩; have HW7 := Lib.hid (bthen HW.out hb7); clear hb7)
            go_roundw
            case rel => exact ⟨k + 1, by omega, by go_num, by rw [NX.out], HW7.out⟩
            case measure => simp [intOf]; omega
          | false =>
            rw [hd, Bool.false_and] at nx
            have NX := Lib.hid nx
            clear nx hd
            go_wp2
            go_roundw
            case rel => exact ⟨k + 1, by omega, by go_num, by rw [NX.out], HW.out⟩
            case measure => simp [intOf]; omega
        · obtain rfl : k = m := by omega
          have e1 : dTo ts zl k = deadB ts zl := by rw [← HM.out, dTo_all]
          rw [e1]
          clear e1
          cases hd : deadB ts zl with
          | false =>
            obtain rfl := HD0.out hd
            clear hd
            go_wp2
            go_ret
            exact ⟨rfl, HB6.out⟩
          | true =>
            obtain ⟨r2, hr2⟩ : ∃ r2, propE x ls (ts ++ [⟨yx, -1⟩]) = r2 := ⟨_, rfl⟩
            obtain ⟨zs2, hzs2⟩ : ∃ zs2, firstL x ls (ts ++ [⟨yx, -1⟩]) j = zs2 := ⟨_, rfl⟩
            obtain ⟨k2, hk2⟩ : ∃ k2, zs2.length = k2 := ⟨_, rfl⟩
            obtain ⟨bk2, hbk2⟩ : ∃ bk2, firstB x ls (ts ++ [⟨yx, -1⟩]) j = bk2 := ⟨_, rfl⟩
            obtain ⟨er2, her2⟩ : ∃ er2, firstE x ls (ts ++ [⟨yx, -1⟩]) j = er2 := ⟨_, rfl⟩
            have Z2 := Lib.hid (And.intro hzs2 (And.intro hk2 (And.intro hbk2 her2)))
            have HP2 := Lib.hid hr2
            have hc2 : (r2 != 0) = true ∨ ((r2 != 0) = false ∧ er2 = 200) := by
              by_cases h0 : r2 = 0
              · exact Or.inr ⟨by simpa using h0, by rw [← her2]; exact HDM.out hd (hr2.trans h0)⟩
              · exact Or.inl (by simpa using h0)
            have HS6 := Lib.hid (H'.out.below HB6.out)
            have HOE := Lib.hid (own_emptyS W6 W6.heap.size W6.heap.size rfl (Nat.le_refl _))
            have HX1 := Lib.hid (HD1.out hd)
            clear hr2 hzs2 hk2 hbk2 her2 hd
            rcases HX1.out with rfl | rfl <;> rcases hc2 with d2 | ⟨d2, rfl⟩
            all_goals
              go_upto_region 16 with (first
                | (at_builtin; refine wpList_append_st (wr := W6) rfl (.tmp 86) (.tmp 87) rfl (below1 W6 _) (.slice (some ⟨W6.heap.size, 0, none⟩) 0 0) 0 [] rfl HOE.out A' n' c' ts rfl (HS6.out.alloc _) (by omega) n' (by omega) ts rfl ?_; intro A8 c8 w8 ho8 hb8; have HO8 := Lib.hid ho8; have HB8 := Lib.hid hb8; clear ho8 hb8)
                | (at_builtin; refine wpList_append_st (wr := W6) rfl (.tmp 88) (.tmp 91) rfl (HB8.out.alloc HB8.out.size _) (.slice A8 n' c8) n' ts rfl (HO8.out.alloc _) (some ⟨w8.heap.size, 0, none⟩) 1 1 [⟨yx, -1⟩] rfl (RS.lit w8 [⟨yx, -1⟩] 1 _ rfl rfl (by omega)) (by omega) (n' + 1) rfl (ts ++ [⟨yx, -1⟩]) rfl ?_; intro A9 c9 w9 ho9 hb9; have HO9 := Lib.hid (RS.of_own ho9 (by omega)); have BX9 := Lib.hid (BX6.out.below hb9); have HB9 := Lib.hid (bthen HB6.out hb9); clear ho9 hb9))
              clear t0 t1 t2
              have t0 := BX9.out.c0
              have t1 := BX9.out.c1
              go_upto_region 17 with (go_at_call 13; refine (first_any x _ n c ls A9 (n' + 1) c9 _ j _ (H.out.below HB9.out) HO9.out (by omega) (fun l hl => Nat.le_trans (F1.out l hl) (by omega))).mono ?_; rintro e w10 hfp; obtain ⟨A10, c10, rfl, hr10, hb10⟩ := hfp.named Z2.out.1 Z2.out.2.1 Z2.out.2.2.1 Z2.out.2.2.2; have HB10 := Lib.hid (bthen HB9.out hb10); have BX10 := Lib.hid (BX9.out.below hb10); have HO10 := Lib.hid (HO9.out.below hb10); clear hfp hr10 hb10)
              clear t0 t1
              have t0 := BX10.out.c0
              have t1 := BX10.out.c1
              go_wp2_with (go_at_call 20; refine (pcheck_val r2 x _ n c ls A9 (n' + 1) c9 _ _ (H.out.below HB10.out) HO10.out (by omega) HP2.out).mono ?_; rintro e w11 ⟨rfl, hb11⟩; have HB11 := Lib.hid (bthen HB10.out hb11); clear hb11)
              go_ret
              exact ⟨rfl, HB11.out⟩

end Go.Proofs.Ytenpenelikpeeaa
