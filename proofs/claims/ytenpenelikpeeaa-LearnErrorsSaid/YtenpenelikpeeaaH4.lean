/-
  The law LearnAsserting returns true. No condition.
-/
import Derived.Test.YtenpenelikpeeaaH2
import Derived.Test.YtenpenelikpeeaaH3
import Derived.IntWalk
namespace Go.Proofs.Ytenpenelikpeeaa
open Go.RowKit Go.Shelf
set_option linter.unusedVariables false
set_option linter.unusedSimpArgs false

theorem lev_val (r : Int) (A : Option Addr) (n c : Nat) (ts : List Stp) (x : Int) (w : World) (h : RS w A n c ts) (hn : n ≤ 1000000) (h0 : -65536 ≤ x) (h1 : x ≤ 65536) (hr : lvlT ts x = r) :
    Calls Try.prog 19 #[.slice A n c, .int .i64 x] w fun e w' => e = .returned (.int .i64 r) ∧ Below w.heap.size w w' := by
  have := levelLaw_any A n c ts x w h hn h0 h1
  rw [hr] at this; exact this

set_option maxRecDepth 100000 in
set_option maxHeartbeats 4000000 in
theorem lawAsserting_any (x : Int) (A : Option Addr) (n c : Nat) (ls : List (List Int)) (A' : Option Addr) (n' c' : Nat) (ts : List Stp) (q : Int) (w : World) (h : RL w A n c ls) (h' : RS w A' n' c' ts) :
    Calls Try.prog 5 #[.agg #[.int .i64 x, .slice A n c], .slice A' n' c', .int .i64 q] w fun e w' => e = .returned (.bool true) ∧ Below w.heap.size w w' := by
  have H := Lib.hid h
  have H' := Lib.hid h'
  have BX := Lib.hid (Two.new w (.int .i64 x) (.slice A n c))
  have HB0 := Lib.hid (below1 w (.cells #[.int .i64 x, .slice A n c] 24))
  have HTS := Lib.hid h'.len
  clear h h'
  cases hf : fewB ls ts with
  | false =>
    have HF := Lib.hid hf
    clear hf
    go_enter Try.func5, Try.ntmps5
    go_wp2_with (first
      | (go_at_call 11; refine (live_any _).mono ?_; rintro e w1 ⟨rfl, hb⟩; have HB1 := Lib.hid (bthen HB0.out hb); have t0 := (BX.out.below hb).c0; have t1 := (BX.out.below hb).c1; clear hb)
      | (go_at_call 12; refine (lfew_val false x A n c ls A' n' c' ts _ (H.out.below HB1.out) (H'.out.below HB1.out) HF.out).mono ?_; rintro e w2 ⟨rfl, hb⟩; have HB2 := Lib.hid (bthen HB1.out hb); clear hb))
    go_ret
    exact ⟨rfl, HB2.out⟩
  | true =>
    obtain ⟨f1, f2, f3⟩ := few_facts hf
    have HF := Lib.hid hf
    have F1 := Lib.hid f1
    have hn30 : n' ≤ 30 := by rw [← HTS.out]; exact f3
    clear hf f1 f2 f3
    by_cases hE : firstE x ls ts q = 0
    · obtain ⟨zs, hzs⟩ : ∃ zs, firstL x ls ts q = zs := ⟨_, rfl⟩
      obtain ⟨m, hm⟩ : ∃ m, zs.length = m := ⟨_, rfl⟩
      obtain ⟨bk, hbk⟩ : ∃ bk, firstB x ls ts q = bk := ⟨_, rfl⟩
      obtain ⟨L, hL⟩ : ∃ L, lastT ts = L := ⟨_, rfl⟩
      have Z := Lib.hid (And.intro hzs (And.intro hm (And.intro hbk hE)))
      obtain ⟨a1, a2, a3, a4, a5⟩ := asserting hE
      have hL0 : 0 ≤ L ∧ L ≤ 30 := by have := cntD_le ts; have h3 := HTS.out; unfold lastT at hL; omega
      have hb0 : 0 ≤ bk := by rw [← hbk, ← a2]; exact (mostT_spec _ _ _).1
      rw [hzs, hL] at a1 a2
      rw [hbk] at a2 a3
      rw [hL] at a3
      rw [hzs] at a5
      rw [HTS.out] at a4
      have hm30 : m ≤ 30 := by have := firstL_len hE; rw [hzs, hm, HTS.out] at this; omega
      have AS := Lib.hid (show AscV zs by rw [← hzs]; exact firstL_asc hE)
      have OK := Lib.hid (show Okl zs by rw [← hzs]; exact firstL_okl hE)
      have A1 := Lib.hid a1
      have A2 := Lib.hid a2
      have A5 := Lib.hid a5
      have HM := Lib.hid hm
      have LL := Lib.hid (show elt (levL ts) (n' - 1) = L by rw [levL_at (by rw [HTS.out]; omega), ← hL, lastT_lev (by rw [HTS.out]; omega), HTS.out])
      have dl : decide (bk < L) = true := by rw [decide_eq_true_iff]; exact a3
      clear hzs hm hbk hE a1 a2 a5 hL
      go_enter Try.func5, Try.ntmps5
      go_upto_region 5 with (first
        | (go_at_call 11; refine (live_any _).mono ?_; rintro e w1 ⟨rfl, hb⟩; have HB1 := Lib.hid (bthen HB0.out hb); have BX1 := Lib.hid (BX.out.below hb); have t0 := BX1.out.c0; have t1 := BX1.out.c1; clear hb)
        | (go_at_call 12; refine (lfew_val true x A n c ls A' n' c' ts _ (H.out.below HB1.out) (H'.out.below HB1.out) HF.out).mono ?_; rintro e w2 ⟨rfl, hb⟩; have HB2 := Lib.hid (bthen HB1.out hb); have BX2 := Lib.hid (BX1.out.below hb); clear hb))
      clear t0 t1
      have t0 := BX2.out.c0
      have t1 := BX2.out.c1
      go_upto_region 8 with (go_at_call 13; refine (first_any x A n c ls A' n' c' ts q _ (H.out.below HB2.out) (H'.out.below HB2.out) (by omega) (fun l hl => Nat.le_trans (F1.out l hl) (by omega))).mono ?_; rintro e w4 hfp; obtain ⟨A4, c4, rfl, hr4, hb4⟩ := hfp.named Z.out.1 Z.out.2.1 Z.out.2.2.1 Z.out.2.2.2; have HB4 := Lib.hid (bthen HB2.out hb4); have HR4 := Lib.hid hr4; clear hfp hr4 hb4)
      clear t0 t1
      go_upto_region 9 with (go_at_call 18; refine (levels_any A' n' c' ts _ (H'.out.below HB4.out) (by omega)).mono ?_; rintro e w5 ⟨A5, c5, rfl, hr5, hb5⟩; have HB5 := Lib.hid (bthen HB4.out hb5); have HR5 := Lib.hid (HR4.out.below hb5); have HV5 := Lib.hid hr5; clear hr5 hb5)
      obtain ⟨b5, o5, rfl, hb5l, hc5⟩ := HV5.out.cells (by omega)
      have e5 := hc5 (n' - 1) (by omega)
      rw [LL.out] at e5
      clear hc5 hb5l
      have hn1 : ((n' : Int) - 1).toNat = n' - 1 := by omega
      have hn0 : ((n' : Int) == 0) = false := by rw [beq_eq_false_iff_ne]; omega
      go_wp2
      go_loopw [12, 13, 14] (fun s12 s13 s14 W => ∃ k : Nat, k ≤ m ∧ s14 = .int .i64 k ∧ s12 = .int .i64 (hiN ts L (zs.take k)) ∧ s13 = .int .i64 (mostT ts L (zs.take k)) ∧ Below w5.heap.size w5 W) (fun _ _ i _ => m - (intOf i).toNat)
      case atStart => exact ⟨0, Nat.zero_le _, rfl, rfl, rfl, Below.refl _ _⟩
      case round =>
        rename_i W
        obtain ⟨k, hk, rfl, rfl, rfl, hbW⟩ := hrel
        have HW := Lib.hid hbW
        have HB6 := Lib.hid (bthen HB5.out hbW)
        clear hbW
        by_cases hlt : k < m
        · have hl : k < zs.length := by rw [HM.out]; exact hlt
          have hmem := elt_mem hl
          obtain ⟨y, hy⟩ : ∃ y, elt zs k = y := ⟨_, rfl⟩
          obtain ⟨v, hv⟩ : ∃ v, lvlT ts y = v := ⟨_, rfl⟩
          rw [hy] at hmem
          have hv0 : 0 < v := by rw [← hv]; exact A5.out y hmem
          obtain ⟨o1, o2, o3⟩ := OK.out y hmem
          obtain ⟨hi, hhi⟩ : ∃ hi, hiN ts L (zs.take k) = hi := ⟨_, rfl⟩
          obtain ⟨ms, hms⟩ : ∃ ms, mostT ts L (zs.take k) = ms := ⟨_, rfl⟩
          have hi30 : hi ≤ 30 := by rw [← hhi]; have := hi_le ts L (zs.take k); rw [List.length_take] at this; omega
          have NX1 := Lib.hid (show hiN ts L (zs.take (k + 1)) = hi + (if v = L then 1 else 0) by rw [take_snoc zs k hl, hiN_snoc, hhi, hy, hv])
          have NX2 := Lib.hid (show mostT ts L (zs.take (k + 1)) = if v = L then ms else max ms v by rw [take_snoc zs k hl, mostT_snoc, hms, hy, hv])
          obtain ⟨b4, o4, rfl, hb4l, hc4⟩ := (HR5.out.below HW.out).cells (by omega)
          have e4 := hc4 k hlt
          rw [hy] at e4
          have V := Lib.hid hv
          have dv : decide (v ≤ 0) = false := by rw [decide_eq_false_iff_not]; omega
          have hneg := lit_neg' o2 o3
          have hmx : max y (-y) = absI y := by unfold absI; split <;> omega
          rw [hhi, hms]
          have hyk := hy
          clear hy hv hhi hms hmem hl
          by_cases hk0 : 0 < k
          · have dk : decide ((0 : Int) < (k : Int)) = true := by rw [decide_eq_true_iff]; omega
            obtain ⟨y', hy'⟩ : ∃ y', elt zs (k - 1) = y' := ⟨_, rfl⟩
            have e3 := hc4 (k - 1) (by omega)
            rw [hy'] at e3
            obtain ⟨p1, p2, p3⟩ := OK.out y' (by rw [← hy']; exact elt_mem (by rw [HM.out]; omega))
            have hneg' := lit_neg' p2 p3
            have hmx' : max y' (-y') = absI y' := by unfold absI; split <;> omega
            have dab : decide (absI y ≤ absI y') = false := by
              rw [decide_eq_false_iff_not, ← hyk, ← hy']
              have := asc_at AS.out (show k - 1 < k by omega) (by rw [HM.out]; exact hlt)
              omega
            have hs1 : IntKind.i64.wrap ((k : Int) - 1) = (k : Int) - 1 := IntWalk.i64_in _ (by omega)
            have hs2 : 0 ≤ (k : Int) - 1 := by omega
            have hs3 : ((k : Int) - 1).toNat = k - 1 := by omega
            have hs4 : (k : Int) - 1 < (m : Int) := by omega
            have hs5 : k - 1 < m := by omega
            clear hc4 hy' hyk
            go_upto_region 18 with (go_at_call 19; refine (lev_val v A' n' c' ts y _ ((H'.out.below HB6.out)) (by omega) o2 o3 V.out).mono ?_; rintro e w7 ⟨rfl, hb7⟩; have HB7 := Lib.hid (bthen HB6.out hb7); have HW7 := Lib.hid (bthen HW.out hb7); have e4' := (hb7.cell (p := ⟨b4, o4 + k, none⟩) hb4l).trans e4; have e3' := (hb7.cell (p := ⟨b4, o4 + (k - 1), none⟩) hb4l).trans e3; have hl7 := Nat.lt_of_lt_of_le hb4l hb7.size; clear hb7)
            refine wp_region_grow (by kernel_rfl) (by kernel_rfl) ?_
            have g1 := fun u : Gr w7 => u.cell (p := ⟨b4, o4 + k, none⟩) hl7 e4'
            have g2 := fun u : Gr w7 => u.cell (p := ⟨b4, o4 + (k - 1), none⟩) hl7 e3'
            repeat (go_big_quiet_step (fail))
            refine wpQuiet_nil ?_
            intro w8 hb8; replace hb8 := Gr.out hb8
            have HW8 := Lib.hid (bthen HW7.out hb8)
            clear hb8 g1 g2 hs1 hs2 hs3 hs4 hs5
            by_cases hvL : v = L
            · have dvL : (v == L) = true := by simpa using hvL
              rw [if_pos hvL] at NX1 NX2
              go_wp2
              go_roundw
              case rel => exact ⟨k + 1, by omega, by go_num, by rw [NX1.out]; go_num, by rw [NX2.out], HW8.out⟩
              case measure => simp [intOf]; omega
            · have dvL : (v == L) = false := by simpa using hvL
              rw [if_neg hvL] at NX1 NX2
              go_wp2
              go_roundw
              case rel => exact ⟨k + 1, by omega, by go_num, by rw [NX1.out]; rfl, by rw [NX2.out], HW8.out⟩
              case measure => simp [intOf]; omega
          · have dk : decide ((0 : Int) < (k : Int)) = false := by rw [decide_eq_false_iff_not]; omega
            clear hc4 hyk
            go_upto_region 18 with (go_at_call 19; refine (lev_val v A' n' c' ts y _ ((H'.out.below HB6.out)) (by omega) o2 o3 V.out).mono ?_; rintro e w7 ⟨rfl, hb7⟩; have HB7 := Lib.hid (bthen HB6.out hb7); have HW7 := Lib.hid (bthen HW.out hb7); clear hb7)
            refine wp_region_grow (by kernel_rfl) (by kernel_rfl) ?_
            repeat (go_big_quiet_step (fail))
            refine wpQuiet_nil ?_
            intro w8 hb8; replace hb8 := Gr.out hb8
            have HW8 := Lib.hid (bthen HW7.out hb8)
            clear hb8
            by_cases hvL : v = L
            · have dvL : (v == L) = true := by simpa using hvL
              rw [if_pos hvL] at NX1 NX2
              go_wp2
              go_roundw
              case rel => exact ⟨k + 1, by omega, by go_num, by rw [NX1.out]; go_num, by rw [NX2.out], HW8.out⟩
              case measure => simp [intOf]; omega
            · have dvL : (v == L) = false := by simpa using hvL
              rw [if_neg hvL] at NX1 NX2
              go_wp2
              go_roundw
              case rel => exact ⟨k + 1, by omega, by go_num, by rw [NX1.out]; rfl, by rw [NX2.out], HW8.out⟩
              case measure => simp [intOf]; omega
        · obtain rfl : k = m := by omega
          have e1 : hiN ts L (zs.take k) = 1 := by rw [← HM.out, List.take_length]; exact A1.out
          have e2 : mostT ts L (zs.take k) = bk := by rw [← HM.out, List.take_length]; exact A2.out
          rw [e1, e2]
          clear e1 e2
          go_wp2
          go_ret
          exact ⟨rfl, HB6.out⟩
    · obtain ⟨er, her⟩ : ∃ er, firstE x ls ts q = er := ⟨_, rfl⟩
      have Z := Lib.hid (And.intro (first_no hE).1 (And.intro (first_no hE).2 her))
      have hr : (er != 0) = true := by rw [← her]; simpa using hE
      clear hE her
      go_enter Try.func5, Try.ntmps5
      go_upto_region 5 with (first
        | (go_at_call 11; refine (live_any _).mono ?_; rintro e w1 ⟨rfl, hb⟩; have HB1 := Lib.hid (bthen HB0.out hb); have BX1 := Lib.hid (BX.out.below hb); have t0 := BX1.out.c0; have t1 := BX1.out.c1; clear hb)
        | (go_at_call 12; refine (lfew_val true x A n c ls A' n' c' ts _ (H.out.below HB1.out) (H'.out.below HB1.out) HF.out).mono ?_; rintro e w2 ⟨rfl, hb⟩; have HB2 := Lib.hid (bthen HB1.out hb); have BX2 := Lib.hid (BX1.out.below hb); clear hb))
      clear t0 t1
      have t0 := BX2.out.c0
      have t1 := BX2.out.c1
      go_wp2_with (go_at_call 13; refine (first_any x A n c ls A' n' c' ts q _ (H.out.below HB2.out) (H'.out.below HB2.out) (by omega) (fun l hl => Nat.le_trans (F1.out l hl) (by omega))).mono ?_; rintro e w4 hfp; obtain ⟨A4, c4, rfl, hr4, hb4⟩ := hfp.named Z.out.1 rfl Z.out.2.1 Z.out.2.2; have HB4 := Lib.hid (bthen HB2.out hb4); clear hfp hr4 hb4)
      go_ret
      exact ⟨rfl, HB4.out⟩

end Go.Proofs.Ytenpenelikpeeaa
