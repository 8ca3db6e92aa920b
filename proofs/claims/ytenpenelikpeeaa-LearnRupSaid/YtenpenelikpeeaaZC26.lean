/-
  The law LearnMinimizes returns true. No condition.
-/
import Derived.Test.YtenpenelikpeeaaZC25

namespace Go.Proofs.Ytenpenelikpeeaa
open Go.RowKit Go.Shelf
set_option linter.unusedVariables false
set_option linter.unusedSimpArgs false

theorem has26_val (r : Bool) (A : Option Addr) (n c : Nat) (zs : List Int) (x : Int) (w : World) (h : RI w A n c zs) (hr : hasB zs x = r) :
    Calls Try.prog 26 #[.slice A n c, .int .i64 x] w fun e w' => e = .returned (.bool r) ∧ w = w' := by
  subst hr; exact has26_any A n c zs x w h

set_option maxRecDepth 100000 in
set_option maxHeartbeats 8000000 in
theorem lawMinimizes_any (x : Int) (A : Option Addr) (n c : Nat) (ls : List (List Int)) (A' : Option Addr) (n' c' : Nat) (ts : List Stp) (Al : Option Addr) (nl cl : Nat) (l : List Int) (w : World) (h : RL w A n c ls) (h' : RS w A' n' c' ts) (hl : RI w Al nl cl l) (hw : Wfl l) :
    Calls Try.prog 9 #[.agg #[.int .i64 x, .slice A n c], .slice A' n' c', .slice Al nl cl] w fun e w' => e = .returned (.bool true) ∧ Below w.heap.size w w' := by
  have H := Lib.hid h
  have H' := Lib.hid h'
  have HL := Lib.hid hl
  have HW := Lib.hid hw
  have BX := Lib.hid (Two.new w (.int .i64 x) (.slice A n c))
  have HB0 := Lib.hid (below1 w (.cells #[.int .i64 x, .slice A n c] 24))
  have HTS := Lib.hid h'.len
  have HLS := Lib.hid h.len
  have HLL := Lib.hid hl.len
  have hnl := hl.small
  clear h h' hl hw
  cases hf : fewB ls ts with
  | false =>
    have HF := Lib.hid hf
    clear hf
    go_enter Try.func9, Try.ntmps9
    go_wp2_with (first
      | (go_at_call 11; refine (live_any _).mono ?_; rintro e w1 ⟨rfl, hb⟩; have HB1 := Lib.hid (bthen HB0.out hb); have t0 := (BX.out.below hb).c0; have t1 := (BX.out.below hb).c1; clear hb)
      | (go_at_call 12; refine (lfew_val false x A n c ls A' n' c' ts _ (H.out.below HB1.out) (H'.out.below HB1.out) HF.out).mono ?_; rintro e w2 ⟨rfl, hb⟩; have HB2 := Lib.hid (bthen HB1.out hb); clear hb))
    go_ret
    exact ⟨rfl, HB2.out⟩
  | true =>
    obtain ⟨f1, f2, f3⟩ := few_facts hf
    have HF := Lib.hid hf
    have F1 := Lib.hid f1
    have hn30 : n' ≤ 30 := by rw [← HTS.out]; exact f3
    have hn50 : n ≤ 50 := by rw [← HLS.out]; exact f2
    clear hf f1 f2 f3
    by_cases hl30 : nl ≤ 30
    · have d1 : decide ((30 : Int) < (nl : Int)) = false := by rw [decide_eq_false_iff_not]; omega
      by_cases hE : lessE x ls ts l = 0
      · obtain ⟨zs, hzs⟩ : ∃ zs, lessR x ls ts l = zs := ⟨_, rfl⟩
        have hzl : lessL ls ts l = zs := by rw [← hzs]; unfold lessR; rw [if_pos hE]
        obtain ⟨m, hm⟩ : ∃ m, zs.length = m := ⟨_, rfl⟩
        obtain ⟨hP, hO⟩ := lessE_zero hE
        obtain ⟨hce, htr⟩ := propE_zero hP
        obtain ⟨a1, a2⟩ := less_again hE
        obtain ⟨p1, p2⟩ := minimizes hE
        rw [hzl] at a1 a2 p1 p2
        have ha2 : lessR x ls ts zs = zs := by unfold lessR; rw [if_pos a1]; exact a2
        obtain ⟨o1, o2, o3, o4⟩ := lessOk_facts hO (checkE_n hce).2
        obtain ⟨T, hT⟩ : ∃ T, topT ts l = T := ⟨_, rfl⟩
        have hT0 : 0 ≤ T := by rw [← hT]; exact topT_bd.1
        have hin : ∀ y ∈ zs, hasB l y = true := fun y hy => hasB_iff.2 (mem_lessL.1 (hzl ▸ hy)).1
        have hup : ∀ y ∈ l, 0 < T → lvlT ts y = T → hasB zs y = true := fun y hy h1 h2 => by
          rw [hasB_iff, ← hzl, mem_lessL]
          refine ⟨hy, ?_⟩
          unfold keepB
          rw [hT, h2]; simp [h1]
        have hm30 : m ≤ 30 := by
          rw [← hm, ← hzl]; unfold lessL; rw [len_risL]
          have := List.length_filter_le (keepB ls ts l) l
          have := HLL.out
          omega
        have okz : Okl zs := fun y hy => o1 y (hasB_iff.1 (hin y hy))
        obtain ⟨us, hus⟩ : ∃ us, negT zs = us := ⟨_, rfl⟩
        rw [hus] at p1 p2
        obtain ⟨rp, hrp⟩ : ∃ rp, propT x ls us = rp := ⟨_, rfl⟩
        obtain ⟨r1, hr1⟩ : ∃ r1, rp.1 = r1 := ⟨_, rfl⟩
        obtain ⟨xs, hxs⟩ : ∃ xs, rp.2.ts = xs := ⟨_, rfl⟩
        obtain ⟨kx, hkx⟩ : ∃ kx, xs.length = kx := ⟨_, rfl⟩
        have htx := (prop_fixed p1).tr
        rw [hrp] at p2 htx
        rw [hr1, hxs] at p2
        rw [hxs] at htx
        have hkx1 : kx ≤ 65536 := by rw [← hkx]; have := trail_len (checkE_n hce).1 htx; have := checkE_n hce; omega
        have Z := Lib.hid (And.intro hzs (And.intro hm hE))
        have Z2 := Lib.hid (And.intro ha2 (And.intro hm a1))
        have HRP := Lib.hid (And.intro hrp (And.intro hr1 (And.intro hxs hkx)))
        have HM := Lib.hid hm
        have HT := Lib.hid hT
        have OK := Lib.hid o1
        have OZ := Lib.hid okz
        have IN := Lib.hid hin
        have UP := Lib.hid hup
        have P1 := Lib.hid p1
        have P2 := Lib.hid p2
        have HUS := Lib.hid hus
        have WZ := Lib.hid (okl_wfl okz)
        clear hzs hzl hm hE hP hO hce htr a1 a2 ha2 p1 p2 o1 o2 o3 o4 hT hin hup okz hus hrp hr1 hxs hkx htx
        go_enter Try.func9, Try.ntmps9
        go_upto_region 5 with (first
          | (go_at_call 11; refine (live_any _).mono ?_; rintro e w1 ⟨rfl, hb⟩; have HB1 := Lib.hid (bthen HB0.out hb); have BX1 := Lib.hid (BX.out.below hb); have t0 := BX1.out.c0; have t1 := BX1.out.c1; clear hb)
          | (go_at_call 12; refine (lfew_val true x A n c ls A' n' c' ts _ (H.out.below HB1.out) (H'.out.below HB1.out) HF.out).mono ?_; rintro e w2 ⟨rfl, hb⟩; have HB2 := Lib.hid (bthen HB1.out hb); have BX2 := Lib.hid (BX1.out.below hb); clear hb))
        clear t0 t1
        have t0 := BX2.out.c0
        have t1 := BX2.out.c1
        go_upto_region 8 with (go_at_call 16; refine (less_any x A n c ls A' n' c' ts Al nl cl l _ (H.out.below HB2.out) (H'.out.below HB2.out) (HL.out.below HB2.out) HW.out (by omega) (by omega)).mono ?_; rintro e w3 hfp; obtain ⟨A3, c3, rfl, hr3, hb3⟩ := hfp.named Z.out.1 Z.out.2.1 Z.out.2.2; have HB3 := Lib.hid (bthen HB2.out hb3); have BX3 := Lib.hid (BX2.out.below hb3); have HR3 := Lib.hid hr3; clear hfp hr3 hb3)
        clear t0 t1
        go_wp2
        go_loopw [9, 10] (fun s9 s10 W => ∃ k : Nat, k ≤ nl ∧ s10 = .int .i64 k ∧ s9 = .int .i64 (topT ts (l.take k)) ∧ Below w3.heap.size w3 W) (fun _ i _ => nl - (intOf i).toNat)
        case atStart => exact ⟨0, Nat.zero_le _, rfl, rfl, Below.refl _ _⟩
        case round =>
          obtain ⟨k, hk, rfl, rfl, hbW⟩ := hrel
          obtain ⟨W4, hbW, eW⟩ : ∃ W4, Below w3.heap.size w3 W4 ∧ W4 = _ := ⟨_, hbW, rfl⟩
          subst eW
          have HW4 := Lib.hid hbW
          have HB4 := Lib.hid (bthen HB3.out hbW)
          clear hbW
          by_cases hlt : k < nl
          · have hll : k < l.length := by rw [HLL.out]; exact hlt
            obtain ⟨y, hy⟩ : ∃ y, elt l k = y := ⟨_, rfl⟩
            obtain ⟨v, hv⟩ : ∃ v, lvlT ts y = v := ⟨_, rfl⟩
            obtain ⟨tk, htk⟩ : ∃ tk, topT ts (l.take k) = tk := ⟨_, rfl⟩
            obtain ⟨q1, q2, q3⟩ := OK.out y (by rw [← hy]; exact elt_mem hll)
            obtain ⟨b4, o4, rfl, hb4l, hc4⟩ := (HL.out.below HB4.out).cells (by omega)
            have e4 := hc4 k hlt
            rw [hy] at e4
            have NX := Lib.hid (show topT ts (l.take (k + 1)) = max tk v by rw [take_snoc l k hll, topT_snoc, htk, hy, hv])
            have V := Lib.hid hv
            rw [htk]
            clear hc4 hll hy hv htk
            go_wp2_with (go_at_call 19; refine (lev_val v A' n' c' ts y _ (H'.out.below HB4.out) (by omega) q2 q3 V.out).mono ?_; rintro e w7 ⟨rfl, hb7⟩; have HW7 := Lib.hid (bthen HW4.out hb7); clear hb7)
            go_roundw
            case rel => exact ⟨k + 1, by omega, by go_num, by rw [NX.out], HW7.out⟩
            case measure => simp [intOf]; omega
          · obtain rfl : k = nl := by omega
            have e1 : topT ts (l.take k) = T := by rw [← HLL.out, List.take_length]; exact HT.out
            rw [e1]
            clear e1 hlt
            have HR4 := Lib.hid (HR3.out.below HW4.out)
            have HL4 := Lib.hid (HL.out.below HB4.out)
            go_wp2
            go_loop [11] (fun s11 => ∃ j : Nat, j ≤ m ∧ s11 = .int .i64 j) (fun i => m - (intOf i).toNat)
            case atStart => exact ⟨0, Nat.zero_le _, rfl⟩
            case round =>
              obtain ⟨j, hj, rfl⟩ := hrel
              by_cases hlt : j < m
              · have hjl : j < zs.length := by rw [HM.out]; exact hlt
                obtain ⟨y, hy⟩ : ∃ y, elt zs j = y := ⟨_, rfl⟩
                have HI := Lib.hid (IN.out y (by rw [← hy]; exact elt_mem hjl))
                obtain ⟨b4, o4, rfl, hb4l, hc4⟩ := HR4.out.cells (by omega)
                have e4 := hc4 j hlt
                rw [hy] at e4
                clear hc4 hjl hy
                go_wp2_with (go_at_call 26; refine (has26_val true Al k cl l y _ HL4.out HI.out).mono ?_; rintro e w7 ⟨rfl, rfl⟩)
                go_round
                case rel => exact ⟨j + 1, by omega, by go_num⟩
                case measure => simp [intOf]; omega
              · obtain rfl : j = m := by omega
                clear hlt
                go_wp2
                go_loopw [12] (fun s12 W => ∃ i : Nat, i ≤ k ∧ s12 = .int .i64 i ∧ Below W4.heap.size W4 W) (fun i _ => k - (intOf i).toNat)
                case atStart => exact ⟨0, Nat.zero_le _, rfl, Below.refl _ _⟩
                case round =>
                  obtain ⟨i, hi, rfl, hbW⟩ := hrel
                  obtain ⟨W5, hbW, eW⟩ : ∃ W5, Below W4.heap.size W4 W5 ∧ W5 = _ := ⟨_, hbW, rfl⟩
                  subst eW
                  have HW5 := Lib.hid hbW
                  have HB5 := Lib.hid (bthen HB4.out hbW)
                  clear hbW
                  by_cases hlt : i < k
                  · have hll : i < l.length := by rw [HLL.out]; exact hlt
                    obtain ⟨y, hy⟩ : ∃ y, elt l i = y := ⟨_, rfl⟩
                    obtain ⟨v, hv⟩ : ∃ v, lvlT ts y = v := ⟨_, rfl⟩
                    have hym : y ∈ l := by rw [← hy]; exact elt_mem hll
                    obtain ⟨q1, q2, q3⟩ := OK.out y hym
                    obtain ⟨b4, o4, rfl, hb4l, hc4⟩ := (HL.out.below HB5.out).cells (by omega)
                    have e4 := hc4 i hlt
                    rw [hy] at e4
                    have V := Lib.hid hv
                    have UV := Lib.hid (fun h1 h2 => UP.out y hym h1 (hv.trans h2))
                    clear hc4 hll hy hv hym
                    by_cases h0 : 0 < T
                    · have d0 : decide ((0 : Int) < T) = true := by rw [decide_eq_true_iff]; exact h0
                      by_cases hvT : v = T
                      · have dv : (v == T) = true := by rw [beq_iff_eq]; exact hvT
                        have HZ := Lib.hid (UV.out h0 hvT)
                        clear hvT UV
                        go_wp2_with (first
                          | (go_at_call 19; refine (lev_val v A' n' c' ts y _ (H'.out.below HB5.out) (by omega) q2 q3 V.out).mono ?_; rintro e w7 ⟨rfl, hb7⟩; have HW7 := Lib.hid (bthen HW5.out hb7); have e7 := (hb7.cell (p := ⟨b4, o4 + i, none⟩) hb4l).trans e4; clear hb7)
                          | (go_at_call 26; refine (has26_val true A3 j c3 zs y _ (HR4.out.below HW7.out) HZ.out).mono ?_; rintro e w8 ⟨rfl, rfl⟩))
                        go_roundw
                        case rel => exact ⟨i + 1, by omega, by go_num, HW7.out⟩
                        case measure => simp [intOf]; omega
                      · have dv : (v == T) = false := by rw [beq_eq_false_iff_ne]; exact hvT
                        clear hvT UV
                        go_wp2_with (go_at_call 19; refine (lev_val v A' n' c' ts y _ (H'.out.below HB5.out) (by omega) q2 q3 V.out).mono ?_; rintro e w7 ⟨rfl, hb7⟩; have HW7 := Lib.hid (bthen HW5.out hb7); clear hb7)
                        go_roundw
                        case rel => exact ⟨i + 1, by omega, by go_num, HW7.out⟩
                        case measure => simp [intOf]; omega
                    · have d0 : decide ((0 : Int) < T) = false := by rw [decide_eq_false_iff_not]; exact h0
                      clear UV
                      go_wp2
                      go_roundw
                      case rel => exact ⟨i + 1, by omega, by go_num, HW5.out⟩
                      case measure => simp [intOf]; omega
                  · obtain rfl : i = k := by omega
                    clear hlt
                    have BX5 := Lib.hid ((BX3.out.below HW4.out).below HW5.out)
                    have t0 := BX5.out.c0
                    have t1 := BX5.out.c1
                    have HR5 := Lib.hid (HR4.out.below HW5.out)
                    go_upto_region 24 with (go_at_call 16; refine (less_any x A n c ls A' n' c' ts A3 j c3 zs _ (H.out.below HB5.out) (H'.out.below HB5.out) HR5.out WZ.out (by omega) (by omega)).mono ?_; rintro e W6 hfp; obtain ⟨A6, c6, rfl, hr6, hb6⟩ := hfp.named Z2.out.1 Z2.out.2.1 Z2.out.2.2; have HB6 := Lib.hid (bthen HB5.out hb6); have BX6 := Lib.hid (BX5.out.below hb6); have HR6 := Lib.hid hr6; have HM6 := Lib.hid (HR5.out.below hb6); clear hfp hr6 hb6)
                    clear t0 t1
                    have HOE := Lib.hid (own_emptyS W6 W6.heap.size W6.heap.size rfl (Nat.le_refl _))
                    have HBE := Lib.hid (below1 W6 (.cells #[] 41))
                    go_wp2
                    go_loopw [15, 16] (fun s15 s16 W => ∃ (k2 : Nat) (A7 : Option Addr) (c7 : Nat), k2 ≤ j ∧ s16 = .int .i64 k2 ∧ s15 = .slice A7 k2 c7 ∧ W.ownsRow W6.heap.size 41 2 (.slice A7 k2 c7) k2 (flatS (negT (zs.take k2))) ∧ Below W6.heap.size W6 W) (fun _ i _ => j - (intOf i).toNat)
                    case atStart => exact ⟨0, _, _, Nat.zero_le _, rfl, rfl, HOE.out, HBE.out⟩
                    case round =>
                      obtain ⟨k2, A7, c7, hk2, rfl, rfl, ho7, hbW⟩ := hrel
                      obtain ⟨W7, hw7, eW⟩ : ∃ W7, (Below W6.heap.size W6 W7 ∧ W7.ownsRow W6.heap.size 41 2 (.slice A7 k2 c7) k2 (flatS (negT (zs.take k2)))) ∧ W7 = _ := ⟨_, ⟨hbW, ho7⟩, rfl⟩
                      subst eW
                      have HW7 := Lib.hid hw7.1
                      have HO7 := Lib.hid hw7.2
                      have HB7 := Lib.hid (bthen HB6.out hw7.1)
                      clear hbW ho7 hw7
                      by_cases hlt : k2 < j
                      · have hjl : k2 < zs.length := by rw [HM.out]; exact hlt
                        obtain ⟨y, hy⟩ : ∃ y, elt zs k2 = y := ⟨_, rfl⟩
                        obtain ⟨q1, q2, q3⟩ := OZ.out y (by rw [← hy]; exact elt_mem hjl)
                        obtain ⟨b4, o4, rfl, hb4l, hc4⟩ := (HM6.out.below HW7.out).cells (by omega)
                        have e4 := hc4 k2 hlt
                        rw [hy] at e4
                        have hneg := lit_neg' q2 q3
                        have NX := Lib.hid (show negT (zs.take k2) ++ [⟨-y, -1⟩] = negT (zs.take (k2 + 1)) by rw [take_snoc zs k2 hjl, negT_snoc, hy])
                        clear hc4 hjl hy
                        go_wp2_with (at_builtin; refine wpList_append_st (wr := W6) rfl (.tmp 112) (.tmp 119) rfl (HW7.out.alloc HW7.out.size _) (.slice A7 k2 c7) k2 (negT (zs.take k2)) rfl (HO7.out.alloc _) (some ⟨W7.heap.size, 0, none⟩) 1 1 [⟨-y, -1⟩] rfl (RS.lit W7 [⟨-y, -1⟩] 1 _ rfl rfl (by omega)) (by omega) (k2 + 1) rfl (negT (zs.take (k2 + 1))) NX.out ?_; intro A8 c8 w8 ho8 hb8; have HO8 := Lib.hid ho8; have HB8 := Lib.hid hb8; clear ho8 hb8)
                        go_roundw
                        case rel => exact ⟨k2 + 1, A8, c8, by omega, by go_num, rfl, HO8.out, HB8.out⟩
                        case measure => simp [intOf]; omega
                      · obtain rfl : k2 = j := by omega
                        have HU7 : Hid (RS W7 A7 k2 c7 us) := Lib.hid (by have := RS.of_own HO7.out (by omega); rw [← HM.out, List.take_length, HUS.out, HM.out] at this; exact this)
                        have BX7 := Lib.hid (BX6.out.below HW7.out)
                        have t0 := BX7.out.c0
                        have t1 := BX7.out.c1
                        clear hlt HO7
                        go_upto_region 30 with (go_at_call 27; refine (prop_ok x A n c ls A7 k2 c7 us _ (H.out.below HB7.out) HU7.out P1.out (by omega) (by omega) (fun l hl => Nat.le_trans (F1.out l hl) (by omega))).mono ?_; rintro e w9 hpd; obtain ⟨Ax, cx, rfl, hrx, hb9⟩ := hpd.named HRP.out; have HB9 := Lib.hid (bthen HB7.out hb9); have HX9 := Lib.hid hrx; have HR9 := Lib.hid (HR6.out.below (bthen HW7.out hb9)); have HM9 := Lib.hid (HM6.out.below (bthen HW7.out hb9)); clear hpd hrx hb9)
                        clear t0 t1
                        cases r1 with
                        | some i1 =>
                          have d9 : decide (cfl (some i1) < (0 : Int)) = false := by rw [decide_eq_false_iff_not]; simp [cfl]
                          obtain ⟨ci, hci⟩ : ∃ ci, cfl (some i1) = ci := ⟨_, rfl⟩
                          rw [hci] at d9 ⊢
                          clear hci
                          go_wp2_with (go_at_call 15; refine (ints_val true A6 k2 c6 zs A3 k2 c3 zs _ HR9.out HM9.out (sameB_iff.2 rfl)).mono ?_; rintro e w5 ⟨rfl, hb5⟩; have HB10 := Lib.hid (bthen HB9.out hb5); clear hb5)
                          go_loop [20] (fun s20 => ∃ j2 : Nat, j2 ≤ i ∧ s20 = .int .i64 j2) (fun s => i - (intOf s).toNat)
                          case atStart => exact ⟨0, Nat.zero_le _, rfl⟩
                          case round =>
                            obtain ⟨j2, hj2, rfl⟩ := hrel
                            go_wp2
                            all_goals
                              go_ret
                              exact ⟨rfl, HB10.out⟩
                        | none =>
                          have d9 : decide (cfl none < (0 : Int)) = true := by rw [decide_eq_true_iff]; simp [cfl]
                          obtain ⟨ci, hci⟩ : ∃ ci, cfl none = ci := ⟨_, rfl⟩
                          rw [hci] at d9 ⊢
                          clear hci
                          go_wp2_with (go_at_call 15; refine (ints_val true A6 k2 c6 zs A3 k2 c3 zs _ HR9.out HM9.out (sameB_iff.2 rfl)).mono ?_; rintro e w5 ⟨rfl, hb5⟩; have HB10 := Lib.hid (bthen HB9.out hb5); have HX10 := Lib.hid (HX9.out.below hb5); clear hb5)
                          obtain ⟨WW, hWW⟩ : ∃ WW, WW = w5 := ⟨_, rfl⟩
                          subst hWW
                          go_loopw [20] (fun s20 W => ∃ j2 : Nat, j2 ≤ i ∧ s20 = .int .i64 j2 ∧ Below WW.heap.size WW W) (fun s _ => i - (intOf s).toNat)
                          case atStart => exact ⟨0, Nat.zero_le _, rfl, Below.refl _ _⟩
                          case round =>
                            obtain ⟨j2, hj2, rfl, hbW⟩ := hrel
                            have HW8 := Lib.hid hbW
                            have HB8 := Lib.hid (bthen HB10.out hbW)
                            clear hbW
                            by_cases hlt : j2 < i
                            · have hll : j2 < l.length := by rw [HLL.out]; exact hlt
                              obtain ⟨y, hy⟩ : ∃ y, elt l j2 = y := ⟨_, rfl⟩
                              obtain ⟨v, hv⟩ : ∃ v, lvlT xs y = v := ⟨_, rfl⟩
                              have hym : y ∈ l := by rw [← hy]; exact elt_mem hll
                              obtain ⟨q1, q2, q3⟩ := OK.out y hym
                              obtain ⟨b4, o4, rfl, hb4l, hc4⟩ := (HL.out.below HB8.out).cells (by omega)
                              have e4 := hc4 j2 hlt
                              rw [hy] at e4
                              have dv : decide (v < 0) = false := by rw [decide_eq_false_iff_not, ← hv]; have := P2.out (by first | rfl | trivial) y hym; omega
                              have V := Lib.hid hv
                              clear hc4 hll hy hv hym
                              go_wp2_with (go_at_call 19; refine (lev_val v Ax kx cx xs y _ (HX10.out.below HW8.out) (by omega) q2 q3 V.out).mono ?_; rintro e w7 ⟨rfl, hb7⟩; have HW9 := Lib.hid (bthen HW8.out hb7); clear hb7)
                              go_roundw
                              case rel => exact ⟨j2 + 1, by omega, by go_num, HW9.out⟩
                              case measure => simp [intOf]; omega
                            · go_wp2
                              go_ret
                              exact ⟨rfl, HB8.out⟩
      · obtain ⟨er, her⟩ : ∃ er, lessE x ls ts l = er := ⟨_, rfl⟩
        have Z := Lib.hid (And.intro (show lessR x ls ts l = [] by unfold lessR; rw [if_neg hE]) (And.intro (show ([] : List Int).length = 0 from rfl) her))
        have hr : (er != 0) = true := by rw [← her]; simpa using hE
        clear hE her
        go_enter Try.func9, Try.ntmps9
        go_upto_region 5 with (first
          | (go_at_call 11; refine (live_any _).mono ?_; rintro e w1 ⟨rfl, hb⟩; have HB1 := Lib.hid (bthen HB0.out hb); have BX1 := Lib.hid (BX.out.below hb); have t0 := BX1.out.c0; have t1 := BX1.out.c1; clear hb)
          | (go_at_call 12; refine (lfew_val true x A n c ls A' n' c' ts _ (H.out.below HB1.out) (H'.out.below HB1.out) HF.out).mono ?_; rintro e w2 ⟨rfl, hb⟩; have HB2 := Lib.hid (bthen HB1.out hb); have BX2 := Lib.hid (BX1.out.below hb); clear hb))
        clear t0 t1
        have t0 := BX2.out.c0
        have t1 := BX2.out.c1
        go_wp2_with (go_at_call 16; refine (less_any x A n c ls A' n' c' ts Al nl cl l _ (H.out.below HB2.out) (H'.out.below HB2.out) (HL.out.below HB2.out) HW.out (by omega) (by omega)).mono ?_; rintro e w3 hfp; obtain ⟨A3, c3, rfl, hr3, hb3⟩ := hfp.named Z.out.1 Z.out.2.1 Z.out.2.2; have HB3 := Lib.hid (bthen HB2.out hb3); clear hfp hr3 hb3)
        go_ret
        exact ⟨rfl, HB3.out⟩
    · have d1 : decide ((30 : Int) < (nl : Int)) = true := by rw [decide_eq_true_iff]; omega
      go_enter Try.func9, Try.ntmps9
      go_wp2_with (first
        | (go_at_call 11; refine (live_any _).mono ?_; rintro e w1 ⟨rfl, hb⟩; have HB1 := Lib.hid (bthen HB0.out hb); have t0 := (BX.out.below hb).c0; have t1 := (BX.out.below hb).c1; clear hb)
        | (go_at_call 12; refine (lfew_val true x A n c ls A' n' c' ts _ (H.out.below HB1.out) (H'.out.below HB1.out) HF.out).mono ?_; rintro e w2 ⟨rfl, hb⟩; have HB2 := Lib.hid (bthen HB1.out hb); clear hb))
      go_ret
      exact ⟨rfl, HB2.out⟩

end Go.Proofs.Ytenpenelikpeeaa
