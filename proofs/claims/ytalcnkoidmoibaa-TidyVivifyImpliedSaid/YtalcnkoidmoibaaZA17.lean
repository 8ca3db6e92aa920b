/-
  The law TidySubsumeEquivalent, walked. No condition.
-/
import Derived.Test.YtalcnkoidmoibaaZA16

namespace Go.Proofs.Ytalcnkoidmoibaa
open Go.RowKit Go.Shelf
set_option linter.unusedVariables false
set_option linter.unusedSimpArgs false

set_option maxRecDepth 100000 in
set_option maxHeartbeats 2000000 in
theorem subsumeEq_few (x : Int) (A : Option Addr) (n c : Nat) (ls : List (List Int)) (A' : Option Addr) (n' c' : Nat) (bs : List Bool) (w : World) (h : RL w A n c ls) (hf : fewL ls = false ∨ 300 < n') :
    Calls Try.prog 9 #[.agg #[.int .i64 x, .slice A n c], .slice A' n' c'] w (Truly w) := by
  have H := Lib.hid (h.alloc (.cells #[.int .i64 x, .slice A n c] 29))
  have HB0 := Lib.hid ((Below.refl w.heap.size w).alloc (Nat.le_refl _) (.cells #[.int .i64 x, .slice A n c] 29))
  have BX := Lib.hid (Two.new w (.int .i64 x) (.slice A n c))
  clear h
  cases hfl : fewL ls
  · have HF := Lib.hid hfl
    clear hf hfl
    go_enter Try.func9, Try.ntmps9
    go_wp2_with (first
      | (go_at_call 11; refine (live_any _).mono ?_; rintro e w1 ⟨rfl, hb1⟩; have HB1 := Lib.hid hb1; have t1 := (BX.out.below hb1); have q0 := t1.c0; have q1 := t1.c1; clear hb1 t1)
      | (go_at_call 15; refine (few_val false x A n c ls _ (H.out.below HB1.out) HF.out).mono ?_; rintro e w2 ⟨rfl, hb2⟩; have HB2 := Lib.hid hb2; clear hb2))
    go_ret
    exact ⟨rfl, HB0.out.trans ((HB1.out.trans (HB2.out.mono HB1.out.size)).mono HB0.out.size)⟩
  · have HF := Lib.hid hfl
    have hx : (300 : Int) < n' := by
      rcases hf with hf | hf
      · rw [hf] at hfl; cases hfl
      · omega
    clear hf hfl
    go_enter Try.func9, Try.ntmps9
    go_wp2_with (first
      | (go_at_call 11; refine (live_any _).mono ?_; rintro e w1 ⟨rfl, hb1⟩; have HB1 := Lib.hid hb1; have t1 := (BX.out.below hb1); have T1 := Lib.hid t1; have q0 := t1.c0; have q1 := t1.c1; clear hb1 t1)
      | (go_at_call 15; refine (few_val true x A n c ls _ (H.out.below HB1.out) HF.out).mono ?_; rintro e w2 ⟨rfl, hb2⟩; have HB2 := Lib.hid hb2; have t2 := (T1.out.below hb2); clear q0 q1; have q0 := t2.c0; have q1 := t2.c1; clear hb2 t2))
    go_ret
    exact ⟨rfl, HB0.out.trans ((HB1.out.trans (HB2.out.mono HB1.out.size)).mono HB0.out.size)⟩

set_option maxRecDepth 100000 in
set_option maxHeartbeats 2000000 in
theorem subsumeEq_bad (x : Int) (A : Option Addr) (n c : Nat) (ls : List (List Int)) (A' : Option Addr) (n' c' : Nat) (w : World) (h : RL w A n c ls) (hf : fewL ls = true) (hn' : n' ≤ 300) (hE : checkE x ls ≠ 0) :
    Calls Try.prog 9 #[.agg #[.int .i64 x, .slice A n c], .slice A' n' c'] w (Truly w) := by
  have H := Lib.hid (h.alloc (.cells #[.int .i64 x, .slice A n c] 29))
  have HB0 := Lib.hid ((Below.refl w.heap.size w).alloc (Nat.le_refl _) (.cells #[.int .i64 x, .slice A n c] 29))
  have BX := Lib.hid (Two.new w (.int .i64 x) (.slice A n c))
  have hlen := h.len
  clear h
  have HF := Lib.hid hf
  have hn := (fewL_len hf).1
  rw [hlen] at hn
  clear hf
  have hs1 := fun W (h : RL W A n c ls) => subsume_any x A n c ls W h (by omega)
  unfold Subd at hs1
  rw [if_neg hE, if_neg hE] at hs1
  obtain ⟨e', he'⟩ : ∃ e', checkE x ls = e' := ⟨_, rfl⟩
  rw [he'] at hs1 hE
  have HC := Lib.hid he'
  have he : (e' != 0) = true := by simpa using hE
  have hnn : ¬ (300 : Int) < (n' : Int) := by omega
  simp only [List.length_nil] at hs1
  clear hE hlen he'
  go_enter Try.func9, Try.ntmps9
  go_wp2_with (first
    | (go_at_call 11; refine (live_any _).mono ?_; rintro e w1 ⟨rfl, hb1⟩; have HB1 := Lib.hid (HB0.out.trans (hb1.mono HB0.out.size)); have HR1 := Lib.hid (H.out.below hb1); have BX1 := Lib.hid (BX.out.below hb1); have q0 := BX1.out.c0; have q1 := BX1.out.c1; clear hb1)
    | (go_at_call 15; refine (few_val true x A n c ls _ HR1.out HF.out).mono ?_; rintro e w2 ⟨rfl, hb2⟩; have HB2 := Lib.hid (HB1.out.trans (hb2.mono HB1.out.size)); have HR2 := Lib.hid (HR1.out.below hb2); have BX2 := Lib.hid (BX1.out.below hb2); clear q0 q1; have q0 := BX2.out.c0; have q1 := BX2.out.c1; clear hb2)
    | (go_at_call 19; refine (hs1 _ HR2.out).mono ?_; clear hs1; rintro e w3 ⟨A3, c3, rfl, hr3, hb3⟩; have HR3 := Lib.hid ((HR2.out.below hb3).alloc (.cells #[.int .i64 0, .slice A3 0 c3] 29)); have HB3 := Lib.hid ((HB2.out.trans (hb3.mono HB2.out.size)).alloc (by have := HB2.out.size; have := hb3.size; omega) (.cells #[.int .i64 0, .slice A3 0 c3] 29)); have BX3 := Lib.hid (BX2.out.below hb3); clear q0 q1; have q0 := BX3.out.c0; have q1 := BX3.out.c1; have hs3 := BX3.out.lt; clear hr3 hb3)
    | (go_at_call 25; refine (check_val e' x A n c ls _ HR3.out HC.out).mono ?_; rintro e w4 ⟨rfl, hb4⟩; have HB4 := Lib.hid (HB3.out.trans (hb4.mono HB3.out.size)); clear hb4))
  go_ret
  exact ⟨ret_bool (by simp), HB4.out⟩

/-- what stands once the clauses have been thinned out -/
structure Se (w W : World) (x : Int) (B B' : Nat) (A : Option Addr) (n c : Nat) (ls : List (List Int)) (A3 : Option Addr) (L c3 : Nat) (os : List (List Int)) (A' : Option Addr) (n' c' : Nat) (bs : List Bool) : Prop where
  b : Two W B (.int .i64 x) (.slice A n c)
  b' : Two W B' (.int .i64 x) (.slice A3 L c3)
  l : RL W A n c ls
  l' : RL W A3 L c3 os
  t : RB W A' n' c' bs
  below : Below w.heap.size w W
theorem Se.more {w W W' : World} {x : Int} {B B' : Nat} {A : Option Addr} {n c : Nat} {ls : List (List Int)} {A3 : Option Addr} {L c3 : Nat} {os : List (List Int)} {A' : Option Addr} {n' c' : Nat} {bs : List Bool} (h : Se w W x B B' A n c ls A3 L c3 os A' n' c' bs) (hb : Below W.heap.size W W') : Se w W' x B B' A n c ls A3 L c3 os A' n' c' bs :=
  ⟨h.b.below hb, h.b'.below hb, h.l.below hb, h.l'.below hb, h.t.below hb, h.below.trans (hb.mono h.below.size)⟩

def orT (os : List (List Int)) (l : List Int) (k : Nat) : Bool := (os.take k).any fun o => subB o l
theorem orT_succ {os : List (List Int)} {l : List Int} {k : Nat} (h : k < os.length) : orT os l (k + 1) = (orT os l k || subB (ell os k) l) := by
  unfold orT; rw [takel_snoc os k h, List.any_append]; simp

set_option maxRecDepth 100000 in
set_option maxHeartbeats 4000000 in
theorem subsumeEq_ok (x : Int) (A : Option Addr) (n c : Nat) (ls : List (List Int)) (A' : Option Addr) (n' c' : Nat) (bs : List Bool) (w : World) (h : RL w A n c ls) (h' : RB w A' n' c' bs) (hf : fewL ls = true) (hn' : n' ≤ 300) (hE : checkE x ls = 0) :
    Calls Try.prog 9 #[.agg #[.int .i64 x, .slice A n c], .slice A' n' c'] w (Truly w) := by
  have H := Lib.hid (h.alloc (.cells #[.int .i64 x, .slice A n c] 29))
  have HB0 := Lib.hid ((Below.refl w.heap.size w).alloc (Nat.le_refl _) (.cells #[.int .i64 x, .slice A n c] 29))
  have BX := Lib.hid (Two.new w (.int .i64 x) (.slice A n c))
  have HT := Lib.hid h'
  have hlen := h.len
  clear h h'
  have HF := Lib.hid hf
  have hn := (fewL_len hf).1
  rw [hlen] at hn
  clear hf
  have hs1 := fun W (h : RL W A n c ls) => subsume_any x A n c ls W h (by omega)
  unfold Subd at hs1
  rw [if_pos hE, if_pos hE, hE] at hs1
  have hle := subL_len ls
  rw [hlen] at hle
  have HAP := Lib.hid (fun a b (ha : a < (subL ls).length) (hb : b < (subL ls).length) (hne : a ≠ b) => subL_apart (ls := ls) ha hb hne)
  have HOV := Lib.hid (fun i (hi : i < n) => subL_over (ls := ls) (i := i) (by rw [hlen]; exact hi))
  have HVL := Lib.hid (sub_value hE bs)
  have HW := Lib.hid (fun l (hl : l ∈ ls) => okl_wfl (checkE_lits hE l hl))
  have HW' := Lib.hid (fun l (hl : l ∈ subL ls) => okl_wfl (checkE_lits hE l (subL_mem hl)))
  have hs2 := fun A3 c3 W (h : RL W A3 (subL ls).length c3 (subL ls)) => subsume_any x A3 (subL ls).length c3 (subL ls) W h (by omega)
  unfold Subd at hs2
  rw [if_pos (checkE_sub hE), if_pos (checkE_sub hE), checkE_sub hE, subL_again] at hs2
  generalize subL ls = os at *
  obtain ⟨L, hL⟩ : ∃ L, os.length = L := ⟨_, rfl⟩
  rw [hL] at hs1 hs2 HAP hle
  have HL := Lib.hid hL
  have HLN := Lib.hid hlen
  have hnn : ¬ (300 : Int) < (n' : Int) := by omega
  clear hE hL hlen
  go_enter Try.func9, Try.ntmps9
  go_upto_region 8 with (first
    | (go_at_call 11; refine (live_any _).mono ?_; rintro e w1 ⟨rfl, hb1⟩; have HB1 := Lib.hid (HB0.out.trans (hb1.mono HB0.out.size)); have HR1 := Lib.hid (H.out.below hb1); have BX1 := Lib.hid (BX.out.below hb1); have q0 := BX1.out.c0; have q1 := BX1.out.c1; clear hb1)
    | (go_at_call 15; refine (few_val true x A n c ls _ HR1.out HF.out).mono ?_; rintro e w2 ⟨rfl, hb2⟩; have HB2 := Lib.hid (HB1.out.trans (hb2.mono HB1.out.size)); have HR2 := Lib.hid (HR1.out.below hb2); have BX2 := Lib.hid (BX1.out.below hb2); clear q0 q1; have q0 := BX2.out.c0; have q1 := BX2.out.c1; clear hb2)
    | (go_at_call 19; refine (hs1 _ HR2.out).mono ?_; clear hs1; rintro e w3 ⟨A3, c3, rfl, hr3, hb3⟩; have HS3 : Hid (Se w (w3.alloc (.cells #[.int .i64 x, .slice A3 L c3] 29)) x w.heap.size w3.heap.size A n c ls A3 L c3 os A' n' c' bs) := Lib.hid ⟨(BX2.out.below hb3).below ((Below.refl _ _).alloc (Nat.le_refl _) _), Two.new _ _ _, (HR2.out.below hb3).alloc _, hr3.alloc _, HT.out.below ((HB2.out.trans (hb3.mono HB2.out.size)).alloc (by have := HB2.out.size; have := hb3.size; omega) _), (HB2.out.trans (hb3.mono HB2.out.size)).alloc (by have := HB2.out.size; have := hb3.size; omega) _⟩; clear q0 q1 hr3 hb3))
  generalize hW : w3.alloc (.cells #[.int .i64 x, .slice A3 L c3] 29) = W5 at HS3
  clear hW
  go_wp2_with fail
  go_loopw [7] (fun s7 W => ∃ i : Nat, i ≤ L ∧ s7 = .int .i64 i ∧ Below W5.heap.size W5 W) (fun s7 _ => L - (intOf s7).toNat)
  case atStart => exact ⟨0, Nat.zero_le _, rfl, Below.refl _ _⟩
  case round =>
    obtain ⟨i, hi, rfl, hb⟩ := hrel
    have HS := Lib.hid (HS3.out.more hb)
    have HB := Lib.hid hb
    clear hb
    have p0 := HS.out.b'.c0
    have p1 := HS.out.b'.c1
    by_cases hlt : i < L
    · go_wp2_with fail
      clear p0 p1
      go_loopw [8] (fun s8 W => ∃ k : Nat, k ≤ L ∧ s8 = .int .i64 k ∧ Below W5.heap.size W5 W) (fun s8 _ => L - (intOf s8).toNat)
      case atStart => exact ⟨0, Nat.zero_le _, rfl, HB.out⟩
      case round =>
        obtain ⟨k, hk, rfl, hb⟩ := hrel
        have HS2 := Lib.hid (HS3.out.more hb)
        have HB2 := Lib.hid hb
        clear hb
        have p0 := HS2.out.b'.c0
        have p1 := HS2.out.b'.c1
        by_cases hlk : k < L
        · by_cases hik : i = k
          · subst hik
            go_upto_region 14 with fail
            have g0 := fun u : Gr wr => u.cell (p := ⟨w3.heap.size, 0, none⟩) HS2.out.b'.lt HS2.out.b'.c0
            refine wp_region_grow (by kernel_rfl) (by kernel_rfl) ?_
            repeat (go_big_quiet_step (fail))
            refine wpQuiet_nil ?_
            rintro w7 ⟨⟨_, hb7⟩, rfl⟩
            have HB7 := Lib.hid (HB2.out.trans (hb7.mono HB2.out.size))
            clear hb7 g0
            go_wp2_with fail
            go_roundw
            case rel => exact ⟨i + 1, by omega, by go_num, HB7.out⟩
            case measure => simp [intOf]; omega
          · obtain ⟨b3, off3, rfl, hb3, hc3⟩ := HS2.out.l'.cells (by omega)
            obtain ⟨a1, n1, c1, hc1, hr1⟩ := hc3 i hlt
            obtain ⟨a2, n2, c2, hc2, hr2⟩ := hc3 k hlk
            clear hc3
            have hik' : (i : Int) ≠ (k : Int) := by omega
            have hlt' : (i : Int) < (L : Int) := by omega
            have hlk' : (k : Int) < (L : Int) := by omega
            have hikb : ((i : Int) != (k : Int)) = true := by simpa using hik'
            have HR1 := Lib.hid hr1
            have HR2 := Lib.hid hr2
            have HA := Lib.hid (HAP.out i k hlt hlk hik)
            have HX1 := Lib.hid (HW'.out _ (ell_mem (k := i) (by rw [HL.out]; exact hlt)))
            have HX2 := Lib.hid (HW'.out _ (ell_mem (k := k) (by rw [HL.out]; exact hlk)))
            clear hr1 hr2
            go_upto_region 14 with fail
            have g0 := fun u : Gr wr => u.cell (p := ⟨w3.heap.size, 0, none⟩) HS2.out.b'.lt HS2.out.b'.c0
            have g1 := fun u : Gr wr => u.cell (p := ⟨w3.heap.size, 1, none⟩) HS2.out.b'.lt HS2.out.b'.c1
            have g2 := fun u : Gr wr => u.cell (p := ⟨b3, off3 + i, none⟩) hb3 hc1
            have g3 := fun u : Gr wr => u.cell (p := ⟨b3, off3 + k, none⟩) hb3 hc2
            refine wp_region_grow (by kernel_rfl) (by kernel_rfl) ?_
            repeat (go_big_quiet_step ((go_at_call 24; exact Gr.call _ (subsumes_val false _ _ _ _ _ _ _ _ _ (HR1.out.below (Gr.ok _)) (HR2.out.below (Gr.ok _)) HX1.out HX2.out HA.out))))
            refine wpQuiet_nil ?_
            rintro w7 ⟨⟨_, hb7⟩, rfl⟩
            have HB7 := Lib.hid (HB2.out.trans (hb7.mono HB2.out.size))
            clear hb7 g0 g1 g2 g3
            go_wp2_with fail
            go_roundw
            case rel => exact ⟨k + 1, by omega, by go_num, HB7.out⟩
            case measure => simp [intOf]; omega
        · go_wp2_with fail
          go_roundw
          case rel => exact ⟨i + 1, by omega, by go_num, HB2.out⟩
          case measure => simp [intOf]; omega
    · go_wp2_with fail
      have HBw := Lib.hid HB.out
      clear p0 p1
      go_loopw [9] (fun s9 W => ∃ i : Nat, i ≤ n ∧ s9 = .int .i64 i ∧ Below W5.heap.size W5 W) (fun s9 _ => n - (intOf s9).toNat)
      case atStart => exact ⟨0, Nat.zero_le _, rfl, HB.out⟩
      case round =>
        obtain ⟨i2, hi2, rfl, hb⟩ := hrel
        have HS4 := Lib.hid (HS3.out.more hb)
        have HB4 := Lib.hid hb
        clear hb
        have q0 := HS4.out.b.c0
        have q1 := HS4.out.b.c1
        have p0 := HS4.out.b'.c0
        have p1 := HS4.out.b'.c1
        by_cases hli : i2 < n
        · go_wp2_with fail
          clear p0 p1 q0 q1
          go_loopw [10, 11] (fun s10 s11 W => ∃ k : Nat, k ≤ L ∧ s11 = .int .i64 k ∧ s10 = .bool (orT os (ell ls i2) k) ∧ Below W5.heap.size W5 W) (fun _ s11 _ => L - (intOf s11).toNat)
          case atStart => exact ⟨0, Nat.zero_le _, rfl, rfl, HB4.out⟩
          case round =>
            obtain ⟨k, hk, rfl, rfl, hb⟩ := hrel
            have HS6 := Lib.hid (HS3.out.more hb)
            have HB6 := Lib.hid hb
            clear hb
            have p0 := HS6.out.b'.c0
            have p1 := HS6.out.b'.c1
            by_cases hlk : k < L
            · have E := Lib.hid (orT_succ (os := os) (l := ell ls i2) (k := k) (by rw [HL.out]; exact hlk))
              obtain ⟨b3, off3, rfl, hb3, hc3⟩ := HS6.out.l'.cells (by omega)
              obtain ⟨a1, n1, c1, hc1, hr1⟩ := hc3 k hlk
              clear hc3
              obtain ⟨b4, off4, e4, hb4, hc4⟩ := HS6.out.l.cells (by omega)
              obtain ⟨a2, n2, c2, hc2, hr2⟩ := hc4 i2 hli
              clear hc4
              subst e4
              have hli' : (i2 : Int) < (n : Int) := by omega
              have hlk' : (k : Int) < (L : Int) := by omega
              have HR1 := Lib.hid hr1
              have HR2 := Lib.hid hr2
              have HX1 := Lib.hid (HW'.out _ (ell_mem (k := k) (by rw [HL.out]; exact hlk)))
              have HX2 := Lib.hid (HW.out _ (ell_mem (k := i2) (by rw [HLN.out]; exact hli)))
              obtain ⟨r, hr⟩ : ∃ r, subB (ell os k) (ell ls i2) = r := ⟨_, rfl⟩
              have HR := Lib.hid hr
              clear hr1 hr2 hr
              generalize orT os (ell ls i2) k = o at *
              go_upto_region 23 with fail
              have g0 := fun u : Gr wr => u.cell (p := ⟨w3.heap.size, 0, none⟩) HS6.out.b'.lt HS6.out.b'.c0
              have g1 := fun u : Gr wr => u.cell (p := ⟨w3.heap.size, 1, none⟩) HS6.out.b'.lt HS6.out.b'.c1
              have g2 := fun u : Gr wr => u.cell (p := ⟨w.heap.size, 1, none⟩) HS6.out.b.lt HS6.out.b.c1
              have g3 := fun u : Gr wr => u.cell (p := ⟨b3, off3 + k, none⟩) hb3 hc1
              have g4 := fun u : Gr wr => u.cell (p := ⟨b4, off4 + i2, none⟩) hb4 hc2
              cases o
              all_goals
                refine wp_region_grow (by kernel_rfl) (by kernel_rfl) ?_
                repeat (go_big_quiet_step ((go_at_call 24; exact Gr.call _ (subsumes_val r _ _ _ _ _ _ _ _ _ (HR1.out.below (Gr.ok _)) (HR2.out.below (Gr.ok _)) HX1.out HX2.out HR.out))))
                refine wpQuiet_nil ?_
                rintro w7 ⟨⟨_, hb7⟩, rfl⟩
                have HB7 := Lib.hid (HB6.out.trans (hb7.mono HB6.out.size))
                clear hb7 g0 g1 g2 g3 g4
                go_wp2_with fail
                go_roundw
                case rel => exact ⟨k + 1, by omega, by go_num, by rw [E.out, HR.out]; rfl, HB7.out⟩
                case measure => simp [intOf]; omega
            · have e1 : orT os (ell ls i2) k = true := by
                unfold orT
                rw [List.take_of_length_le (by rw [HL.out]; omega)]
                exact HOV.out i2 hli
              rw [e1]
              clear e1
              go_wp2_with fail
              go_roundw
              case rel => exact ⟨i2 + 1, by omega, by go_num, HB6.out⟩
              case measure => simp [intOf]; omega
        · have hs2' := hs2 A3 c3 _ HS4.out.l'
          obtain ⟨v, hv⟩ : ∃ v, valueT x ls bs = v := ⟨_, rfl⟩
          have HV1 := Lib.hid hv
          have HV2 := Lib.hid (HVL.out.trans hv)
          clear hs2 hv
          go_upto_region 27 with (go_at_call 19; refine hs2'.mono ?_; clear hs2'; rintro e w8 ⟨A6, c6, rfl, hr6, hb6⟩; have HR6 := Lib.hid hr6; have HB6 := Lib.hid hb6; clear hr6 hb6 p0 p1 q0 q1)
          have HB9 : Hid (Below wr.heap.size wr (w8.alloc (.cells #[.int .i64 x, .slice A6 L c6] 29))) := Lib.hid (HB6.out.alloc HB6.out.size _)
          have T9 := Lib.hid (Two.new w8 (.int .i64 x) (.slice A6 L c6))
          have HR9 := Lib.hid (HR6.out.alloc (.cells #[.int .i64 x, .slice A6 L c6] 29))
          generalize hW9 : w8.alloc (.cells #[.int .i64 x, .slice A6 L c6] 29) = W9 at *
          have HS9 := Lib.hid (HS4.out.more HB9.out)
          clear hW9
          have g0 := fun u : Gr W9 => u.cell (p := ⟨w3.heap.size, 0, none⟩) HS9.out.b'.lt HS9.out.b'.c0
          have g1 := fun u : Gr W9 => u.cell (p := ⟨w3.heap.size, 1, none⟩) HS9.out.b'.lt HS9.out.b'.c1
          have g2 := fun u : Gr W9 => u.cell (p := ⟨w.heap.size, 0, none⟩) HS9.out.b.lt HS9.out.b.c0
          have g3 := fun u : Gr W9 => u.cell (p := ⟨w.heap.size, 1, none⟩) HS9.out.b.lt HS9.out.b.c1
          have g4 := fun u : Gr W9 => u.cell (p := ⟨w8.heap.size, 0, none⟩) T9.out.lt T9.out.c0
          have g5 := fun u : Gr W9 => u.cell (p := ⟨w8.heap.size, 1, none⟩) T9.out.lt T9.out.c1
          have hle' : (L : Int) ≤ (n : Int) := by omega
          refine wp_region_grow (by kernel_rfl) (by kernel_rfl) ?_
          repeat (go_big_quiet_step ((first
            | (go_at_call 28; exact Gr.call _ (cnfSame_true x A3 L c3 os A6 c6 _ (HS9.out.l'.below (Gr.ok _)) (HR9.out.below (Gr.ok _))))
            | (go_at_call 27; exact Gr.call _ (value_val v x _ _ _ _ A' n' c' bs _ (by first | exact HS9.out.l.below (Gr.ok _) | exact HS9.out.l'.below (Gr.ok _)) (HS9.out.t.below (Gr.ok _)) (by first | exact HV1.out | exact HV2.out))))))
          refine wpQuiet_nil ?_
          rintro w10 ⟨⟨_, hb10⟩, rfl⟩
          have HB10 := Lib.hid hb10
          clear hb10 g0 g1 g2 g3 g4 g5
          go_wp2_with fail
          go_ret
          exact ⟨ret_bool (by simp), HS9.out.below.trans (HB10.out.mono HS9.out.below.size)⟩

theorem subsumeEq_any (x : Int) (A : Option Addr) (n c : Nat) (ls : List (List Int)) (A' : Option Addr) (n' c' : Nat) (bs : List Bool) (w : World) (h : RL w A n c ls) (h' : RB w A' n' c' bs) :
    Calls Try.prog 9 #[.agg #[.int .i64 x, .slice A n c], .slice A' n' c'] w (Truly w) := by
  by_cases hf : fewL ls = false ∨ 300 < n'
  · exact subsumeEq_few x A n c ls A' n' c' bs w h hf
  · have hf1 : fewL ls = true := by
      cases hh : fewL ls with
      | true => rfl
      | false => exact absurd (Or.inl hh) hf
    by_cases hE : checkE x ls = 0
    · exact subsumeEq_ok x A n c ls A' n' c' bs w h h' hf1 (by omega) hE
    · exact subsumeEq_bad x A n c ls A' n' c' w h hf1 (by omega) hE

end Go.Proofs.Ytalcnkoidmoibaa
