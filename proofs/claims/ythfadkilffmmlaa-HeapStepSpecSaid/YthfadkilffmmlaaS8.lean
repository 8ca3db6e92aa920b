/-
  Contract of the library's pdqsort and of slices.SortFunc over the order of the queue. No condition.
-/
import Derived.Test.YthfadkilffmmlaaS7
import Derived.Test.YthfadkilffmmlaaW9
namespace Go.Proofs.Ythfadkilffmmlaa
open Go.RowKit
set_option linter.unusedVariables false
set_option linter.unusedSimpArgs false
set_option linter.unusedSectionVars false

section
variable (W0 : World) (g B : Nat) (act : List Int) (C : Cx W0 g B act) (rest : List Value) (n c0 : Nat) (hbig : n ≤ 1000000)
include C hbig

/-- what is asked of pdqsort on segments of at most L elements -/
def PdqOk (act : List Int) (W0 : World) (g B : Nat) (rest : List Value) (n c0 L : Nat) : Prop :=
  ∀ (a b lim : Nat) (zs0 : List Int) (W : World), b - a ≤ L → a ≤ b → b ≤ n → lim ≤ 1000 → zs0.length = n → Dom act.length zs0 → Srt W0 g rest zs0 W → Low act a b zs0 →
    Calls Try.prog 54 #[.slice (some ⟨g, 0, none⟩) n c0, .int .i64 a, .int .i64 b, .int .i64 lim, fvO B] W (Sorts act a b W0 g rest zs0)

set_option maxRecDepth 100000 in
set_option maxHeartbeats 8000000 in
theorem pdq_step (L : Nat) (ih : ∀ L', L' < L → PdqOk act W0 g B rest n c0 L') : PdqOk act W0 g B rest n c0 L := by
  intro a b lim zs0 W hL hab hbn hlim hn hd hS hlow
  have HS := Lib.hid hS
  have HC := Lib.hid C
  have HD := Lib.hid hd
  have HN := Lib.hid hn
  have HL := Lib.hid hlow
  have HG := Lib.hid C.hg
  have IH := Lib.hid ih
  clear hn hS C hd hlow ih
  go_enter Try.func54, Try.ntmps54
  go_wp2_with fail
  go_loopw [1, 2, 3, 10, 11] (fun s1 s2 s3 s10 s11 wr => ∃ (x y l : Nat) (wb wp : Bool) (ys : List Int), s1 = .int .i64 x ∧ s2 = .int .i64 y ∧ s3 = .int .i64 l ∧ s10 = .bool wb ∧ s11 = .bool wp ∧ a ≤ x ∧ x ≤ y ∧ y ≤ b ∧ l ≤ 1000 ∧ Srt W0 g rest ys wr ∧ Seg a b zs0 ys ∧ Fin_ act a b x y ys) (fun s1 s2 _ _ _ _ => (intOf s2).toNat - (intOf s1).toNat)
  case atStart => exact ⟨a, b, lim, true, true, zs0, rfl, rfl, rfl, rfl, rfl, Nat.le_refl _, hab, Nat.le_refl _, hlim, HS.out, Seg.refl _ _ _, Fin_.start⟩
  case round =>
    obtain ⟨x, y, l, wb, wp, ys0, rfl, rfl, rfl, rfl, rfl, hax, hxy, hyb, hl, hsr, hseg, hfin⟩ := hrel
    have K0 := Lib.hid hsr
    have SEG0 := Lib.hid hseg
    have FIN0 := Lib.hid hfin
    have hyl : Hid (ys0.length = n) := by have := hseg.len; rw [HN.out] at this; exact this
    have DY := Lib.hid (HD.out.seg SEG0.out)
    have LW := Lib.hid (Low.of_fin hfin (HL.out.seg hseg (by rw [HN.out]; exact hbn)) hax hyb)
    clear hsr hseg hfin
    obtain ⟨m, hm⟩ : ∃ m, m = y - x := ⟨_, rfl⟩
    have em : (y : Int) - (x : Int) = (m : Int) := by omega
    have HM := Lib.hid (show x + m = y by omega)
    have hmL : m ≤ L := by omega
    have hyn : y ≤ n := by omega
    clear hm
    obtain ⟨wo, hwo⟩ : ∃ wo : World, wo = wr := ⟨_, rfl⟩
    subst hwo
    -- what a sort of x .. y - 1 gives
    have fin : ∀ (e : Ending) (W' : World), Sorts act x y W0 g rest ys0 e W' → Sorts act a b W0 g rest zs0 e W' := by
      rintro e W' ⟨zs', he, h1, h2, h3⟩
      exact ⟨zs', he, h1, SEG0.out.trans (h2.mono hax hyb), (FIN0.out.seg h2 hax hyb (by rw [hyl.out]; omega)).done h3⟩
    have FN := Lib.hid fin
    clear fin
    by_cases h12 : m ≤ 12
    · have t1 : (m : Int) ≤ 12 := by omega
      go_wp2_with fail
      refine (insertion_any W0 g B act HC.out rest ys0 DY.out n c0 x y _ K0.out hyl.out (by omega) hxy hyn).mono ?_
      intro e w2 hs
      have HS2 := Lib.hid (FN.out e w2 hs)
      obtain ⟨_, rfl, _⟩ := hs
      go_wp2_with fail
      (try simp only [Exit.inBlock, Exit.then])
      refine bodyPost_ret (results_none rfl _ _ _) rfl ?_
      exact HS2.out
    · have t1 : ¬ (m : Int) ≤ 12 := by omega
      have hxy12 : x + 12 < y := by have := HM.out; omega
      by_cases hl0 : l = 0
      · subst hl0
        have t2 : (((0 : Nat) : Int) == 0) = true := rfl
        go_wp2_with fail
        refine (heapSort_any W0 g B act HC.out rest ys0 DY.out n c0 x y _ K0.out hyl.out hbig (by omega) hyn).mono ?_
        intro e w2 hs
        have HS2 := Lib.hid (FN.out e w2 hs)
        obtain ⟨_, rfl, _⟩ := hs
        go_wp2_with fail
        (try simp only [Exit.inBlock, Exit.then])
        refine bodyPost_ret (results_none rfl _ _ _) rfl ?_
        exact HS2.out
      · have t2 : ((l : Int) == 0) = false := beq_eq_false_iff_ne.2 (by omega)
        go_upto_if 39 with fail
        go_cut [3] (fun s wx => ∃ (l2 : Nat) (ys : List Int), s = .int .i64 l2 ∧ l2 ≤ 1000 ∧ Srt W0 g rest ys wx ∧ Seg x y ys0 ys)
        case first =>
          cases wb
          · go_wp2_with fail
            refine (break_any W0 g B rest ys0 n c0 x y _ K0.out HG.out hyl.out hbig hxy12 hyn).mono ?_
            rintro e w2 ⟨zs', rfl, s1, s2⟩
            have S1 := Lib.hid s1; have S2 := Lib.hid s2
            clear s1 s2
            go_wp2_with fail
            go_meet
            exact ⟨l - 1, zs', congrArg (Value.int .i64) (by omega), by omega, S1.out, S2.out⟩
          · go_wp2_with fail
            go_meet
            exact ⟨l, ys0, rfl, hl, K0.out, Seg.refl _ _ _⟩
        case rest =>
          obtain ⟨l2, ys1, rfl, hl2, hsr, hseg⟩ := hcut
          have K1 := Lib.hid hsr
          have SEG1 := Lib.hid hseg
          have hyl1 : Hid (ys1.length = n) := by have := hseg.len; rw [hyl.out] at this; exact this
          have DY1 := Lib.hid (DY.out.seg SEG1.out)
          clear hsr hseg t2 hl0 hl
          go_wp2_with fail
          refine (choose_any W0 g B act HC.out rest ys1 DY1.out n c0 hyl1.out hbig x y _ hxy12 hyn K1.out).mono ?_
          rintro e w2 ⟨pv, h, rfl, hp1, hp2, hh, k2⟩
          have K2 := Lib.hid k2
          clear k2 K1
          go_upto_if 56 with fail
          go_cut [13, 14] (fun s t wx => ∃ (pv : Nat) (h : Int) (ys : List Int), s = .int .i64 pv ∧ t = .int .i64 h ∧ x ≤ pv ∧ pv < y ∧ (h = 0 ∨ h = 1) ∧ Srt W0 g rest ys wx ∧ Seg x y ys0 ys)
          case first =>
            by_cases h2 : h = 2
            · have t3 : (h == 2) = true := by simpa using h2
              clear h2 hh
              go_wp2_with fail
              refine (reverse_any W0 g B rest ys1 n c0 x y _ K2.out hyl1.out hbig (by omega) hyn).mono ?_
              rintro e w3 ⟨zs', rfl, s1, s2⟩
              have S1 := Lib.hid s1; have S2 := Lib.hid s2
              clear s1 s2
              go_wp2_with fail
              go_meet
              exact ⟨(y - 1) - (pv - x), 1, zs', congrArg (Value.int .i64) (by omega), rfl, by omega, by omega, .inr rfl, S1.out, SEG1.out.trans S2.out⟩
            · have t3 : (h == 2) = false := by simpa using h2
              have hh2 : h = 0 ∨ h = 1 := by omega
              have HH := Lib.hid hh2
              clear h2 hh hh2
              go_wp2_with fail
              go_meet
              exact ⟨pv, h, ys1, rfl, rfl, hp1, hp2, HH.out, K2.out, SEG1.out⟩
          case rest =>
            clear hp1 hp2 hh K2 hyl1 DY1 SEG1 pv h
            obtain ⟨pv, h, ys1, rfl, rfl, hp1, hp2, hh, hsr, hseg⟩ := hcut
            have K1 := Lib.hid hsr
            have SEG1 := Lib.hid hseg
            have hyl1 : Hid (ys1.length = n) := by have := hseg.len; rw [hyl.out] at this; exact this
            have DY1 := Lib.hid (DY.out.seg SEG1.out)
            have LW1 := Lib.hid (LW.out.seg SEG1.out (by rw [hyl.out]; exact hyn))
            clear hsr hseg
            go_upto_region 15 with fail
            go_cut [75] (fun s wx => (s = .bool true ∨ s = .bool false) ∧ Srt W0 g rest ys1 wx)
            case first =>
              cases wb
              · go_wp2_with fail
                go_meet
                exact ⟨.inr rfl, K1.out⟩
              · cases wp
                · go_wp2_with fail
                  go_meet
                  exact ⟨.inr rfl, K1.out⟩
                · rcases hh with rfl | rfl
                  · go_wp2_with fail
                    go_meet
                    exact ⟨.inr rfl, K1.out⟩
                  · go_wp2_with fail
                    go_meet
                    exact ⟨.inl rfl, K1.out⟩
            case rest =>
              obtain ⟨hb75, hsr⟩ := hcut
              clear K1
              have K1 := Lib.hid hsr
              have HB75 := Lib.hid hb75
              clear hsr hb75 hh
              go_upto_if 75 with fail
              go_cut [] (fun wx => ∃ ys : List Int, Srt W0 g rest ys wx ∧ Seg x y ys0 ys)
              case first =>
                rcases HB75.out with hb75 | hb75
                · subst hb75
                  go_wp2_with fail
                  refine (partial_any W0 g B act HC.out rest ys1 DY1.out n c0 x y _ K1.out hyl1.out hbig (by omega) hyn LW1.out).mono ?_
                  rintro e w3 ⟨zs', t, rfl, s1, s2, s3⟩
                  have S1 := Lib.hid s1; have S2 := Lib.hid s2; have S3 := Lib.hid s3
                  clear s1 s2 s3
                  cases t
                  · go_wp2_with fail
                    go_meet
                    exact ⟨zs', S1.out, SEG1.out.trans S2.out⟩
                  · go_wp2_with fail
                    (try simp only [Exit.inBlock, Exit.then])
                    refine bodyPost_ret (results_none rfl _ _ _) rfl ?_
                    exact FN.out _ _ ⟨zs', rfl, S1.out, SEG1.out.trans S2.out, by first | exact S3.out rfl | exact S3.out trivial⟩
                · subst hb75
                  go_wp2_with fail
                  go_meet
                  exact ⟨ys1, K1.out, SEG1.out⟩
              case rest =>
                clear K1 SEG1 hyl1 DY1 LW1 HB75 ys1
                obtain ⟨ys1, hsr, hseg⟩ := hcut
                have K1 := Lib.hid hsr
                have SEG1 := Lib.hid hseg
                have hyl1 : Hid (ys1.length = n) := by have := hseg.len; rw [hyl.out] at this; exact this
                have DY1 := Lib.hid (DY.out.seg SEG1.out)
                have LW1 := Lib.hid (LW.out.seg SEG1.out (by rw [hyl.out]; exact hyn))
                have FIN1 := Lib.hid (FIN0.out.seg SEG1.out hax hyb (by rw [hyl.out]; exact hyn))
                clear hsr hseg
                go_upto_region 17 with fail
                go_cut [97] (fun s wx => ∃ t : Bool, s = .bool t ∧ Srt W0 g rest ys1 wx ∧ (t = true → 0 < x ∧ ¬ ltO act (elt ys1 (x - 1)) (elt ys1 pv)))
                case first =>
                  by_cases hx0 : 0 < x
                  · have t3 : (0 : Int) < (x : Int) := by omega
                    obtain ⟨z, hz⟩ : ∃ z, z = x - 1 := ⟨_, rfl⟩
                    have e1 : (x : Int) - 1 = (z : Int) := by omega
                    have k1 := wr64 z (by omega)
                    have lx : (z : Int) < n := by omega
                    have ly : (pv : Int) < n := by omega
                    have ix : z < ys1.length := by rw [hyl1.out]; omega
                    have iy : pv < ys1.length := by rw [hyl1.out]; omega
                    have HZ := Lib.hid hz
                    have IX := Lib.hid ix; have IY := Lib.hid iy
                    clear ix iy hz
                    have q1 := fun u : Gr wc => u.srt K1.out IX.out
                    have q2 := fun u : Gr wc => u.srt K1.out IY.out
                    generalize ho : ordI act (elt ys1 z) (elt ys1 pv) = o
                    have HO := Lib.hid ho
                    clear ho
                    by_cases hs : o < 0
                    · have hsd : decide (o < 0) = true := decide_eq_true hs
                      go_wp2_with fail
                      refine wp_region_grow (by kernel_rfl) (by kernel_rfl) ?_
                      repeat (go_big_quiet_step ((go_at_call 41; exact HC.out.gr K1.out _ (DY1.out.at_ IX.out) (DY1.out.at_ IY.out) HO.out)))
                      refine wpQuiet_nil ?_
                      intro w2 hb2; replace hb2 := Gr.out hb2
                      have S2 := Lib.hid (K1.out.below hb2)
                      clear q1 q2 hb2
                      go_wp2_with fail
                      go_meet
                      exact ⟨false, rfl, S2.out, fun h => by cases h⟩
                    · have hsd : decide (o < 0) = false := decide_eq_false hs
                      go_wp2_with fail
                      refine wp_region_grow (by kernel_rfl) (by kernel_rfl) ?_
                      repeat (go_big_quiet_step ((go_at_call 41; exact HC.out.gr K1.out _ (DY1.out.at_ IX.out) (DY1.out.at_ IY.out) HO.out)))
                      refine wpQuiet_nil ?_
                      intro w2 hb2; replace hb2 := Gr.out hb2
                      have S2 := Lib.hid (K1.out.below hb2)
                      clear q1 q2 hb2
                      go_wp2_with fail
                      go_meet
                      exact ⟨true, rfl, S2.out, fun _ => ⟨hx0, show ¬ ordI act _ _ < 0 by rw [← HZ.out, HO.out]; omega⟩⟩
                  · have t3 : ¬ (0 : Int) < (x : Int) := by omega
                    have t4 : decide ((0 : Int) < (x : Int)) = false := decide_eq_false t3
                    go_wp2_with fail
                    refine wp_region_grow (by kernel_rfl) (by kernel_rfl) ?_
                    repeat (go_big_quiet_step (fail))
                    refine wpQuiet_nil ?_
                    intro w2 hb2; replace hb2 := Gr.out hb2
                    have S2 := Lib.hid (K1.out.below hb2)
                    clear hb2
                    go_wp2_with fail
                    go_meet
                    exact ⟨false, rfl, S2.out, fun h => by cases h⟩
                case rest =>
                  obtain ⟨t, rfl, hsr, hte⟩ := hcut
                  clear K1
                  have K1 := Lib.hid hsr
                  have HT := Lib.hid hte
                  clear hsr hte
                  cases t
                  · go_wp2_with fail
                    refine (partition_any W0 g B act HC.out rest ys1 DY1.out n c0 x y pv _ K1.out hyl1.out hbig hp1 hp2 hyn).mono ?_
                    rintro e w3 ⟨zs', mid, tt, rfl, s1, s2, s3⟩
                    have m1 := s3.lo
                    have m2 := s3.hi
                    have S1 := Lib.hid s1; have S2 := Lib.hid s2; have S3 := Lib.hid s3
                    have hyl2 : Hid (zs'.length = n) := by have := s2.len; rw [hyl1.out] at this; exact this
                    have DY2 := Lib.hid (DY1.out.seg S2.out)
                    have LW2 := Lib.hid (LW1.out.seg S2.out (by rw [hyl1.out]; exact hyn))
                    have FIN2 := Lib.hid (FIN1.out.seg S2.out hax hyb (by rw [hyl1.out]; exact hyn))
                    have SEG2 := Lib.hid (SEG1.out.trans S2.out)
                    clear s1 s2 s3
                    by_cases hlr : mid - x < y - mid
                    · have t5 : (mid : Int) - (x : Int) < (y : Int) - (mid : Int) := by omega
                      go_wp2_with fail
                      refine (IH.out (mid - x) (by have := HM.out; omega) x mid l2 zs' _ (Nat.le_refl _) m1 (by omega) hl2 hyl2.out DY2.out S1.out (LW2.out.left (by omega))).mono ?_
                      rintro e w4 ⟨zs2, rfl, u1, u2, u3⟩
                      have U1 := Lib.hid u1; have U2 := Lib.hid u2; have U3 := Lib.hid u3
                      clear u1 u2 u3
                      go_wp2_with fail
                      go_roundw
                      case rel =>
                        refine ⟨mid + 1, y, l2, _, tt, zs2, by go_num, rfl, rfl, rfl, rfl, by omega, by omega, hyb, hl2, U1.out, SEG0.out.trans ((SEG2.out.trans (U2.out.mono (Nat.le_refl _) (by omega))).mono hax hyb), ?_⟩
                        exact (S3.out.seg_left U2.out (by rw [hyl2.out]; omega)).fin_right (FIN2.out.seg (U2.out.mono (Nat.le_refl _) (by omega)) hax hyb (by rw [hyl2.out]; omega)) U3.out
                      case measure => simp [intOf]; omega
                    · have t5 : ¬ (mid : Int) - (x : Int) < (y : Int) - (mid : Int) := by omega
                      obtain ⟨md, hmd⟩ : ∃ md, md = mid + 1 := ⟨_, rfl⟩
                      have e1 : (mid : Int) + 1 = (md : Int) := by omega
                      have HMD := Lib.hid hmd
                      clear hmd
                      go_wp2_with fail
                      refine (IH.out (y - md) (by have := HM.out; have := HMD.out; omega) md y l2 zs' _ (Nat.le_refl _) (by have := HMD.out; omega) hyn hl2 hyl2.out DY2.out S1.out (by rw [HMD.out]; exact S3.out.low)).mono ?_
                      rintro e w4 ⟨zs2, rfl, u1, u2, u3⟩
                      have U1 := Lib.hid u1
                      have U2 : Hid (Seg (mid + 1) y zs' zs2) := by have := u2; rwa [HMD.out] at this
                      have U3 : Hid (SortedSeg act (mid + 1) y zs2) := by have := u3; rwa [HMD.out] at this
                      clear u1 u2 u3
                      go_wp2_with fail
                      go_roundw
                      case rel =>
                        refine ⟨x, mid, l2, _, tt, zs2, rfl, rfl, rfl, rfl, rfl, hax, m1, by omega, hl2, U1.out, SEG0.out.trans ((SEG2.out.trans (U2.out.mono (by omega) (Nat.le_refl _))).mono hax hyb), ?_⟩
                        exact (S3.out.seg_right U2.out (by rw [hyl2.out]; omega)).fin_left (FIN2.out.seg (U2.out.mono (by omega) (Nat.le_refl _)) hax hyb (by rw [hyl2.out]; omega)) U3.out
                      case measure => simp [intOf]; omega
                  · have HT2 := Lib.hid (HT.out rfl)
                    clear HT
                    go_wp2_with fail
                    refine (partitionEq_any W0 g B act HC.out rest ys1 DY1.out n c0 x y pv _ K1.out hyl1.out hbig hp1 hp2 hyn).mono ?_
                    rintro e w3 ⟨zs', mid, rfl, s1, s2, s3⟩
                    have m1 := s3.lo
                    have m2 := s3.hi
                    have S1 := Lib.hid s1; have S2 := Lib.hid s2; have S3 := Lib.hid s3
                    have LW2 := Lib.hid (LW1.out.seg S2.out (by rw [hyl1.out]; exact hyn))
                    have FIN2 := Lib.hid (FIN1.out.seg S2.out hax hyb (by rw [hyl1.out]; exact hyn))
                    clear s1 s2 s3
                    go_wp2_with fail
                    go_roundw
                    case rel =>
                      refine ⟨mid, y, l2, wb, wp, zs', rfl, rfl, rfl, rfl, rfl, by omega, m2, hyb, hl2, S1.out, SEG0.out.trans ((SEG1.out.trans S2.out).mono hax hyb), ?_⟩
                      refine S3.out.fin FIN2.out LW2.out HT2.out.1 ?_
                      rw [S2.out.out (x - 1) (.inl (by have := HT2.out.1; omega))]
                      exact HT2.out.2
                    case measure => simp [intOf]; omega

theorem pdq_any (L : Nat) : PdqOk act W0 g B rest n c0 L :=
  Nat.strongRecOn L fun L ih => pdq_step W0 g B act C rest n c0 hbig L ih
end

theorem bitLenAux_le : ∀ f x : Nat, Lib.bitLenAux f x ≤ f
  | 0, x => by simp [Lib.bitLenAux]
  | f + 1, x => by
    simp only [Lib.bitLenAux]
    have := bitLenAux_le f (x / 2)
    split
    · omega
    · omega
theorem bitLen_le (n : Nat) : Lib.bitLen n ≤ 64 := bitLenAux_le 64 n

set_option maxHeartbeats 1000000 in
theorem sort_all : SortOk 1000000 := by
  intro W0 g B act C rest zs0 hd n c W hS hn hN
  have HI := Lib.hid (fun lim hl => pdq_any W0 g B act C rest n c hN n 0 n lim zs0 W (by omega) (by omega) (Nat.le_refl _) hl hn hd hS (fun h => by omega))
  have hp := bitLen_le n
  clear C hd hS hn
  have hw : IntKind.u64.wrap (n : Int) = n := by rw [IntKind.wrap_u64]; omega
  go_enter Try.func47, Try.ntmps47
  go_wp2_with fail
  refine (Try.bits_Len (n : Int) _ (by omega) (by omega)).mono ?_
  rintro e w2 ⟨rfl, rfl⟩
  rw [Int.toNat_natCast]
  go_wp2_with fail
  refine (HI.out (Lib.bitLen n) (by omega)).mono ?_
  rintro e w2 ⟨zs', rfl, h1, h2, h3⟩
  go_wp2_with fail
  go_end0
  exact ⟨zs', rfl, h1, h2, h3⟩

end Go.Proofs.Ythfadkilffmmlaa
