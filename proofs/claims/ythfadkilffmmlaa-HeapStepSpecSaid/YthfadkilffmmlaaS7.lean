/-
  Contract of the library's partialInsertionSort over the order of the queue. No condition.
-/
import Derived.Test.YthfadkilffmmlaaS6
namespace Go.Proofs.Ythfadkilffmmlaa
open Go.RowKit
set_option linter.unusedVariables false
set_option linter.unusedSimpArgs false
set_option linter.unusedSectionVars false

theorem SortedSeg.snoc {act : List Int} {a i : Nat} {zs : List Int} (h : SortedSeg act a i zs) (h1 : a + 1 ≤ i) (hn : ¬ ltO act (elt zs i) (elt zs (i - 1))) : SortedSeg act a (i + 1) zs := by
  intro p q h2 h3 h4
  by_cases e : q = i
  · subst e
    by_cases e2 : p = q - 1
    · subst e2; exact hn
    · exact leO_trans (h p (q - 1) h2 (by omega) (by omega)) hn
  · exact h p q h2 h3 (by omega)
theorem SortedSeg.one {act : List Int} {a : Nat} {zs : List Int} : SortedSeg act a (a + 1) zs := fun p q h1 h2 h3 => by omega
theorem SortedSeg.less {act : List Int} {a i j : Nat} {zs : List Int} (h : SortedSeg act a i zs) (hj : j ≤ i) : SortedSeg act a j zs := fun p q h1 h2 h3 => h p q h1 h2 (by omega)
theorem SortedSeg.swap_out {act : List Int} {a i x y : Nat} {zs : List Int} (h : SortedSeg act a i zs) (hx : i ≤ x) (hy : i ≤ y) (lx : x < zs.length) (ly : y < zs.length) : SortedSeg act a i (swp zs x y) := by
  intro p q h1 h2 h3
  rw [elt_swp _ _ _ _ lx ly, elt_swp _ _ _ _ lx ly, if_neg (by omega), if_neg (by omega), if_neg (by omega), if_neg (by omega)]
  exact h p q h1 h2 h3

def Partial (act : List Int) (W0 : World) (g : Nat) (rest : List Value) (zs : List Int) (a b : Nat) (e : Ending) (W : World) : Prop :=
  ∃ (zs' : List Int) (t : Bool), e = .returned (.bool t) ∧ Srt W0 g rest zs' W ∧ Seg a b zs zs' ∧ (t = true → SortedSeg act a b zs')

set_option maxRecDepth 100000 in
set_option maxHeartbeats 8000000 in
theorem partial_any (W0 : World) (g B : Nat) (act : List Int) (C : Cx W0 g B act) (rest : List Value) (zs0 : List Int) (hd : Dom act.length zs0) (n c0 a b : Nat) (W : World) (hS : Srt W0 g rest zs0 W) (hn : zs0.length = n) (hbig : n ≤ 1000000) (hab : a < b) (hbn : b ≤ n) (hlow : Low act a b zs0) :
    Calls Try.prog 63 #[.slice (some ⟨g, 0, none⟩) n c0, .int .i64 a, .int .i64 b, fvO B] W (Partial act W0 g rest zs0 a b) := by
  have HS := Lib.hid hS
  have HC := Lib.hid C
  have HD := Lib.hid hd
  have HN := Lib.hid hn
  have HL := Lib.hid hlow
  clear hn hS C hd hlow
  go_enter Try.func63, Try.ntmps63
  go_wp2_with fail
  go_loopw [9, 10, 11, 12] (fun s t _ _ wr => ∃ (i j : Nat) (ys : List Int), s = .int .i64 i ∧ t = .int .i64 j ∧ a + 1 ≤ i ∧ i ≤ b ∧ j ≤ 5 ∧ Srt W0 g rest ys wr ∧ Seg a b zs0 ys ∧ SortedSeg act a i ys) (fun _ t _ _ _ => 5 - (intOf t).toNat)
  case atStart => exact ⟨a + 1, 0, zs0, by go_num, rfl, by omega, by omega, by omega, HS.out, Seg.refl _ _ _, SortedSeg.one⟩
  case round =>
    obtain ⟨i0, j, ys, rfl, rfl, hi1, hi2, hj, hsr, hseg, hso⟩ := hrel
    have S1 := Lib.hid hsr
    have SEG0 := Lib.hid hseg
    have KO := Lib.hid hso
    have hyl : Hid (ys.length = n) := by have := hseg.len; rw [HN.out] at this; exact this
    have DY := Lib.hid (HD.out.seg SEG0.out)
    clear hsr hseg hso
    by_cases hj5 : j < 5
    · have t5 : (j : Int) < 5 := by omega
      obtain ⟨wo, hwo⟩ : ∃ wo : World, wo = wr := ⟨_, rfl⟩
      subst hwo
      go_upto_block 2 with fail
      go_cut [9] (fun s wx => ∃ i : Nat, s = .int .i64 i ∧ a + 1 ≤ i ∧ i ≤ b ∧ Srt W0 g rest ys wx ∧ SortedSeg act a i ys ∧ (i = b ∨ ltO act (elt ys i) (elt ys (i - 1))))
      case first =>
        go_wp2_with fail
        go_loopw [9] (fun s wr => ∃ i : Nat, s = .int .i64 i ∧ a + 1 ≤ i ∧ i ≤ b ∧ Srt W0 g rest ys wr ∧ SortedSeg act a i ys) (fun s _ => b + 1 - (intOf s).toNat)
        case atStart => exact ⟨i0, rfl, hi1, hi2, S1.out, KO.out⟩
        case round =>
          obtain ⟨i, rfl, z1, z2, hsr, hso⟩ := hrel
          have KS := Lib.hid hsr
          have KI := Lib.hid hso
          clear hsr hso
          by_cases hib : i < b
          · have t1 : (i : Int) < (b : Int) := by omega
            obtain ⟨y, hy⟩ : ∃ y, y = i - 1 := ⟨_, rfl⟩
            have e1 : (i : Int) - 1 = (y : Int) := by omega
            have k1 := wr64 y (by omega)
            have lx : (i : Int) < n := by omega
            have ly : (y : Int) < n := by omega
            have ix : i < ys.length := by rw [hyl.out]; omega
            have iy : y < ys.length := by rw [hyl.out]; omega
            have HY := Lib.hid hy
            have IX := Lib.hid ix; have IY := Lib.hid iy
            clear ix iy hy
            have q1 := fun u : Gr wr => u.srt KS.out IX.out
            have q2 := fun u : Gr wr => u.srt KS.out IY.out
            generalize ho : ordI act (elt ys i) (elt ys y) = o
            have HO := Lib.hid ho
            clear ho
            by_cases hs : o < 0
            · have hsd : decide (o < 0) = true := decide_eq_true hs
              go_wp2_with fail
              refine wp_region_grow (by kernel_rfl) (by kernel_rfl) ?_
              repeat (go_big_quiet_step ((go_at_call 41; exact HC.out.gr KS.out _ (DY.out.at_ IX.out) (DY.out.at_ IY.out) HO.out)))
              refine wpQuiet_nil ?_
              intro w2 hb2; replace hb2 := Gr.out hb2
              have S2 := Lib.hid (KS.out.below hb2)
              clear q1 q2 hb2
              go_wp2_with fail
              go_meet
              exact ⟨i, rfl, z1, z2, S2.out, KI.out, .inr (show ordI act _ _ < 0 by rw [← HY.out, HO.out]; exact hs)⟩
            · have hsd : decide (o < 0) = false := decide_eq_false hs
              go_wp2_with fail
              refine wp_region_grow (by kernel_rfl) (by kernel_rfl) ?_
              repeat (go_big_quiet_step ((go_at_call 41; exact HC.out.gr KS.out _ (DY.out.at_ IX.out) (DY.out.at_ IY.out) HO.out)))
              refine wpQuiet_nil ?_
              intro w2 hb2; replace hb2 := Gr.out hb2
              have S2 := Lib.hid (KS.out.below hb2)
              clear q1 q2 hb2
              go_wp2_with fail
              go_roundw
              case rel => exact ⟨i + 1, by go_num, by omega, by omega, S2.out, KI.out.snoc z1 (show ¬ ordI act _ _ < 0 by rw [← HY.out, HO.out]; omega)⟩
              case measure => simp [intOf]; omega
          · have t1 : ¬ (i : Int) < (b : Int) := by omega
            have t2 : decide ((i : Int) < (b : Int)) = false := decide_eq_false t1
            go_wp2_with fail
            refine wp_region_grow (by kernel_rfl) (by kernel_rfl) ?_
            repeat (go_big_quiet_step (fail))
            refine wpQuiet_nil ?_
            intro w2 hb2; replace hb2 := Gr.out hb2
            have S2 := Lib.hid (KS.out.below hb2)
            clear hb2
            go_wp2_with fail
            go_meet
            exact ⟨i, rfl, z1, z2, S2.out, KI.out, .inl (by omega)⟩
      case rest =>
        obtain ⟨i, rfl, z1, z2, hsr, hso, hex⟩ := hcut
        have KS := Lib.hid hsr
        have KI := Lib.hid hso
        have EX := Lib.hid hex
        clear hsr hso hex KO S1
        by_cases hib : i = b
        · have t1 : ((i : Int) == (b : Int)) = true := by rw [beq_iff_eq]; omega
          have HIB := Lib.hid hib
          clear hib
          go_wp2_with fail
          go_ret
          exact ⟨ys, true, rfl, KS.out, SEG0.out, fun _ => by have := KI.out; rwa [HIB.out] at this⟩
        · have t1 : ((i : Int) == (b : Int)) = false := beq_eq_false_iff_ne.2 (by omega)
          by_cases h50 : b < a + 50
          · have t2 : (b : Int) - (a : Int) < 50 := by omega
            go_wp2_with fail
            go_ret
            exact ⟨ys, false, rfl, KS.out, SEG0.out, fun h => by cases h⟩
          · have t2 : ¬ (b : Int) - (a : Int) < 50 := by omega
            obtain ⟨y, hy⟩ : ∃ y, y = i - 1 := ⟨_, rfl⟩
            have e1 : (i : Int) - 1 = (y : Int) := by omega
            have k1 := wr64 y (by omega)
            have lx : (i : Int) < n := by omega
            have ly : (y : Int) < n := by omega
            have ix : i < ys.length := by rw [hyl.out]; omega
            have iy : y < ys.length := by rw [hyl.out]; omega
            have HY := Lib.hid hy
            have IX := Lib.hid ix; have IY := Lib.hid iy
            have hyi : y + 1 = i := by omega
            have HYI := Lib.hid hyi
            have hya : a ≤ y := by omega
            have KSS := Lib.hid ((KI.out.less (show y ≤ i by omega)).swap_out (x := i) (y := y) (by omega) (Nat.le_refl _) ix iy)
            have SEG1 : Hid (Seg a b zs0 (swp ys i y)) := SEG0.out.trans (Seg.swp _ (by omega) (by omega) (by rw [hyl.out]; omega))
            clear ix iy hy hyi
            have c1 := KS.out.cell IX.out
            have c2 := KS.out.cell IY.out
            have f1 : wc.frozen? ⟨g, i, none⟩ = false := KS.out.frozen _
            have f2 : wc.frozen? ⟨g, y, none⟩ = false := KS.out.frozen _
            have n1 : i ≠ y := by have := HYI.out; omega
            have n2 : y ≠ i := fun e => n1 e.symm
            have SS := Lib.hid ((KS.out.swp IX.out IY.out).drew)
            go_wp2_with fail
            go_region
            go_upto_if 65 with fail
            go_cut [11] (fun _ wx => ∃ ys : List Int, Srt W0 g rest ys wx ∧ Seg a b zs0 ys ∧ SortedSeg act a i ys)
            case first =>
              clear c1 c2 f1 f2 hyl DY SEG0 KI EX KS IX IY n1 n2
              by_cases h2 : a + 2 ≤ i
              · have t3 : (2 : Int) ≤ (i : Int) - (a : Int) := by omega
                go_wp2_with fail
                go_loopw [11] (fun s wr => ∃ (m : Nat) (ys : List Int), s = .int .i64 m ∧ a ≤ m ∧ m ≤ y ∧ Srt W0 g rest ys wr ∧ Seg a b zs0 ys ∧ InsInv act a y m ys) (fun s _ => (intOf s).toNat)
                case atStart => exact ⟨y, _, rfl, hya, Nat.le_refl _, SS.out, SEG1.out, InsInv.start KSS.out⟩
                case round =>
                  obtain ⟨m, ys, rfl, m1, m2, hsr, hseg, hins⟩ := hrel
                  have KS := Lib.hid hsr
                  have SEG0 := Lib.hid hseg
                  have KI := Lib.hid hins
                  have hyl : Hid (ys.length = n) := by have := hseg.len; rw [HN.out] at this; exact this
                  have DY := Lib.hid (HD.out.seg SEG0.out)
                  have LW := Lib.hid (HL.out.seg SEG0.out (by rw [HN.out]; exact hbn))
                  clear hsr hseg hins
                  by_cases hm : 1 ≤ m
                  · have t4 : (1 : Int) ≤ (m : Int) := by omega
                    obtain ⟨x, hx⟩ : ∃ x, x = m - 1 := ⟨_, rfl⟩
                    have e2 : (m : Int) - 1 = (x : Int) := by omega
                    have k2 := wr64 x (by omega)
                    have lx : (m : Int) < n := by have := HYI.out; omega
                    have ly : (x : Int) < n := by have := HYI.out; omega
                    have ix : m < ys.length := by rw [hyl.out]; have := HYI.out; omega
                    have iy : x < ys.length := by rw [hyl.out]; have := HYI.out; omega
                    have HX := Lib.hid hx
                    have IX := Lib.hid ix; have IY := Lib.hid iy
                    clear ix iy hx
                    have q1 := fun u : Gr wr => u.srt KS.out IX.out
                    have q2 := fun u : Gr wr => u.srt KS.out IY.out
                    generalize ho : ordI act (elt ys m) (elt ys x) = o
                    have HO := Lib.hid ho
                    clear ho
                    by_cases hs : o < 0
                    · have hsd : decide (o < 0) = true := decide_eq_true hs
                      have hlt : Hid (ltO act (elt ys m) (elt ys x)) := (show ordI act _ _ < 0 by rw [HO.out]; exact hs)
                      have ham : a < m := by
                        by_cases e : a = m
                        · exfalso
                          subst e
                          have := LW.out (by omega) a (Nat.le_refl _) (by omega)
                          rw [← HX.out] at this
                          exact this hlt.out
                        · omega
                      go_wp2_with fail
                      refine wp_region_grow (by kernel_rfl) (by kernel_rfl) ?_
                      repeat (go_big_quiet_step ((go_at_call 41; exact HC.out.gr KS.out _ (DY.out.at_ IX.out) (DY.out.at_ IY.out) HO.out)))
                      refine wpQuiet_nil ?_
                      intro w2 hb2; replace hb2 := Gr.out hb2
                      have S2 := Lib.hid (KS.out.below hb2)
                      clear q1 q2 hb2
                      have c1 := S2.out.cell IX.out
                      have c2 := S2.out.cell IY.out
                      have f1 : w2.frozen? ⟨g, m, none⟩ = false := S2.out.frozen _
                      have f2 : w2.frozen? ⟨g, x, none⟩ = false := S2.out.frozen _
                      have n1 : m ≠ x := by have := HX.out; omega
                      have n2 : x ≠ m := fun e => n1 e.symm
                      go_wp2_with fail
                      go_region
                      go_wp2_with fail
                      go_roundw
                      case rel =>
                        refine ⟨x, swp ys m x, rfl, by have := HX.out; omega, by have := HX.out; omega, (S2.out.swp IX.out IY.out).drew, SEG0.out.trans (Seg.swp _ (by have := HYI.out; omega) (by have := HX.out; have := HYI.out; omega) (by rw [hyl.out]; omega)), ?_⟩
                        have := hlt.out
                        rw [HX.out] at this ⊢
                        exact KI.out.step ham m2 (by rw [hyl.out]; have := HYI.out; omega) this
                      case measure => have := HX.out; simp [intOf]; omega
                    · have hsd : decide (o < 0) = false := decide_eq_false hs
                      go_wp2_with fail
                      refine wp_region_grow (by kernel_rfl) (by kernel_rfl) ?_
                      repeat (go_big_quiet_step ((go_at_call 41; exact HC.out.gr KS.out _ (DY.out.at_ IX.out) (DY.out.at_ IY.out) HO.out)))
                      refine wpQuiet_nil ?_
                      intro w2 hb2; replace hb2 := Gr.out hb2
                      have S2 := Lib.hid (KS.out.below hb2)
                      clear q1 q2 hb2
                      go_wp2_with fail
                      go_meet
                      refine ⟨ys, S2.out, SEG0.out, ?_⟩
                      have := KI.out.done m2 (.inr (show ¬ ordI act _ _ < 0 by rw [← HX.out, HO.out]; omega))
                      rwa [HYI.out] at this
                  · have t4 : ¬ (1 : Int) ≤ (m : Int) := by omega
                    go_wp2_with fail
                    go_meet
                    refine ⟨ys, KS.out, SEG0.out, ?_⟩
                    have := KI.out.done m2 (.inl (by omega))
                    rwa [HYI.out] at this
              · have t3 : ¬ (2 : Int) ≤ (i : Int) - (a : Int) := by omega
                go_wp2_with fail
                go_meet
                exact ⟨_, SS.out, SEG1.out, by rw [show i = a + 1 by omega]; exact SortedSeg.one⟩
            case rest =>
              obtain ⟨ys2, hsr, hseg, hso⟩ := hcut
              clear c1 c2 f1 f2 hyl DY SEG0 KI EX KS IX IY n1 n2 SS SEG1 KSS
              have S5 := Lib.hid hsr
              have SEG5 := Lib.hid hseg
              have KO5 := Lib.hid hso
              clear hsr hseg hso
              by_cases h2 : i + 2 ≤ b
              · have t3 : (2 : Int) ≤ (b : Int) - (i : Int) := by omega
                go_wp2_with fail
                go_loopw [12] (fun s wr => ∃ (m : Nat) (ys : List Int), s = .int .i64 m ∧ i + 1 ≤ m ∧ m ≤ b ∧ Srt W0 g rest ys wr ∧ Seg a b zs0 ys ∧ SortedSeg act a i ys) (fun s _ => b + 1 - (intOf s).toNat)
                case atStart => exact ⟨i + 1, _, by go_num, Nat.le_refl _, by omega, S5.out, SEG5.out, KO5.out⟩
                case round =>
                  obtain ⟨m, ys, rfl, m1, m2, hsr, hseg, hins⟩ := hrel
                  have KS := Lib.hid hsr
                  have SEG0 := Lib.hid hseg
                  have KI := Lib.hid hins
                  have hyl : Hid (ys.length = n) := by have := hseg.len; rw [HN.out] at this; exact this
                  have DY := Lib.hid (HD.out.seg SEG0.out)
                  clear hsr hseg hins
                  by_cases hm : m < b
                  · have t4 : (m : Int) < (b : Int) := by omega
                    obtain ⟨x, hx⟩ : ∃ x, x = m - 1 := ⟨_, rfl⟩
                    have e2 : (m : Int) - 1 = (x : Int) := by omega
                    have k2 := wr64 x (by omega)
                    have lx : (m : Int) < n := by omega
                    have ly : (x : Int) < n := by omega
                    have ix : m < ys.length := by rw [hyl.out]; omega
                    have iy : x < ys.length := by rw [hyl.out]; omega
                    have HX := Lib.hid hx
                    have IX := Lib.hid ix; have IY := Lib.hid iy
                    clear ix iy hx
                    have q1 := fun u : Gr wr => u.srt KS.out IX.out
                    have q2 := fun u : Gr wr => u.srt KS.out IY.out
                    generalize ho : ordI act (elt ys m) (elt ys x) = o
                    have HO := Lib.hid ho
                    clear ho
                    by_cases hs : o < 0
                    · have hsd : decide (o < 0) = true := decide_eq_true hs
                      go_wp2_with fail
                      refine wp_region_grow (by kernel_rfl) (by kernel_rfl) ?_
                      repeat (go_big_quiet_step ((go_at_call 41; exact HC.out.gr KS.out _ (DY.out.at_ IX.out) (DY.out.at_ IY.out) HO.out)))
                      refine wpQuiet_nil ?_
                      intro w2 hb2; replace hb2 := Gr.out hb2
                      have S2 := Lib.hid (KS.out.below hb2)
                      clear q1 q2 hb2
                      have c1 := S2.out.cell IX.out
                      have c2 := S2.out.cell IY.out
                      have f1 : w2.frozen? ⟨g, m, none⟩ = false := S2.out.frozen _
                      have f2 : w2.frozen? ⟨g, x, none⟩ = false := S2.out.frozen _
                      have n1 : m ≠ x := by have := HX.out; omega
                      have n2 : x ≠ m := fun e => n1 e.symm
                      go_wp2_with fail
                      go_region
                      go_wp2_with fail
                      go_roundw
                      case rel => exact ⟨m + 1, swp ys m x, by go_num, by omega, by omega, (S2.out.swp IX.out IY.out).drew, SEG0.out.trans (Seg.swp _ (by omega) (by have := HX.out; omega) (by rw [hyl.out]; omega)), KI.out.swap_out (by omega) (by have := HX.out; omega) IX.out IY.out⟩
                      case measure => simp [intOf]; omega
                    · have hsd : decide (o < 0) = false := decide_eq_false hs
                      go_wp2_with fail
                      refine wp_region_grow (by kernel_rfl) (by kernel_rfl) ?_
                      repeat (go_big_quiet_step ((go_at_call 41; exact HC.out.gr KS.out _ (DY.out.at_ IX.out) (DY.out.at_ IY.out) HO.out)))
                      refine wpQuiet_nil ?_
                      intro w2 hb2; replace hb2 := Gr.out hb2
                      have S2 := Lib.hid (KS.out.below hb2)
                      clear q1 q2 hb2
                      go_wp2_with fail
                      go_roundw
                      case rel => exact ⟨i, j + 1, ys, rfl, by go_num, z1, z2, by omega, S2.out, SEG0.out, KI.out⟩
                      case measure => simp [intOf]; omega
                  · have t4 : ¬ (m : Int) < (b : Int) := by omega
                    go_wp2_with fail
                    go_roundw
                    case rel => exact ⟨i, j + 1, ys, rfl, by go_num, z1, z2, by omega, KS.out, SEG0.out, KI.out⟩
                    case measure => simp [intOf]; omega
              · have t3 : ¬ (2 : Int) ≤ (b : Int) - (i : Int) := by omega
                go_wp2_with fail
                go_roundw
                case rel => exact ⟨i, j + 1, _, rfl, by go_num, z1, z2, by omega, S5.out, SEG5.out, KO5.out⟩
                case measure => simp [intOf]; omega
    · have t5 : ¬ (j : Int) < 5 := by omega
      go_wp2_with fail
      go_ret
      exact ⟨ys, false, rfl, S1.out, SEG0.out, fun h => by cases h⟩

end Go.Proofs.Ythfadkilffmmlaa
