/-
  Contracts of the library's heapSort over the order of the queue. No condition.
-/
import Derived.Test.YthfadkilffmmlaaS2
namespace Go.Proofs.Ythfadkilffmmlaa
open Go.RowKit
set_option linter.unusedVariables false
set_option linter.unusedSimpArgs false

theorem swp_self (zs : List Int) (i : Nat) (hi : i < zs.length) : swp zs i i = zs := by
  refine ext_elt (swp_len _ _ _) fun k hk => ?_
  rw [elt_swp _ _ _ _ hi hi]
  by_cases e : i = k
  · subst e; simp
  · simp [e]

set_option maxHeartbeats 4000000 in
theorem heapSort_any (W0 : World) (g B : Nat) (act : List Int) (C : Cx W0 g B act) (rest : List Value) (zs0 : List Int) (hd : Dom act.length zs0) (n c0 a b : Nat) (W : World) (hS : Srt W0 g rest zs0 W) (hn : zs0.length = n) (hbig : n ≤ 1000000) (hab : a < b) (hbn : b ≤ n) :
    Calls Try.prog 59 #[.slice (some ⟨g, 0, none⟩) n c0, .int .i64 a, .int .i64 b, fvO B] W (Sorts act a b W0 g rest zs0) := by
  obtain ⟨m, hm⟩ : ∃ m, m = b - a := ⟨_, rfl⟩
  have e1 : (b : Int) - (a : Int) = (m : Int) := by omega
  have HM := Lib.hid (show b = a + m by omega)
  have hm1 : 1 ≤ m := by omega
  have hmn : a + m ≤ n := by omega
  have HC := Lib.hid C
  have HD := Lib.hid hd
  have HS := Lib.hid hS
  have HN := Lib.hid hn
  clear C hd hS hn hm
  go_enter Try.func59, Try.ntmps59
  go_wp2_with fail
  go_loopw [11] (fun s wr => ∃ (i : Int) (ys : List Int), s = .int .i64 i ∧ -1 ≤ i ∧ i < m ∧ Srt W0 g rest ys wr ∧ Seg a (a + m) zs0 ys ∧ HeapAt act a (i + 1).toNat m ys) (fun s _ => (intOf s + 1).toNat)
  case atStart =>
    refine ⟨_, zs0, rfl, by omega, by omega, HS.out, Seg.refl _ _ _, HeapAt.begin_ (by omega)⟩
  case round =>
    obtain ⟨i, ys, rfl, hi1, hi2, hS, hG, hI⟩ := hrel
    have K1 := Lib.hid hS
    have K2 := Lib.hid hG
    have K3 := Lib.hid hI
    have hyl : Hid (ys.length = n) := by have := hG.len; rw [HN.out] at this; exact this
    clear hS hG hI
    by_cases h0 : 0 ≤ i
    · obtain ⟨j, rfl⟩ := Int.eq_ofNat_of_zero_le h0
      have hjm : j < m := by omega
      go_wp2_with fail
      refine (sift_any W0 g B act HC.out rest ys (HD.out.seg K2.out) n c0 j m a _ K1.out hyl.out hbig hmn (by omega) (by have := K3.out; rwa [show ((j : Int) + 1).toNat = j + 1 by omega] at this)).mono ?_
      rintro e w2 ⟨zs', rfl, s1, s2, s3⟩
      have S1 := Lib.hid s1; have S2 := Lib.hid s2; have S3 := Lib.hid s3
      clear s1 s2 s3
      go_wp2_with fail
      go_roundw
      case rel => exact ⟨(j : Int) - 1, zs', rfl, by omega, by omega, S1.out, K2.out.trans S2.out, by rw [show ((j : Int) - 1 + 1).toNat = j by omega]; exact S3.out⟩
      case measure => simp [intOf]
    · have hi3 : i = -1 := by omega
      subst hi3
      have HH : Hid (HeapAt act a 0 m ys) := K3.out
      go_wp2_with fail
      go_loopw [12] (fun s wr => ∃ (i : Int) (ys : List Int), s = .int .i64 i ∧ -1 ≤ i ∧ i < m ∧ Srt W0 g rest ys wr ∧ Seg a (a + m) zs0 ys ∧ Popd act a m (i + 1).toNat ys) (fun s _ => (intOf s + 1).toNat)
      case atStart => exact ⟨_, ys, rfl, by omega, by omega, K1.out, K2.out, by rw [show ((m : Int) - 1 + 1).toNat = m by omega]; exact Popd.start HH.out⟩
      case round =>
        clear HH K1 K2 K3 hyl h0 hi1 hi2
        obtain ⟨i, ys, rfl, hi1, hi2, hS, hG, hI⟩ := hrel
        have K1 := Lib.hid hS
        have K2 := Lib.hid hG
        have K3 := Lib.hid hI
        have hyl : Hid (ys.length = n) := by have := hG.len; rw [HN.out] at this; exact this
        clear hS hG hI
        by_cases h0 : 0 ≤ i
        · obtain ⟨j, rfl⟩ := Int.eq_ofNat_of_zero_le h0
          have hjm : j < m := by omega
          have KP : Hid (HeapAt act a 1 j (swp ys a (a + j)) ∧ Fin_ act a (a + m) a (a + j) (swp ys a (a + j))) := by
            have := K3.out; rw [show ((j : Int) + 1).toNat = j + 1 by omega] at this
            exact this.swap hjm (by rw [hyl.out]; omega)
          have SEG : Hid (Seg a (a + m) ys (swp ys a (a + j))) := Seg.swp _ (by omega) (by omega) (by rw [hyl.out]; omega)
          have l1 : (a : Int) < n := by omega
          have i1 : Hid (a < ys.length) := by show a < ys.length; rw [hyl.out]; omega
          have i2 : Hid (a + j < ys.length) := by show a + j < ys.length; rw [hyl.out]; omega
          obtain ⟨x, hx⟩ : ∃ x, x = a + j := ⟨_, rfl⟩
          rw [← hx] at KP SEG i2
          have HX := Lib.hid hx
          have l2 : (x : Int) < n := by omega
          by_cases hj0 : x = a
          · have e2 : (a : Int) + (j : Int) = (a : Int) := by omega
            rw [hj0] at KP SEG
            have hj1 : j = 0 := by omega
            have k1 := wr64 a (by omega)
            have c1 := K1.out.cell i1.out
            have f1 : wr.frozen? ⟨g, a, none⟩ = false := K1.out.frozen _
            have HJ := Lib.hid hj1
            clear hx hj0 i2 l2 hj1
            go_wp2_with fail
            go_region
            go_wp2_with fail
            have S4 := Lib.hid ((K1.out.swp i1.out i1.out).drew)
            refine (sift_any W0 g B act HC.out rest (swp ys a a) ((HD.out.seg K2.out).seg SEG.out) n c0 0 j a _ S4.out (by rw [swp_len]; exact hyl.out) hbig (by omega) (by omega) KP.out.1).mono ?_
            rintro e w2 ⟨zs', rfl, s1, s2, s3⟩
            have S1 := Lib.hid s1; have S2 := Lib.hid s2; have S3 := Lib.hid s3
            clear s1 s2 s3
            go_wp2_with fail
            go_roundw
            case rel =>
              refine ⟨(j : Int) - 1, zs', rfl, by omega, by omega, S1.out, (K2.out.trans SEG.out).trans (S2.out.mono (Nat.le_refl _) (by omega)), ?_⟩
              rw [show ((j : Int) - 1 + 1).toNat = j by omega]
              exact ⟨S3.out, by have := KP.out.2; rw [show a + j = a by have := HJ.out; omega] at S2 ⊢; exact this.seg S2.out (Nat.le_refl _) (by omega) (by rw [swp_len, hyl.out]; omega)⟩
            case measure => simp [intOf]
          · have e2 : (a : Int) + (j : Int) = (x : Int) := by omega
            have k1 := wr64 x (by omega)
            have c1 := K1.out.cell i1.out
            have c2 := K1.out.cell i2.out
            have f1 : wr.frozen? ⟨g, a, none⟩ = false := K1.out.frozen _
            have f2 : wr.frozen? ⟨g, x, none⟩ = false := K1.out.frozen _
            have n1 : a ≠ x := fun e => hj0 e.symm
            clear hx
            go_wp2_with fail
            go_region
            go_wp2_with fail
            have S4 := Lib.hid ((K1.out.swp i1.out i2.out).drew)
            refine (sift_any W0 g B act HC.out rest (swp ys a x) ((HD.out.seg K2.out).seg SEG.out) n c0 0 j a _ S4.out (by rw [swp_len]; exact hyl.out) hbig (by omega) (by omega) KP.out.1).mono ?_
            rintro e w2 ⟨zs', rfl, s1, s2, s3⟩
            have S1 := Lib.hid s1; have S2 := Lib.hid s2; have S3 := Lib.hid s3
            clear s1 s2 s3
            go_wp2_with fail
            go_roundw
            case rel =>
              refine ⟨(j : Int) - 1, zs', rfl, by omega, by omega, S1.out, (K2.out.trans SEG.out).trans (S2.out.mono (Nat.le_refl _) (by omega)), ?_⟩
              rw [show ((j : Int) - 1 + 1).toNat = j by omega]
              exact ⟨S3.out, by have := KP.out.2; rw [HX.out] at this S2; exact this.seg S2.out (Nat.le_refl _) (by omega) (by rw [swp_len, hyl.out]; omega)⟩
            case measure => simp [intOf]
        · have hi3 : i = -1 := by omega
          subst hi3
          have HH : Hid (Popd act a m 0 ys) := K3.out
          go_wp2_with fail
          go_end0
          refine ⟨ys, rfl, K1.out, ?_, ?_⟩
          · rw [HM.out]; exact K2.out
          · rw [HM.out]; exact HH.out.done

end Go.Proofs.Ythfadkilffmmlaa
