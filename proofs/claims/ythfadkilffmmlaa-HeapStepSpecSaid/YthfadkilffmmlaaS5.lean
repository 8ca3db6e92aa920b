/-
  Contracts of the library's breakPatterns over the order of the queue: it only exchanges elements. No condition.
-/
import Derived.Test.YthfadkilffmmlaaS4
import Derived.Test.YthfadkilffmmlaaShelf
import Derived.Laws.BitsAllLaws
import Derived.Laws.BitsLemmas
namespace Go.Proofs.Ythfadkilffmmlaa
open Go.RowKit
set_option linter.unusedVariables false
set_option linter.unusedSimpArgs false
set_option linter.unusedSectionVars false

theorem xor_some (a b : Int) : ∃ X : Nat, X < 18446744073709551616 ∧ bits .xor .u64 a b = (X : Int) := by
  refine ⟨((BitVec.ofInt 64 a ^^^ BitVec.ofInt 64 b).toNat : Int).toNat % 18446744073709551616, Nat.mod_lt _ (by omega), ?_⟩
  show IntKind.u64.wrap ((BitVec.ofInt 64 a ^^^ BitVec.ofInt 64 b).toNat : Int) = _
  rw [IntKind.wrap_u64]
  simp
theorem and_some (a : Int) (M : Nat) (h1 : 1 ≤ M) (h2 : M ≤ 4000000) : ∃ O : Nat, O < M ∧ bits .and .u64 a ((M : Int) - 1) = (O : Int) := by
  have e : BitVec.ofInt 64 ((M : Int) - 1) = BitVec.ofNat 64 (M - 1) := by
    rw [show ((M : Int) - 1) = ((M - 1 : Nat) : Int) by omega, BitVec.ofInt_natCast]
  have hle : (BitVec.ofInt 64 a &&& BitVec.ofInt 64 ((M : Int) - 1)).toNat ≤ M - 1 := by
    rw [e, BitVec.toNat_and]
    refine Nat.le_trans Nat.and_le_right ?_
    rw [BitVec.toNat_ofNat]
    exact Nat.mod_le _ _
  refine ⟨(BitVec.ofInt 64 a &&& BitVec.ofInt 64 ((M : Int) - 1)).toNat, by omega, ?_⟩
  show IntKind.u64.wrap ((BitVec.ofInt 64 a &&& BitVec.ofInt 64 ((M : Int) - 1)).toNat : Int) = _
  rw [IntKind.wrap_u64]
  omega
theorem pow_bitLen : ∀ (f x : Nat), x ≤ f → 1 ≤ x → x ≤ 1000000 → 2 ^ Lib.bitLen x ≤ 2 * x
  | 0, x, h, h1, _ => absurd h (by omega)
  | f + 1, x, h, h1, h2 => by
    rw [Lib.bitLen_half x (by omega) (by omega), Nat.add_comm, Nat.pow_succ]
    by_cases h0 : x / 2 = 0
    · rw [h0]; have : Lib.bitLen 0 = 0 := by decide
      rw [this]; simp; omega
    · have := pow_bitLen f (x / 2) (by omega) (by omega) (by omega)
      omega
theorem set_set (w : World) (b o : Nat) (v v' : Value) : (w.setCell ⟨b, o, none⟩ v).setCell ⟨b, o, none⟩ v' = w.setCell ⟨b, o, none⟩ v' := by
  simp only [World.setCell]
  congr 1
  apply Array.ext_getElem?
  intro i
  simp only [Array.getElem?_modify]
  split
  · subst_vars
    cases w.heap[i]? with
    | none => rfl
    | some x => cases x <;> simp
  · rfl

set_option maxHeartbeats 1000000 in
theorem nextPow_any (m : Nat) (w : World) (h1 : 1 ≤ m) (h2 : m ≤ 1000000) :
    Calls Try.prog 70 #[.int .i64 m] w fun e w' => e = .returned (.int .u64 ((2 ^ Lib.bitLen m : Nat) : Int)) ∧ w = w' := by
  have hp := pow_bitLen m m (Nat.le_refl _) h1 h2
  obtain ⟨M, hM⟩ : ∃ M : Nat, M = 2 ^ Lib.bitLen m := ⟨_, rfl⟩
  have hw : IntKind.u64.wrap (m : Int) = m := by rw [IntKind.wrap_u64]; omega
  have hs : IntKind.u64.wrap ((2 : Int) ^ Lib.bitLen m) = (M : Int) := by
    rw [IntKind.wrap_u64, hM]
    have : ((2 : Int) ^ Lib.bitLen m) = ((2 ^ Lib.bitLen m : Nat) : Int) := by simp
    rw [this]; omega
  have hk : Lib.bitLen m ≤ 62 := by
    rcases Nat.lt_or_ge 62 (Lib.bitLen m) with h | h
    · have := Nat.pow_le_pow_right (n := 2) (by omega) h; omega
    · exact h
  rw [← hM]
  clear hM hp
  go_enter Try.func70, Try.ntmps70
  go_wp2_with fail
  refine (Try.bits_Len (m : Int) _ (by omega) (by omega)).mono ?_
  rintro e w2 ⟨rfl, rfl⟩
  rw [Int.toNat_natCast]
  go_wp2_with fail
  go_ret
  exact ⟨rfl, rfl⟩

/-- a row being sorted, and a random number in a new block -/
structure Rv (W0 : World) (g : Nat) (rest : List Value) (zs : List Int) (c : Nat) (X : Nat) (W : World) : Prop where
  srt : Srt W0 g rest zs W
  blk : W.heap[c]? = some (.cells #[.int .u64 X] 80 (0, 0))
section
variable {W0 W W' : World} {g : Nat} {rest : List Value} {zs : List Int} {c X : Nat}
theorem Rv.cell (h : Rv W0 g rest zs c X W) : W.cell? ⟨c, 0, none⟩ = some (.int .u64 X) := by simp [World.cell?, h.blk]
theorem Rv.frozen (h : Rv W0 g rest zs c X W) : W.frozen? ⟨c, 0, none⟩ = false := by simp [World.frozen?, h.blk]
theorem Rv.set (h : Rv W0 g rest zs c X W) (hg : g < W0.heap.size) (hp : W0.heap.size ≤ c) (X' : Nat) : Rv W0 g rest zs c X' (W.setCell ⟨c, 0, none⟩ (.int .u64 X')) :=
  ⟨h.srt.new hg (p := ⟨c, 0, none⟩) hp _, by simp [World.setCell, Array.getElem?_modify, h.blk]⟩
theorem Rv.drew (h : Rv W0 g rest zs c X W) : Rv W0 g rest zs c X W.drew := ⟨h.srt.drew, h.blk⟩
theorem Rv.swp (h : Rv W0 g rest zs c X W) (hne : c ≠ g) {i j : Nat} (hi : i < zs.length) (hj : j < zs.length) :
    Rv W0 g rest (swp zs i j) c X ((W.setCell ⟨g, i, none⟩ (.int .i64 (elt zs j))).setCell ⟨g, j, none⟩ (.int .i64 (elt zs i))) :=
  ⟨h.srt.swp hi hj, (Below.heap_setCell _ _ _ _ hne).trans ((Below.heap_setCell _ _ _ _ hne).trans h.blk)⟩
end

def Nexts (W0 : World) (g : Nat) (rest : List Value) (zs : List Int) (c : Nat) (e : Ending) (W : World) : Prop :=
  ∃ X : Nat, e = .returned (.int .u64 X) ∧ X < 18446744073709551616 ∧ Rv W0 g rest zs c X W

set_option maxHeartbeats 2000000 in
theorem next_any (W0 : World) (g : Nat) (rest : List Value) (zs : List Int) (c X : Nat) (W : World) (hX : X < 18446744073709551616) (hg : g < W0.heap.size) (hc : W0.heap.size ≤ c) (hR : Rv W0 g rest zs c X W) :
    Calls Try.prog 71 #[.pointer (some ⟨c, 0, none⟩)] W (Nexts W0 g rest zs c) := by
  obtain ⟨A, hA, e1⟩ := xor_some (X : Int) (IntKind.u64.wrap ((X : Int) * 8192))
  obtain ⟨D, hD, e2⟩ := xor_some (A : Int) ((A : Int) / 128)
  obtain ⟨E, hE, e3⟩ := xor_some (D : Int) (IntKind.u64.wrap ((D : Int) * 131072))
  have hss : ∀ v v', (W.setCell ⟨c, 0, none⟩ v).setCell ⟨c, 0, none⟩ v' = W.setCell ⟨c, 0, none⟩ v' := set_set W c 0
  have c1 := hR.cell
  have f1 := hR.frozen
  have HR := Lib.hid hR
  clear hR
  go_enter Try.func71, Try.ntmps71
  go_wp2_with fail
  go_region
  go_wp2_with fail
  go_region
  go_wp2_with fail
  go_region
  go_wp2_with fail
  go_ret
  refine ⟨E, rfl, hE, ?_⟩
  exact (HR.out.set hg hc E).drew.drew.drew

set_option maxHeartbeats 4000000 in
theorem break_any (W0 : World) (g B : Nat) (rest : List Value) (zs0 : List Int) (n c0 a b : Nat) (W : World) (hS : Srt W0 g rest zs0 W) (hg : g < W0.heap.size) (hn : zs0.length = n) (hbig : n ≤ 1000000) (hab : a + 12 < b) (hbn : b ≤ n) :
    Calls Try.prog 60 #[.slice (some ⟨g, 0, none⟩) n c0, .int .i64 a, .int .i64 b, fvO B] W (Moved W0 g rest zs0 a b) := by
  obtain ⟨m, hm⟩ : ∃ m, m = b - a := ⟨_, rfl⟩
  obtain ⟨q, hq⟩ : ∃ q, q = m / 4 := ⟨_, rfl⟩
  obtain ⟨q2, hq2⟩ : ∃ q2, q2 = q * 2 := ⟨_, rfl⟩
  obtain ⟨p, hp⟩ : ∃ p, p = a + q2 := ⟨_, rfl⟩
  obtain ⟨M, hM⟩ : ∃ M : Nat, M = 2 ^ Lib.bitLen m := ⟨_, rfl⟩
  have e1 : (b : Int) - (a : Int) = (m : Int) := by omega
  have e2 : (m : Int) / 4 = (q : Int) := by omega
  have e3 : (q : Int) * 2 = (q2 : Int) := by omega
  have e4 : (a : Int) + (q2 : Int) = (p : Int) := by omega
  have b1 : a + 3 ≤ p := by omega
  have b2 : p + 3 ≤ b := by omega
  have hm8 : (8 : Int) ≤ m := by omega
  have hMl : M ≤ 2 * m := by rw [hM]; exact pow_bitLen m m (Nat.le_refl _) (by omega) (by omega)
  have hM1 : 1 ≤ M := by rw [hM]; exact Nat.one_le_two_pow
  have hw : IntKind.u64.wrap (m : Int) = m := by rw [IntKind.wrap_u64]; omega
  have hw2 : IntKind.u64.wrap ((M : Int) - 1) = (M : Int) - 1 := by rw [IntKind.wrap_u64]; omega
  have hsz := hS.grown.size
  have hgl := hS.lt
  have hR : Rv W0 g rest zs0 W.heap.size m (W.alloc (.cells #[.int .u64 m] 80)) := ⟨hS.below ((Below.refl _ _).alloc (Nat.le_refl _) _), heap_alloc_new _ _⟩
  have hmb : a + m = b := by omega
  have HMB := Lib.hid hmb
  have HR := Lib.hid hR
  have HN := Lib.hid hn
  have hmm : m ≤ 1000000 := by omega
  have CP : ∀ w : World, Calls Try.prog 70 #[.int .i64 m] w fun e w' => e = .returned (.int .u64 (M : Int)) ∧ w = w' := fun w => by rw [hM]; exact nextPow_any m w (by omega) hmm
  have HCP := Lib.hid CP
  clear hS hn hR hm hq hq2 hp hM CP hmb
  go_enter Try.func60, Try.ntmps60
  go_wp2_with fail
  refine (HCP.out _).mono ?_
  rintro e w2 ⟨rfl, rfl⟩
  go_wp2_with fail
  go_loopw [11, 12] (fun s _ wr => ∃ (i X : Nat) (ys : List Int), s = .int .i64 i ∧ p ≤ i + 1 ∧ i ≤ p + 2 ∧ X < 18446744073709551616 ∧ Rv W0 g rest ys W.heap.size X wr ∧ Seg a b zs0 ys) (fun s _ _ => p + 3 - (intOf s).toNat)
  case atStart => exact ⟨p - 1, m, zs0, congrArg (Value.int .i64) (by omega), by omega, by omega, by omega, HR.out, Seg.refl _ _ _⟩
  case round =>
    obtain ⟨i, X, ys, rfl, hi1, hi2, hX, hS, hG⟩ := hrel
    have K1 := Lib.hid hS
    have K2 := Lib.hid hG
    have hyl : Hid (ys.length = n) := by have := hG.len; rw [HN.out] at this; exact this
    clear hS hG
    by_cases hip : i ≤ p + 1
    · have t1 : (i : Int) ≤ (p : Int) + 1 := by omega
      go_wp2_with fail
      refine (next_any W0 g rest ys W.heap.size X _ hX hg hsz K1.out).mono ?_
      rintro e w3 ⟨R, rfl, hR, k3⟩
      have K3 := Lib.hid k3
      obtain ⟨O, hO, eA⟩ := and_some (R : Int) M hM1 (by omega)
      have k1 := wr64 O (by omega)
      clear k3
      have fin : ∀ O : Nat, O < m → ∃ x, x = a + O ∧ a ≤ x ∧ x < b := fun O h => ⟨a + O, rfl, by omega, by have := HMB.out; omega⟩
      obtain ⟨O2, hO2, hO3⟩ : ∃ O2 : Nat, O2 < m ∧ (O < m → O2 = O) ∧ (¬ O < m → O2 + m = O) := by
        by_cases h : O < m
        · exact ⟨O, h, fun _ => rfl, fun h2 => absurd h h2⟩
        · exact ⟨O - m, by omega, fun h2 => absurd h2 h, fun _ => by omega⟩
      obtain ⟨x, hx, hx1, hx2⟩ := fin O2 hO2
      have e5 : (a : Int) + (O2 : Int) = (x : Int) := by omega
      have k2 := wr64 x (by omega)
      clear fin hx
      have l1 : (i : Int) < n := by omega
      have l2 : (x : Int) < n := by omega
      have i1 : i < ys.length := by rw [hyl.out]; omega
      have i2 : x < ys.length := by rw [hyl.out]; omega
      have I1 := Lib.hid i1; have I2 := Lib.hid i2
      have hcg : W.heap.size ≠ g := by omega
      have c1 := K3.out.srt.cell i1
      have c2 := K3.out.srt.cell i2
      have f1 : w3.frozen? ⟨g, i, none⟩ = false := K3.out.srt.frozen _
      have f2 : w3.frozen? ⟨g, x, none⟩ = false := K3.out.srt.frozen _
      clear i1 i2
      by_cases hom : O < m
      · obtain rfl := hO3.1 hom
        have t2 : ¬ (m : Int) ≤ (O2 : Int) := by omega
        clear hO3
        by_cases hix : i = x
        · subst hix
          go_wp2_with fail
          go_region
          go_wp2_with fail
          go_roundw
          case rel => exact ⟨i + 1, R, swp ys i i, by go_num, by omega, by omega, hR, (K3.out.swp hcg I1.out I1.out).drew, K2.out.trans (Seg.swp _ (by omega) (by omega) (by rw [hyl.out]; omega))⟩
          case measure => simp [intOf]; omega
        · have n2 : x ≠ i := fun e => hix e.symm
          go_wp2_with fail
          go_region
          go_wp2_with fail
          go_roundw
          case rel => exact ⟨i + 1, R, swp ys i x, by go_num, by omega, by omega, hR, (K3.out.swp hcg I1.out I2.out).drew, K2.out.trans (Seg.swp _ (by omega) (by omega) (by rw [hyl.out]; omega))⟩
          case measure => simp [intOf]; omega
      · have hO4 := hO3.2 hom
        have t2 : (m : Int) ≤ (O : Int) := by omega
        have e6 : (O : Int) - (m : Int) = (O2 : Int) := by omega
        clear hO3 hO4
        by_cases hix : i = x
        · subst hix
          go_wp2_with fail
          go_region
          go_wp2_with fail
          go_roundw
          case rel => exact ⟨i + 1, R, swp ys i i, by go_num, by omega, by omega, hR, (K3.out.swp hcg I1.out I1.out).drew, K2.out.trans (Seg.swp _ (by omega) (by omega) (by rw [hyl.out]; omega))⟩
          case measure => simp [intOf]; omega
        · have n2 : x ≠ i := fun e => hix e.symm
          go_wp2_with fail
          go_region
          go_wp2_with fail
          go_roundw
          case rel => exact ⟨i + 1, R, swp ys i x, by go_num, by omega, by omega, hR, (K3.out.swp hcg I1.out I2.out).drew, K2.out.trans (Seg.swp _ (by omega) (by omega) (by rw [hyl.out]; omega))⟩
          case measure => simp [intOf]; omega
    · have t1 : ¬ (i : Int) ≤ (p : Int) + 1 := by omega
      go_wp2_with fail
      go_end0
      exact ⟨ys, rfl, K1.out.srt, K2.out⟩

end Go.Proofs.Ythfadkilffmmlaa
