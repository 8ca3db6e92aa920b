/-
  Contracts of the library's insertion sort over the order of the queue. No condition.
-/
import Derived.Test.YthfadkilffmmlaaSeg
import Derived.RegionTactic
import Derived.BigRegion
namespace Go.Proofs.Ythfadkilffmmlaa
open Go.RowKit
set_option linter.unusedVariables false
set_option linter.unusedSimpArgs false

/-- a world in which of W0 only the row g has turned, which now holds zs -/
structure Srt (W0 : World) (g : Nat) (rest : List Value) (zs : List Int) (W : World) : Prop where
  grown : W0.grownBy W (some g)
  row : W.heap[g]? = some (.cells (zs.map (Value.int .i64) ++ rest).toArray 3 (0, 0))

section
variable {W0 W W' : World} {g : Nat} {rest : List Value} {zs : List Int}
theorem Srt.cell (h : Srt W0 g rest zs W) {j : Nat} (hj : j < zs.length) : W.cell? ⟨g, j, none⟩ = some (.int .i64 (elt zs j)) := by
  simp [World.cell?, h.row, List.getElem?_append, hj, elt_lt hj]
theorem Srt.frozen (h : Srt W0 g rest zs W) (j : Nat) : W.frozen? ⟨g, j, none⟩ = false := by simp [World.frozen?, h.row]
theorem Srt.lt (h : Srt W0 g rest zs W) : g < W.heap.size := by
  rcases Nat.lt_or_ge g W.heap.size with hlt | hge
  · exact hlt
  · have := h.row; rw [Array.getElem?_eq_none hge] at this; cases this
theorem Srt.drew (h : Srt W0 g rest zs W) : Srt W0 g rest zs W.drew := ⟨⟨h.grown.os, h.grown.tape, h.grown.output, h.grown.size, h.grown.block⟩, h.row⟩
theorem Srt.below (h : Srt W0 g rest zs W) (hb : Below W.heap.size W W') : Srt W0 g rest zs W' :=
  ⟨⟨hb.os.trans h.grown.os, hb.tape.trans h.grown.tape, hb.output.trans h.grown.output, Nat.le_trans h.grown.size hb.size, fun k hk hne => (hb.block k (Nat.lt_of_lt_of_le hk h.grown.size)).trans (h.grown.block k hk hne)⟩, (hb.block g h.lt).trans h.row⟩
theorem Srt.set (h : Srt W0 g rest zs W) {i : Nat} (hi : i < zs.length) (x : Int) : Srt W0 g rest (zs.set i x) (W.setCell ⟨g, i, none⟩ (.int .i64 x)) := by
  refine ⟨⟨h.grown.os, h.grown.tape, h.grown.output, by simpa [World.setCell] using h.grown.size, fun k hk hne => (Below.heap_setCell _ _ _ _ (by simp; intro e; exact hne (by rw [e]))).trans (h.grown.block k hk hne)⟩, ?_⟩
  simp [World.setCell, Array.getElem?_modify, h.row, List.set_append, hi]
theorem Srt.swp (h : Srt W0 g rest zs W) {i j : Nat} (hi : i < zs.length) (hj : j < zs.length) :
    Srt W0 g rest (swp zs i j) ((W.setCell ⟨g, i, none⟩ (.int .i64 (elt zs j))).setCell ⟨g, j, none⟩ (.int .i64 (elt zs i))) :=
  (h.set hi _).set (by simpa using hj) _
end

/-- what the order needs of the world -/
structure Cx (W0 : World) (g B : Nat) (act : List Int) : Prop where
  hg : g < W0.heap.size
  hB : B < W0.heap.size
  hne : B ≠ g
  row : ∃ A n c, W0.cell? ⟨B, 0, none⟩ = some (.slice A n c) ∧ RI W0 A n c act ∧ ∀ b off, A = some ⟨b, off, none⟩ → b ≠ g

theorem RI.grown {w w' : World} {A : Option Addr} {n c g : Nat} {zs : List Int} (h : RI w A n c zs) (hb : w.grownBy w' (some g)) (hne : ∀ b off, A = some ⟨b, off, none⟩ → b ≠ g) : RI w' A n c zs :=
  ⟨h.len, h.cap, h.big, h.cmax, fun hn => by
    obtain ⟨b, off, rfl, hlt, hc⟩ := h.cells hn
    exact ⟨b, off, rfl, Nat.lt_of_lt_of_le hlt hb.size, fun j hj => (World.cell?_of_block (hb.block b hlt (by simpa using hne b off rfl))).trans (hc j hj)⟩⟩

theorem Cx.cmp {W0 W : World} {g B : Nat} {act : List Int} (C : Cx W0 g B act) (hb : W0.grownBy W (some g)) {x y : Int} (hx : 0 ≤ x ∧ x < act.length) (hy : 0 ≤ y ∧ y < act.length) :
    Calls Try.prog 41 #[.pointer (some ⟨B, 0, none⟩), .int .i64 x, .int .i64 y] W fun e w' => e = .returned (.int .i64 (ordI act x y)) ∧ Below W.heap.size W w' := by
  obtain ⟨A, n, c, hc, hr, hne⟩ := C.row
  have hl := hr.len
  refine order_ri B A n c act x y W (Nat.lt_of_lt_of_le C.hB hb.size) ((World.cell?_of_block (a := ⟨B, 0, none⟩) (hb.block B C.hB (by simpa using C.hne))).trans hc) (hr.grown hb hne) ⟨hx.1, by omega⟩ ⟨hy.1, by omega⟩

abbrev fvO (B : Nat) : Value := .func (.func 41) #[.pointer (some ⟨B, 0, none⟩)] #[]

/-- what a function that rearranges a .. b - 1 leaves -/
def Sorts (act : List Int) (a b : Nat) (W0 : World) (g : Nat) (rest : List Value) (zs : List Int) (e : Ending) (W : World) : Prop :=
  ∃ zs', e = .returned (.tuple #[]) ∧ Srt W0 g rest zs' W ∧ Seg a b zs zs' ∧ SortedSeg act a b zs'

set_option maxHeartbeats 1000000 in
theorem insertion_any (W0 : World) (g B : Nat) (act : List Int) (C : Cx W0 g B act) (rest : List Value) (zs0 : List Int) (hd : Dom act.length zs0) (n c a b : Nat) (W : World) (hS : Srt W0 g rest zs0 W) (hn : zs0.length = n) (hbig : n ≤ 17592186044416) (hab : a ≤ b) (hbn : b ≤ n) :
    Calls Try.prog 58 #[.slice (some ⟨g, 0, none⟩) n c, .int .i64 a, .int .i64 b, fvO B] W (Sorts act a b W0 g rest zs0) := by
  have HC := Lib.hid C
  have HD := Lib.hid hd
  have HS := Lib.hid hS
  have HN := Lib.hid hn
  clear C hd hS hn
  go_enter Try.func58, Try.ntmps58
  go_wp2
  go_loopw [8, 9] (fun i _ wr => ∃ (k : Nat) (zs : List Int), i = .int .i64 k ∧ a + 1 ≤ k ∧ k ≤ b + 1 ∧ Srt W0 g rest zs wr ∧ Seg a b zs0 zs ∧ (k ≤ b → SortedSeg act a k zs) ∧ (b < k → SortedSeg act a b zs)) (fun i _ _ => b + 1 - (intOf i).toNat)
  case atStart => exact ⟨a + 1, zs0, by go_num, by omega, by omega, HS.out, Seg.refl _ _ _, fun _ p q h1 h2 h3 => absurd h3 (by omega), fun _ p q h1 h2 h3 => absurd h3 (by omega)⟩
  case round =>
    obtain ⟨k, zs, rfl, hk1, hk2, hS, hG, hso, hse⟩ := hrel
    have H1 := Lib.hid hS
    have H2 := Lib.hid hG
    have H3 := Lib.hid hso
    have H4 := Lib.hid hse
    clear hS hG hso hse
    by_cases hkb : k < b
    · obtain ⟨wo, hwo⟩ : ∃ wo : World, wo = wr := ⟨_, rfl⟩
      subst hwo
      go_wp2
      go_loopw [9] (fun j wr => ∃ (m : Nat) (ys : List Int), j = .int .i64 m ∧ a ≤ m ∧ m ≤ k ∧ Srt W0 g rest ys wr ∧ Seg a b zs0 ys ∧ InsInv act a k m ys) (fun j _ => (intOf j).toNat)
      case atStart => exact ⟨k, zs, rfl, by omega, by omega, H1.out, H2.out, InsInv.start (H3.out (by omega))⟩
      case round =>
        obtain ⟨m, ys, rfl, hm1, hm2, hS, hG, hI⟩ := hrel
        have K1 := Lib.hid hS
        have K2 := Lib.hid hG
        have K3 := Lib.hid hI
        have hyl : Hid (ys.length = n) := by have := hG.len; rw [HN.out] at this; exact this
        clear hS hG hI
        by_cases ham : a < m
        · have ha1 : (a : Int) < m := by omega
          have hlm : (m : Int) < n := by omega
          have hlm1 : (m : Int) - 1 < n := by omega
          have hm0 : (1 : Int) ≤ m := by omega
          have hc1 : wr.cell? ⟨g, m, none⟩ = some (.int .i64 (elt ys m)) := K1.out.cell (by rw [hyl.out]; omega)
          have hc2 : wr.cell? ⟨g, m - 1, none⟩ = some (.int .i64 (elt ys (m - 1))) := K1.out.cell (by rw [hyl.out]; omega)
          have hw1 : IntKind.i64.wrap ((m : Int) - 1) = (m : Int) - 1 := by rw [IntKind.wrap_i64]; omega
          have hw2 : (0 : Int) ≤ (m : Int) - 1 := by omega
          have hw3 : ((m : Int) - 1).toNat = m - 1 := by omega
          go_wp2_with fail
          refine wp_region_still_tail 14 (by kernel_rfl) (by kernel_rfl) ?_
          simp only [List.take_succ_cons, List.take_zero, List.drop_succ_cons, List.drop_zero]
          iterate 14 still_step
          refine wpStill_nil ?_
          change wpList _ _ _ _ _ wr.drew
          go_wp2_with fail
          have hdy := HD.out.seg K2.out
          refine (HC.out.cmp K1.out.drew.grown (hdy.at_ (by rw [hyl.out]; omega)) (hdy.at_ (by rw [hyl.out]; omega))).mono ?_
          rintro e w2 ⟨rfl, hb2⟩
          have S2 := Lib.hid (K1.out.drew.below hb2)
          generalize hoo : ordI act (elt ys m) (elt ys (m - 1)) = oo
          have HOO := Lib.hid hoo
          clear hoo hdy hb2 hc1 hc2
          by_cases ho : oo < 0
          · have hc1 : w2.cell? ⟨g, m, none⟩ = some (.int .i64 (elt ys m)) := S2.out.cell (by rw [hyl.out]; omega)
            have hc2 : w2.cell? ⟨g, m - 1, none⟩ = some (.int .i64 (elt ys (m - 1))) := S2.out.cell (by rw [hyl.out]; omega)
            have hf1 : w2.frozen? ⟨g, m, none⟩ = false := S2.out.frozen _
            have hf2 : w2.frozen? ⟨g, m - 1, none⟩ = false := S2.out.frozen _
            have hmm : m ≠ m - 1 := by omega
            have hmm2 : m - 1 ≠ m := by omega
            go_wp2_with fail
            go_region
            clear hw1 hw3
            go_wp2_with fail
            go_roundw
            case rel =>
              refine ⟨m - 1, _, by rw [show ((m : Int) - 1) = ((m - 1 : Nat) : Int) by omega], by omega, by omega, ((S2.out.swp (i := m) (j := m - 1) (by rw [hyl.out]; omega) (by rw [hyl.out]; omega)).drew), K2.out.trans (Seg.swp _ (by omega) (by omega) (by rw [hyl.out]; omega)), K3.out.step ham hm2 (by rw [hyl.out]; omega) ?_⟩
              show ordI act _ _ < 0
              rw [HOO.out]; exact ho
            case measure => simp [intOf]; omega
          · clear hw1 hw3
            go_wp2_with fail
            go_roundw
            case rel =>
              have hdone := K3.out.done hm2 (Or.inr (by show ¬ ordI act _ _ < 0; rw [HOO.out]; omega))
              exact ⟨k + 1, ys, by go_num, by omega, by omega, S2.out, K2.out, fun _ => hdone, fun h => fun p q h1 h2 h3 => hdone p q h1 h2 (by omega)⟩
            case measure => simp [intOf]; omega
        · have hmd : decide ((a : Int) < (m : Int)) = false := by simp; omega
          have ha1 : ¬ (a : Int) < m := by omega
          go_wp2_with fail
          go_quiet (fail)
          go_wp2_with fail
          go_roundw
          case rel =>
            have hdone := K3.out.done hm2 (Or.inl (by omega))
            exact ⟨k + 1, ys, by go_num, by omega, by omega, K1.out.below ⟨rfl, rfl, rfl, Nat.le_refl _, fun _ _ => rfl⟩, K2.out, fun _ => hdone, fun h => fun p q h1 h2 h3 => hdone p q h1 h2 (by omega)⟩
          case measure => simp [intOf]; omega
    · go_wp2
      go_end0
      refine ⟨zs, rfl, H1.out, H2.out, ?_⟩
      by_cases hbk : b < k
      · exact H4.out hbk
      · have : k = b := by omega
        subst this
        exact H3.out (Nat.le_refl _)

end Go.Proofs.Ythfadkilffmmlaa
