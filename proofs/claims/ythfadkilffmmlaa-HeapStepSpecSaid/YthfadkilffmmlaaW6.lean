/-
  Contracts of New. No condition.
-/
import Derived.Test.YthfadkilffmmlaaW5
import Derived.Laws.MakeOwn
import Derived.Maps.AppendAt
namespace Go.Proofs.Ythfadkilffmmlaa
open Go.RowKit
set_option linter.unusedVariables false
set_option linter.unusedSimpArgs false

/-- the numbers 1 .. k -/
def upTo (k : Nat) : List Int := (List.range k).map (fun i : Nat => (i : Int) + 1)
theorem upTo_len (k : Nat) : (upTo k).length = k := by simp [upTo]
theorem upTo_succ (k : Nat) : upTo (k + 1) = upTo k ++ [(k : Int) + 1] := by simp [upTo, List.range_succ]
def zeros (k : Nat) : List Int := List.replicate k 0
theorem zeros_len (k : Nat) : (zeros k).length = k := by simp [zeros]

theorem zeros_cells (k : Nat) : (madeCells (Value.int .i64 0).cells k).toList = (zeros k).map (Value.int .i64) := by
  show (madeCells #[Value.int .i64 0] k).toList = _
  rw [toList_madeCells_one]; simp [zeros]

set_option maxHeartbeats 1000000 in
theorem new_bad (n : Int) (w : World) (h : n < 0 ∨ 65536 < n) :
    Calls Try.prog 12 #[.int .i64 n] w fun e w' => e = .returned (.tuple #[zeroH, .int .i64 1]) ∧ Below w.heap.size w w' := by
  by_cases h1 : n < 0
  · clear h
    go_enter Try.func12, Try.ntmps12
    go_wp2
    refine bodyPost_ret (v := .tuple #[zeroH, .int .i64 1]) (by simp [results, Try.results12, go_sem]) rfl ⟨rfl, ?_⟩
    exact (Below.refl _ _).alloc (Nat.le_refl _) _
  · have h2 : 65536 < n := by omega
    clear h
    go_enter Try.func12, Try.ntmps12
    go_wp2
    refine bodyPost_ret (v := .tuple #[zeroH, .int .i64 1]) (by simp [results, Try.results12, go_sem]) rfl ⟨rfl, ?_⟩
    exact (Below.refl _ _).alloc (Nat.le_refl _) _

def HeapOk (act l : List Int) (y : Int) (w : World) (e : Ending) (w' : World) : Prop :=
  ∃ (A : Option Addr) (c : Nat) (A' : Option Addr) (c' : Nat), e = .returned (.tuple #[.agg #[.slice A act.length c, .slice A' l.length c', .int .i64 y], .int .i64 0]) ∧
    RI w' A act.length c act ∧ RI w' A' l.length c' l ∧ Below w.heap.size w w'

theorem own_succ {W : World} {base : Nat} {e : TypeId} {size : Nat} {v : Value} {k : Nat} {xs : List Value} (h : W.ownsRow base e size v (k + 1) xs) : ∃ g cap, v = .slice (some ⟨g, 0, none⟩) (k + 1) cap := by
  rcases h.2 with ⟨_, h0⟩ | ⟨g, cap, cur, hv, _⟩
  · omega
  · exact ⟨g, cap, hv⟩
theorem grown_keep {w w1 : World} {o : Obj} {row : Option Nat} {base i : Nat} (hg : (w.alloc o).grownBy w1 row) (hrow : ∀ g, row = some g → base ≤ g) (hi : i < base) (hs : i < w.heap.size) : w1.heap[i]? = w.heap[i]? :=
  (hg.block i (by simp; omega) (fun e => by have := hrow i e.symm; omega)).trans (Below.heap_alloc _ _ _ hs)
theorem set1 {w : World} {B : Nat} {x0 x1 x2 v1 : Value} {t : TypeId} (h : w.heap[B]? = some (.cells #[x0, x1, x2] t (0, 0))) :
    (w.setCell ⟨B, 1, none⟩ v1).heap[B]? = some (.cells #[x0, v1, x2] t (0, 0)) := by
  simp [World.setCell, Array.getElem?_modify, h]

set_option maxHeartbeats 2000000 in
theorem new_ok (n : Nat) (w : World) (h : n ≤ 65536) :
    Calls Try.prog 12 #[.int .i64 n] w (HeapOk (zeros (n + 1)) (upTo n) 1 w) := by
  obtain ⟨i0, hi, hz0, hz1, hz2⟩ := info_parts infoInt
  have hmk : ∀ W : World, (Instr.makeSlice 22 (.int .i64 ((n : Int) + 1)) (.int .i64 ((n : Int) + 1))).run Try.prog W = .ok (.slice (some ⟨W.heap.size, 0, none⟩) (n + 1) (n + 1)) (W.alloc (.cells (madeCells (Value.int .i64 0).cells (n + 1)) 3)) := fun W => by
    have := run_make (P := Try.prog) W 22 3 i0 (.int .i64 0) Try.underlying22 hi hz0 .i64 .i64 ((n : Int) + 1) ((n : Int) + 1) (by omega) (by omega) (by rw [hz2]; omega) (by omega)
    rw [hz1, show ((n : Int) + 1).toNat = n + 1 by omega, Nat.mul_one] at this
    exact this
  generalize hcs : madeCells (Value.int .i64 0).cells (n + 1) = cs at hmk
  have HCS := Lib.hid hcs
  clear hcs
  go_enter Try.func12, Try.ntmps12
  go_wp2
  go_loopw [18] (fun i wr => ∃ (k : Nat) (A : Option Addr) (c : Nat), k ≤ n ∧ i = .int .i64 k ∧ wr.heap[w.heap.size + 1 + 1]? = some (.cells #[.slice (some ⟨w.heap.size + 1, 0, none⟩) (n + 1) (n + 1), .slice A k c, .int .i64 1] 24 (0, 0)) ∧
      wr.heap[w.heap.size + 1]? = some (.cells cs 3 (0, 0)) ∧ wr.heap[w.heap.size]? = some (.cells #[.slice none 0 0, .slice none 0 0, .int .i64 0] 24 (0, 0)) ∧
      wr.ownsRow (w.heap.size + 3) 3 1 (.slice A k c) k ((upTo k).map (Value.int .i64)) ∧ Below w.heap.size w wr ∧ w.heap.size + 1 + 1 < wr.heap.size) (fun i _ => n - (intOf i).toNat)
  case atStart =>
    refine ⟨0, none, 0, Nat.zero_le _, rfl, ?_, ?_, ?_, World.ownsRow_nil _ _ _ _, ?_, by simp⟩
    · have e := heap_alloc_new ((w.alloc (.cells #[.slice none 0 0, .slice none 0 0, .int .i64 0] 24)).alloc (.cells cs 3)) (.cells #[.slice (some ⟨w.heap.size + 1, 0, none⟩) (n + 1) (n + 1), .slice none 0 0, .int .i64 1] 24)
      simpa using e
    · have e := heap_alloc_new (w.alloc (.cells #[.slice none 0 0, .slice none 0 0, .int .i64 0] 24)) (.cells cs 3)
      exact (Below.heap_alloc _ _ _ (by simp)).trans (by simpa using e)
    · exact (Below.heap_alloc _ _ _ (by simp; omega)).trans ((Below.heap_alloc _ _ _ (by simp)).trans (heap_alloc_new _ _))
    · exact (((Below.refl _ _).alloc (Nat.le_refl _) _).alloc (by simp) _).alloc (by simp; omega) _
  case round =>
    obtain ⟨k, A, c, hk, rfl, hH, hAb, hR, hown, hbl, hsz⟩ := hrel
    have HH := Lib.hid hH
    have HAb := Lib.hid hAb
    have HR := Lib.hid hR
    have hc0 : wr.cell? ⟨w.heap.size + 1 + 1, 0, none⟩ = some (.slice (some ⟨w.heap.size + 1, 0, none⟩) (n + 1) (n + 1)) := by simp [World.cell?, hH]
    have hc1 : wr.cell? ⟨w.heap.size + 1 + 1, 1, none⟩ = some (.slice A k c) := by simp [World.cell?, hH]
    have hc2 : wr.cell? ⟨w.heap.size + 1 + 1, 2, none⟩ = some (.int .i64 1) := by simp [World.cell?, hH]
    have hf : wr.frozen? ⟨w.heap.size + 1 + 1, 1, none⟩ = false := by simp [World.frozen?, hH]
    have hr0 : ∀ i, i < 3 → ∃ u, wr.cell? ⟨w.heap.size, i, none⟩ = some u := fun i hi => by
      match i, hi with
      | 0, _ => exact ⟨_, by simp [World.cell?, hR]; rfl⟩
      | 1, _ => exact ⟨_, by simp [World.cell?, hR]; rfl⟩
      | 2, _ => exact ⟨_, by simp [World.cell?, hR]; rfl⟩
    clear hH hAb hR
    by_cases hlt : k < n
    · clear hr0
      go_wp2_with (at_builtin; refine wpList_append_own_at _ rfl _ _ 22 rfl (w.heap.size + 3) 3 i0 (.int .i64 0) 1 8 Try.underlying22 hi hz0 hz1 hz2 rfl (by decide) _ _ _ rfl (hown.alloc _) ⟨wr.heap.size, 0, none⟩ 1 1 [.int .i64 ((k : Int) + 1)] rfl rfl (cell_one_new _ _ _) (by simp [Value.oneCell']) (by unfold maxLen; omega) (by omega) (by simp; omega) ?_; intro v' w1 hown' hgrow hnil hloc; obtain ⟨g', cap', rfl⟩ := own_succ hown'; have hrw : ∀ g, (Value.slice A k c).ownBlock = some g → w.heap.size + 3 ≤ g := (fun g hg => (own_lt hown hg).1); have KK := (fun i (hi : i < w.heap.size + 3) (hs : i < wr.heap.size) => grown_keep hgrow hrw hi hs); have hd1 : w1.cell? ⟨w.heap.size + 1 + 1, 1, none⟩ = some (.slice A k c) := (World.cell?_of_block (KK (w.heap.size + 1 + 1) (by omega) hsz)).trans hc1; have hd2 : w1.frozen? ⟨w.heap.size + 1 + 1, 1, none⟩ = false := (World.frozen?_of_block (KK (w.heap.size + 1 + 1) (by omega) hsz)).trans hf; clear hc1 hf)
      have hH2 := set1 (v1 := .slice (some ⟨g', 0, none⟩) (k + 1) cap') ((KK (w.heap.size + 1 + 1) (by omega) hsz).trans HH.out)
      have hs1 : wr.heap.size ≤ w1.heap.size := by have := hgrow.size; simp at this; omega
      go_roundw
      case rel =>
        refine ⟨k + 1, _, _, by omega, by go_num, hH2, ?_, ?_, ?_, ?_, ?_⟩
        · exact (Below.heap_setCell _ _ _ _ (by simp)).trans ((KK (w.heap.size + 1) (by omega) (by omega)).trans HAb.out)
        · exact (Below.heap_setCell _ _ _ _ (by simp; omega)).trans ((KK w.heap.size (by omega) (by omega)).trans HR.out)
        · rw [upTo_succ, List.map_append]
          exact ownsRow_setCell_below hown' (by simp) _
        · exact ((hbl.alloc hbl.size _).grown hgrow (by simp; omega) (fun g hg => by have := hrw g hg; omega)).setCell (by simp; omega) _
        · simp [World.setCell]; omega
      case measure => simp [intOf]; omega
    · have hkn : k = n := by omega
      subst hkn
      obtain ⟨u0, hu0⟩ := hr0 0 (by omega)
      obtain ⟨u1, hu1⟩ := hr0 1 (by omega)
      obtain ⟨u2, hu2⟩ := hr0 2 (by omega)
      have hf0 : wr.frozen? ⟨w.heap.size, 0, none⟩ = false := by simp [World.frozen?, HR.out]
      have hf1 : wr.frozen? ⟨w.heap.size, 1, none⟩ = false := by simp [World.frozen?, HR.out]
      have hf2 : wr.frozen? ⟨w.heap.size, 2, none⟩ = false := by simp [World.frozen?, HR.out]
      clear hr0
      have hzs : RI wr (some ⟨w.heap.size + 1, 0, none⟩) (k + 1) (k + 1) (zeros (k + 1)) := by
        have hcz : (zeros (k + 1)).map (Value.int .i64) = cs.toList := by rw [← HCS.out, zeros_cells]
        have hsz2 : cs.size = k + 1 := by rw [← HCS.out, size_madeCells]
        exact RI.of_own (base := 0) ⟨by simp [zeros_len], Or.inr ⟨_, _, cs, rfl, Nat.zero_le _, HAb.out, Nat.le_refl _, by unfold maxLen; omega, by omega, by rw [hcz, List.take_of_length_le (by simp [hsz2])]⟩⟩ (by omega)
      have hls : RI wr A k c (upTo k) := RI.of_own hown (by omega)
      have hlb : ∀ b off, A = some ⟨b, off, none⟩ → w.heap.size + 3 ≤ b := fun b off e => (own_lt hown (g := b) (by rw [e]; rfl)).1
      have HZS := Lib.hid hzs
      have HLS := Lib.hid hls
      have HLB := Lib.hid hlb
      clear hzs hls hlb hown
      go_wp2_with fail
      refine bodyPost_ret (v := .tuple #[.agg #[.slice (some ⟨w.heap.size + 1, 0, none⟩) (k + 1) (k + 1), .slice A k c, .int .i64 1], .int .i64 0]) (by simp [results, Try.results12, go_sem, hu0, hu1, hu2]) rfl ?_
      refine ⟨_, _, _, _, by rw [zeros_len, upTo_len], ?_, ?_, ((hbl.setCell (by simp) _).setCell (by simp) _).setCell (by simp) _⟩
      · rw [zeros_len]
        exact ((HZS.out.setOther _ (p := ⟨w.heap.size, 0, none⟩) fun b off e => by cases e; simp).setOther _ (p := ⟨w.heap.size, 1, none⟩) fun b off e => by cases e; simp).setOther _ (p := ⟨w.heap.size, 2, none⟩) fun b off e => by cases e; simp
      · rw [upTo_len]
        exact ((HLS.out.setOther _ (p := ⟨w.heap.size, 0, none⟩) fun b off e => by have := HLB.out b off e; simp; omega).setOther _ (p := ⟨w.heap.size, 1, none⟩) fun b off e => by have := HLB.out b off e; simp; omega).setOther _ (p := ⟨w.heap.size, 2, none⟩) fun b off e => by have := HLB.out b off e; simp; omega

end Go.Proofs.Ythfadkilffmmlaa
