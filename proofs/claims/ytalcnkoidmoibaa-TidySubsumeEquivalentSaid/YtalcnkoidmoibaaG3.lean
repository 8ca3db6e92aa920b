/-
  The reference's Truths. No condition.
-/
import Derived.Test.YtalcnkoidmoibaaG1
import Derived.Laws.MakeOwn
import Derived.Laws.Shifts
namespace Go.Proofs.Ytalcnkoidmoibaa
open Go.RowKit Go.Shelf
set_option linter.unusedVariables false
set_option linter.unusedSimpArgs false

theorem infoBool : (Try.prog.info? 4).map (fun i => (i.zero, i.size, i.bytes)) = some (some (.bool false), 1, 1) := by kernel_rfl
theorem underlying47 : Try.prog.underlying 47 = some (.slice 4) := by kernel_rfl

theorem RB.of_own {w : World} {base : Nat} {A : Option Addr} {n c : Nat} {bs : List Bool} (h : w.ownsRow base 4 1 (.slice A n c) n (bs.map Value.bool)) (hbig : n ≤ 140737488355328) : RB w A n c bs := by
  obtain ⟨h1, h2⟩ := h
  have hl : bs.length = n := by simpa using h1
  rcases h2 with ⟨hv, hn⟩ | ⟨g, cap, cur, hv, hg, hh, hnc, hcm, hcs, htk⟩
  · simp only [Value.slice.injEq] at hv
    obtain ⟨rfl, _, rfl⟩ := hv
    subst hn
    exact ⟨hl, Nat.le_refl _, hbig, Nat.zero_le _, fun h => absurd h (by omega)⟩
  · simp only [Value.slice.injEq] at hv
    obtain ⟨rfl, _, rfl⟩ := hv
    refine ⟨hl, hnc, hbig, hcm, fun hn => ⟨g, 0, rfl, ?_, fun j hj => ?_⟩⟩
    · rcases Nat.lt_or_ge g w.heap.size with hlt | hge
      · exact hlt
      · rw [Array.getElem?_eq_none hge] at hh; cases hh
    · have e : cur[j]? = some (.bool (bs.getD j false)) := by
        have h3 : (cur.toList.take (n * 1))[j]? = (bs.map Value.bool)[j]? := by rw [htk]
        rw [List.getElem?_take_of_lt (by omega), List.getElem?_map, List.getElem?_eq_getElem (by omega : j < bs.length)] at h3
        rw [← Array.getElem?_toList, h3, List.getD_eq_getElem?_getD, List.getElem?_eq_getElem (by omega : j < bs.length)]
        rfl
      simp [World.cell?, hh, e]

/-- some truths -/
def Truthd (n : Nat) (w : World) (e : Ending) (w' : World) : Prop := ∃ A c bs, e = .returned (.slice A n c) ∧ RB w' A n c bs ∧ Below w.heap.size w w'

theorem own_bools {w : World} {base g n k : Nat} {bs : List Bool} (h : w.ownsRow base 4 1 (.slice (some ⟨g, 0, none⟩) n n) n (bs.map Value.bool)) (hk : k < n) :
    w.cell? ⟨g, k, none⟩ = some (.bool (bs.getD k false)) ∧ w.frozen? ⟨g, k, none⟩ = false := by
  have hl : bs.length = n := by simpa using h.1
  refine ⟨?_, ?_⟩
  · have hlk : k < (bs.map Value.bool).length := by simp; omega
    have := h.cells (g := g) rfl k _ (List.getElem?_eq_getElem hlk)
    rw [Addr.add_lit, Nat.zero_add] at this
    rw [this, List.getElem_map, List.getD_eq_getElem?_getD, List.getElem?_eq_getElem (by omega : k < bs.length)]
    rfl
  · rcases h.2 with ⟨hv, _⟩ | ⟨g', cap, cur, hv, _, hg, _⟩
    · cases hv
    · cases hv
      simp [World.frozen?, hg]

set_option maxRecDepth 100000 in
set_option maxHeartbeats 1000000 in
theorem truths_any (n : Nat) (bits : Int) (w : World) (hn : n ≤ 60) :
    Calls Try.prog 26 #[.int .i64 n, .int .i64 bits] w (Truthd (n + 1) w) := by
  obtain ⟨i0, hi, hz0, hz1, hz2⟩ := info_parts infoBool
  have hmk : ∀ W : World, (Instr.makeSlice 47 (.int .i64 ((n : Int) + 1)) (.int .i64 ((n : Int) + 1))).run Try.prog W = .ok (.slice (some ⟨W.heap.size, 0, none⟩) (n + 1) (n + 1)) (W.alloc (.cells (madeCells (Value.bool false).cells (n + 1)) 4)) := fun W => by
    have := run_make (P := Try.prog) W 47 4 i0 (.bool false) underlying47 hi hz0 .i64 .i64 ((n : Int) + 1) ((n : Int) + 1) (by omega) (by omega) (by rw [hz2]; omega) (by omega)
    rw [hz1, show ((n : Int) + 1).toNat = n + 1 by omega, Nat.mul_one] at this
    exact this
  have hown0 : (w.alloc (.cells (madeCells (Value.bool false).cells (n + 1)) 4)).ownsRow w.heap.size 4 1 (.slice (some ⟨w.heap.size, 0, none⟩) (n + 1) (n + 1)) (n + 1) ((List.replicate (n + 1) false).map Value.bool) := by
    refine ⟨by simp, Or.inr ⟨w.heap.size, n + 1, _, rfl, Nat.le_refl _, heap_alloc_new _ _, Nat.le_refl _, by unfold maxLen; omega, by rw [size_madeCells]; omega, ?_⟩⟩
    show (madeCells #[Value.bool false] (n + 1)).toList.take ((n + 1) * 1) = _
    rw [toList_madeCells_one]; simp
  have HOWN0 := Lib.hid hown0
  have HB0 := Lib.hid ((Below.refl w.heap.size w).alloc (Nat.le_refl _) (.cells (madeCells (Value.bool false).cells (n + 1)) 4))
  clear hown0
  generalize madeCells (Value.bool false).cells (n + 1) = cs at hmk HOWN0 HB0
  go_enter Try.func26, Try.ntmps26
  go_wp2
  go_loopw [6] (fun i wr => ∃ (k : Nat) (bs : List Bool), 1 ≤ k ∧ k ≤ n + 1 ∧ i = .int .i64 k ∧ wr.ownsRow w.heap.size 4 1 (.slice (some ⟨w.heap.size, 0, none⟩) (n + 1) (n + 1)) (n + 1) (bs.map Value.bool) ∧ Below w.heap.size w wr) (fun i _ => n + 1 - (intOf i).toNat)
  case atStart => exact ⟨1, _, Nat.le_refl _, by omega, rfl, HOWN0.out, HB0.out⟩
  case round =>
    obtain ⟨k, bs, hk1, hk, rfl, hown, hb⟩ := hrel
    have HO := Lib.hid hown
    have HB := Lib.hid hb
    clear hown hb
    by_cases hlt : k ≤ n
    · obtain ⟨hc, hf⟩ := own_bools (k := k) HO.out (by omega)
      have z1 : 1 ≤ (k : Int) := by omega
      have z2 : 0 ≤ (k : Int) - 1 := by omega
      have z3 : (k : Int) - 1 ≤ 64 := by omega
      go_wp2
      go_roundw
      case rel => exact ⟨k + 1, bs.set k _, by omega, by omega, by go_num, by rw [List.map_set]; exact own_set HO.out _, HB.out.setCell (by simp) _⟩
      case measure => simp [intOf]; omega
    · go_wp2
      go_ret
      exact ⟨_, _, bs, rfl, RB.of_own HO.out (by omega), HB.out⟩

end Go.Proofs.Ytalcnkoidmoibaa
