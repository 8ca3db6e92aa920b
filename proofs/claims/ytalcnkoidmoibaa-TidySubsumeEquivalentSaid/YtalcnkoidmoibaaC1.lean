/-
  tidy.clauses: the iterator over all clauses but one. No condition.
-/
import Derived.RangeFuncNested
import Derived.RangeFuncBound
import Derived.RangeFuncCalls
import Derived.RangeFuncLeaves
import Derived.Shelf.Abstract
import Derived.Shelf.RegionOpen
import Derived.WalkKit
import Derived.OwnWalkIn
import Derived.TacticsInMore
import Derived.LoopNIn
import Derived.LoopIn
import Derived.Maps.OwnIn
import Derived.Test.YtalcnkoidmoibaaN7
namespace Go.Proofs.Ytalcnkoidmoibaa
open Go.RowKit Go.Shelf
set_option linter.unusedVariables false
set_option linter.unusedSimpArgs false
attribute [local go_sem] Oper.semAt_some

/-- a slice value and what it reads as -/
structure Row where
  A : Option Addr
  n : Nat
  c : Nat
  zs : List Int
/-- a clause of a world -/
abbrev RowT (w : World) := { r : Row // RI w r.A r.n r.c r.zs ∧ Okl r.zs }
instance (w : World) : Inhabited (RowT w) := ⟨⟨⟨none, 0, 0, []⟩, RI.nil _ _ _ (Nat.zero_le _), fun x h => by cases h⟩⟩
def rowAt {w : World} (rs : List (RowT w)) (k : Nat) : RowT w := rs.getD k default
theorem rowAt_lt {w : World} {rs : List (RowT w)} {k : Nat} (h : k < rs.length) : rowAt rs k = rs[k] := by simp [rowAt, List.getD_eq_getElem?_getD, List.getElem?_eq_getElem h]

theorem rows_make {w : World} : ∀ (ls : List (List Int)) (f : Nat → Value), (∀ j, j < ls.length → ∃ A n c, f j = .slice A n c ∧ RI w A n c (ell ls j) ∧ Okl (ell ls j)) →
    ∃ rs : List (RowT w), rs.map (·.1.zs) = ls ∧ ∀ j, j < ls.length → f j = .slice (rowAt rs j).1.A (rowAt rs j).1.n (rowAt rs j).1.c
  | [], f, _ => ⟨[], rfl, fun j h => by simp at h⟩
  | l :: ls, f, h => by
    obtain ⟨rs, h1, h2⟩ := rows_make ls (fun j => f (j + 1)) (fun j hj => by simpa [ell] using h (j + 1) (by simpa using hj))
    obtain ⟨A, n, c, e, hr, hok⟩ := h 0 (by simp)
    refine ⟨⟨⟨A, n, c, l⟩, by simpa [ell] using hr, by simpa [ell] using hok⟩ :: rs, by simp [h1], fun j hj => ?_⟩
    cases j with
    | zero => simpa [rowAt] using e
    | succ j => have := h2 j (by simpa using hj); simpa [rowAt] using this

/-- all but one -/
def butL {α : Type} (rs : List α) (but k : Nat) : List α := (rs.take k).eraseIdx but
theorem butL_zero {α : Type} (rs : List α) (but : Nat) : butL rs but 0 = [] := by simp [butL]
theorem butL_at {α : Type} (rs : List α) (k : Nat) (h : k < rs.length) : butL rs k (k + 1) = butL rs k k := by
  unfold butL
  have hl : (rs.take k).length = k := by rw [List.length_take]; omega
  rw [List.take_succ_eq_append_getElem h, List.eraseIdx_append_of_length_le (by omega), List.eraseIdx_of_length_le (l := rs.take k) (by omega), hl]
  simp
theorem butL_succ {α : Type} (rs : List α) (but k : Nat) (h : k < rs.length) (hne : k ≠ but) : butL rs but (k + 1) = butL rs but k ++ [rs[k]] := by
  unfold butL
  rw [List.take_succ_eq_append_getElem h]
  rcases Nat.lt_or_ge but k with hlt | hge
  · rw [List.eraseIdx_append_of_lt_length (by simp; omega)]
  · rw [List.eraseIdx_of_length_le (by simp; omega), List.eraseIdx_of_length_le (by simp; omega)]
theorem butL_len {α : Type} (rs : List α) (but k : Nat) : (butL rs but k).length ≤ k := by
  unfold butL
  rw [List.length_eraseIdx]
  have := List.length_take_le k rs
  split <;> omega
theorem butL_full {α : Type} (rs : List α) (but k : Nat) (h : rs.length ≤ k) : butL rs but k = rs.eraseIdx but := by unfold butL; rw [List.take_of_length_le h]

/-- what a round keeps: the cells below n₀, and one box -/
def KpB (n₀ Bb : Nat) (W W' : World) : Prop := Below n₀ W W' ∧ ∀ v, W.cell? ⟨Bb, 0, none⟩ = some v → W'.cell? ⟨Bb, 0, none⟩ = some v
theorem KpB.trans {n₀ Bb : Nat} {A B C : World} (h : KpB n₀ Bb A B) (k : KpB n₀ Bb B C) : KpB n₀ Bb A C := ⟨h.1.trans k.1, fun v hv => k.2 v (h.2 v hv)⟩
theorem KpB.refl (n₀ Bb : Nat) (A : World) : KpB n₀ Bb A A := ⟨Below.refl _ _, fun v hv => hv⟩

set_option maxRecDepth 100000 in
set_option maxHeartbeats 1000000 in
theorem iter1_in (F : Fence) (n : Nat) (h92 : F.fn 92) (hro : F.round = none) (hn : 1 ≤ n) (l Bs Bb n₀ b off len cap but : Nat) (w0 : World) (rs : List (RowT w0)) (hlen : rs.length = len) (hsm : len ≤ 5864062014806) (hb : b < n₀) (J Jx : List (RowT w0) → World → Prop)
    (hY : ∀ pre (x : RowT w0) W, J pre W → pre.length < len → YieldAt F (n - 1) Try.prog l #[.slice x.1.A x.1.n x.1.c] W fun e W' =>
      (e = .returned (.bool true) ∧ J (pre ++ [x]) W' ∧ KpB n₀ Bb W W') ∨ (e = .returned (.bool false) ∧ Jx (pre ++ [x]) W'))
    (W : World) (hBs : W.cell? ⟨Bs, 0, none⟩ = some (.slice (some ⟨b, off, none⟩) len cap)) (hBb : W.cell? ⟨Bb, 0, none⟩ = some (.int .i64 but))
    (hc : ∀ j, j < len → W.cell? ⟨b, off + j, none⟩ = some (.slice (rowAt rs j).1.A (rowAt rs j).1.n (rowAt rs j).1.c)) (h0 : J [] W) :
    CallsIn F n Try.prog 92 #[.func (.yield l) #[] #[], .pointer (some ⟨Bs, 0, none⟩), .pointer (some ⟨Bb, 0, none⟩)] W fun e W' => (∃ v, e = .returned v) ∧
      ((∃ ys, ys = rs.eraseIdx but ∧ J ys W') ∨ (∃ pre, pre <+: rs.eraseIdx but ∧ Jx pre W')) := by
  have HC := Lib.hid hc
  have HL := Lib.hid hlen
  clear hc hlen
  refine callsIn_of_wp Try.func92 rfl h92 ?_ hro
  simp only [Try.ntmps92, List.size_toArray, List.length_cons, List.length_nil, Nat.reduceAdd, Nat.reduceSub, Array.replicate_succ, Array.replicate_zero, List.push_toArray, List.append_toArray, List.nil_append, List.cons_append]
  gi_wp2
  gi_loopw [8] (fun i wr => ∃ k : Nat, k ≤ len ∧ i = .int .i64 k ∧ J (butL rs but k) wr ∧ KpB n₀ Bb W wr) (fun i _ => len - (intOf i).toNat)
  case atStart => exact ⟨0, Nat.zero_le _, rfl, by rw [butL_zero]; exact h0, KpB.refl _ _ _⟩
  case round =>
    obtain ⟨k, hk, rfl, hJs, hnx⟩ := hrel
    have HJ := Lib.hid hJs
    have HK := Lib.hid hnx
    have hbb := hnx.2 _ hBb
    clear hJs hnx
    by_cases hlt : k < len
    · have hcx := (HK.out.1.cell (p := ⟨b, off + k, none⟩) hb).trans (HC.out k hlt)
      have hx : k < rs.length := by rw [HL.out]; exact hlt
      by_cases he : k = but
      · have he' : ((k : Int) != (but : Int)) = false := by simp [he]
        have HE := Lib.hid he
        clear he
        gi_wp2
        refine ⟨fun _ h => (by cases h), ?_⟩
        gi_wp2
        go_roundw
        case rel => exact ⟨k + 1, by omega, by simp, by have h := HJ.out; rw [← HE.out] at h; rw [← HE.out, butL_at rs k hx]; exact h, HK.out⟩
        case measure => simp [intOf]; omega
      · have he' : ((k : Int) != (but : Int)) = true := by rw [bne_iff_ne]; omega
        obtain ⟨fn, tmps, assign, body, hy, hR⟩ := hY _ (rowAt rs k) wr HJ.out (by have := butL_len rs but k; omega)
        gi_wp2
        refine hR.mono ?_
        rintro e W3 (⟨rfl, hJ3, hk3⟩ | ⟨rfl, hJx3⟩)
        · have HJ3 := Lib.hid hJ3
          have HK3 := Lib.hid hk3
          clear hJ3 hk3
          gi_wp2
          go_roundw
          case rel => exact ⟨k + 1, by omega, by simp, by rw [butL_succ rs but k hx he, ← rowAt_lt hx]; exact HJ3.out, HK.out.trans HK3.out⟩
          case measure => simp [intOf]; omega
        · have HJ3 := Lib.hid hJx3
          clear hJx3
          gi_wp2
          refine bodyPost_ret (results_none rfl _ _ _) rfl ?_
          refine ⟨⟨_, rfl⟩, .inr ⟨_, ?_, HJ3.out⟩⟩
          rw [rowAt_lt hx, ← butL_succ rs but k hx he]
          unfold butL
          exact List.IsPrefix.eraseIdx (List.take_prefix _ _) _
    · obtain rfl : k = len := by omega
      gi_wp2
      go_end0
      exact ⟨⟨_, rfl⟩, .inl ⟨_, butL_full rs but k (by rw [HL.out]; exact Nat.le_refl _), HJ.out⟩⟩

set_option maxHeartbeats 1000000 in
theorem clauses_in (F : Fence) (n : Nat) (h67 : F.fn 67) (hro : F.round = none) (A : Option Addr) (len cap : Nat) (x : Int) (w : World) :
    CallsIn F n Try.prog 67 #[.slice A len cap, .int .i64 x] w fun e w' => e = .returned (.func (.func 92) #[] #[.pointer (some ⟨w.heap.size, 0, none⟩), .pointer (some ⟨w.heap.size + 1, 0, none⟩)]) ∧
      w' = (w.alloc (.cells #[.slice A len cap] 27)).alloc (.cells #[.int .i64 x] 3) := by
  refine callsIn_of_wp Try.func67 rfl h67 ?_ hro
  simp only [Try.ntmps67, List.size_toArray, List.length_cons, List.length_nil, Nat.reduceAdd, Nat.reduceSub, Array.replicate_succ, Array.replicate_zero, List.push_toArray, List.append_toArray, List.nil_append, List.cons_append]
  gi_wp2
  go_ret
  exact ⟨rfl, rfl⟩

theorem clauses_stops (F : Fence) (n : Nat) (h92 : F.fn 92) (hro : F.round = none) (hn : 1 ≤ n) (Bs Bb n₀ b off len cap but : Nat) (w0 : World) (rs : List (RowT w0)) (hlen : rs.length = len) (hsm : len ≤ 5864062014806) (hb : b < n₀)
    (w : World) (hBs : Bs < w.heap.size) (hBb : Bb < w.heap.size) (hn₀ : n₀ ≤ w.heap.size) (cBs : w.cell? ⟨Bs, 0, none⟩ = some (.slice (some ⟨b, off, none⟩) len cap)) (cBb : w.cell? ⟨Bb, 0, none⟩ = some (.int .i64 but))
    (hc : ∀ j, j < len → w.cell? ⟨b, off + j, none⟩ = some (.slice (rowAt rs j).1.A (rowAt rs j).1.n (rowAt rs j).1.c)) :
    SeqStopsK F n Try.prog 92 #[.pointer (some ⟨Bs, 0, none⟩), .pointer (some ⟨Bb, 0, none⟩)] (fun x : RowT w0 => #[Value.slice x.1.A x.1.n x.1.c]) (KpB n₀ Bb) (fun ys => ys = rs.eraseIdx but) (fun pre => pre <+: rs.eraseIdx but) len w :=
  fun l J Jx W hW _ _ hY h0 =>
    iter1_in F n h92 hro hn l Bs Bb n₀ b off len cap but w0 rs hlen hsm hb J Jx hY W ((hW.cell (p := ⟨Bs, 0, none⟩) hBs).trans cBs) ((hW.cell (p := ⟨Bb, 0, none⟩) hBb).trans cBb)
      (fun j hj => (hW.cell (p := ⟨b, off + j, none⟩) (by show b < w.heap.size; omega)).trans (hc j hj)) h0

end Go.Proofs.Ytalcnkoidmoibaa
