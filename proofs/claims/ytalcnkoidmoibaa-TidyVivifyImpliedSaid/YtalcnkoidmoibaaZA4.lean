/-
  cnf.Norm. No condition.
  tidy.clauses: the iterator over all clauses but one. No condition.
  The closure of a set of literals under clauses, in plain words; a function's way out past the marks of its loops. No condition.
-/
import Derived.Test.YtalcnkoidmoibaaZA3
import Derived.IntWalk
import Derived.RangeFuncNested
import Derived.RangeFuncBound
import Derived.RangeFuncCalls
import Derived.RangeFuncLeaves
import Derived.Shelf.Abstract
import Derived.Shelf.RegionOpen
import Derived.WalkKit
import Derived.OwnWalkIn
import Derived.TacticsInMore
import Derived.LoopNIn
import Derived.LoopIn
import Derived.Maps.OwnIn

namespace Go.Proofs.Ytalcnkoidmoibaa
open Go.RowKit Go.Shelf Go.Sort Go.Lib
set_option linter.unusedVariables false
set_option linter.unusedSimpArgs false

/-- a literal stands right behind its opposite, among the first k -/
def bothAt (l : List Int) (k : Nat) : Bool := (List.range k).any fun i => decide (0 < i) && (elt l (i - 1) == -(elt l i))
def bothP (l : List Int) : Bool := bothAt l l.length
theorem bothAt_succ (l : List Int) (k : Nat) : bothAt l (k + 1) = (bothAt l k || (decide (0 < k) && (elt l (k - 1) == -(elt l k)))) := by
  unfold bothAt; rw [List.range_succ, List.any_append]; simp
theorem bothAt_mono (l : List Int) {j k : Nat} (h : j ≤ k) (hb : bothAt l j = true) : bothAt l k = true := by
  unfold bothAt at *
  rw [List.any_eq_true] at *
  obtain ⟨x, hx, he⟩ := hb
  exact ⟨x, by rw [List.mem_range] at *; omega, he⟩
theorem bothP_at {l : List Int} {k : Nat} (hk : k < l.length) (h : bothAt l (k + 1) = true) : bothP l = true := bothAt_mono l (by omega) h

theorem normP_lit {zs : List Int} {x : Int} (h : x ∈ normP zs) : x ≠ 0 ∧ -65536 ≤ x ∧ x ≤ 65536 := isB_iff.1 (mem_normP.1 h).2
theorem normP_okl (zs : List Int) : Okl (normP zs) := fun x h => normP_lit h

theorem normP_len (zs : List Int) : (normP zs).length ≤ zs.length := by
  rw [← norm_all]
  rw [List.length_map]; unfold compactUpTo; rw [List.length_map]
  refine Nat.le_trans (List.length_filter_le _ _) ?_
  rw [List.length_range]; unfold sortedL; rw [List.length_mergeSort]
  unfold litsOf; exact List.length_filterMap_le _ _

/-- what Norm leaves -/
def Normed (zs : List Int) (w : World) (e : Ending) (w' : World) : Prop :=
  ∃ A c, e = .returned (.tuple #[.slice A (normP zs).length c, .bool (bothP (normP zs))]) ∧ RI w' A (normP zs).length c (normP zs) ∧ Below w.heap.size w w'

theorem Own.ri {w : World} {base g n cap : Nat} {zs : List Int} (h : Own w base g n cap zs) (hb : n * 8 ≤ 140737488355328) : RI w (some ⟨g, 0, none⟩) n cap zs := RI.of_own h hb
theorem Own.len {w : World} {base g n cap : Nat} {zs : List Int} (h : Own w base g n cap zs) : zs.length = n := by simpa using h.1

theorem ret_norm {A : Option Addr} {n n' c : Nat} {a b : Bool} (hn : n = n') (h : a = b) : Ending.returned (.tuple #[.slice A n c, .bool a]) = .returned (.tuple #[.slice A n' c, .bool b]) := by rw [hn, h]

set_option maxRecDepth 4000 in
set_option maxHeartbeats 1600000 in
theorem norm_any (A : Option Addr) (n c : Nat) (zs : List Int) (w : World) (h : RI w A n c zs) :
    Calls Try.prog 23 #[.slice A n c] w (Normed zs w) := by
  have hcl := clone_any A n c zs w h
  have hbig := h.big
  have hlen := h.len
  have HL := Lib.hid (And.intro hlen hbig)
  clear h hlen hbig
  go_enter Try.func23, Try.ntmps23
  go_wp2_with fail
  refine hcl.mono ?_
  clear hcl
  rintro e w1 ⟨A1, c1, rfl, hown, hb1⟩
  have HB1 := Lib.hid hb1
  clear hb1
  rcases hown.2 with ⟨hv, h0⟩ | ⟨g, cap, cur, hv, hg, hr⟩
  · have hzs : zs = [] := List.eq_nil_of_length_eq_zero h0
    subst hzs
    simp only [Value.slice.injEq] at hv
    obtain ⟨rfl, -, rfl⟩ := hv
    clear hown h0
    have hd := delete_nil (.func (.func 48) #[] #[]) w1
    have hso : Calls Try.prog 31 #[.slice none 0 0, .func (.func 50) #[] #[]] w1 fun e w' => e = .returned (.tuple #[]) ∧ w1 = w' := (Try.slices_SortFunc_none (α := LitT) none 0 (.func (.func 50) #[] #[]) w1).mono fun _ _ ⟨h1, h2⟩ => ⟨h1, h2.symm⟩
    have hco := compact_nil w1
    go_wp2_with (first
      | (go_at_call 47; refine hd.mono ?_; rintro e w' ⟨rfl, rfl⟩)
      | (go_at_call 31; refine hso.mono ?_; rintro e w' ⟨rfl, rfl⟩)
      | (go_at_call 52; refine hco.mono ?_; rintro e w' ⟨rfl, rfl⟩))
    refine wp_loop_rounds 1 ?_
    rw [rounds_succ]
    go_wp2
    go_ret2
    exact ⟨none, 0, rfl, RI.nil _ _ _ (Nat.zero_le _), HB1.out⟩
  · simp only [Value.slice.injEq] at hv
    obtain ⟨rfl, -, rfl⟩ := hv
    have hown' : Own w1 w.heap.size g zs.length c1 zs := hown
    clear hr hown
    go_wp2_with fail
    refine (delete_own w1 w.heap.size g zs.length c1 zs hown' hg).mono ?_
    rintro e w2 ⟨m2, rfl, hown2, hb2⟩
    rw [← litsOf_val] at hown2
    have hm2 := hown2.len
    have hm2' : m2 * 8 ≤ 140737488355328 := by
      rw [litsOf_val] at hm2
      have := List.length_filter_le (fun x => isB x 65536) zs
      have := HL.out
      omega
    have hs2 := sort_own w2 w.heap.size g m2 c1 (litsOf zs) hown2 hg hm2'
    have HM2 := Lib.hid hm2
    have HB2 := Lib.hid hb2
    clear hm2 hb2 hown2 hown'
    go_wp2_with fail
    refine hs2.mono ?_
    clear hs2
    rintro e w3 ⟨rfl, hown3, hb3⟩
    have hc3 := compact_own w3 w.heap.size g m2 c1 (sortedL zs) hown3 hg
    have HB3 := Lib.hid hb3
    clear hb3 hown3
    go_wp2_with fail
    refine hc3.mono ?_
    clear hc3
    rintro e w4 ⟨m, rfl, hown4, hb4⟩
    rw [norm_all] at hown4
    have hm := hown4.len
    have hm8 : m * 8 ≤ 140737488355328 := by
      have := normP_len zs
      have := HL.out
      omega
    have hri := hown4.ri hm8
    have HR := Lib.hid hri
    have HM := Lib.hid hm
    have HB : Hid (Below w.heap.size w w4) := Lib.hid (((HB1.out.trans HB2.out).trans HB3.out).trans hb4)
    clear hm hri hown4 hb4 HB1 HB2 HB3 HM2 hm2' HL
    have HO := Lib.hid (normP_okl zs)
    go_wp2
    go_loopw [15] (fun i wr => ∃ k q : Nat, k ≤ m ∧ i = .int .i64 k ∧ bothAt (normP zs) k = false ∧ wr = w4.drewN q) (fun i _ => m - (intOf i).toNat)
    case atStart => exact ⟨0, 0, Nat.zero_le _, rfl, rfl, rfl⟩
    case round =>
      obtain ⟨k, q, hk, rfl, hno, rfl⟩ := hrel
      have HN := Lib.hid hno
      clear hno
      by_cases hlt : k < m
      · obtain ⟨b, off, hA, hb, hc⟩ := HR.out.cells (by omega)
        injection hA with hA
        injection hA with hA1 hA2
        subst hA1 hA2
        have hck := hc k hlt
        have hl : k < (normP zs).length := by rw [HM.out]; exact hlt
        have hx := HO.out.at hl
        have hneg := lit_neg' hx.2.1 hx.2.2
        have HX := Lib.hid hx
        clear hx
        by_cases h0 : 0 < k
        · have hck1 := hc (k - 1) (by omega)
          obtain ⟨j, hj⟩ : ∃ j, k - 1 = j := ⟨_, rfl⟩
          rw [hj, Nat.zero_add] at hck1
          rw [Nat.zero_add] at hck
          clear hc
          have HN2 := HN.out
          have hst := bothAt_succ (normP zs) k
          rw [HN2, hj, decide_eq_true h0, Bool.false_or, Bool.true_and] at hst
          have HS := Lib.hid hst
          have hsub : IntKind.i64.wrap ((k : Int) - 1) = (j : Int) := by rw [show (k : Int) - 1 = (j : Int) by omega]; exact IntWalk.i64_in (j : Int) (by omega)
          have hjm : j < m := by omega
          have hjm' : (j : Int) < (m : Int) := by omega
          have hkm' : (k : Int) < (m : Int) := by omega
          have hk0 : (0 : Int) < (k : Int) := by omega
          have hng : IntKind.i64.wrap (-(elt (normP zs) k)) = -(elt (normP zs) k) := by have := HX.out; exact IntWalk.i64_in (-(elt (normP zs) k)) (by omega)
          clear hst HN2 hj
          generalize ho : (elt (normP zs) j == -(elt (normP zs) k)) = o at HS
          cases o
          · go_wp2_with fail
            go_quiet (fail)
            go_wp2
            go_roundw
            case rel => exact ⟨k + 1, _, by omega, by go_num, HS.out, rfl⟩
            case measure => simp [intOf]; omega
          · go_wp2_with fail
            go_quiet (fail)
            go_wp2
            go_ret2
            exact ⟨_, _, ret_norm HM.out.symm (bothP_at hl HS.out).symm, by rw [HM.out, World.drewN_drewN]; exact HR.out.below (drewN_below _ _), by rw [World.drewN_drewN]; exact HB.out.trans ((drewN_below _ _).mono HB.out.size)⟩
        · obtain rfl : k = 0 := by omega
          have hst := bothAt_succ (normP zs) 0
          rw [HN.out] at hst
          have HS := Lib.hid hst
          clear hst hc
          go_wp2_with fail
          go_quiet (fail)
          go_wp2
          go_roundw
          case rel => exact ⟨1, _, by omega, by go_num, HS.out, rfl⟩
          case measure => simp [intOf]; omega
      · have HD := Lib.hid (drewN_below w4 q)
        have hf : bothAt (normP zs) (normP zs).length = false := by
          have := HN.out
          rw [show k = (normP zs).length by rw [HM.out]; omega] at this
          exact this
        have HF := Lib.hid hf
        clear hf
        go_wp2
        go_ret2
        exact ⟨_, _, ret_norm HM.out.symm HF.out.symm, by rw [HM.out]; exact HR.out.below HD.out, HB.out.trans (HD.out.mono HB.out.size)⟩

end Go.Proofs.Ytalcnkoidmoibaa

namespace Go.Proofs.Ytalcnkoidmoibaa
open Go.RowKit Go.Shelf
set_option linter.unusedVariables false
set_option linter.unusedSimpArgs false
attribute [local go_sem] Oper.semAt_some

/-- a slice value and what it reads as -/
structure Row where
  A : Option Addr
  n : Nat
  c : Nat
  zs : List Int
/-- a clause of a world -/
abbrev RowT (w : World) := { r : Row // RI w r.A r.n r.c r.zs ∧ Okl r.zs }
instance (w : World) : Inhabited (RowT w) := ⟨⟨⟨none, 0, 0, []⟩, RI.nil _ _ _ (Nat.zero_le _), fun x h => by cases h⟩⟩
def rowAt {w : World} (rs : List (RowT w)) (k : Nat) : RowT w := rs.getD k default
theorem rowAt_lt {w : World} {rs : List (RowT w)} {k : Nat} (h : k < rs.length) : rowAt rs k = rs[k] := by simp [rowAt, List.getD_eq_getElem?_getD, List.getElem?_eq_getElem h]

theorem rows_make {w : World} : ∀ (ls : List (List Int)) (f : Nat → Value), (∀ j, j < ls.length → ∃ A n c, f j = .slice A n c ∧ RI w A n c (ell ls j) ∧ Okl (ell ls j)) →
    ∃ rs : List (RowT w), rs.map (·.1.zs) = ls ∧ ∀ j, j < ls.length → f j = .slice (rowAt rs j).1.A (rowAt rs j).1.n (rowAt rs j).1.c
  | [], f, _ => ⟨[], rfl, fun j h => by simp at h⟩
  | l :: ls, f, h => by
    obtain ⟨rs, h1, h2⟩ := rows_make ls (fun j => f (j + 1)) (fun j hj => by simpa [ell] using h (j + 1) (by simpa using hj))
    obtain ⟨A, n, c, e, hr, hok⟩ := h 0 (by simp)
    refine ⟨⟨⟨A, n, c, l⟩, by simpa [ell] using hr, by simpa [ell] using hok⟩ :: rs, by simp [h1], fun j hj => ?_⟩
    cases j with
    | zero => simpa [rowAt] using e
    | succ j => have := h2 j (by simpa using hj); simpa [rowAt] using this

/-- all but one -/
def butL {α : Type} (rs : List α) (but k : Nat) : List α := (rs.take k).eraseIdx but
theorem butL_zero {α : Type} (rs : List α) (but : Nat) : butL rs but 0 = [] := by simp [butL]
theorem butL_at {α : Type} (rs : List α) (k : Nat) (h : k < rs.length) : butL rs k (k + 1) = butL rs k k := by
  unfold butL
  have hl : (rs.take k).length = k := by rw [List.length_take]; omega
  rw [List.take_succ_eq_append_getElem h, List.eraseIdx_append_of_length_le (by omega), List.eraseIdx_of_length_le (l := rs.take k) (by omega), hl]
  simp
theorem butL_succ {α : Type} (rs : List α) (but k : Nat) (h : k < rs.length) (hne : k ≠ but) : butL rs but (k + 1) = butL rs but k ++ [rs[k]] := by
  unfold butL
  rw [List.take_succ_eq_append_getElem h]
  rcases Nat.lt_or_ge but k with hlt | hge
  · rw [List.eraseIdx_append_of_lt_length (by simp; omega)]
  · rw [List.eraseIdx_of_length_le (by simp; omega), List.eraseIdx_of_length_le (by simp; omega)]
theorem butL_len {α : Type} (rs : List α) (but k : Nat) : (butL rs but k).length ≤ k := by
  unfold butL
  rw [List.length_eraseIdx]
  have := List.length_take_le k rs
  split <;> omega
theorem butL_full {α : Type} (rs : List α) (but k : Nat) (h : rs.length ≤ k) : butL rs but k = rs.eraseIdx but := by unfold butL; rw [List.take_of_length_le h]

/-- what a round keeps: the cells below n₀, and one box -/
def KpB (n₀ Bb : Nat) (W W' : World) : Prop := Below n₀ W W' ∧ ∀ v, W.cell? ⟨Bb, 0, none⟩ = some v → W'.cell? ⟨Bb, 0, none⟩ = some v
theorem KpB.trans {n₀ Bb : Nat} {A B C : World} (h : KpB n₀ Bb A B) (k : KpB n₀ Bb B C) : KpB n₀ Bb A C := ⟨h.1.trans k.1, fun v hv => k.2 v (h.2 v hv)⟩
theorem KpB.refl (n₀ Bb : Nat) (A : World) : KpB n₀ Bb A A := ⟨Below.refl _ _, fun v hv => hv⟩

set_option maxRecDepth 100000 in
set_option maxHeartbeats 1000000 in
theorem iter1_in (F : Fence) (n : Nat) (h92 : F.fn 92) (hro : F.round = none) (hn : 1 ≤ n) (l Bs Bb n₀ b off len cap but : Nat) (w0 : World) (rs : List (RowT w0)) (hlen : rs.length = len) (hsm : len ≤ 5864062014806) (hb : b < n₀) (J Jx : List (RowT w0) → World → Prop)
    (hY : ∀ pre (x : RowT w0) W, J pre W → pre.length < len → YieldAt F (n - 1) Try.prog l #[.slice x.1.A x.1.n x.1.c] W fun e W' =>
      (e = .returned (.bool true) ∧ J (pre ++ [x]) W' ∧ KpB n₀ Bb W W') ∨ (e = .returned (.bool false) ∧ Jx (pre ++ [x]) W'))
    (W : World) (hBs : W.cell? ⟨Bs, 0, none⟩ = some (.slice (some ⟨b, off, none⟩) len cap)) (hBb : W.cell? ⟨Bb, 0, none⟩ = some (.int .i64 but))
    (hc : ∀ j, j < len → W.cell? ⟨b, off + j, none⟩ = some (.slice (rowAt rs j).1.A (rowAt rs j).1.n (rowAt rs j).1.c)) (h0 : J [] W) :
    CallsIn F n Try.prog 92 #[.func (.yield l) #[] #[], .pointer (some ⟨Bs, 0, none⟩), .pointer (some ⟨Bb, 0, none⟩)] W fun e W' => (∃ v, e = .returned v) ∧
      ((∃ ys, ys = rs.eraseIdx but ∧ J ys W') ∨ (∃ pre, pre <+: rs.eraseIdx but ∧ Jx pre W')) := by
  have HC := Lib.hid hc
  have HL := Lib.hid hlen
  clear hc hlen
  refine callsIn_of_wp Try.func92 rfl h92 ?_ hro
  simp only [Try.ntmps92, List.size_toArray, List.length_cons, List.length_nil, Nat.reduceAdd, Nat.reduceSub, Array.replicate_succ, Array.replicate_zero, List.push_toArray, List.append_toArray, List.nil_append, List.cons_append]
  gi_wp2
  gi_loopw [8] (fun i wr => ∃ k : Nat, k ≤ len ∧ i = .int .i64 k ∧ J (butL rs but k) wr ∧ KpB n₀ Bb W wr) (fun i _ => len - (intOf i).toNat)
  case atStart => exact ⟨0, Nat.zero_le _, rfl, by rw [butL_zero]; exact h0, KpB.refl _ _ _⟩
  case round =>
    obtain ⟨k, hk, rfl, hJs, hnx⟩ := hrel
    have HJ := Lib.hid hJs
    have HK := Lib.hid hnx
    have hbb := hnx.2 _ hBb
    clear hJs hnx
    by_cases hlt : k < len
    · have hcx := (HK.out.1.cell (p := ⟨b, off + k, none⟩) hb).trans (HC.out k hlt)
      have hx : k < rs.length := by rw [HL.out]; exact hlt
      by_cases he : k = but
      · have he' : ((k : Int) != (but : Int)) = false := by simp [he]
        have HE := Lib.hid he
        clear he
        gi_wp2
        refine ⟨fun _ h => (by cases h), ?_⟩
        gi_wp2
        go_roundw
        case rel => exact ⟨k + 1, by omega, by simp, by have h := HJ.out; rw [← HE.out] at h; rw [← HE.out, butL_at rs k hx]; exact h, HK.out⟩
        case measure => simp [intOf]; omega
      · have he' : ((k : Int) != (but : Int)) = true := by rw [bne_iff_ne]; omega
        obtain ⟨fn, tmps, assign, body, hy, hR⟩ := hY _ (rowAt rs k) wr HJ.out (by have := butL_len rs but k; omega)
        gi_wp2
        refine hR.mono ?_
        rintro e W3 (⟨rfl, hJ3, hk3⟩ | ⟨rfl, hJx3⟩)
        · have HJ3 := Lib.hid hJ3
          have HK3 := Lib.hid hk3
          clear hJ3 hk3
          gi_wp2
          go_roundw
          case rel => exact ⟨k + 1, by omega, by simp, by rw [butL_succ rs but k hx he, ← rowAt_lt hx]; exact HJ3.out, HK.out.trans HK3.out⟩
          case measure => simp [intOf]; omega
        · have HJ3 := Lib.hid hJx3
          clear hJx3
          gi_wp2
          refine bodyPost_ret (results_none rfl _ _ _) rfl ?_
          refine ⟨⟨_, rfl⟩, .inr ⟨_, ?_, HJ3.out⟩⟩
          rw [rowAt_lt hx, ← butL_succ rs but k hx he]
          unfold butL
          exact List.IsPrefix.eraseIdx (List.take_prefix _ _) _
    · obtain rfl : k = len := by omega
      gi_wp2
      go_end0
      exact ⟨⟨_, rfl⟩, .inl ⟨_, butL_full rs but k (by rw [HL.out]; exact Nat.le_refl _), HJ.out⟩⟩

set_option maxHeartbeats 1000000 in
theorem clauses_in (F : Fence) (n : Nat) (h67 : F.fn 67) (hro : F.round = none) (A : Option Addr) (len cap : Nat) (x : Int) (w : World) :
    CallsIn F n Try.prog 67 #[.slice A len cap, .int .i64 x] w fun e w' => e = .returned (.func (.func 92) #[] #[.pointer (some ⟨w.heap.size, 0, none⟩), .pointer (some ⟨w.heap.size + 1, 0, none⟩)]) ∧
      w' = (w.alloc (.cells #[.slice A len cap] 27)).alloc (.cells #[.int .i64 x] 3) := by
  refine callsIn_of_wp Try.func67 rfl h67 ?_ hro
  simp only [Try.ntmps67, List.size_toArray, List.length_cons, List.length_nil, Nat.reduceAdd, Nat.reduceSub, Array.replicate_succ, Array.replicate_zero, List.push_toArray, List.append_toArray, List.nil_append, List.cons_append]
  gi_wp2
  go_ret
  exact ⟨rfl, rfl⟩

theorem clauses_stops (F : Fence) (n : Nat) (h92 : F.fn 92) (hro : F.round = none) (hn : 1 ≤ n) (Bs Bb n₀ b off len cap but : Nat) (w0 : World) (rs : List (RowT w0)) (hlen : rs.length = len) (hsm : len ≤ 5864062014806) (hb : b < n₀)
    (w : World) (hBs : Bs < w.heap.size) (hBb : Bb < w.heap.size) (hn₀ : n₀ ≤ w.heap.size) (cBs : w.cell? ⟨Bs, 0, none⟩ = some (.slice (some ⟨b, off, none⟩) len cap)) (cBb : w.cell? ⟨Bb, 0, none⟩ = some (.int .i64 but))
    (hc : ∀ j, j < len → w.cell? ⟨b, off + j, none⟩ = some (.slice (rowAt rs j).1.A (rowAt rs j).1.n (rowAt rs j).1.c)) :
    SeqStopsK F n Try.prog 92 #[.pointer (some ⟨Bs, 0, none⟩), .pointer (some ⟨Bb, 0, none⟩)] (fun x : RowT w0 => #[Value.slice x.1.A x.1.n x.1.c]) (KpB n₀ Bb) (fun ys => ys = rs.eraseIdx but) (fun pre => pre <+: rs.eraseIdx but) len w :=
  fun l J Jx W hW _ _ hY h0 =>
    iter1_in F n h92 hro hn l Bs Bb n₀ b off len cap but w0 rs hlen hsm hb J Jx hY W ((hW.cell (p := ⟨Bs, 0, none⟩) hBs).trans cBs) ((hW.cell (p := ⟨Bb, 0, none⟩) hBb).trans cBb)
      (fun j hj => (hW.cell (p := ⟨b, off + j, none⟩) (by show b < w.heap.size; omega)).trans (hc j hj)) h0

end Go.Proofs.Ytalcnkoidmoibaa

namespace Go.Proofs.Ytalcnkoidmoibaa
open Go.RowKit Go.Shelf
set_option linter.unusedVariables false
set_option linter.unusedSimpArgs false

/-- one pass over the clauses -/
def passT (S : List Int) (more : Bool) : List (List Int) → Option (List Int × Bool)
  | [] => some (S, more)
  | l :: cls => if (unitT S l 0).2 = true then none else if (unitT S l 0).1 ≠ 0 then passT (S ++ [(unitT S l 0).1]) true cls else passT S more cls

theorem passT_snoc : ∀ (pre : List (List Int)) (l : List Int) (S : List Int) (more : Bool), passT S more (pre ++ [l]) = (passT S more pre).bind fun r => passT r.1 r.2 [l]
  | [], l, S, more => rfl
  | p :: pre, l, S, more => by
    rw [List.cons_append, passT, passT]
    split
    · rfl
    · split
      · exact passT_snoc pre l _ _
      · exact passT_snoc pre l _ _

theorem passT_none : ∀ (pre rest : List (List Int)) (S : List Int) (more : Bool), passT S more pre = none → passT S more (pre ++ rest) = none
  | [], rest, S, more, h => by cases h
  | p :: pre, rest, S, more, h => by
    rw [passT] at h
    rw [List.cons_append, passT]
    split
    · rfl
    · rename_i h1
      rw [if_neg h1] at h
      split
      · rename_i h2; rw [if_pos h2] at h; exact passT_none pre rest _ _ h
      · rename_i h2; rw [if_neg h2] at h; exact passT_none pre rest _ _ h

/-- how many places of the clauses hold a literal that is not known -/
def openT (cls : List (List Int)) (S : List Int) : Nat := (cls.flatten.filter fun x => !(hasB S x)).length

theorem openT_le (cls : List (List Int)) (S : List Int) : openT cls S ≤ sumL cls := by
  unfold openT sumL
  refine Nat.le_trans (List.length_filter_le _ _) ?_
  rw [List.length_flatten]
  exact Nat.le_refl _

theorem filter_lt {l : List Int} {p q : Int → Bool} (h : ∀ x, q x = true → p x = true) {x : Int} (hx : x ∈ l) (hp : p x = true) (hq : q x = false) : (l.filter q).length < (l.filter p).length := by
  induction l with
  | nil => cases hx
  | cons y l ih =>
    have mono : (l.filter q).length ≤ (l.filter p).length := by
      clear ih hx
      induction l with
      | nil => simp
      | cons z l ih2 =>
        rw [List.filter_cons, List.filter_cons]
        cases hqz : q z with
        | true => rw [h z hqz]; simpa using ih2
        | false => cases p z <;> simp <;> omega
    rw [List.filter_cons, List.filter_cons]
    rcases List.mem_cons.1 hx with e | e
    · subst e; rw [hp, hq]; simp; omega
    · cases hqy : q y with
      | true => rw [h y hqy]; simpa using ih e
      | false => have := ih e; cases p y <;> simp <;> omega

theorem openT_lt {cls : List (List Int)} {S : List Int} {x : Int} {l : List Int} (hl : l ∈ cls) (hx : x ∈ l) (hn : hasB S x = false) : openT cls (S ++ [x]) < openT cls S := by
  unfold openT
  refine filter_lt (x := x) ?_ (List.mem_flatten.2 ⟨l, hl, hx⟩) (by rw [hn]; rfl) (by rw [hasB_snoc]; simp)
  intro y hy
  rw [hasB_snoc] at hy
  simp at hy
  simp [hy.1]

/-- what unit answers: a literal of the clause that is not known, nor its opposite; all others are false -/
theorem unitT_lit {S : List Int} : ∀ (l : List Int) (one : Int), (unitT S l one).1 ≠ 0 → ((unitT S l one).1 = one ∨ (one = 0 ∧ (unitT S l one).1 ∈ l ∧ hasB S (unitT S l one).1 = false ∧ hasB S (-(unitT S l one).1) = false)) ∧ (unitT S l one).2 = false
  | [], one, h => by
    refine ⟨Or.inl rfl, ?_⟩
    have : one ≠ 0 := h
    simp [unitT, this]
  | x :: l, one, h => by
    rw [unitT] at h ⊢
    split at h
    · exact absurd rfl h
    · rename_i h1
      rw [if_neg h1]
      split at h
      · rename_i h2
        rw [if_pos h2]
        obtain ⟨h3, h4⟩ := unitT_lit l one h
        refine ⟨h3.imp id fun h => ⟨h.1, List.mem_cons_of_mem _ h.2.1, h.2.2⟩, h4⟩
      · rename_i h2
        rw [if_neg h2]
        split at h
        · exact absurd rfl h
        · rename_i h3
          rw [if_neg h3]
          obtain ⟨h4, h5⟩ := unitT_lit l x h
          refine ⟨Or.inr ⟨by simpa using h3, ?_⟩, h5⟩
          rcases h4 with e | ⟨_, e1, e2⟩
          · rw [e]
            exact ⟨by simp, by simpa using h1, by simpa using fun hh => h2 (Or.inl hh)⟩
          · exact ⟨List.mem_cons_of_mem _ e1, e2⟩
theorem unitT_mem {S l : List Int} (h : (unitT S l 0).1 ≠ 0) : (unitT S l 0).1 ∈ l ∧ hasB S (unitT S l 0).1 = false ∧ hasB S (-(unitT S l 0).1) = false := by
  rcases (unitT_lit l 0 h).1 with e | e
  · exact absurd e h
  · exact e.2

/-- a pass that puts something leaves less open -/
theorem passT_open : ∀ (cls all : List (List Int)) (S : List Int) (more : Bool) (S' : List Int) (more' : Bool), (∀ l ∈ cls, l ∈ all) → passT S more cls = some (S', more') →
    S'.length + openT all S' ≤ S.length + openT all S ∧ openT all S' ≤ openT all S ∧ (more' = false → more = false ∧ S' = S) ∧ (more' = true → more = false → openT all S' < openT all S)
  | [], all, S, more, S', more', _, h => by
    cases h
    exact ⟨Nat.le_refl _, Nat.le_refl _, fun h => ⟨h, rfl⟩, fun h h2 => by rw [h] at h2; cases h2⟩
  | l :: cls, all, S, more, S', more', hin, h => by
    rw [passT] at h
    split at h
    · cases h
    · split at h
      · rename_i h2
        obtain ⟨hm, hn, _⟩ := unitT_mem h2
        have hlt := openT_lt (hin l (by simp)) hm hn
        obtain ⟨a1, a2, a3, a4⟩ := passT_open cls all _ _ S' more' (fun l hl => hin l (by simp [hl])) h
        rw [List.length_append, List.length_singleton] at a1
        refine ⟨by omega, by omega, fun h => ?_, fun _ _ => by omega⟩
        have := (a3 h).1; cases this
      · exact passT_open cls all _ _ S' more' (fun l hl => hin l (by simp [hl])) h

/-- the closure -/
def closeT (cls : List (List Int)) : Nat → List Int → Option (List Int)
  | 0, S => some S
  | f + 1, S => match passT S false cls with
    | none => none
    | some (S', false) => some S'
    | some (S', true) => closeT cls f S'

theorem closeT_fuel (cls : List (List Int)) : ∀ (f : Nat) (S : List Int), openT cls S + 1 ≤ f → closeT cls f S = closeT cls (openT cls S + 1) S := by
  intro f
  induction f using Nat.strongRecOn with
  | _ f ih =>
    intro S hf
    obtain ⟨f, rfl⟩ : ∃ g, f = g + 1 := ⟨f - 1, by omega⟩
    rw [closeT, closeT]
    cases hp : passT S false cls with
    | none => rfl
    | some r =>
      obtain ⟨S', m⟩ := r
      cases m with
      | false => rfl
      | true =>
        have hlt := (passT_open cls cls S false S' true (fun l h => h) hp).2.2.2 rfl rfl
        show closeT cls f S' = closeT cls (openT cls S) S'
        rw [ih f (by omega) S' (by omega), ih (openT cls S) (by omega) S' (by omega)]

def closureT (cls : List (List Int)) (S : List Int) : Option (List Int) := closeT cls (openT cls S + 1) S
theorem closureT_none {cls : List (List Int)} {S : List Int} (h : passT S false cls = none) : closureT cls S = none := by unfold closureT; rw [closeT, h]
theorem closureT_done {cls : List (List Int)} {S S' : List Int} (h : passT S false cls = some (S', false)) : closureT cls S = some S' := by unfold closureT; rw [closeT, h]
theorem closureT_more {cls : List (List Int)} {S S' : List Int} (h : passT S false cls = some (S', true)) : closureT cls S = closureT cls S' := by
  have hlt := (passT_open cls cls S false S' true (fun l h => h) h).2.2.2 rfl rfl
  unfold closureT
  rw [closeT, h]
  exact closeT_fuel cls _ S' (by omega)

/- the marks -/
def coll (D : Nat) : Deferred := { target := .collected D, args := #[] }
/-- as it was, but for some blocks that are no cells -/
structure Shut (ds : List Nat) (W W' : World) : Prop where
  os : W'.os = W.os
  tape : W'.tape = W.tape
  output : W'.output = W.output
  size : W'.heap.size = W.heap.size
  block : ∀ k, k ∉ ds → W'.heap[k]? = W.heap[k]?
theorem Shut.below {ds : List Nat} {W W' w : World} {n₀ : Nat} (h : Shut ds W W') (hb : Below n₀ w W) (hd : ∀ D ∈ ds, n₀ ≤ D) : Below n₀ w W' :=
  ⟨h.os.trans hb.os, h.tape.trans hb.tape, h.output.trans hb.output, by rw [h.size]; exact hb.size, fun k hk => (h.block k (fun hm => by have := hd k hm; omega)).trans (hb.block k hk)⟩
theorem Shut.cell {ds : List Nat} {W W' : World} (h : Shut ds W W') {p : Addr} (hp : p.block ∉ ds) : W'.cell? p = W.cell? p := World.cell?_of_block (w := W) (h.block p.block hp)

theorem leaves_marks {F : Fence} {n : Nat} {P : Program} {fn : Func} {tmps : Array Value} {R : Ending → World → Prop} {u : FrameMode} (hu : u ≠ .run) : ∀ (ds : List Nat) (W : World), ds.Nodup → (∀ D ∈ ds, W.heap[D]? = some (.deferred (some []))) →
    (∀ W', Shut ds W W' → LeavesIn F n P fn tmps R [] u W') → LeavesInM F n P fn tmps R (ds.map coll) u W
  | [], W, _, _, h => h W ⟨rfl, rfl, rfl, rfl, fun _ _ => rfl⟩
  | D :: ds, W, hnd, hd, h => by
    have hnd' := List.nodup_cons.1 hnd
    refine ⟨hu, .inl ⟨D, _, rfl, run_takeDeferred (hd D (by simp)), leaves_marks hu ds _ hnd'.2 (fun E hE => ?_) (fun W' hs => h W' ?_)⟩⟩
    · rw [World.putObj_heap_other (by intro e; subst e; exact hnd'.1 hE)]
      exact hd E (by simp [hE])
    · refine ⟨hs.os, hs.tape, hs.output, hs.size.trans (by simp [World.putObj]), fun k hk => ?_⟩
      simp only [List.mem_cons, not_or] at hk
      rw [hs.block k hk.2, World.putObj_heap_other (by intro e; exact hk.1 e)]

end Go.Proofs.Ytalcnkoidmoibaa
