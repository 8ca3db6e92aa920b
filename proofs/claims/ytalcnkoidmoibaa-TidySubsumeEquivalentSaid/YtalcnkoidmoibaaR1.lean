/-
  tidy.Reduce's order of two places. No condition.
-/
import Derived.Test.YtalcnkoidmoibaaS2
import Derived.StillTailTactics
namespace Go.Proofs.Ytalcnkoidmoibaa
open Go.RowKit Go.Shelf Go.Sort Go.Lib
set_option linter.unusedVariables false
set_option linter.unusedSimpArgs false

/-- a learnt clause: its list, its levels, its activity -/
structure Lrn where
  r : Row
  lv : Int
  act : Int
instance : Inhabited Lrn := ⟨⟨⟨none, 0, 0, []⟩, 0, 0⟩⟩
def lrn (es : List Lrn) (k : Nat) : Lrn := es.getD k default
theorem lrn_lt {es : List Lrn} {k : Nat} (h : k < es.length) : lrn es k = es[k] := by simp [lrn, List.getD_eq_getElem?_getD, List.getElem?_eq_getElem h]

/-- a slice of learnt clauses that reads as a list in a world -/
structure RE (w : World) (A : Option Addr) (n c : Nat) (es : List Lrn) : Prop where
  len : es.length = n
  cap : n ≤ c
  big : n * 40 ≤ 140737488355328
  cmax : c ≤ maxLen
  cells : 0 < n → ∃ b off, A = some ⟨b, off, none⟩ ∧ b < w.heap.size ∧ ∀ j, j < n → w.cell? ⟨b, off + j * 3, none⟩ = some (rowV (lrn es j).r) ∧ w.cell? ⟨b, off + j * 3 + 1, none⟩ = some (.int .i64 (lrn es j).lv) ∧ w.cell? ⟨b, off + j * 3 + 2, none⟩ = some (.int .i64 (lrn es j).act) ∧ RI w (lrn es j).r.A (lrn es j).r.n (lrn es j).r.c (lrn es j).r.zs
theorem RE.below {w w' : World} {A : Option Addr} {n c : Nat} {es : List Lrn} (h : RE w A n c es) (hb : Below w.heap.size w w') : RE w' A n c es :=
  ⟨h.len, h.cap, h.big, h.cmax, fun hn => by
    obtain ⟨b, off, rfl, hlt, hc⟩ := h.cells hn
    refine ⟨b, off, rfl, Nat.lt_of_lt_of_le hlt hb.size, fun j hj => ?_⟩
    obtain ⟨h1, h2, h3, h4⟩ := hc j hj
    exact ⟨(hb.cell (p := ⟨b, _, none⟩) hlt).trans h1, (hb.cell (p := ⟨b, _, none⟩) hlt).trans h2, (hb.cell (p := ⟨b, _, none⟩) hlt).trans h3, h4.below hb⟩⟩
theorem RE.small {w : World} {A : Option Addr} {n c : Nat} {es : List Lrn} (h : RE w A n c es) : n ≤ 3518437208883 := by have := h.big; omega

set_option maxHeartbeats 800000 in
theorem or3_any (g : Nat) (x y z : Int) (w : World) (h0 : w.cell? ⟨g, 0, none⟩ = some (.int .i64 x)) (h1 : w.cell? ⟨g, 1, none⟩ = some (.int .i64 y)) (h2 : w.cell? ⟨g, 2, none⟩ = some (.int .i64 z)) :
    Calls Try.prog 33 #[.slice (some ⟨g, 0, none⟩) 3 3] w fun e w' => e = .returned (.int .i64 (orI x (orI y z))) ∧ w = w' := by
  by_cases hx : x = 0
  · have hx1 : (x != 0) = false := by simp [hx]
    have HX := Lib.hid hx
    clear hx
    by_cases hy : y = 0
    · have hy1 : (y != 0) = false := by simp [hy]
      have HY := Lib.hid hy
      clear hy
      by_cases hz : z = 0
      · have hz1 : (z != 0) = false := by simp [hz]
        have HZ := Lib.hid hz
        clear hz
        go_enter Try.func33, Try.ntmps33
        go_wp2
        refine wp_loop_rounds 4 ?_
        rw [rounds_succ]
        go_wp2
        rw [rounds_succ]
        go_wp2
        rw [rounds_succ]
        go_wp2
        rw [rounds_succ]
        go_wp2
        go_ret
        exact ⟨ret_int (by rw [orI, if_pos HX.out, orI, if_pos HY.out, HZ.out]), rfl⟩
      · have hz1 : (z != 0) = true := by simpa using hz
        clear hz
        go_enter Try.func33, Try.ntmps33
        go_wp2
        refine wp_loop_rounds 3 ?_
        rw [rounds_succ]
        go_wp2
        rw [rounds_succ]
        go_wp2
        rw [rounds_succ]
        go_wp2
        go_ret
        exact ⟨ret_int (by rw [orI, if_pos HX.out, orI, if_pos HY.out]), rfl⟩
    · have hy1 : (y != 0) = true := by simpa using hy
      have HY := Lib.hid hy
      clear hy
      go_enter Try.func33, Try.ntmps33
      go_wp2
      refine wp_loop_rounds 2 ?_
      rw [rounds_succ]
      go_wp2
      rw [rounds_succ]
      go_wp2
      go_ret
      exact ⟨ret_int (by rw [orI, if_pos HX.out, orI, if_neg HY.out]), rfl⟩
  · have hx1 : (x != 0) = true := by simpa using hx
    have HX := Lib.hid hx
    clear hx
    go_enter Try.func33, Try.ntmps33
    go_wp2
    refine wp_loop_rounds 1 ?_
    rw [rounds_succ]
    go_wp2
    go_ret
    exact ⟨ret_int (by rw [orI, if_neg HX.out]), rfl⟩

theorem compare_still (x y : Int) (w : World) : Calls Try.prog 34 #[.int .i64 x, .int .i64 y] w fun e w' => e = .returned (.int .i64 (cmpI x y)) ∧ w' = w := (compare_any x y w).mono fun _ _ ⟨h1, h2⟩ => ⟨h1, h2.symm⟩
/-- how two places are ordered -/
def ordI (es : List Lrn) (i k : Nat) : Int := orI (cmpI (lrn es k).act (lrn es i).act) (orI (cmpI (lrn es i).lv (lrn es k).lv) (cmpI k i))

set_option maxRecDepth 100000 in
set_option maxHeartbeats 2000000 in
theorem red1_any (B i k : Nat) (A : Option Addr) (n c : Nat) (es : List Lrn) (w : World) (hB : w.cell? ⟨B, 0, none⟩ = some (.slice A n c)) (h : RE w A n c es) (hi : i < n) (hk : k < n) :
    Calls Try.prog 32 #[.int .i64 i, .int .i64 k, .pointer (some ⟨B, 0, none⟩)] w fun e w' => e = .returned (.int .i64 (ordI es i k)) ∧ ∃ q os', w' = grow (w.drewN q) os' := by
  have hn := h.small
  obtain ⟨b, off, rfl, hbl, hc⟩ := h.cells (by omega)
  obtain ⟨i0, i1, i2, _⟩ := hc i hi
  obtain ⟨k0, k1, k2, _⟩ := hc k hk
  clear hc
  have hi' : (i : Int) < (n : Int) := by omega
  have hk' : (k : Int) < (n : Int) := by omega
  go_enter Try.func32, Try.ntmps32
  go_wp2
  refine wp_region_still_tail 25 (by kernel_rfl) (by kernel_rfl) ?_
  simp only [List.take_succ_cons, List.take_zero, List.drop_succ_cons, List.drop_zero]
  repeat (first | still_step | still_call (compare_still _ _ _))
  refine wpStill_nil ?_
  change wpList _ _ _ _ _ w.drew
  have hal : ∀ o, w.drew.alloc o = grow (w.drewN 1) #[o] := fun o => by rw [alloc_eq_grow]; rfl
  generalize w.drew = w2 at hal ⊢
  have HAL := Lib.hid hal
  clear hal
  go_wp2_with (go_at_call 33; refine (or3_any w2.heap.size (cmpI (lrn es k).act (lrn es i).act) (cmpI (lrn es i).lv (lrn es k).lv) (cmpI k i) _ (by go_simp) (by go_simp) (by go_simp)).mono ?_; rintro e w' ⟨rfl, rfl⟩)
  go_ret
  exact ⟨rfl, 1, #[_], HAL.out _⟩

theorem enters32 : ∀ args w, (callFunc 32 args).run Try.prog w = .ok (.enter 32 args) w := enters_of Try.func32 (by kernel_rfl) rfl

theorem ordI_neg {es : List Lrn} {i k : Nat} : ordI es i k < 0 ↔ ((lrn es k).act < (lrn es i).act ∨ ((lrn es k).act = (lrn es i).act ∧ ((lrn es i).lv < (lrn es k).lv ∨ ((lrn es i).lv = (lrn es k).lv ∧ k < i)))) := by
  unfold ordI orI cmpI; (repeat' split) <;> omega

/-- a place -/
abbrev Pl (n : Nat) := { i : Nat // i < n }
def encP {n : Nat} (i : Pl n) : Value := .int .i64 (i.1 : Int)
def cfP (es : List Lrn) {n : Nat} (i k : Pl n) : Int := ordI es i.1 k.1
theorem oneP {n : Nat} : OneCell (encP (n := n)) := fun _ => rfl
theorem swoP (es : List Lrn) {n : Nat} : SWO (ltOf (cfP es (n := n))) where
  irrefl x := by unfold ltOf cfP; rw [decide_eq_false_iff_not, ordI_neg]; omega
  trans x y z h1 h2 := by
    unfold ltOf cfP at *
    rw [decide_eq_true_eq, ordI_neg] at *
    omega
  ntrans x y z h1 h2 := by
    unfold ltOf cfP at *
    rw [decide_eq_false_iff_not, ordI_neg] at *
    omega
theorem totP (es : List Lrn) {n : Nat} (x y : Pl n) (h1 : ltOf (cfP es) x y = false) (h2 : ltOf (cfP es) y x = false) : x = y := by
  unfold ltOf cfP at *
  rw [decide_eq_false_iff_not, ordI_neg] at *
  apply Subtype.ext
  omega

theorem map_encP {n : Nat} (l : List (Pl n)) : l.map encP = (l.map (fun i => (i.1 : Int))).map (Value.int .i64) := by rw [List.map_map]; rfl

theorem sortWorld_below {n : Nat} [Inhabited (Pl n)] (w : World) (base g q : Nat) (dk : Array (Pl n)) (os : Array Obj) (hb : base ≤ g) (hs : base ≤ w.heap.size) : Below base w (sortWorld encP w g 0 q dk os) := by
  have hbp := below_putRow (enc := encP (n := n)) (q := q) (d := dk) (Below.refl base w) hb
  exact below_grow hbp (by simp [putRow, mapBlock, Sort.ahead]; omega) os

set_option maxRecDepth 4000 in
theorem sort_red (w0 w : World) (B n c : Nat) (A : Option Addr) (es : List Lrn) (base g m cap : Nat) (ps : List (Pl n)) (hn : 0 < n) (h : Own w base g m cap (ps.map (fun i => (i.1 : Int)))) (hb : base ≤ g) (hm : m * 8 ≤ 140737488355328)
    (hB : w0.cell? ⟨B, 0, none⟩ = some (.slice A n c)) (hBl : B < w0.heap.size) (hR : RE w0 A n c es) (hbl : Below w0.heap.size w0 w) (hbs : w0.heap.size ≤ base) :
    Calls Try.prog 31 #[.slice (some ⟨g, 0, none⟩) m cap, .func (.func 32) #[] #[.pointer (some ⟨B, 0, none⟩)]] w fun e w' =>
      e = .returned (.tuple #[]) ∧ Own w' base g m cap ((ps.mergeSort fun x y => !(ltOf (cfP es)) y x).map (fun i => (i.1 : Int))) ∧ Below base w w' := by
  haveI : Inhabited (Pl n) := ⟨⟨0, hn⟩⟩
  have h' : w.ownsRow base 3 1 (.slice (some ⟨g, 0, none⟩) m cap) m (ps.map encP) := by rw [map_encP]; exact h
  obtain ⟨g', cap', he, h1, h2, h3, h4, h5, h6⟩ := holds_of_ownsRow h' (by intro e; cases e)
  cases he
  have hm' : m < 4611686018427387904 := by omega
  have hcmp : CmpLays1 Try.prog 32 #[.pointer (some ⟨B, 0, none⟩)] (encP (n := n)) (cfP es) g 0 ps.toArray.size w := by
    intro q os dk hs x y
    have hW := hbl.trans ((sortWorld_below w base g q dk os hb (by omega)).mono hbs)
    exact red1_any B x.1 y.1 A n c es _ ((hW.cell (p := ⟨B, 0, none⟩) hBl).trans hB) (hR.below hW) x.2 y.2
  have hc := Try.slices_SortFunc_total encP oneP (cfP es) (swoP es) 32 #[.pointer (some ⟨B, 0, none⟩)] g 0 cap ps.toArray w enters32 hcmp h6 h2 (by simpa [h5] using hm') (totP es)
  have hs : ps.toArray.size = m := by simp [h5]
  rw [hs] at hc
  refine hc.mono ?_
  rintro e w' ⟨rfl, q, os, rfl⟩
  have hown := ownsRow_putRow (q := q) (k := m) (ys := ps.mergeSort fun x y => !(ltOf (cfP es)) y x) h' (by simp [h5]) (Nat.le_refl _)
  rw [List.take_of_length_le (by simp [h5]), map_encP] at hown
  refine ⟨rfl, ?_, sortWorld_below w base g q _ os hb (by omega)⟩
  have := ownsRow_grow hown 0 os
  exact this

end Go.Proofs.Ytalcnkoidmoibaa
