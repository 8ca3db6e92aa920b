/-
  The index of a trail: looked, step, level, dead of the package learn. No condition.
  A laying of the shelf at this program, written by the kit's tools lay-shelf.mjs and lay-plain.mjs for another seat, turned by wip/learn/portshelf.py: slices.SortFunc at ints. No condition.
  variable, told of the package learn; Var, Rising of the reference; sorted rows. No condition.
-/
import Derived.Test.YtenpenelikpeeaaZC5
import Derived.Shelf.SlSortCmp.Whole1
import Derived.Shelf.SlSortCmp.NoneTotal
import Derived.Test.YtenpenelikpeeaaProg

namespace Go.Proofs.Ytenpenelikpeeaa
open Go.RowKit Go.Shelf
set_option linter.unusedVariables false
set_option linter.unusedSimpArgs false

/-- what Check says of a trail -/
structure Tr (x : Int) (ls : List (List Int)) (ts : List Stp) : Prop where
  lit : ∀ k, k < ts.length → isB (stp ts k).lit x = true
  apart : ∀ j k, j < k → k < ts.length → (stp ts j).lit ≠ (stp ts k).lit ∧ (stp ts j).lit ≠ -(stp ts k).lit
  why : ∀ k, k < ts.length → -1 ≤ (stp ts k).why ∧ (stp ts k).why < (ls.length : Int)
  reason : ∀ k, k < ts.length → 0 ≤ (stp ts k).why → (stp ts k).lit ∈ ell ls (stp ts k).why.toNat ∧ ∀ y ∈ ell ls (stp ts k).why.toNat, y ≠ (stp ts k).lit → ∃ j, j < k ∧ (stp ts j).lit = -y

theorem mem_litsTake {ts : List Stp} {k : Nat} (hk : k ≤ ts.length) {y : Int} : y ∈ litsOf (ts.take k) ↔ ∃ j, j < k ∧ (stp ts j).lit = y := by
  unfold litsOf
  rw [List.mem_map]
  constructor
  · rintro ⟨s, hs, rfl⟩
    obtain ⟨j, hj, rfl⟩ := List.mem_iff_getElem.1 hs
    have hj' : j < k := by rw [List.length_take] at hj; omega
    exact ⟨j, hj', by rw [List.getElem_take, stp_lt (by omega)]⟩
  · rintro ⟨j, hj, rfl⟩
    refine ⟨stp ts j, ?_, rfl⟩
    rw [stp_lt (by omega)]
    exact List.mem_take_iff_getElem.2 ⟨j, by omega, rfl⟩

theorem hasB_false {S : List Int} {x : Int} : hasB S x = false ↔ ¬ x ∈ S := by
  rw [← Bool.not_eq_true, hasB_iff]

theorem trail_tr {x : Int} {ls : List (List Int)} {ts : List Stp} (h : trailB x ls ts = true) : Tr x ls ts := by
  have hk : ∀ k, k < ts.length → stepOk x ls (litsOf (ts.take k)) (stp ts k) = true := fun k hk => by
    unfold trailB trailTo at h
    exact List.all_eq_true.1 h k (List.mem_range.2 hk)
  refine ⟨fun k h1 => (step_yes (hk k h1)).1, fun j k hjk h1 => ?_, fun k h1 => ⟨(step_yes (hk k h1)).2.2.1, (step_yes (hk k h1)).2.2.2.1⟩, fun k h1 h2 => ?_⟩
  · have h2 := (step_yes (hk k h1)).2.1
    obtain ⟨h3, h4⟩ := Bool.or_eq_false_iff.1 h2
    rw [hasB_false, mem_litsTake (by omega)] at h3 h4
    exact ⟨fun e => h3 ⟨j, hjk, e⟩, fun e => h4 ⟨j, hjk, e⟩⟩
  · obtain ⟨h3, h4⟩ := (step_yes (hk k h1)).2.2.2.2 h2
    refine ⟨hasB_iff.1 h3, fun y hy hne => ?_⟩
    rw [List.any_eq_false] at h4
    have := h4 y hy
    have h5 : (y != (stp ts k).lit) = true := by simpa using hne
    rw [h5] at this
    have h6 : hasB (litsOf (ts.take k)) (-y) = true := by simpa using this
    rw [hasB_iff, mem_litsTake (by omega)] at h6
    exact h6
theorem propE_zero {x : Int} {ls : List (List Int)} {ts : List Stp} (h : propE x ls ts = 0) : checkE x ls = 0 ∧ trailB x ls ts = true := by
  unfold propE at h
  by_cases h1 : checkE x ls = 0
  · rw [if_neg (by simpa using h1)] at h
    refine ⟨h1, ?_⟩
    cases h2 : trailB x ls ts with
    | true => rfl
    | false => rw [h2] at h; simp at h
  · rw [if_pos h1] at h; exact absurd h h1
theorem Tr.plc {x : Int} {ls : List (List Int)} {ts : List Stp} (h : Tr x ls ts) {k : Nat} (hk : k < ts.length) : plc ts (stp ts k).lit = k :=
  plc_at hk rfl fun j hj => (h.apart j k hj hk).1

/-- what the index holds -/
def atTo (ts : List Stp) (k : Nat) : Int → Option Int := fun y => if plc ts y < k then some (plc ts y : Int) else none
def atF (ts : List Stp) : Int → Option Int := atTo ts ts.length
theorem atTo_succ {x : Int} {ls : List (List Int)} {ts : List Stp} (h : Tr x ls ts) {k : Nat} (hk : k < ts.length) : putF (atTo ts k) (stp ts k).lit (k : Int) = atTo ts (k + 1) := by
  funext y
  unfold putF atTo
  by_cases e1 : y = (stp ts k).lit
  · subst e1
    rw [if_pos rfl, h.plc hk, if_pos (by omega)]
  · rw [if_neg e1]
    have : plc ts y ≠ k := fun e => e1 (by have := (plc_lt (ts := ts) (x := y) (by omega)).1; rw [e] at this; exact this.symm)
    by_cases h1 : plc ts y < k
    · rw [if_pos h1, if_pos (by omega)]
    · rw [if_neg h1, if_neg (by omega)]

abbrev IntM (w : World) (b n : Nat) (f : Int → Option Int) : Prop := MF 3 edI w b n f

/-- a block that holds an index -/
def BoxK (w : World) (B : Nat) (x : Int) (A : Option Addr) (n c : Nat) (A' : Option Addr) (n' c' : Nat) (A2 : Option Addr) (n2 q2 : Nat) (m : Option Nat) : Prop :=
  w.heap[B]? = some (.cells #[.int .i64 x, .slice A n c, .slice A' n' c', .slice A2 n2 q2, .map m] 58 (0, 0))
section
variable {w w' : World} {B : Nat} {x : Int} {A : Option Addr} {n c : Nat} {A' : Option Addr} {n' c' : Nat} {A2 : Option Addr} {n2 q2 : Nat} {m : Option Nat}
theorem BoxK.c0 (h : BoxK w B x A n c A' n' c' A2 n2 q2 m) : w.cell? ⟨B, 0, none⟩ = some (.int .i64 x) := by simp [World.cell?, show w.heap[B]? = _ from h]
theorem BoxK.c1 (h : BoxK w B x A n c A' n' c' A2 n2 q2 m) : w.cell? ⟨B, 1, none⟩ = some (.slice A n c) := by simp [World.cell?, show w.heap[B]? = _ from h]
theorem BoxK.c2 (h : BoxK w B x A n c A' n' c' A2 n2 q2 m) : w.cell? ⟨B, 2, none⟩ = some (.slice A' n' c') := by simp [World.cell?, show w.heap[B]? = _ from h]
theorem BoxK.c3 (h : BoxK w B x A n c A' n' c' A2 n2 q2 m) : w.cell? ⟨B, 3, none⟩ = some (.slice A2 n2 q2) := by simp [World.cell?, show w.heap[B]? = _ from h]
theorem BoxK.c4 (h : BoxK w B x A n c A' n' c' A2 n2 q2 m) : w.cell? ⟨B, 4, none⟩ = some (.map m) := by simp [World.cell?, show w.heap[B]? = _ from h]
theorem BoxK.f (h : BoxK w B x A n c A' n' c' A2 n2 q2 m) (k : Nat) : w.frozen? ⟨B, k, none⟩ = false := by simp [World.frozen?, show w.heap[B]? = _ from h]
theorem BoxK.lt (h : BoxK w B x A n c A' n' c' A2 n2 q2 m) : B < w.heap.size := (Array.getElem?_eq_some_iff.1 h).1
theorem BoxK.below (h : BoxK w B x A n c A' n' c' A2 n2 q2 m) (hb : Below w.heap.size w w') : BoxK w' B x A n c A' n' c' A2 n2 q2 m := (hb.block B h.lt).trans h
theorem BoxK.kept {row : Option Nat} (h : BoxK w B x A n c A' n' c' A2 n2 q2 m) (hg : w.grownBy w' row) (hne : some B ≠ row) : BoxK w' B x A n c A' n' c' A2 n2 q2 m := (hg.block B h.lt hne).trans h
theorem BoxK.new (w : World) (x : Int) (A : Option Addr) (n c : Nat) (A' : Option Addr) (n' c' : Nat) (A2 : Option Addr) (n2 q2 : Nat) (m : Option Nat) :
    BoxK (w.alloc (.cells #[.int .i64 x, .slice A n c, .slice A' n' c', .slice A2 n2 q2, .map m] 58)) w.heap.size x A n c A' n' c' A2 n2 q2 m := World.alloc_heap_new w _
end
def lookV (x : Int) (A : Option Addr) (n c : Nat) (A' : Option Addr) (n' c' : Nat) (A2 : Option Addr) (n2 c2 : Nat) (m : Option Nat) : Value :=
  .agg #[.int .i64 x, .slice A n c, .slice A' n' c', .slice A2 n2 c2, .map m]

def isT (ts : List Stp) (y : Int) : Bool := decide (plc ts (-y) < ts.length)
def whereT (ts : List Stp) (y : Int) : Int := if plc ts (-y) < ts.length then (plc ts (-y) : Int) else 0

set_option maxRecDepth 100000 in
set_option maxHeartbeats 400000 in
theorem lstep_any (x : Int) (A : Option Addr) (n c : Nat) (A' : Option Addr) (n' c' : Nat) (A2 : Option Addr) (n2 c2 : Nat) (b k : Nat) (ts : List Stp) (y : Int) (w : World) (h : IntM w b k (atF ts)) (h0 : -65536 ≤ y) (h1 : y ≤ 65536) (r : Bool) (q : Int) (hr : isT ts y = r) (hq : whereT ts y = q) :
    Calls Try.prog 48 #[.agg #[.int .i64 x, .slice A n c, .slice A' n' c', .slice A2 n2 c2, .map (some b)], .int .i64 y] w fun e w' => e = .returned (.tuple #[.int .i64 q, .bool r]) ∧ Below w.heap.size w w' := by
  have hneg := lit_neg' h0 h1
  have hl := MF.lookOk ekI Try.underlying56 (h.alloc (.cells #[.int .i64 x, .slice A n c, .slice A' n' c', .slice A2 n2 c2, .map (some b)] 58)) (x := -y) (wfI_lit (by omega) (by omega))
  have e1 : (atF ts (-y)).getD 0 = q := by rw [← hq]; unfold atF atTo whereT; split <;> rfl
  have e2 : (atF ts (-y)).isSome = r := by rw [← hr]; unfold atF atTo isT; split <;> simp_all
  rw [e1, e2] at hl
  clear h e1 e2 hr hq
  go_enter Try.func48, Try.ntmps48
  go_wp2
  go_ret2
  exact ⟨rfl, (Below.refl _ _).alloc (Nat.le_refl _) _⟩

set_option maxRecDepth 100000 in
set_option maxHeartbeats 400000 in
theorem llevel_any (x : Int) (A : Option Addr) (n c : Nat) (A' : Option Addr) (n' c' : Nat) (A2 : Option Addr) (n2 c2 : Nat) (b k : Nat) (ts : List Stp) (y : Int) (w : World) (h : IntM w b k (atF ts)) (h2 : RI w A2 n2 c2 (levL ts)) (h0 : -65536 ≤ y) (h1 : y ≤ 65536) (hd : plc ts (-y) < ts.length) (q : Int) (hq : lvlT ts y = q) :
    Calls Try.prog 34 #[.agg #[.int .i64 x, .slice A n c, .slice A' n' c', .slice A2 n2 c2, .map (some b)], .int .i64 y] w fun e w' => e = .returned (.int .i64 q) ∧ Below w.heap.size w w' := by
  have hneg := lit_neg' h0 h1
  have hl := MF.look ekI Try.underlying56 (h.alloc (.cells #[.int .i64 x, .slice A n c, .slice A' n' c', .slice A2 n2 c2, .map (some b)] 58)) (x := -y) (wfI_lit (by omega) (by omega))
  have e1 : (atF ts (-y)).getD 0 = (plc ts (-y) : Int) := by unfold atF atTo; rw [if_pos hd]; rfl
  rw [e1] at hl
  have e2 : lvlT ts y = elt (levL ts) (plc ts (-y)) := by unfold lvlT; rw [if_pos hd, levL_at hd]
  rw [e2] at hq
  have hlen := h2.len
  rw [levL_len] at hlen
  have hr := h2.alloc (.cells #[.int .i64 x, .slice A n c, .slice A' n' c', .slice A2 n2 c2, .map (some b)] 58)
  generalize plc ts (-y) = p at *
  obtain ⟨b2, off2, rfl, hbl, hc⟩ := hr.cells (by omega)
  have hck := hc p (by omega)
  rw [hq] at hck
  have hpn : p < n2 := by omega
  clear h h2 e1 e2 hq hr hc hlen hd
  go_enter Try.func34, Try.ntmps34
  go_wp2
  go_ret
  exact ⟨rfl, (Below.refl _ _).alloc (Nat.le_refl _) _⟩

set_option maxRecDepth 100000 in
set_option maxHeartbeats 1000000 in
theorem dead_any (x : Int) (A : Option Addr) (n c : Nat) (A' : Option Addr) (n' c' : Nat) (A2 : Option Addr) (n2 c2 : Nat) (b k : Nat) (ts : List Stp) (A3 : Option Addr) (n3 c3 : Nat) (l : List Int) (w : World) (h : IntM w b k (atF ts)) (h3 : RI w A3 n3 c3 l) (hz : Okl l) (r : Bool) (hr : deadB ts l = r) :
    Calls Try.prog 32 #[.agg #[.int .i64 x, .slice A n c, .slice A' n' c', .slice A2 n2 c2, .map (some b)], .slice A3 n3 c3] w fun e w' => e = .returned (.bool r) ∧ Below w.heap.size w w' := by
  have hn3 := h3.small
  have HB0 := Lib.hid ((Below.refl w.heap.size w).alloc (Nat.le_refl _) (.cells #[.int .i64 x, .slice A n c, .slice A' n' c', .slice A2 n2 c2, .map (some b)] 58))
  have HX := Lib.hid (BoxK.new w x A n c A' n' c' A2 n2 c2 (some b))
  have HM := Lib.hid (h.alloc (.cells #[.int .i64 x, .slice A n c, .slice A' n' c', .slice A2 n2 c2, .map (some b)] 58))
  have H3 := Lib.hid (h3.alloc (.cells #[.int .i64 x, .slice A n c, .slice A' n' c', .slice A2 n2 c2, .map (some b)] 58))
  have HZ := Lib.hid hz
  have HRR := Lib.hid hr
  clear h h3 hz hr
  go_enter Try.func32, Try.ntmps32
  go_wp2
  generalize hW : w.alloc (.cells #[.int .i64 x, .slice A n c, .slice A' n' c', .slice A2 n2 c2, .map (some b)] 58) = W0 at *
  clear hW
  go_loopw [11] (fun s11 W => ∃ j : Nat, j ≤ n3 ∧ s11 = .int .i64 j ∧ deadB ts (l.take j) = true ∧ Below W0.heap.size W0 W) (fun s11 _ => n3 - (intOf s11).toNat)
  case atStart => exact ⟨0, Nat.zero_le _, rfl, rfl, Below.refl _ _⟩
  case round =>
    obtain ⟨j, hj, rfl, hd, hb⟩ := hrel
    have HD := Lib.hid hd
    have HB := Lib.hid hb
    clear hd hb
    by_cases hlt : j < n3
    · obtain ⟨b3, off3, rfl, hb3, hc3⟩ := (H3.out.below HB.out).cells (by omega)
      have hck := hc3 j hlt
      clear hc3
      have hl : j < l.length := by rw [H3.out.len]; exact hlt
      have hx := HZ.out.at hl
      have hxk := HX.out.below HB.out
      have q0 := hxk.c0
      have q1 := hxk.c1
      have q2 := hxk.c2
      have q3 := hxk.c3
      have q4 := hxk.c4
      have hm := HM.out.below HB.out HM.out.lt
      obtain ⟨r1, hr1⟩ : ∃ r1, isT ts (elt l j) = r1 := ⟨_, rfl⟩
      have hcall := lstep_any x A n c A' n' c' A2 n2 c2 b k ts (elt l j) wr hm hx.2.1 hx.2.2 r1 _ hr1 rfl
      generalize whereT ts (elt l j) = q at hcall
      cases r1
      · have E : Hid (deadB ts l = false) := Lib.hid (all_at (p := fun y => decide (plc ts (-y) < ts.length)) hl hr1)
        clear hl hx hxk hm hr1
        go_wp2_with (go_at_call 48; refine hcall.mono ?_; clear hcall; rintro e w2 ⟨rfl, hb2⟩; have HB2 := Lib.hid (HB.out.trans (hb2.mono HB.out.size)); clear hb2)
        go_ret
        exact ⟨ret_bool (by rw [← HRR.out, E.out]), HB0.out.trans (HB2.out.mono HB0.out.size)⟩
      · have E : Hid (deadB ts (l.take (j + 1)) = true) := Lib.hid (all_step (p := fun y => decide (plc ts (-y) < ts.length)) hl hr1 HD.out)
        clear hl hx hxk hm hr1
        go_wp2_with (go_at_call 48; refine hcall.mono ?_; clear hcall; rintro e w2 ⟨rfl, hb2⟩; have HB2 := Lib.hid (HB.out.trans (hb2.mono HB.out.size)); clear hb2)
        go_roundw
        case rel => exact ⟨j + 1, by omega, by go_num, E.out, HB2.out⟩
        case measure => simp [intOf]; omega
    · have E : Hid (deadB ts l = true) := Lib.hid (all_full (p := fun y => decide (plc ts (-y) < ts.length)) H3.out.len hlt HD.out)
      go_wp2
      go_ret
      exact ⟨ret_bool (by rw [← HRR.out, E.out]), HB0.out.trans (HB.out.mono HB0.out.size)⟩

end Go.Proofs.Ytenpenelikpeeaa

namespace Go.Proofs
open Go.Shelf
def Try.laysSlF6_f31_ren : Go.Shelf.Ren := ⟨fun | 6 => 66 | 15 => 83 | 14 => 82 | 28 => 93 | 29 => 94 | 20 => 85 | 21 => 86 | 22 => 87 | 23 => 88 | 24 => 89 | 25 => 90 | 26 => 91 | 27 => 92 | 46 => 95 | 47 => 96 | 48 => 97 | 49 => 98 | 50 => 99 | 57 => 100 | n => n, fun | 22 => 28 | 24 => 3 | 25 => 92 | 3 => 3 | 39 => 103 | 0 => 0 | 53 => 112 | 55 => 114 | 4 => 4 | 46 => 106 | 45 => 105 | 50 => 77 | 5 => 5 | 9 => 9 | 66 => 115 | 70 => 119 | 76 => 121 | 77 => 71 | n => n, fun | n => n⟩
theorem Try.laysSlF6_f31 : Go.Proofs.SlLaysF.n6 Try.prog Try.laysSlF6_f31_ren := {
  mixed := by kernel_rfl
  f6 := ⟨Try.f66.name, by decide, Try.func66.trans (congrArg some (by kernel_rfl))⟩
  f14 := ⟨Try.f82.name, by decide, Try.func82.trans (congrArg some (by kernel_rfl))⟩
  f15 := Try.func83.trans (congrArg some (by kernel_rfl))
  f20 := ⟨Try.f85.name, by decide, Try.func85.trans (congrArg some (by kernel_rfl))⟩
  f21 := ⟨Try.f86.name, by decide, Try.func86.trans (congrArg some (by kernel_rfl))⟩
  f22 := ⟨Try.f87.name, by decide, Try.func87.trans (congrArg some (by kernel_rfl))⟩
  f23 := ⟨Try.f88.name, by decide, Try.func88.trans (congrArg some (by kernel_rfl))⟩
  f24 := ⟨Try.f89.name, by decide, Try.func89.trans (congrArg some (by kernel_rfl))⟩
  f25 := ⟨Try.f90.name, by decide, Try.func90.trans (congrArg some (by kernel_rfl))⟩
  f26 := ⟨Try.f91.name, by decide, Try.func91.trans (congrArg some (by kernel_rfl))⟩
  f27 := ⟨Try.f92.name, by decide, Try.func92.trans (congrArg some (by kernel_rfl))⟩
  f28 := Try.func93.trans (congrArg some (by kernel_rfl))
  f29 := Try.func94.trans (congrArg some (by kernel_rfl))
  f46 := ⟨Try.f95.name, by decide, Try.func95.trans (congrArg some (by kernel_rfl))⟩
  f47 := Try.func96.trans (congrArg some (by kernel_rfl))
  f48 := Try.func97.trans (congrArg some (by kernel_rfl))
  f49 := ⟨Try.f98.name, by decide, Try.func98.trans (congrArg some (by kernel_rfl))⟩
  f50 := ⟨Try.f99.name, by decide, Try.func99.trans (congrArg some (by kernel_rfl))⟩
  f57 := ⟨Try.f100.name, by decide, Try.func100.trans (congrArg some (by kernel_rfl))⟩
  t0 := Try.underlying0
  a0 := Try.isAgg0
  z0 := Try.sizeOf0
  v0 := Try.zeroValue0
  t3 := Try.underlying3
  a3 := Try.isAgg3
  z3 := Try.sizeOf3
  v3 := Try.zeroValue3
  t4 := Try.underlying4
  a4 := Try.isAgg4
  z4 := Try.sizeOf4
  v4 := Try.zeroValue4
  t5 := Try.underlying5
  a5 := Try.isAgg5
  z5 := Try.sizeOf5
  v5 := Try.zeroValue5
  t9 := Try.underlying9
  a9 := Try.isAgg9
  z9 := Try.sizeOf9
  v9 := Try.zeroValue9
  t22 := Try.underlying28
  a22 := Try.isAgg28
  z22 := Try.sizeOf28
  v22 := Try.zeroValue28
  a24 := Try.isAgg3
  z24 := Try.sizeOf3
  t25 := Try.underlying92
  a25 := Try.isAgg92
  z25 := Try.sizeOf92
  v25 := Try.zeroValue92
  t39 := Try.underlying103
  a39 := Try.isAgg103
  z39 := Try.sizeOf103
  v39 := Try.zeroValue103
  t45 := Try.underlying105
  a45 := Try.isAgg105
  z45 := Try.sizeOf105
  v45 := Try.zeroValue105
  t46 := Try.underlying106
  a46 := Try.isAgg106
  z46 := Try.sizeOf106
  v46 := Try.zeroValue106
  t50 := Try.underlying77
  a50 := Try.isAgg77
  z50 := Try.sizeOf77
  v50 := Try.zeroValue77
  t53 := Try.underlying112
  a53 := Try.isAgg112
  z53 := Try.sizeOf112
  v53 := Try.zeroValue112
  t55 := Try.underlying114
  a55 := Try.isAgg114
  z55 := Try.sizeOf114
  v55 := Try.zeroValue114
  t66 := Try.underlying115
  a66 := Try.isAgg115
  z66 := Try.sizeOf115
  v66 := Try.zeroValue115
  t70 := Try.underlying119
  a70 := Try.isAgg119
  z70 := Try.sizeOf119
  v70 := Try.zeroValue119
  t76 := Try.underlying121
  a76 := Try.isAgg121
  z76 := Try.sizeOf121
  v76 := Try.zeroValue121
  t77 := Try.underlying71
  a77 := Try.isAgg71
  z77 := Try.sizeOf71
  v77 := Try.zeroValue71 }
def Try.laysSlF06_f31_ren : Go.Shelf.Ren := ⟨fun | 6 => 66 | 15 => 83 | 14 => 82 | 28 => 93 | 29 => 94 | 20 => 85 | 21 => 86 | 22 => 87 | 23 => 88 | 24 => 89 | 25 => 90 | 26 => 91 | 27 => 92 | 46 => 95 | 47 => 96 | 48 => 97 | 49 => 98 | 50 => 99 | 57 => 100 | n => n, fun | 22 => 28 | 24 => 3 | 25 => 92 | 3 => 3 | 39 => 103 | 0 => 0 | 53 => 112 | 55 => 114 | 4 => 4 | 46 => 106 | 45 => 105 | 50 => 77 | 5 => 5 | 9 => 9 | 66 => 115 | 70 => 119 | 76 => 121 | 77 => 71 | n => n, fun | n => n⟩
theorem Try.laysSlF06_f31 : Go.Proofs.SlLaysF0.n6 Try.prog Try.laysSlF06_f31_ren := {
  mixed := by kernel_rfl
  f6 := ⟨Try.f66.name, by decide, Try.func66.trans (congrArg some (by kernel_rfl))⟩
  f14 := ⟨Try.f82.name, by decide, Try.func82.trans (congrArg some (by kernel_rfl))⟩
  f15 := Try.func83.trans (congrArg some (by kernel_rfl))
  f20 := ⟨Try.f85.name, by decide, Try.func85.trans (congrArg some (by kernel_rfl))⟩
  f21 := ⟨Try.f86.name, by decide, Try.func86.trans (congrArg some (by kernel_rfl))⟩
  f22 := ⟨Try.f87.name, by decide, Try.func87.trans (congrArg some (by kernel_rfl))⟩
  f23 := ⟨Try.f88.name, by decide, Try.func88.trans (congrArg some (by kernel_rfl))⟩
  f24 := ⟨Try.f89.name, by decide, Try.func89.trans (congrArg some (by kernel_rfl))⟩
  f25 := ⟨Try.f90.name, by decide, Try.func90.trans (congrArg some (by kernel_rfl))⟩
  f26 := ⟨Try.f91.name, by decide, Try.func91.trans (congrArg some (by kernel_rfl))⟩
  f27 := ⟨Try.f92.name, by decide, Try.func92.trans (congrArg some (by kernel_rfl))⟩
  f28 := Try.func93.trans (congrArg some (by kernel_rfl))
  f29 := Try.func94.trans (congrArg some (by kernel_rfl))
  f46 := ⟨Try.f95.name, by decide, Try.func95.trans (congrArg some (by kernel_rfl))⟩
  f47 := Try.func96.trans (congrArg some (by kernel_rfl))
  f48 := Try.func97.trans (congrArg some (by kernel_rfl))
  f49 := ⟨Try.f98.name, by decide, Try.func98.trans (congrArg some (by kernel_rfl))⟩
  f50 := ⟨Try.f99.name, by decide, Try.func99.trans (congrArg some (by kernel_rfl))⟩
  f57 := ⟨Try.f100.name, by decide, Try.func100.trans (congrArg some (by kernel_rfl))⟩
  t0 := Try.underlying0
  a0 := Try.isAgg0
  z0 := Try.sizeOf0
  v0 := Try.zeroValue0
  t3 := Try.underlying3
  a3 := Try.isAgg3
  z3 := Try.sizeOf3
  v3 := Try.zeroValue3
  t4 := Try.underlying4
  a4 := Try.isAgg4
  z4 := Try.sizeOf4
  v4 := Try.zeroValue4
  t5 := Try.underlying5
  a5 := Try.isAgg5
  z5 := Try.sizeOf5
  v5 := Try.zeroValue5
  t9 := Try.underlying9
  a9 := Try.isAgg9
  z9 := Try.sizeOf9
  v9 := Try.zeroValue9
  t22 := Try.underlying28
  a22 := Try.isAgg28
  z22 := Try.sizeOf28
  v22 := Try.zeroValue28
  t25 := Try.underlying92
  a25 := Try.isAgg92
  z25 := Try.sizeOf92
  v25 := Try.zeroValue92
  t39 := Try.underlying103
  a39 := Try.isAgg103
  z39 := Try.sizeOf103
  v39 := Try.zeroValue103
  t45 := Try.underlying105
  a45 := Try.isAgg105
  z45 := Try.sizeOf105
  v45 := Try.zeroValue105
  t46 := Try.underlying106
  a46 := Try.isAgg106
  z46 := Try.sizeOf106
  v46 := Try.zeroValue106
  t50 := Try.underlying77
  a50 := Try.isAgg77
  z50 := Try.sizeOf77
  v50 := Try.zeroValue77
  t53 := Try.underlying112
  a53 := Try.isAgg112
  z53 := Try.sizeOf112
  v53 := Try.zeroValue112
  t55 := Try.underlying114
  a55 := Try.isAgg114
  z55 := Try.sizeOf114
  v55 := Try.zeroValue114
  t66 := Try.underlying115
  a66 := Try.isAgg115
  z66 := Try.sizeOf115
  v66 := Try.zeroValue115
  t70 := Try.underlying119
  a70 := Try.isAgg119
  z70 := Try.sizeOf119
  v70 := Try.zeroValue119
  t76 := Try.underlying121
  a76 := Try.isAgg121
  z76 := Try.sizeOf121
  v76 := Try.zeroValue121
  t77 := Try.underlying71
  a77 := Try.isAgg71
  z77 := Try.sizeOf71
  v77 := Try.zeroValue71 }
open Go.RowKit Go.Lib Go.Sort in
/-- **slices.SortFunc AT NO ELEMENT, A nil SLICE TOO: nothing turns.** (LAID AT THE INSTANCE 'slices.SortFunc[[]int,int]': no walk: one application.) -/
theorem Try.slices_SortFunc_none {α : Type} [Inhabited α] (p : Option Addr) (cap : Nat) (fv : Value) (w : World) :
    Calls Try.prog 66 #[.slice p 0 cap, fv] w fun e w' => e = .returned (.tuple #[]) ∧ w' = w := AnyF.slices_SortFunc_none Try.laysSlF06_f31 p cap fv w
open Go.RowKit Go.Lib Go.Sort in
/-- **slices.SortFunc AT ONE CELL, UNDER A 'cmp' THAT PARTS WHATEVER TWO THAT ARE NOT ONE: THE ROW HOLDS core's 'mergeSort'.** (LAID AT THE INSTANCE 'slices.SortFunc[[]int,int]': no walk: one application.) -/
theorem Try.slices_SortFunc_total {α : Type} [Inhabited α] (enc : α → Value) (h1 : OneCell enc) (cf : α → α → Int) (hO : SWO (ltOf cf)) (g : Nat) (cb : Array Value) (blk off cap : Nat) (d : Array α) (w : World) (eg : ∀ args w, (callFunc g args).run Try.prog w = .ok (.enter g args) w) (hcmp : CmpLays1 Try.prog g cb enc cf blk off d.size w) (hH : Holds enc w blk off d) (hblk : blk < w.heap.size) (hsz : d.size < 4611686018427387904) (hT : ∀ x y, (ltOf cf) x y = false → (ltOf cf) y x = false → x = y) :
    Calls Try.prog 66 #[.slice (some ⟨blk, off, none⟩) d.size cap, .func (.func g) #[] cb] w fun e w' =>
      e = .returned (.tuple #[]) ∧ ∃ n os, w' = sortWorld enc w blk off n (d.toList.mergeSort fun x y => !(ltOf cf) y x).toArray os := Any.slices_SortFunc_total Try.laysSlF6_f31 enc h1 cf hO g cb blk off cap d w eg hcmp hH hblk hsz hT
end Go.Proofs

namespace Go.Proofs.Ytenpenelikpeeaa
open Go.RowKit Go.Shelf Go.Sort Go.Lib
set_option linter.unusedVariables false
set_option linter.unusedSimpArgs false

/-- sorted by variable, each variable once -/
def AscV (l : List Int) : Prop := l.Pairwise fun x y => absI x < absI y
theorem ascV_unique : ∀ (a b : List Int), AscV a → AscV b → (∀ x, x ∈ a ↔ x ∈ b) → a = b
  | [], [], _, _, _ => rfl
  | [], y :: b, _, _, h => by have := (h y).2 (by simp); cases this
  | x :: a, [], _, _, h => by have := (h x).1 (by simp); cases this
  | x :: a, y :: b, ha, hb, h => by
    have hx := List.pairwise_cons.1 ha
    have hy := List.pairwise_cons.1 hb
    have hxy : x = y := by
      rcases List.mem_cons.1 ((h x).1 (by simp)) with e | e
      · exact e
      · rcases List.mem_cons.1 ((h y).2 (by simp)) with e2 | e2
        · exact e2.symm
        · have h1 := hy.1 x e
          have h2 := hx.1 y e2
          omega
    subst hxy
    rw [ascV_unique a b hx.2 hy.2 fun z => ?_]
    constructor
    · intro hz
      rcases List.mem_cons.1 ((h z).1 (by simp [hz])) with e | e
      · have := hx.1 z hz; rw [e] at this; omega
      · exact e
    · intro hz
      rcases List.mem_cons.1 ((h z).2 (by simp [hz])) with e | e
      · have := hy.1 z hz; rw [e] at this; omega
      · exact e

set_option maxHeartbeats 400000 in
theorem variable_any (x : Int) (w : World) (h0 : -65536 ≤ x) (h1 : x ≤ 65536) : Calls Try.prog 46 #[.int .i64 x] w fun e w' => e = .returned (.int .i64 (absI x)) ∧ w = w' := by
  have hneg := lit_neg' h0 h1
  have hm : max x (-x) = absI x := by unfold absI; split <;> omega
  go_enter Try.func46, Try.ntmps46
  go_wp2
  go_ret
  exact ⟨rfl, rfl⟩

set_option maxHeartbeats 400000 in
theorem var20_any (x : Int) (w : World) (h0 : -65536 ≤ x) (h1 : x ≤ 65536) : Calls Try.prog 76 #[.int .i64 x] w fun e w' => e = .returned (.int .i64 (absI x)) ∧ w = w' := by
  have hneg := lit_neg' h0 h1
  have hm : max x (-x) = absI x := by unfold absI; split <;> omega
  go_enter Try.func76, Try.ntmps76
  go_wp2
  go_ret
  exact ⟨rfl, rfl⟩

theorem absI_nn (x : Int) : 0 ≤ absI x := by unfold absI; split <;> omega
theorem absI_le {x : Int} (h0 : -65536 ≤ x) (h1 : x ≤ 65536) : absI x ≤ 65536 := by unfold absI; split <;> omega

set_option maxHeartbeats 400000 in
theorem told1_any (x y : Int) (w : World) (h0 : -65536 ≤ x) (h1 : x ≤ 65536) (g0 : -65536 ≤ y) (g1 : y ≤ 65536) :
    Calls Try.prog 67 #[.int .i64 x, .int .i64 y] w fun e w' => e = .returned (.int .i64 (cmpI (absI x) (absI y))) ∧ w = w' := by
  have v1 := variable_any x w h0 h1
  have v2 := variable_any y w g0 g1
  go_enter Try.func67, Try.ntmps67
  go_wp2_with (first
    | (go_at_call 46; ((with_reducible refine v1.mono ?_)); rintro e w' ⟨rfl, rfl⟩)
    | (go_at_call 46; ((with_reducible refine v2.mono ?_)); rintro e w' ⟨rfl, rfl⟩)
    | (go_at_call 68; refine (compare_any _ _ _).mono ?_; rintro e w' ⟨rfl, rfl⟩))
  go_ret
  exact ⟨rfl, rfl⟩
theorem enters67 : ∀ args w, (callFunc 67 args).run Try.prog w = .ok (.enter 67 args) w := enters_of Try.func67 (by kernel_rfl) rfl

/-- literals without their opposites -/
def Cons (S : List Int) : Prop := Okl S ∧ ∀ x ∈ S, ¬ -x ∈ S
theorem absI_eq {x y : Int} (h : absI x = absI y) : x = y ∨ x = -y := by unfold absI at h; split at h <;> split at h <;> omega
theorem Cons.inj {S : List Int} (h : Cons S) {x y : Int} (hx : x ∈ S) (hy : y ∈ S) (e : absI x = absI y) : x = y := by
  rcases absI_eq e with e1 | e1
  · exact e1
  · exact absurd (by rw [e1] at hx; exact hx) (h.2 y hy)

/-- the elements of a set, as a type -/
abbrev InS (S : List Int) := { x : Int // x ∈ S ∧ Cons S }
def encS {S : List Int} (x : InS S) : Value := .int .i64 x.1
def cfS {S : List Int} (x y : InS S) : Int := cmpI (absI x.1) (absI y.1)
theorem cmpI_neg {x y : Int} : cmpI x y < 0 ↔ x < y := by unfold cmpI; (repeat' split) <;> omega
theorem ltOf_cfS {S : List Int} (x y : InS S) : ltOf cfS x y = decide (absI x.1 < absI y.1) := by
  unfold ltOf cfS
  rw [Bool.eq_iff_iff, decide_eq_true_eq, decide_eq_true_eq, cmpI_neg]
theorem swoS (S : List Int) : SWO (ltOf (cfS (S := S))) where
  irrefl x := by rw [ltOf_cfS]; simp
  trans x y z h1 h2 := by rw [ltOf_cfS, decide_eq_true_eq] at *; omega
  ntrans x y z h1 h2 := by rw [ltOf_cfS, decide_eq_false_iff_not] at *; omega
theorem totS (S : List Int) (x y : InS S) (h1 : ltOf cfS x y = false) (h2 : ltOf cfS y x = false) : x = y := by
  rw [ltOf_cfS, decide_eq_false_iff_not] at *
  exact Subtype.ext (x.2.2.inj x.2.1 y.2.1 (by omega))
theorem oneS (S : List Int) : OneCell (encS (S := S)) := fun _ => rfl
theorem cmpS (S : List Int) [Inhabited (InS S)] (blk off size : Nat) (w : World) : CmpLays1 Try.prog 67 #[] (encS (S := S)) cfS blk off size w := by
  intro m os dk hs x y
  have hx := x.2.2.1 _ x.2.1
  have hy := y.2.2.1 _ y.2.1
  refine (told1_any x.1 y.1 _ hx.2.1 hx.2.2 hy.2.1 hy.2.2).mono ?_
  rintro e w' ⟨rfl, rfl⟩
  exact ⟨rfl, 0, #[], by rw [grow_empty]; rfl⟩

/-- a row of one's own that reads as a list -/
def Own (w : World) (base g n cap : Nat) (zs : List Int) : Prop := w.ownsRow base 3 1 (.slice (some ⟨g, 0, none⟩) n cap) n (zs.map (Value.int .i64))
theorem below_grow {B : Nat} {a w : World} (h : Below B a w) (hB : B ≤ w.heap.size) (os : Array Obj) : Below B a (grow w os) :=
  ⟨h.os, h.tape, h.output, by simp only [grow, Array.size_append]; have := h.size; omega, fun k hk => by
    rw [← h.block k hk]; simp only [grow]; rw [Array.getElem?_append_left (by omega)]⟩
theorem map_encS {S : List Int} (l : List (InS S)) : l.map encS = (l.map (·.1)).map (Value.int .i64) := by rw [List.map_map]; rfl

theorem list_sub {S : List Int} (hC : Cons S) : ∀ (l : List Int), (∀ x ∈ l, x ∈ S) → ∃ l' : List (InS S), l'.map (·.1) = l
  | [], _ => ⟨[], rfl⟩
  | x :: l, h => by
    obtain ⟨l', e⟩ := list_sub hC l (fun y hy => h y (by simp [hy]))
    exact ⟨⟨x, h x (by simp), hC⟩ :: l', by simp [e]⟩

theorem sorted_asc {S : List Int} (l : List (InS S)) (hn : (l.map (·.1)).Nodup) : AscV ((l.mergeSort fun x y => !(ltOf cfS) y x).map (·.1)) := by
  have hp : (l.mergeSort fun x y => !(ltOf cfS) y x).Pairwise fun a b => (!(ltOf cfS) b a) = true := by
    refine List.pairwise_mergeSort (fun a b c h1 h2 => ?_) (fun a b => ?_) l
    · simp only [Bool.not_eq_true', ltOf_cfS, decide_eq_false_iff_not] at *; omega
    · simp only [Bool.or_eq_true, Bool.not_eq_true', ltOf_cfS, decide_eq_false_iff_not]; omega
  have hperm := List.mergeSort_perm l fun x y => !(ltOf cfS) y x
  have hnd : ((l.mergeSort fun x y => !(ltOf cfS) y x).map (·.1)).Nodup := (hperm.map _).nodup_iff.2 hn
  unfold AscV
  rw [List.pairwise_map]
  unfold List.Nodup at hnd
  rw [List.pairwise_map] at hnd
  refine (hp.and hnd).imp fun {a b} h => ?_
  obtain ⟨h1, h2⟩ := h
  simp only [Bool.not_eq_true', ltOf_cfS, decide_eq_false_iff_not] at h1
  rcases Int.lt_or_eq_of_le (Int.not_lt.1 h1) with h3 | h3
  · exact h3
  · exact absurd (a.2.2.inj a.2.1 b.2.1 h3) h2

set_option maxRecDepth 4000 in
theorem sort_own (S : List Int) (w : World) (base g m cap : Nat) (ls : List (InS S)) (h : Own w base g m cap (ls.map (·.1))) (hb : base ≤ g) (hm : m * 8 ≤ 140737488355328) (h0 : 0 < m) :
    Calls Try.prog 66 #[.slice (some ⟨g, 0, none⟩) m cap, .func (.func 67) #[] #[]] w fun e w' =>
      e = .returned (.tuple #[]) ∧ Own w' base g m cap ((ls.mergeSort fun x y => !(ltOf cfS) y x).map (·.1)) ∧ Below base w w' := by
  have hl0 : ls.length = m := by have := h.1; simpa using this
  haveI : Inhabited (InS S) := ⟨ls[0]'(by omega)⟩
  have h' : w.ownsRow base 3 1 (.slice (some ⟨g, 0, none⟩) m cap) m (ls.map encS) := by rw [map_encS]; exact h
  obtain ⟨g', cap', he, h1, h2, h3, h4, h5, h6⟩ := holds_of_ownsRow h' (by intro e; cases e)
  cases he
  have hn : m < 4611686018427387904 := by omega
  have hc := Try.slices_SortFunc_total encS (oneS S) cfS (swoS S) 67 #[] g 0 cap ls.toArray w enters67 (cmpS S _ _ _ w) h6 h2 (by simpa [h5] using hn) (totS S)
  have hs : ls.toArray.size = m := by simp [h5]
  rw [hs] at hc
  refine hc.mono ?_
  rintro e w' ⟨rfl, q, os, rfl⟩
  have hown := ownsRow_putRow (q := q) (k := m) (ys := ls.mergeSort fun x y => !(ltOf cfS) y x) h' (by simp [h5]) (Nat.le_refl _)
  rw [List.take_of_length_le (by simp [h5]), map_encS] at hown
  refine ⟨rfl, ?_, ?_⟩
  · have := ownsRow_grow hown 0 os
    exact this
  · have hbp := below_putRow (enc := encS) (q := q) (d := (ls.mergeSort fun x y => !(ltOf cfS) y x).toArray) (Below.refl base w) hb
    exact below_grow hbp (by simp [putRow, mapBlock, Sort.ahead]; omega) os

/-- what told hands back -/
def Told (S : List Int) (w : World) (e : Ending) (w' : World) : Prop :=
  ∃ (l : List Int) (A : Option Addr) (c : Nat), e = .returned (.slice A l.length c) ∧ RI w' A l.length c l ∧ AscV l ∧ (∀ x, x ∈ l ↔ x ∈ S) ∧ Below w.heap.size w w'

/-- the loop of told under way -/
structure Th (w wr : World) (b n : Nat) (S : List Int) (l : List Int) (left : Int → Bool) (cnt : Nat) (O : Option Addr) (co : Nat) : Prop where
  rng : MR 4 edB wr b w.heap.size n (setF S) left cnt
  own : wr.ownsRow (w.heap.size + 1) 3 1 (.slice O l.length co) l.length (l.map (Value.int .i64))
  below : Below w.heap.size w wr
  nd : l.Nodup
  mem : ∀ x, wfI x = true → (x ∈ l ↔ (x ∈ S ∧ left x = false))
  wf : ∀ x ∈ l, wfI x = true
  few : l.length + cnt ≤ n
  sub : ∀ x, wfI x = true → left x = true → hasB S x = true
  nil : l.length = 0 → O = none ∧ co = 0

theorem wpList_next_set {ops : Array Oper} {rest : List Oper} {o : Oper} {a : Act} {Q : Exit → Act → World → Prop} (w : World) (hg : o.guard = none) (it : Operand) (hop : o.op = Op.next it false) (b r n : Nat) (S : List Int) (left : Int → Bool) (cnt : Nat)
    (hit : a.eval it = .pointer (some ⟨r, 0, none⟩)) (h : MR 4 edB w b r n (setF S) left cnt)
    (hDone : cnt = 0 → (∀ x, wfI x = true → left x = false) → wpList Try.prog ops Q rest (a.put o.dst (.tuple #[.bool false])) w)
    (hMore : ∀ (x : Int) (w' : World) (cnt' : Nat), wfI x = true → left x = true → hasB S x = true → MR 4 edB w' b r n (setF S) (fun y => left y && !(y == x)) cnt' → cnt' < cnt →
      w.grownBy w' (some r) → w'.heap.size = w.heap.size → (Instr.entry (.pointer (some ⟨r, 0, none⟩))).run Try.prog w' = .ok (.tuple #[.int .i64 x, .bool true]) w' → wpList Try.prog ops Q rest (a.put o.dst (.tuple #[.bool true, .int .i64 x, .bool true])) w')
    (hsub : ∀ x, wfI x = true → left x = true → hasB S x = true) :
    wpList Try.prog ops Q (o :: rest) a w :=
  wpList_next_mf w ekB hg it hop b r n (setF S) left cnt hit h hDone (fun x c w' cnt' h1 h2 h3 h4 h5 h6 h7 h8 => by
    have hs := hsub x h1 h2
    have hc : c = true := by unfold setF at h3; rw [if_pos hs] at h3; cases h3; rfl
    subst hc
    exact hMore x w' cnt' h1 h2 hs h4 h5 h6 h7 h8) (fun x h1 h2 => by rw [setF_some]; exact hsub x h1 h2)

set_option maxRecDepth 100000 in
set_option maxHeartbeats 1000000 in
theorem told_any (b n : Nat) (S : List Int) (w : World) (h : SetM w b n S) (hC : Cons S) (hn : n ≤ 1000000) :
    Calls Try.prog 36 #[.map (some b)] w (Told S w) := by
  obtain ⟨i0, hi, hz0, hz1, hz2⟩ := info_parts infoInt
  have H := Lib.hid h
  have HC := Lib.hid hC
  have hbl := h.lt
  clear h hC
  go_enter Try.func36, Try.ntmps36
  go_wp2_with (at_range; refine wpList_range_mf _ rfl _ 61 rfl Try.underlying61 b n _ rfl H.out ?_; intro w0 cnt0 hrg0 hle0 hg0 hs0)
  go_frame
  have HT0 : Hid (Th w w0 b n S [] (fun x => (setF S x).isSome) cnt0 none 0) := Lib.hid ⟨hrg0, World.ownsRow_nil _ _ _ _, ⟨hg0.os, hg0.tape, hg0.output, hg0.size, fun k hk => hg0.block k hk (by simp)⟩, List.nodup_nil, fun x hx => by rw [setF_some]; simp only [List.not_mem_nil, false_iff, not_and]; intro h1; rw [hasB_iff.2 h1]; simp, (by simp), (by simpa using hle0), fun x hx h1 => by rwa [setF_some] at h1, fun _ => ⟨rfl, rfl⟩⟩
  clear hrg0 hg0 hs0 hle0
  go_loopw [3] (fun s3 W => ∃ (l : List Int) (left : Int → Bool) (cnt : Nat) (O : Option Addr) (co : Nat), s3 = .slice O l.length co ∧ Th w W b n S l left cnt O co) (fun _ W => W.rangeLeft b w.heap.size)
  case atStart => exact ⟨[], _, cnt0, none, 0, rfl, HT0.out⟩
  case round =>
    obtain ⟨l, left, cnt, O, co, rfl, hth⟩ := hrel
    have HTH := Lib.hid hth
    obtain ⟨L, hL⟩ : ∃ L, l.length = L := ⟨_, rfl⟩
    have HL := Lib.hid hL
    have hLn : L ≤ n := by have := hth.few; omega
    rw [hL]
    clear hth hL
    go_wp2_with (at_next; refine wpList_next_set _ rfl _ rfl b w.heap.size n S left cnt rfl HTH.out.rng ?_ ?_ HTH.out.sub)
    · intro hc0 hl0
      have HL0 := Lib.hid hl0
      have hmem : ∀ x, x ∈ l ↔ x ∈ S := fun x => by
        by_cases hx : wfI x = true
        · rw [HTH.out.mem x hx]; exact ⟨fun h => h.1, fun h => ⟨h, HL0.out x hx⟩⟩
        · exact ⟨fun h => absurd (HTH.out.wf x h) hx, fun h => absurd (wfI_lit (HC.out.1 x h).2.1 (HC.out.1 x h).2.2) hx⟩
      have HMEM := Lib.hid hmem
      have hsz := HTH.out.below.size
      have hrl := HTH.out.rng.lt
      clear hl0 hmem hc0
      by_cases h0 : L = 0
      · obtain ⟨rfl, rfl⟩ := HTH.out.nil (by rw [HL.out]; exact h0)
        subst h0
        have E : Hid (l = []) := Lib.hid (List.eq_nil_of_length_eq_zero HL.out)
        go_wp2_with (go_at_call 66; refine (Try.slices_SortFunc_none (α := Nat) none 0 (.func (.func 67) #[] #[]) _).mono ?_; rintro e w2 ⟨rfl, hw2⟩; subst hw2)
        go_ret
        exact ⟨[], none, 0, rfl, RI.nil _ _ _ (Nat.zero_le _), List.Pairwise.nil, fun x => by rw [← HMEM.out x, E.out], HTH.out.below⟩
      · obtain ⟨g, cap, hO⟩ : ∃ g cap, (Value.slice O L co) = .slice (some ⟨g, 0, none⟩) L cap := by
          rcases HTH.out.own.2 with ⟨_, h1⟩ | ⟨g, cap, cur, hv, _⟩
          · rw [HL.out] at h1; exact absurd h1 h0
          · rw [HL.out] at hv; exact ⟨g, cap, hv⟩
        simp only [Value.slice.injEq, true_and] at hO
        obtain ⟨rfl, rfl⟩ := hO
        obtain ⟨l', e'⟩ := list_sub HC.out l (fun x hx => (HMEM.out x).1 hx)
        have hown := HTH.out.own
        rw [HL.out] at hown
        have hgb := (own_lt hown (g := g) rfl).1
        have hso := sort_own S wr (w.heap.size + 1) g L co l' (by unfold Own; rw [e']; exact hown) hgb (by omega) (by omega)
        have E := Lib.hid e'
        clear e' hown
        go_wp2_with (go_at_call 66; refine hso.mono ?_; clear hso; rintro e w2 ⟨rfl, ho2, hb2⟩; have HO2 := Lib.hid ho2; have HB2 := Lib.hid hb2; clear ho2 hb2)
        go_ret
        have hlen : ((l'.mergeSort fun x y => !(ltOf cfS) y x).map (·.1)).length = L := by rw [List.length_map, List.length_mergeSort, ← HL.out, ← E.out, List.length_map]
        have hmm : ∀ x, x ∈ (l'.mergeSort fun x y => !(ltOf cfS) y x).map (·.1) ↔ x ∈ l := fun x => by
          rw [← E.out, List.mem_map, List.mem_map]
          exact ⟨fun ⟨a, h1, h2⟩ => ⟨a, List.mem_mergeSort.1 h1, h2⟩, fun ⟨a, h1, h2⟩ => ⟨a, List.mem_mergeSort.2 h1, h2⟩⟩
        refine ⟨_, some ⟨g, 0, none⟩, co, by rw [hlen]; rfl, ?_, sorted_asc l' (by rw [E.out]; exact HTH.out.nd), fun x => (hmm x).trans (HMEM.out x), HTH.out.below.trans (HB2.out.mono (Nat.le_succ _))⟩
        rw [hlen]
        exact RI.of_own HO2.out (by omega)
    · intro x w1 cnt1 hwx hlx hsx hrg1 hlt hg1 hs1 hen
      have HM := Lib.hid (And.intro hwx (And.intro hlx hsx))
      have HRG := Lib.hid hrg1
      have hne : (Value.slice O l.length co).ownBlock = none ∨ (Value.slice O l.length co).ownBlock ≠ some w.heap.size := by
        cases hob : (Value.slice O l.length co).ownBlock with
        | none => exact .inl rfl
        | some g =>
          have := (own_lt HTH.out.own hob).1
          exact .inr (fun e => by injection e with e; omega)
      have hown1 := HTH.out.own.kept hg1 hne
      rw [HL.out] at hown1
      have HO1 := Lib.hid hown1
      have HB1 : Hid (Below w.heap.size w w1) := Lib.hid (HTH.out.below.grown hg1 HTH.out.below.size (fun g e => by cases e; exact Nat.le_refl _))
      have hsz := HTH.out.below.size
      have hrl := HTH.out.rng.lt
      have HLT := Lib.hid hlt
      have hs1' : w.heap.size + 1 ≤ w1.heap.size := by rw [hs1]; omega
      clear hwx hlx hsx hrg1 hown1 hg1 hlt hs1 hne
      go_wp2_with (at_builtin; refine wpList_append_own_at _ rfl (.tmp 11) (.tmp 13) 28 rfl (w.heap.size + 1) 3 i0 (.int .i64 0) 1 8 Try.underlying28 hi hz0 hz1 hz2 rfl (by decide) (.slice O L co) L _ rfl (HO1.out.alloc _) ⟨_, 0, none⟩ 1 1 [.int .i64 x] rfl rfl (cell_new_at _ _ _ _ (by simp)) (by simp [Value.oneCell']) (by unfold maxLen; omega) (by omega) (by simp; omega) ?_; intro v' w4 hown' hgrow hnil hloc; obtain ⟨g', cap', rfl⟩ := own_succ hown'; have G1 := Lib.hid (grown_below hgrow); have O1 := Lib.hid hown'; clear hown' hgrow hnil hloc)
      have hrk : ∀ j, some j = (Value.slice O L co).ownBlock → w.heap.size + 1 ≤ j := fun j e => (own_lt HO1.out e.symm).1
      have hrg4 : MR 4 edB w4 b w.heap.size n (setF S) (fun y => left y && !(y == x)) cnt1 := HRG.out.kept G1.out (fun e => by have := hrk _ e; omega) (fun e => by have := hrk _ e; omega)
      go_roundw
      case rel =>
        refine ⟨l ++ [x], _, cnt1, some ⟨g', 0, none⟩, cap', by rw [List.length_append, HL.out]; rfl, ⟨hrg4, ?_, HB1.out.grown G1.out HB1.out.size (fun g hg => by have := (own_lt HO1.out hg).1; omega), ?_, fun y hy => ?_, fun y hy => ?_, ?_, fun y hy h1 => ?_, fun h1 => ?_⟩⟩
        · rw [List.length_append, HL.out, List.map_append]; exact O1.out
        · rw [List.nodup_append]
          refine ⟨HTH.out.nd, by simp, fun a ha b' hb' e => ?_⟩
          rw [List.mem_singleton.1 hb'] at e
          rw [e] at ha
          have := ((HTH.out.mem x HM.out.1).1 ha).2
          rw [HM.out.2.1] at this; cases this
        · rw [List.mem_append, List.mem_singleton, HTH.out.mem y hy]
          by_cases e : y = x
          · subst e
            simp [hasB_iff.1 HM.out.2.2]
          · simp [e]
        · rcases List.mem_append.1 hy with h1 | h1
          · exact HTH.out.wf y h1
          · rw [List.mem_singleton.1 h1]; exact HM.out.1
        · have := HTH.out.few; have := HLT.out; rw [List.length_append]; simp; omega
        · have h2 : left y = true := by simp only [Bool.and_eq_true] at h1; exact h1.1
          exact HTH.out.sub y hy h2
        · rw [List.length_append] at h1; simp at h1
      case measure => rw [hrg4.left_eq, HTH.out.rng.left_eq]; exact HLT.out

end Go.Proofs.Ytenpenelikpeeaa
