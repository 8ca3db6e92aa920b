/-
  The index of a trail: looked, step, level, dead of the package learn. No condition.
-/
import Derived.Test.YtenpenelikpeeaaB1
namespace Go.Proofs.Ytenpenelikpeeaa
open Go.RowKit Go.Shelf
set_option linter.unusedVariables false
set_option linter.unusedSimpArgs false

/-- what Check says of a trail -/
structure Tr (x : Int) (ls : List (List Int)) (ts : List Stp) : Prop where
  lit : ∀ k, k < ts.length → isB (stp ts k).lit x = true
  apart : ∀ j k, j < k → k < ts.length → (stp ts j).lit ≠ (stp ts k).lit ∧ (stp ts j).lit ≠ -(stp ts k).lit
  why : ∀ k, k < ts.length → -1 ≤ (stp ts k).why ∧ (stp ts k).why < (ls.length : Int)
  reason : ∀ k, k < ts.length → 0 ≤ (stp ts k).why → (stp ts k).lit ∈ ell ls (stp ts k).why.toNat ∧ ∀ y ∈ ell ls (stp ts k).why.toNat, y ≠ (stp ts k).lit → ∃ j, j < k ∧ (stp ts j).lit = -y

theorem mem_litsTake {ts : List Stp} {k : Nat} (hk : k ≤ ts.length) {y : Int} : y ∈ litsOf (ts.take k) ↔ ∃ j, j < k ∧ (stp ts j).lit = y := by
  unfold litsOf
  rw [List.mem_map]
  constructor
  · rintro ⟨s, hs, rfl⟩
    obtain ⟨j, hj, rfl⟩ := List.mem_iff_getElem.1 hs
    have hj' : j < k := by rw [List.length_take] at hj; omega
    exact ⟨j, hj', by rw [List.getElem_take, stp_lt (by omega)]⟩
  · rintro ⟨j, hj, rfl⟩
    refine ⟨stp ts j, ?_, rfl⟩
    rw [stp_lt (by omega)]
    exact List.mem_take_iff_getElem.2 ⟨j, by omega, rfl⟩

theorem hasB_false {S : List Int} {x : Int} : hasB S x = false ↔ ¬ x ∈ S := by
  rw [← Bool.not_eq_true, hasB_iff]

theorem trail_tr {x : Int} {ls : List (List Int)} {ts : List Stp} (h : trailB x ls ts = true) : Tr x ls ts := by
  have hk : ∀ k, k < ts.length → stepOk x ls (litsOf (ts.take k)) (stp ts k) = true := fun k hk => by
    unfold trailB trailTo at h
    exact List.all_eq_true.1 h k (List.mem_range.2 hk)
  refine ⟨fun k h1 => (step_yes (hk k h1)).1, fun j k hjk h1 => ?_, fun k h1 => ⟨(step_yes (hk k h1)).2.2.1, (step_yes (hk k h1)).2.2.2.1⟩, fun k h1 h2 => ?_⟩
  · have h2 := (step_yes (hk k h1)).2.1
    obtain ⟨h3, h4⟩ := Bool.or_eq_false_iff.1 h2
    rw [hasB_false, mem_litsTake (by omega)] at h3 h4
    exact ⟨fun e => h3 ⟨j, hjk, e⟩, fun e => h4 ⟨j, hjk, e⟩⟩
  · obtain ⟨h3, h4⟩ := (step_yes (hk k h1)).2.2.2.2 h2
    refine ⟨hasB_iff.1 h3, fun y hy hne => ?_⟩
    rw [List.any_eq_false] at h4
    have := h4 y hy
    have h5 : (y != (stp ts k).lit) = true := by simpa using hne
    rw [h5] at this
    have h6 : hasB (litsOf (ts.take k)) (-y) = true := by simpa using this
    rw [hasB_iff, mem_litsTake (by omega)] at h6
    exact h6
theorem propE_zero {x : Int} {ls : List (List Int)} {ts : List Stp} (h : propE x ls ts = 0) : checkE x ls = 0 ∧ trailB x ls ts = true := by
  unfold propE at h
  by_cases h1 : checkE x ls = 0
  · rw [if_neg (by simpa using h1)] at h
    refine ⟨h1, ?_⟩
    cases h2 : trailB x ls ts with
    | true => rfl
    | false => rw [h2] at h; simp at h
  · rw [if_pos h1] at h; exact absurd h h1
theorem Tr.plc {x : Int} {ls : List (List Int)} {ts : List Stp} (h : Tr x ls ts) {k : Nat} (hk : k < ts.length) : plc ts (stp ts k).lit = k :=
  plc_at hk rfl fun j hj => (h.apart j k hj hk).1

/-- what the index holds -/
def atTo (ts : List Stp) (k : Nat) : Int → Option Int := fun y => if plc ts y < k then some (plc ts y : Int) else none
def atF (ts : List Stp) : Int → Option Int := atTo ts ts.length
theorem atTo_succ {x : Int} {ls : List (List Int)} {ts : List Stp} (h : Tr x ls ts) {k : Nat} (hk : k < ts.length) : putF (atTo ts k) (stp ts k).lit (k : Int) = atTo ts (k + 1) := by
  funext y
  unfold putF atTo
  by_cases e1 : y = (stp ts k).lit
  · subst e1
    rw [if_pos rfl, h.plc hk, if_pos (by omega)]
  · rw [if_neg e1]
    have : plc ts y ≠ k := fun e => e1 (by have := (plc_lt (ts := ts) (x := y) (by omega)).1; rw [e] at this; exact this.symm)
    by_cases h1 : plc ts y < k
    · rw [if_pos h1, if_pos (by omega)]
    · rw [if_neg h1, if_neg (by omega)]

abbrev IntM (w : World) (b n : Nat) (f : Int → Option Int) : Prop := MF 3 edI w b n f

/-- a block that holds an index -/
def BoxK (w : World) (B : Nat) (x : Int) (A : Option Addr) (n c : Nat) (A' : Option Addr) (n' c' : Nat) (A2 : Option Addr) (n2 q2 : Nat) (m : Option Nat) : Prop :=
  w.heap[B]? = some (.cells #[.int .i64 x, .slice A n c, .slice A' n' c', .slice A2 n2 q2, .map m] 58 (0, 0))
section
variable {w w' : World} {B : Nat} {x : Int} {A : Option Addr} {n c : Nat} {A' : Option Addr} {n' c' : Nat} {A2 : Option Addr} {n2 q2 : Nat} {m : Option Nat}
theorem BoxK.c0 (h : BoxK w B x A n c A' n' c' A2 n2 q2 m) : w.cell? ⟨B, 0, none⟩ = some (.int .i64 x) := by simp [World.cell?, show w.heap[B]? = _ from h]
theorem BoxK.c1 (h : BoxK w B x A n c A' n' c' A2 n2 q2 m) : w.cell? ⟨B, 1, none⟩ = some (.slice A n c) := by simp [World.cell?, show w.heap[B]? = _ from h]
theorem BoxK.c2 (h : BoxK w B x A n c A' n' c' A2 n2 q2 m) : w.cell? ⟨B, 2, none⟩ = some (.slice A' n' c') := by simp [World.cell?, show w.heap[B]? = _ from h]
theorem BoxK.c3 (h : BoxK w B x A n c A' n' c' A2 n2 q2 m) : w.cell? ⟨B, 3, none⟩ = some (.slice A2 n2 q2) := by simp [World.cell?, show w.heap[B]? = _ from h]
theorem BoxK.c4 (h : BoxK w B x A n c A' n' c' A2 n2 q2 m) : w.cell? ⟨B, 4, none⟩ = some (.map m) := by simp [World.cell?, show w.heap[B]? = _ from h]
theorem BoxK.f (h : BoxK w B x A n c A' n' c' A2 n2 q2 m) (k : Nat) : w.frozen? ⟨B, k, none⟩ = false := by simp [World.frozen?, show w.heap[B]? = _ from h]
theorem BoxK.lt (h : BoxK w B x A n c A' n' c' A2 n2 q2 m) : B < w.heap.size := (Array.getElem?_eq_some_iff.1 h).1
theorem BoxK.below (h : BoxK w B x A n c A' n' c' A2 n2 q2 m) (hb : Below w.heap.size w w') : BoxK w' B x A n c A' n' c' A2 n2 q2 m := (hb.block B h.lt).trans h
theorem BoxK.kept {row : Option Nat} (h : BoxK w B x A n c A' n' c' A2 n2 q2 m) (hg : w.grownBy w' row) (hne : some B ≠ row) : BoxK w' B x A n c A' n' c' A2 n2 q2 m := (hg.block B h.lt hne).trans h
theorem BoxK.new (w : World) (x : Int) (A : Option Addr) (n c : Nat) (A' : Option Addr) (n' c' : Nat) (A2 : Option Addr) (n2 q2 : Nat) (m : Option Nat) :
    BoxK (w.alloc (.cells #[.int .i64 x, .slice A n c, .slice A' n' c', .slice A2 n2 q2, .map m] 58)) w.heap.size x A n c A' n' c' A2 n2 q2 m := World.alloc_heap_new w _
end
def lookV (x : Int) (A : Option Addr) (n c : Nat) (A' : Option Addr) (n' c' : Nat) (A2 : Option Addr) (n2 c2 : Nat) (m : Option Nat) : Value :=
  .agg #[.int .i64 x, .slice A n c, .slice A' n' c', .slice A2 n2 c2, .map m]

def isT (ts : List Stp) (y : Int) : Bool := decide (plc ts (-y) < ts.length)
def whereT (ts : List Stp) (y : Int) : Int := if plc ts (-y) < ts.length then (plc ts (-y) : Int) else 0

set_option maxRecDepth 100000 in
set_option maxHeartbeats 400000 in
theorem lstep_any (x : Int) (A : Option Addr) (n c : Nat) (A' : Option Addr) (n' c' : Nat) (A2 : Option Addr) (n2 c2 : Nat) (b k : Nat) (ts : List Stp) (y : Int) (w : World) (h : IntM w b k (atF ts)) (h0 : -65536 ≤ y) (h1 : y ≤ 65536) (r : Bool) (q : Int) (hr : isT ts y = r) (hq : whereT ts y = q) :
    Calls Try.prog 48 #[.agg #[.int .i64 x, .slice A n c, .slice A' n' c', .slice A2 n2 c2, .map (some b)], .int .i64 y] w fun e w' => e = .returned (.tuple #[.int .i64 q, .bool r]) ∧ Below w.heap.size w w' := by
  have hneg := lit_neg' h0 h1
  have hl := MF.lookOk ekI Try.underlying56 (h.alloc (.cells #[.int .i64 x, .slice A n c, .slice A' n' c', .slice A2 n2 c2, .map (some b)] 58)) (x := -y) (wfI_lit (by omega) (by omega))
  have e1 : (atF ts (-y)).getD 0 = q := by rw [← hq]; unfold atF atTo whereT; split <;> rfl
  have e2 : (atF ts (-y)).isSome = r := by rw [← hr]; unfold atF atTo isT; split <;> simp_all
  rw [e1, e2] at hl
  clear h e1 e2 hr hq
  go_enter Try.func48, Try.ntmps48
  go_wp2
  go_ret2
  exact ⟨rfl, (Below.refl _ _).alloc (Nat.le_refl _) _⟩

set_option maxRecDepth 100000 in
set_option maxHeartbeats 400000 in
theorem llevel_any (x : Int) (A : Option Addr) (n c : Nat) (A' : Option Addr) (n' c' : Nat) (A2 : Option Addr) (n2 c2 : Nat) (b k : Nat) (ts : List Stp) (y : Int) (w : World) (h : IntM w b k (atF ts)) (h2 : RI w A2 n2 c2 (levL ts)) (h0 : -65536 ≤ y) (h1 : y ≤ 65536) (hd : plc ts (-y) < ts.length) (q : Int) (hq : lvlT ts y = q) :
    Calls Try.prog 34 #[.agg #[.int .i64 x, .slice A n c, .slice A' n' c', .slice A2 n2 c2, .map (some b)], .int .i64 y] w fun e w' => e = .returned (.int .i64 q) ∧ Below w.heap.size w w' := by
  have hneg := lit_neg' h0 h1
  have hl := MF.look ekI Try.underlying56 (h.alloc (.cells #[.int .i64 x, .slice A n c, .slice A' n' c', .slice A2 n2 c2, .map (some b)] 58)) (x := -y) (wfI_lit (by omega) (by omega))
  have e1 : (atF ts (-y)).getD 0 = (plc ts (-y) : Int) := by unfold atF atTo; rw [if_pos hd]; rfl
  rw [e1] at hl
  have e2 : lvlT ts y = elt (levL ts) (plc ts (-y)) := by unfold lvlT; rw [if_pos hd, levL_at hd]
  rw [e2] at hq
  have hlen := h2.len
  rw [levL_len] at hlen
  have hr := h2.alloc (.cells #[.int .i64 x, .slice A n c, .slice A' n' c', .slice A2 n2 c2, .map (some b)] 58)
  generalize plc ts (-y) = p at *
  obtain ⟨b2, off2, rfl, hbl, hc⟩ := hr.cells (by omega)
  have hck := hc p (by omega)
  rw [hq] at hck
  have hpn : p < n2 := by omega
  clear h h2 e1 e2 hq hr hc hlen hd
  go_enter Try.func34, Try.ntmps34
  go_wp2
  go_ret
  exact ⟨rfl, (Below.refl _ _).alloc (Nat.le_refl _) _⟩

set_option maxRecDepth 100000 in
set_option maxHeartbeats 1000000 in
theorem dead_any (x : Int) (A : Option Addr) (n c : Nat) (A' : Option Addr) (n' c' : Nat) (A2 : Option Addr) (n2 c2 : Nat) (b k : Nat) (ts : List Stp) (A3 : Option Addr) (n3 c3 : Nat) (l : List Int) (w : World) (h : IntM w b k (atF ts)) (h3 : RI w A3 n3 c3 l) (hz : Okl l) (r : Bool) (hr : deadB ts l = r) :
    Calls Try.prog 32 #[.agg #[.int .i64 x, .slice A n c, .slice A' n' c', .slice A2 n2 c2, .map (some b)], .slice A3 n3 c3] w fun e w' => e = .returned (.bool r) ∧ Below w.heap.size w w' := by
  have hn3 := h3.small
  have HB0 := Lib.hid ((Below.refl w.heap.size w).alloc (Nat.le_refl _) (.cells #[.int .i64 x, .slice A n c, .slice A' n' c', .slice A2 n2 c2, .map (some b)] 58))
  have HX := Lib.hid (BoxK.new w x A n c A' n' c' A2 n2 c2 (some b))
  have HM := Lib.hid (h.alloc (.cells #[.int .i64 x, .slice A n c, .slice A' n' c', .slice A2 n2 c2, .map (some b)] 58))
  have H3 := Lib.hid (h3.alloc (.cells #[.int .i64 x, .slice A n c, .slice A' n' c', .slice A2 n2 c2, .map (some b)] 58))
  have HZ := Lib.hid hz
  have HRR := Lib.hid hr
  clear h h3 hz hr
  go_enter Try.func32, Try.ntmps32
  go_wp2
  generalize hW : w.alloc (.cells #[.int .i64 x, .slice A n c, .slice A' n' c', .slice A2 n2 c2, .map (some b)] 58) = W0 at *
  clear hW
  go_loopw [11] (fun s11 W => ∃ j : Nat, j ≤ n3 ∧ s11 = .int .i64 j ∧ deadB ts (l.take j) = true ∧ Below W0.heap.size W0 W) (fun s11 _ => n3 - (intOf s11).toNat)
  case atStart => exact ⟨0, Nat.zero_le _, rfl, rfl, Below.refl _ _⟩
  case round =>
    obtain ⟨j, hj, rfl, hd, hb⟩ := hrel
    have HD := Lib.hid hd
    have HB := Lib.hid hb
    clear hd hb
    by_cases hlt : j < n3
    · obtain ⟨b3, off3, rfl, hb3, hc3⟩ := (H3.out.below HB.out).cells (by omega)
      have hck := hc3 j hlt
      clear hc3
      have hl : j < l.length := by rw [H3.out.len]; exact hlt
      have hx := HZ.out.at hl
      have hxk := HX.out.below HB.out
      have q0 := hxk.c0
      have q1 := hxk.c1
      have q2 := hxk.c2
      have q3 := hxk.c3
      have q4 := hxk.c4
      have hm := HM.out.below HB.out HM.out.lt
      obtain ⟨r1, hr1⟩ : ∃ r1, isT ts (elt l j) = r1 := ⟨_, rfl⟩
      have hcall := lstep_any x A n c A' n' c' A2 n2 c2 b k ts (elt l j) wr hm hx.2.1 hx.2.2 r1 _ hr1 rfl
      generalize whereT ts (elt l j) = q at hcall
      cases r1
      · have E : Hid (deadB ts l = false) := Lib.hid (all_at (p := fun y => decide (plc ts (-y) < ts.length)) hl hr1)
        clear hl hx hxk hm hr1
        go_wp2_with (go_at_call 48; refine hcall.mono ?_; clear hcall; rintro e w2 ⟨rfl, hb2⟩; have HB2 := Lib.hid (HB.out.trans (hb2.mono HB.out.size)); clear hb2)
        go_ret
        exact ⟨ret_bool (by rw [← HRR.out, E.out]), HB0.out.trans (HB2.out.mono HB0.out.size)⟩
      · have E : Hid (deadB ts (l.take (j + 1)) = true) := Lib.hid (all_step (p := fun y => decide (plc ts (-y) < ts.length)) hl hr1 HD.out)
        clear hl hx hxk hm hr1
        go_wp2_with (go_at_call 48; refine hcall.mono ?_; clear hcall; rintro e w2 ⟨rfl, hb2⟩; have HB2 := Lib.hid (HB.out.trans (hb2.mono HB.out.size)); clear hb2)
        go_roundw
        case rel => exact ⟨j + 1, by omega, by go_num, E.out, HB2.out⟩
        case measure => simp [intOf]; omega
    · have E : Hid (deadB ts l = true) := Lib.hid (all_full (p := fun y => decide (plc ts (-y) < ts.length)) H3.out.len hlt HD.out)
      go_wp2
      go_ret
      exact ⟨ret_bool (by rw [← HRR.out, E.out]), HB0.out.trans (HB.out.mono HB0.out.size)⟩

end Go.Proofs.Ytenpenelikpeeaa
