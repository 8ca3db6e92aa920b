/-
  Contracts of the library's choice of a pivot and of reverseRange over the order of the queue. No condition.
-/
import Derived.Test.YthfadkilffmmlaaS3
namespace Go.Proofs.Ythfadkilffmmlaa
open Go.RowKit
set_option linter.unusedVariables false
set_option linter.unusedSimpArgs false
set_option linter.unusedSectionVars false

/-- a row being sorted, and a counter in a new block -/
structure Pv (W0 : World) (g : Nat) (rest : List Value) (zs : List Int) (c : Nat) (s : Int) (W : World) : Prop where
  srt : Srt W0 g rest zs W
  blk : W.heap[c]? = some (.cells #[.int .i64 s] 3 (0, 0))
section
variable {W0 W W' : World} {g : Nat} {rest : List Value} {zs : List Int} {c : Nat} {s : Int}
theorem Srt.new (h : Srt W0 g rest zs W) (hg : g < W0.heap.size) {p : Addr} (hp : W0.heap.size ≤ p.block) (u : Value) : Srt W0 g rest zs (W.setCell p u) :=
  ⟨⟨h.grown.os, h.grown.tape, h.grown.output, by simpa [World.setCell] using h.grown.size, fun k hk hne => (Below.heap_setCell _ _ _ _ (by omega)).trans (h.grown.block k hk hne)⟩, (Below.heap_setCell _ _ _ _ (by omega)).trans h.row⟩
theorem Pv.below (h : Pv W0 g rest zs c s W) (hb : Below W.heap.size W W') : Pv W0 g rest zs c s W' := ⟨h.srt.below hb, (hb.block c (by
  rcases Nat.lt_or_ge c W.heap.size with hlt | hge
  · exact hlt
  · have := h.blk; rw [Array.getElem?_eq_none hge] at this; cases this)).trans h.blk⟩
theorem Pv.cell (h : Pv W0 g rest zs c s W) : W.cell? ⟨c, 0, none⟩ = some (.int .i64 s) := by simp [World.cell?, h.blk]
theorem Pv.frozen (h : Pv W0 g rest zs c s W) : W.frozen? ⟨c, 0, none⟩ = false := by simp [World.frozen?, h.blk]
theorem Pv.set (h : Pv W0 g rest zs c s W) (hg : g < W0.heap.size) (hp : W0.heap.size ≤ c) (s' : Int) : Pv W0 g rest zs c s' (W.setCell ⟨c, 0, none⟩ (.int .i64 s')) :=
  ⟨h.srt.new hg (p := ⟨c, 0, none⟩) hp _, by simp [World.setCell, Array.getElem?_modify, h.blk]⟩
end

def Ord2 (W0 : World) (g : Nat) (rest : List Value) (zs : List Int) (c : Nat) (s : Int) (i j : Nat) (e : Ending) (W : World) : Prop :=
  ∃ (x y : Nat) (s' : Int), e = .returned (.tuple #[.int .i64 x, .int .i64 y]) ∧ ((x = i ∧ y = j) ∨ (x = j ∧ y = i)) ∧ s ≤ s' ∧ s' ≤ s + 1 ∧ Pv W0 g rest zs c s' W

section
variable (W0 : World) (g B : Nat) (act : List Int) (C : Cx W0 g B act) (rest : List Value) (zs : List Int) (hd : Dom act.length zs) (n c0 c : Nat) (s : Int) (hn : zs.length = n) (hbig : n ≤ 1000000) (hc : W0.heap.size ≤ c)
include C hd hn hbig hc

set_option maxHeartbeats 4000000 in
theorem order2_any (i j : Nat) (W : World) (hs0 : 0 ≤ s) (hs1 : s ≤ 1000) (hi : i < n) (hj : j < n) (hP : Pv W0 g rest zs c s W) :
    Calls Try.prog 74 #[.slice (some ⟨g, 0, none⟩) n c0, .int .i64 i, .int .i64 j, .pointer (some ⟨c, 0, none⟩), fvO B] W (Ord2 W0 g rest zs c s i j) := by
  have i1 : i < zs.length := by rw [hn]; exact hi
  have j1 : j < zs.length := by rw [hn]; exact hj
  have A1 := Lib.hid (hd.at_ i1)
  have A2 := Lib.hid (hd.at_ j1)
  have I1 := Lib.hid i1; have J1 := Lib.hid j1
  have HC := Lib.hid C
  have HP := Lib.hid hP
  have hg := Lib.hid C.hg
  have l1 : (i : Int) < n := by omega
  have l2 : (j : Int) < n := by omega
  clear C hd hn hP i1 j1
  generalize ho : ordI act (elt zs j) (elt zs i) = o
  have HO := Lib.hid ho
  clear ho
  have q1 := fun u : Gr W => u.srt HP.out.srt I1.out
  have q2 := fun u : Gr W => u.srt HP.out.srt J1.out
  by_cases hs : o < 0
  · go_enter Try.func74, Try.ntmps74
    go_wp2_with fail
    refine wp_region_grow (by kernel_rfl) (by kernel_rfl) ?_
    repeat (go_big_quiet_step ((go_at_call 41; exact HC.out.gr HP.out.srt _ A2.out A1.out HO.out)))
    refine wpQuiet_nil ?_
    intro w2 hb2; replace hb2 := Gr.out hb2
    have P2 := Lib.hid (HP.out.below hb2)
    clear q1 q2 hb2
    have c1 := P2.out.cell
    have f1 := P2.out.frozen
    go_wp2_with fail
    go_ret2
    exact ⟨j, i, s + 1, rfl, .inr ⟨rfl, rfl⟩, by omega, by omega, P2.out.set hg.out hc _⟩
  · go_enter Try.func74, Try.ntmps74
    go_wp2_with fail
    refine wp_region_grow (by kernel_rfl) (by kernel_rfl) ?_
    repeat (go_big_quiet_step ((go_at_call 41; exact HC.out.gr HP.out.srt _ A2.out A1.out HO.out)))
    refine wpQuiet_nil ?_
    intro w2 hb2; replace hb2 := Gr.out hb2
    have P2 := Lib.hid (HP.out.below hb2)
    clear q1 q2 hb2
    go_wp2_with fail
    go_ret2
    exact ⟨i, j, s, rfl, .inl ⟨rfl, rfl⟩, by omega, by omega, P2.out⟩
end

def Med (W0 : World) (g : Nat) (rest : List Value) (zs : List Int) (c : Nat) (s : Int) (i j k : Nat) (e : Ending) (W : World) : Prop :=
  ∃ (x : Nat) (s' : Int), e = .returned (.int .i64 x) ∧ (x = i ∨ x = j ∨ x = k) ∧ s ≤ s' ∧ s' ≤ s + 3 ∧ Pv W0 g rest zs c s' W

section
variable (W0 : World) (g B : Nat) (act : List Int) (C : Cx W0 g B act) (rest : List Value) (zs : List Int) (hd : Dom act.length zs) (n c0 c : Nat) (s : Int) (hn : zs.length = n) (hbig : n ≤ 1000000) (hc : W0.heap.size ≤ c)
include C hd hn hbig hc

set_option maxHeartbeats 4000000 in
theorem median_any (i j k : Nat) (W : World) (hs0 : 0 ≤ s) (hs1 : s ≤ 900) (hi : i < n) (hj : j < n) (hk : k < n) (hP : Pv W0 g rest zs c s W) :
    Calls Try.prog 73 #[.slice (some ⟨g, 0, none⟩) n c0, .int .i64 i, .int .i64 j, .int .i64 k, .pointer (some ⟨c, 0, none⟩), fvO B] W (Med W0 g rest zs c s i j k) := by
  have CT := Lib.hid (fun (s : Int) (i j : Nat) (W : World) hs0 hs1 hi hj hP => order2_any W0 g B act C rest zs hd n c0 c s hn hbig hc i j W hs0 hs1 hi hj hP)
  have HP := Lib.hid hP
  clear C hd hn hP
  go_enter Try.func73, Try.ntmps73
  go_wp2_with fail
  refine (CT.out s i j W hs0 (by omega) hi hj HP.out).mono ?_
  rintro e w1 ⟨x1, y1, s1, rfl, hx1, ls1, us1, p1⟩
  have P1 := Lib.hid p1
  have bx1 : x1 < n := by omega
  have by1 : y1 < n := by omega
  clear p1
  go_wp2_with fail
  refine (CT.out s1 y1 k w1 (by omega) (by omega) by1 hk P1.out).mono ?_
  rintro e w2 ⟨x2, y2, s2, rfl, hx2, ls2, us2, p2⟩
  have P2 := Lib.hid p2
  have bx2 : x2 < n := by omega
  have by2 : y2 < n := by omega
  clear p2
  go_wp2_with fail
  refine (CT.out s2 x1 x2 w2 (by omega) (by omega) bx1 bx2 P2.out).mono ?_
  rintro e w3 ⟨x3, y3, s3, rfl, hx3, ls3, us3, p3⟩
  have P3 := Lib.hid p3
  clear p3
  go_wp2_with fail
  go_ret
  exact ⟨y3, s3, rfl, by omega, by omega, by omega, P3.out⟩

set_option maxHeartbeats 4000000 in
theorem medianAdj_any (i : Nat) (W : World) (hs0 : 0 ≤ s) (hs1 : s ≤ 900) (hi : 1 ≤ i) (hj : i + 1 < n) (hP : Pv W0 g rest zs c s W) :
    Calls Try.prog 72 #[.slice (some ⟨g, 0, none⟩) n c0, .int .i64 i, .pointer (some ⟨c, 0, none⟩), fvO B] W (Med W0 g rest zs c s (i - 1) i (i + 1)) := by
  have CT := Lib.hid (fun hs0 hs1 hi hj hk hP => median_any W0 g B act C rest zs hd n c0 c s hn hbig hc (i - 1) i (i + 1) W hs0 hs1 hi hj hk hP)
  have HP := Lib.hid hP
  clear C hd hn hP
  obtain ⟨x, hx⟩ : ∃ x, x = i - 1 := ⟨_, rfl⟩
  obtain ⟨y, hy⟩ : ∃ y, y = i + 1 := ⟨_, rfl⟩
  have e1 : (i : Int) - 1 = (x : Int) := by omega
  have e2 : (i : Int) + 1 = (y : Int) := by omega
  rw [← hx, ← hy] at CT
  rw [← hx, ← hy]
  have HX := Lib.hid hx; have HY := Lib.hid hy
  clear hx hy
  go_enter Try.func72, Try.ntmps72
  go_wp2_with fail
  refine (CT.out hs0 hs1 (by have := HX.out; omega) (by omega) (by have := HY.out; omega) HP.out).mono ?_
  rintro e w1 ⟨x1, s1, rfl, hx1, ls1, us1, p1⟩
  have P1 := Lib.hid p1
  clear p1
  go_wp2_with fail
  go_ret
  exact ⟨x1, s1, rfl, hx1, ls1, us1, P1.out⟩
end

def Chosen (W0 : World) (g : Nat) (rest : List Value) (zs : List Int) (a b : Nat) (e : Ending) (W : World) : Prop :=
  ∃ (x : Nat) (h : Int), e = .returned (.tuple #[.int .i64 x, .int .i64 h]) ∧ a ≤ x ∧ x < b ∧ (h = 0 ∨ h = 1 ∨ h = 2) ∧ Srt W0 g rest zs W

section
variable (W0 : World) (g B : Nat) (act : List Int) (C : Cx W0 g B act) (rest : List Value) (zs : List Int) (hd : Dom act.length zs) (n c0 : Nat) (hn : zs.length = n) (hbig : n ≤ 1000000)
include C hd hn hbig

set_option maxHeartbeats 4000000 in
theorem choose_any (a b : Nat) (W : World) (hab : a + 12 < b) (hbn : b ≤ n) (hS : Srt W0 g rest zs W) :
    Calls Try.prog 61 #[.slice (some ⟨g, 0, none⟩) n c0, .int .i64 a, .int .i64 b, fvO B] W (Chosen W0 g rest zs a b) := by
  obtain ⟨m, hm⟩ : ∃ m, m = b - a := ⟨_, rfl⟩
  obtain ⟨q, hq⟩ : ∃ q, q = m / 4 := ⟨_, rfl⟩
  obtain ⟨q2, hq2⟩ : ∃ q2, q2 = q * 2 := ⟨_, rfl⟩
  obtain ⟨q3, hq3⟩ : ∃ q3, q3 = q * 3 := ⟨_, rfl⟩
  obtain ⟨p1, hp1⟩ : ∃ p1, p1 = a + q := ⟨_, rfl⟩
  obtain ⟨p2, hp2⟩ : ∃ p2, p2 = a + q2 := ⟨_, rfl⟩
  obtain ⟨p3, hp3⟩ : ∃ p3, p3 = a + q3 := ⟨_, rfl⟩
  have e1 : (b : Int) - (a : Int) = (m : Int) := by omega
  have e2 : (m : Int) / 4 = (q : Int) := by omega
  have e3 : (q : Int) * 2 = (q2 : Int) := by omega
  have e4 : (q : Int) * 3 = (q3 : Int) := by omega
  have e5 : (a : Int) + (q : Int) = (p1 : Int) := by omega
  have e6 : (a : Int) + (q2 : Int) = (p2 : Int) := by omega
  have e7 : (a : Int) + (q3 : Int) = (p3 : Int) := by omega
  have b1 : a + 3 ≤ p1 := by omega
  have b2 : p1 + 3 ≤ p2 := by omega
  have b3 : p2 + 3 ≤ p3 := by omega
  have b4 : p3 + 3 ≤ b := by omega
  have hm12 : 12 < m := by omega
  have hm8 : (8 : Int) ≤ m := by omega
  have hmn : m ≤ n := by omega
  have hsz := hS.grown.size
  have hP : Pv W0 g rest zs W.heap.size 0 (W.alloc (.cells #[.int .i64 0] 3)) := ⟨hS.below ((Below.refl _ _).alloc (Nat.le_refl _) _), heap_alloc_new _ _⟩
  have CM := Lib.hid (fun (s : Int) (i j k : Nat) (w : World) hs0 hs1 hi hj hk hP => median_any W0 g B act C rest zs hd n c0 W.heap.size s hn hbig hsz i j k w hs0 hs1 hi hj hk hP)
  have CA := Lib.hid (fun (s : Int) (i : Nat) (w : World) hs0 hs1 hi hj hP => medianAdj_any W0 g B act C rest zs hd n c0 W.heap.size s hn hbig hsz i w hs0 hs1 hi hj hP)
  have HP := Lib.hid hP
  clear C hd hn hS hP hm hq hq2 hq3 hp1 hp2 hp3 hsz
  have fin : ∀ (W' : World) (x : Nat) (s : Int) (e : Ending), a ≤ x → x < b → Pv W0 g rest zs W.heap.size s W' → e = .returned (.tuple #[.int .i64 x, .int .i64 (if s = 0 then 1 else if s = 12 then 2 else 0)]) → Chosen W0 g rest zs a b e W' := by
    intro W' x s e h1 h2 hP he
    refine ⟨x, _, he, h1, h2, ?_, hP.srt⟩
    split
    · exact .inr (.inl rfl)
    · split
      · exact .inr (.inr rfl)
      · exact .inl rfl
  have FIN := Lib.hid fin
  clear fin
  by_cases h50 : 50 ≤ m
  · have h50' : (50 : Int) ≤ m := by omega
    go_enter Try.func61, Try.ntmps61
    go_wp2_with fail
    refine (CA.out 0 p1 _ (by omega) (by omega) (by omega) (by omega) HP.out).mono ?_
    rintro e w1 ⟨x1, s1, rfl, hx1, ls1, us1, P1⟩
    have P1' := Lib.hid P1
    clear P1
    go_wp2_with fail
    refine (CA.out s1 p2 _ (by omega) (by omega) (by omega) (by omega) P1'.out).mono ?_
    rintro e w2 ⟨x2, s2, rfl, hx2, ls2, us2, P2⟩
    have P2' := Lib.hid P2
    clear P2
    go_wp2_with fail
    refine (CA.out s2 p3 _ (by omega) (by omega) (by omega) (by omega) P2'.out).mono ?_
    rintro e w3 ⟨x3, s3, rfl, hx3, ls3, us3, P3⟩
    have P3' := Lib.hid P3
    clear P3
    go_wp2_with fail
    refine (CM.out s3 x1 x2 x3 _ (by omega) (by omega) (by omega) (by omega) (by omega) P3'.out).mono ?_
    rintro e w4 ⟨x4, s4, rfl, hx4, ls4, us4, P4⟩
    have P4' := Lib.hid P4
    clear P4
    have c1 := P4'.out.cell
    have bx : a ≤ x4 ∧ x4 < b := by omega
    by_cases z0 : s4 = 0
    · have z0' : (s4 == 0) = true := by simpa using z0
      have Z := Lib.hid z0
      clear z0
      go_wp2_with fail
      go_ret2
      exact FIN.out _ x4 s4 _ bx.1 bx.2 P4'.out (by rw [if_pos Z.out]; rfl)
    · have z0' : (s4 == 0) = false := by simpa using z0
      by_cases z1 : s4 = 12
      · have z1' : (s4 == 12) = true := by simpa using z1
        have Z := Lib.hid z1
        clear z1 z0
        go_wp2_with fail
        go_ret2
        exact FIN.out _ x4 s4 _ bx.1 bx.2 P4'.out (by rw [Z.out]; rfl)
      · have z1' : (s4 == 12) = false := by simpa using z1
        have Z := Lib.hid z1
        have Z0 := Lib.hid z0
        clear z1 z0
        go_wp2_with fail
        go_ret2
        exact FIN.out _ x4 s4 _ bx.1 bx.2 P4'.out (by rw [if_neg Z0.out, if_neg Z.out]; rfl)
  · have h50' : ¬ (50 : Int) ≤ m := by omega
    go_enter Try.func61, Try.ntmps61
    go_wp2_with fail
    refine (CM.out 0 p1 p2 p3 _ (by omega) (by omega) (by omega) (by omega) (by omega) HP.out).mono ?_
    rintro e w4 ⟨x4, s4, rfl, hx4, ls4, us4, P4⟩
    have P4' := Lib.hid P4
    clear P4
    have c1 := P4'.out.cell
    have bx : a ≤ x4 ∧ x4 < b := by omega
    by_cases z0 : s4 = 0
    · have z0' : (s4 == 0) = true := by simpa using z0
      have Z := Lib.hid z0
      clear z0
      go_wp2_with fail
      go_ret2
      exact FIN.out _ x4 s4 _ bx.1 bx.2 P4'.out (by rw [if_pos Z.out]; rfl)
    · have z0' : (s4 == 0) = false := by simpa using z0
      have z1 : ¬ s4 = 12 := by omega
      have z1' : (s4 == 12) = false := by simpa using z1
      have Z := Lib.hid z1
      have Z0 := Lib.hid z0
      clear z1 z0
      go_wp2_with fail
      go_ret2
      exact FIN.out _ x4 s4 _ bx.1 bx.2 P4'.out (by rw [if_neg Z0.out, if_neg Z.out]; rfl)
end

def Moved (W0 : World) (g : Nat) (rest : List Value) (zs : List Int) (a b : Nat) (e : Ending) (W : World) : Prop :=
  ∃ zs', e = .returned (.tuple #[]) ∧ Srt W0 g rest zs' W ∧ Seg a b zs zs'

set_option maxHeartbeats 4000000 in
theorem reverse_any (W0 : World) (g B : Nat) (rest : List Value) (zs0 : List Int) (n c0 a b : Nat) (W : World) (hS : Srt W0 g rest zs0 W) (hn : zs0.length = n) (hbig : n ≤ 1000000) (hab : a < b) (hbn : b ≤ n) :
    Calls Try.prog 62 #[.slice (some ⟨g, 0, none⟩) n c0, .int .i64 a, .int .i64 b, fvO B] W (Moved W0 g rest zs0 a b) := by
  have HS := Lib.hid hS
  have HN := Lib.hid hn
  clear hS hn
  go_enter Try.func62, Try.ntmps62
  go_wp2_with fail
  go_loopw [8, 9] (fun s t wr => ∃ (i j : Nat) (ys : List Int), s = .int .i64 i ∧ t = .int .i64 j ∧ a ≤ i ∧ i ≤ b ∧ j < b ∧ Srt W0 g rest ys wr ∧ Seg a b zs0 ys) (fun s _ _ => b + 1 - (intOf s).toNat)
  case atStart => exact ⟨a, b - 1, zs0, rfl, congrArg (Value.int .i64) (by omega), by omega, by omega, by omega, HS.out, Seg.refl _ _ _⟩
  case round =>
    obtain ⟨i, j, ys, rfl, rfl, hi1, hi2, hj2, hS, hG⟩ := hrel
    have K1 := Lib.hid hS
    have K2 := Lib.hid hG
    have hyl : Hid (ys.length = n) := by have := hG.len; rw [HN.out] at this; exact this
    clear hS hG
    by_cases hij : i < j
    · have l1 : (i : Int) < n := by omega
      have l2 : (j : Int) < n := by omega
      have i1 : i < ys.length := by rw [hyl.out]; omega
      have i2 : j < ys.length := by rw [hyl.out]; omega
      have c1 := K1.out.cell i1
      have c2 := K1.out.cell i2
      have f1 : wr.frozen? ⟨g, i, none⟩ = false := K1.out.frozen _
      have f2 : wr.frozen? ⟨g, j, none⟩ = false := K1.out.frozen _
      have n1 : i ≠ j := by omega
      have I1 := Lib.hid i1; have I2 := Lib.hid i2
      clear i1 i2
      go_wp2_with fail
      go_region
      go_wp2_with fail
      go_roundw
      case rel => exact ⟨i + 1, j - 1, swp ys i j, by go_num, congrArg (Value.int .i64) (by omega), by omega, by omega, by omega, (K1.out.swp I1.out I2.out).drew, K2.out.trans (Seg.swp _ (by omega) (by omega) (by rw [hyl.out]; omega))⟩
      case measure => simp [intOf]; omega
    · have l1 : ¬ (i : Int) < j := by omega
      go_wp2_with fail
      go_end0
      exact ⟨ys, rfl, K1.out, K2.out⟩

end Go.Proofs.Ythfadkilffmmlaa
