/-
  Contracts of the reference's Check and Same. No condition.
-/
import Derived.Test.YtalcnkoidmoibaaA3
namespace Go.Proofs.Ytalcnkoidmoibaa
open Go.RowKit
set_option linter.unusedVariables false
set_option linter.unusedSimpArgs false

/-- all elements are literals of the variables 1 to n -/
def litsB (n : Int) (l : List Int) : Bool := l.all fun x => isB x n
def allB (n : Int) (ls : List (List Int)) : Bool := ls.all (litsB n)
/-- the error of a formula -/
def checkE (n : Int) (ls : List (List Int)) : Int := if n < 0 ∨ 65536 < n then 1 else if allB n ls = false then 1 else if 65536 < ls.length then 2 else 0

theorem allB_at {n : Int} {ls : List (List Int)} {k : Nat} (h : k < ls.length) (e : litsB n (ell ls k) = false) : allB n ls = false := by
  rw [ell_lt h] at e
  unfold allB; rw [List.all_eq_false]; exact ⟨_, List.getElem_mem h, by simp [e]⟩
theorem allB_step {n : Int} {ls : List (List Int)} {k : Nat} (h : k < ls.length) (e : litsB n (ell ls k) = true) (h0 : allB n (ls.take k) = true) : allB n (ls.take (k + 1)) = true := by
  unfold allB at *; rw [takel_snoc ls k h, List.all_append, h0]; simp [e]
theorem allB_full {n : Int} {ls : List (List Int)} {k m : Nat} (hl : ls.length = m) (h : ¬ k < m) (h0 : allB n (ls.take k) = true) : allB n ls = true := by
  rw [List.take_of_length_le (by omega)] at h0; exact h0

theorem checkE_out {n : Int} {ls : List (List Int)} (h : n < 0 ∨ 65536 < n) : checkE n ls = 1 := if_pos h
theorem checkE_arg {n : Int} {ls : List (List Int)} (h : allB n ls = false) : checkE n ls = 1 := by unfold checkE; split <;> simp [h]
theorem checkE_bound {n : Int} {ls : List (List Int)} (h0 : 0 ≤ n ∧ n ≤ 65536) (h : allB n ls = true) (hl : 65536 < ls.length) : checkE n ls = 2 := by
  unfold checkE; rw [if_neg (by omega), if_neg (by rw [h]; exact Bool.noConfusion), if_pos hl]
theorem checkE_ok {n : Int} {ls : List (List Int)} (h0 : 0 ≤ n ∧ n ≤ 65536) (h : allB n ls = true) (hl : ¬ 65536 < ls.length) : checkE n ls = 0 := by
  unfold checkE; rw [if_neg (by omega), if_neg (by rw [h]; exact Bool.noConfusion), if_neg hl]

/-- an api.Cnf in a box -/
structure BoxC (w : World) (B : Nat) (x : Int) (A : Option Addr) (n c : Nat) : Prop where
  lt : B < w.heap.size
  c0 : w.cell? ⟨B, 0, none⟩ = some (.int .i64 x)
  c1 : w.cell? ⟨B, 1, none⟩ = some (.slice A n c)
theorem BoxC.below {w w' : World} {B : Nat} {x : Int} {A : Option Addr} {n c : Nat} (h : BoxC w B x A n c) (hb : Below w.heap.size w w') : BoxC w' B x A n c :=
  ⟨Nat.lt_of_lt_of_le h.lt hb.size, (hb.cell (p := ⟨B, 0, none⟩) h.lt).trans h.c0, (hb.cell (p := ⟨B, 1, none⟩) h.lt).trans h.c1⟩
theorem BoxC.new (w : World) (x : Int) (A : Option Addr) (n c : Nat) : BoxC (w.alloc (.cells #[.int .i64 x, .slice A n c] 29)) w.heap.size x A n c :=
  ⟨by simp, by simp, by simp⟩

theorem is_val (r : Bool) (x n : Int) (w : World) (h0 : 0 ≤ n) (h1 : n ≤ 65536) (hr : isB x n = r) : Calls Try.prog 69 #[.int .i64 x, .int .i64 n] w fun e w' => e = .returned (.bool r) ∧ w = w' :=
  (is_any x n w h0 h1).mono fun _ _ ⟨he, hw⟩ => ⟨by rw [he, hr], hw⟩

set_option maxHeartbeats 1600000 in
theorem checkR_in (x : Int) (A : Option Addr) (n c : Nat) (ls : List (List Int)) (w : World) (h : RL w A n c ls) (h0 : 0 ≤ x) (h1 : x ≤ 65536) :
    Calls Try.prog 38 #[.agg #[.int .i64 x, .slice A n c]] w fun e w' => e = .returned (.int .i64 (checkE x ls)) ∧ Below w.heap.size w w' := by
  have hn := h.small
  have H := Lib.hid h
  clear h
  have z1 : ¬ x < 0 := by omega
  have z2 : ¬ 65536 < x := by omega
  have HX := Lib.hid (And.intro h0 h1)
  clear h0 h1
  go_enter Try.func38, Try.ntmps38
  go_wp2
  have hbw : Below w.heap.size w (w.alloc (.cells #[.int .i64 x, .slice A n c] 29)) := (Below.refl _ _).alloc (Nat.le_refl _) _
  have hbx := BoxC.new w x A n c
  generalize hW : w.alloc (.cells #[.int .i64 x, .slice A n c] 29) = W at hbw hbx ⊢
  clear hW
  have HBW := Lib.hid hbw
  have BX := Lib.hid hbx
  have HB0 : w.heap.size < W.heap.size := BX.out.lt
  clear hbw hbx
  go_loopw [3] (fun i wr => ∃ k : Nat, k ≤ n ∧ i = .int .i64 k ∧ allB x (ls.take k) = true ∧ Below W.heap.size W wr) (fun i _ => n - (intOf i).toNat)
  case atStart => exact ⟨0, Nat.zero_le _, rfl, rfl, Below.refl _ _⟩
  case round =>
    obtain ⟨k, hk, rfl, hno, hbl⟩ := hrel
    have HN := Lib.hid hno
    have HB := Lib.hid hbl
    clear hno hbl
    have p0 := (BX.out.below HB.out).c0
    have p1 := (BX.out.below HB.out).c1
    by_cases hlt : k < n
    · obtain ⟨b, off, rfl, hb, hc⟩ := ((H.out.below HBW.out).below HB.out).cells (by omega)
      obtain ⟨a1, n1, c1, hck, hr1⟩ := hc k hlt
      clear hc
      have R1 := Lib.hid hr1
      have hn1 := hr1.small
      clear hr1
      have hl1 : (k : Int) < (n : Int) := by omega
      rename World => V
      go_wp2_with fail
      go_loopw [4] (fun i wq => ∃ j : Nat, j ≤ n1 ∧ i = .int .i64 j ∧ ((ell ls k).take j).all (fun y => isB y x) = true ∧ Below V.heap.size V wq) (fun i _ => n1 - (intOf i).toNat)
      case atStart => exact ⟨0, Nat.zero_le _, rfl, rfl, Below.refl _ _⟩
      case round =>
        obtain ⟨j, hj, rfl, hno2, hbl2⟩ := hrel
        have HN2 := Lib.hid hno2
        have HB2 := Lib.hid hbl2
        clear hno2 hbl2
        have hBr : w.heap.size < V.heap.size := (BX.out.below HB.out).lt
        have q0 := (HB2.out.cell (p := ⟨w.heap.size, 0, none⟩) hBr).trans p0
        have q1 := (HB2.out.cell (p := ⟨w.heap.size, 1, none⟩) hBr).trans p1
        have qk := (HB2.out.cell (p := ⟨b, off + k, none⟩) hb).trans hck
        have hBF : Below w.heap.size w wr := HBW.out.trans ((HB.out.trans (HB2.out.mono HB.out.size)).mono HBW.out.size)
        have HBF := Lib.hid hBF
        clear hBF
        by_cases hlt2 : j < n1
        · obtain ⟨b1, off1, rfl, hb1, hc1⟩ := (R1.out.below HB2.out).cells (by omega)
          have hcj := hc1 j hlt2
          clear hc1
          have hB2 : w.heap.size < wr.heap.size := Nat.lt_of_lt_of_le hBr HB2.out.size
          have hb2 : b < wr.heap.size := Nat.lt_of_lt_of_le hb HB2.out.size
          have hl2 : (j : Int) < (n1 : Int) := by omega
          generalize ho : isB (elt (ell ls k) j) x = o
          have HO := Lib.hid ho
          clear ho p0 p1 hck
          cases o
          · go_wp2_with fail
            refine wp_region_grow (by kernel_rfl) (by kernel_rfl) ?_
            have g0 := fun u : Gr wr => u.cell (p := ⟨w.heap.size, 0, none⟩) hB2 q0
            have g1 := fun u : Gr wr => u.cell (p := ⟨w.heap.size, 1, none⟩) hB2 q1
            have gk := fun u : Gr wr => u.cell (p := ⟨b, off + k, none⟩) hb2 qk
            have gj := fun u : Gr wr => u.cell (p := ⟨b1, off1 + j, none⟩) hb1 hcj
            repeat (go_big_quiet_step ((go_at_call 69; exact Gr.same _ (is_val false _ _ _ HX.out.1 HX.out.2 HO.out))))
            refine wpQuiet_nil ?_
            rintro _ ⟨⟨w2, hb2⟩, rfl⟩
            go_wp2_with fail
            go_ret
            exact ⟨ret_int (checkE_arg (allB_at (k := k) (by rw [H.out.len]; exact hlt) (all_at (p := fun y => isB y x) (by rw [R1.out.len]; exact hlt2) HO.out))).symm, HBF.out.trans (hb2.mono HBF.out.size)⟩
          · go_wp2_with fail
            refine wp_region_grow (by kernel_rfl) (by kernel_rfl) ?_
            have g0 := fun u : Gr wr => u.cell (p := ⟨w.heap.size, 0, none⟩) hB2 q0
            have g1 := fun u : Gr wr => u.cell (p := ⟨w.heap.size, 1, none⟩) hB2 q1
            have gk := fun u : Gr wr => u.cell (p := ⟨b, off + k, none⟩) hb2 qk
            have gj := fun u : Gr wr => u.cell (p := ⟨b1, off1 + j, none⟩) hb1 hcj
            repeat (go_big_quiet_step ((go_at_call 69; exact Gr.same _ (is_val true _ _ _ HX.out.1 HX.out.2 HO.out))))
            refine wpQuiet_nil ?_
            rintro _ ⟨⟨w2, hb2⟩, rfl⟩
            go_wp2_with fail
            go_roundw
            case rel => exact ⟨j + 1, by omega, by go_num, all_step (p := fun y => isB y x) (by rw [R1.out.len]; exact hlt2) HO.out HN2.out, HB2.out.trans (hb2.mono HB2.out.size)⟩
            case measure => simp [intOf]; omega
        · go_wp2_with fail
          go_roundw
          case rel => exact ⟨k + 1, by omega, by go_num, allB_step (by rw [H.out.len]; exact hlt) (all_full R1.out.len hlt2 HN2.out) HN.out, HB.out.trans (HB2.out.mono HB.out.size)⟩
          case measure => simp [intOf]; omega
    · have hfu := allB_full H.out.len hlt HN.out
      have HF := Lib.hid hfu
      clear hfu
      have hl1 : ¬ (k : Int) < (n : Int) := by omega
      by_cases hbig : (65536 : Int) < n
      · go_wp2_with fail
        go_ret
        exact ⟨ret_int (checkE_bound HX.out HF.out (by rw [H.out.len]; omega)).symm, HBW.out.trans (HB.out.mono HBW.out.size)⟩
      · go_wp2_with fail
        go_ret
        exact ⟨ret_int (checkE_ok HX.out HF.out (by rw [H.out.len]; omega)).symm, HBW.out.trans (HB.out.mono HBW.out.size)⟩

set_option maxHeartbeats 400000 in
theorem checkR_out (x : Int) (A : Option Addr) (n c : Nat) (w : World) (h : x < 0 ∨ 65536 < x) :
    Calls Try.prog 38 #[.agg #[.int .i64 x, .slice A n c]] w fun e w' => e = .returned (.int .i64 1) ∧ Below w.heap.size w w' := by
  by_cases h0 : x < 0
  · clear h
    go_enter Try.func38, Try.ntmps38
    go_wp2
    go_ret
    exact ⟨rfl, (Below.refl _ _).alloc (Nat.le_refl _) _⟩
  · have h1 : 65536 < x := by omega
    clear h
    go_enter Try.func38, Try.ntmps38
    go_wp2
    go_ret
    exact ⟨rfl, (Below.refl _ _).alloc (Nat.le_refl _) _⟩

theorem checkR_any (x : Int) (A : Option Addr) (n c : Nat) (ls : List (List Int)) (w : World) (h : RL w A n c ls) :
    Calls Try.prog 38 #[.agg #[.int .i64 x, .slice A n c]] w fun e w' => e = .returned (.int .i64 (checkE x ls)) ∧ Below w.heap.size w w' := by
  by_cases hx : x < 0 ∨ 65536 < x
  · rw [checkE_out hx]; exact checkR_out x A n c w hx
  · exact checkR_in x A n c ls w h (by omega) (by omega)

theorem lists_val (r : Bool) (A : Option Addr) (n c : Nat) (ls : List (List Int)) (A' : Option Addr) (n' c' : Nat) (ls' : List (List Int)) (w : World) (h : RL w A n c ls) (h' : RL w A' n' c' ls') (hr : samesB ls ls' = r) :
    Calls Try.prog 30 #[.slice A n c, .slice A' n' c'] w fun e w' => e = .returned (.bool r) ∧ Below w.heap.size w w' :=
  (lists_any A n c ls A' n' c' ls' w h h').mono fun _ _ ⟨he, hq⟩ => ⟨by rw [he, hr], hq⟩

set_option maxHeartbeats 400000 in
theorem sameC_any (x : Int) (A : Option Addr) (n c : Nat) (ls : List (List Int)) (x' : Int) (A' : Option Addr) (n' c' : Nat) (ls' : List (List Int)) (w : World) (h : RL w A n c ls) (h' : RL w A' n' c' ls') :
    Calls Try.prog 21 #[.agg #[.int .i64 x, .slice A n c], .agg #[.int .i64 x', .slice A' n' c']] w fun e w' => e = .returned (.bool (decide (x = x') && samesB ls ls')) ∧ Below w.heap.size w w' := by
  have hb : Below w.heap.size w ((w.alloc (.cells #[.int .i64 x, .slice A n c] 29)).alloc (.cells #[.int .i64 x', .slice A' n' c'] 29)) := ((Below.refl _ _).alloc (Nat.le_refl _) _).alloc (by simp) _
  have H1 := lists_any A n c ls A' n' c' ls' _ (h.below hb) (h'.below hb)
  have HB := Lib.hid hb
  clear h h' hb
  by_cases hx : x = x'
  · have hx1 : (x == x') = true := by simpa using hx
    have HX := Lib.hid hx
    clear hx
    go_enter Try.func21, Try.ntmps21
    go_wp2_with (go_at_call 30; refine H1.mono ?_; rintro e w' ⟨rfl, hbb⟩)
    go_ret
    exact ⟨ret_bool (by rw [decide_eq_true HX.out, Bool.true_and]), HB.out.trans (hbb.mono HB.out.size)⟩
  · have hx1 : (x == x') = false := by simpa using hx
    have HX := Lib.hid hx
    clear hx
    go_enter Try.func21, Try.ntmps21
    go_wp2
    go_ret
    exact ⟨ret_bool (by rw [decide_eq_false HX.out, Bool.false_and]), HB.out⟩

end Go.Proofs.Ytalcnkoidmoibaa
