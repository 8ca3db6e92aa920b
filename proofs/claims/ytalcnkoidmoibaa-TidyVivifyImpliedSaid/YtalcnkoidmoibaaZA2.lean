/-
  The contract of unit. No condition.
  Contracts of the reference's Lists, Few, Check, Same and the law's few. No condition.
  Contracts of the reference's Check and Same. No condition.
  slices.ContainsFunc at ints, at a predicate that only reads; cnf.Check; cnf.Subsumes. No condition.
  The two closures of cnf.Norm. No condition.
  DeleteFunc and Compact at a nil slice. No condition.
-/
import Derived.Test.YtalcnkoidmoibaaZA1
import Derived.Shelf.Abstract

namespace Go.Proofs.Ytalcnkoidmoibaa
open Go.RowKit
set_option linter.unusedVariables false
set_option linter.unusedSimpArgs false

/-- the literal that a clause implies, and whether it is falsified -/
def unitT (S : List Int) : List Int → Int → Int × Bool
  | [], one => (one, one == 0)
  | x :: l, one => if hasB S x = true then (0, false) else if hasB S (-x) = true ∨ x = one then unitT S l one else if one ≠ 0 then (0, false) else unitT S l x

theorem ret_two {a b : Int} {c d : Bool} (h : (a, c) = (b, d)) : Ending.returned (.tuple #[.int .i64 a, .bool c]) = .returned (.tuple #[.int .i64 b, .bool d]) := by
  injection h with h1 h2; rw [h1, h2]

theorem wf_lit {x : Int} (h0 : -65536 ≤ x) (h1 : x ≤ 65536) : (Lit.int .i64 x).wf = true := by
  simp [Lit.wf, IntKind.min, IntKind.max, IntKind.bits, IntKind.signed]; omega

set_option maxHeartbeats 800000 in
theorem unit_any (A : Option Addr) (n c : Nat) (zs : List Int) (b0 m : Nat) (S : List Int) (w : World) (h : RI w A n c zs) (h' : SM w b0 m S) (hz : Okl zs) :
    Calls Try.prog 68 #[.slice A n c, .map (some b0)] w fun e w' => e = .returned (.tuple #[.int .i64 (unitT S zs 0).1, .bool (unitT S zs 0).2]) ∧ w = w' := by
  have hn := h.small
  have H := Lib.hid h
  clear h
  have HZ := Lib.hid hz
  clear hz
  have HS := Lib.hid h'
  clear h'
  go_enter Try.func68, Try.ntmps68
  go_wp2
  go_loop [4, 10] (fun o i => ∃ (k : Nat) (one : Int), k ≤ n ∧ o = .int .i64 one ∧ i = .int .i64 k ∧ unitT S zs 0 = unitT S (zs.drop k) one) (fun _ i => n - (intOf i).toNat)
  case atStart => exact ⟨0, 0, Nat.zero_le _, rfl, rfl, rfl⟩
  case round =>
    obtain ⟨k, one, hk, rfl, rfl, hno⟩ := hrel
    have HN := Lib.hid hno
    clear hno
    by_cases hlt : k < n
    · obtain ⟨b, off, rfl, hb, hc⟩ := H.out.cells (by omega)
      have hck := hc k hlt
      clear hc
      have hl : k < zs.length := by rw [H.out.len]; exact hlt
      have hx := HZ.out.at hl
      have hneg := lit_neg' hx.2.1 hx.2.2
      have hk1 := HS.out.look (x := elt zs k) (wf_lit hx.2.1 hx.2.2)
      have hk2 := HS.out.look (x := -(elt zs k)) (wf_lit (by omega) (by omega))
      clear hx
      have HN2 := HN.out
      rw [drop_at hl, unitT] at HN2
      replace HN2 := Lib.hid HN2
      by_cases h1 : hasB S (elt zs k) = true
      · rw [h1] at hk1
        clear hk2
        go_wp2
        go_ret2
        exact ⟨ret_two (by rw [HN2.out, if_pos h1]), rfl⟩
      · have h1' : hasB S (elt zs k) = false := by simpa using h1
        rw [h1'] at hk1
        by_cases h2 : hasB S (-(elt zs k)) = true
        · rw [h2] at hk2
          go_wp2
          go_round
          case rel => exact ⟨k + 1, one, by omega, rfl, by go_num, by rw [HN2.out, if_neg h1, if_pos (Or.inl h2)]⟩
          case measure => simp [intOf]; omega
        · have h2' : hasB S (-(elt zs k)) = false := by simpa using h2
          rw [h2'] at hk2
          by_cases h3 : elt zs k = one
          · have h3' : (elt zs k == one) = true := by simpa using h3
            have H3 := Lib.hid h3
            clear h3
            go_wp2
            go_round
            case rel => exact ⟨k + 1, one, by omega, rfl, by go_num, by rw [HN2.out, if_neg h1, if_pos (Or.inr H3.out)]⟩
            case measure => simp [intOf]; omega
          · have h3' : (elt zs k == one) = false := by simpa using h3
            have H3 := Lib.hid h3
            clear h3
            by_cases h4 : one = 0
            · have h4' : (one != 0) = false := by simp [h4]
              have H4 := Lib.hid h4
              clear h4
              go_wp2
              go_round
              case rel => exact ⟨k + 1, elt zs k, by omega, rfl, by go_num, by rw [HN2.out, if_neg h1, if_neg (by intro h; exact h.elim h2 H3.out), if_neg (by simpa using H4.out)]⟩
              case measure => simp [intOf]; omega
            · have h4' : (one != 0) = true := by simpa using h4
              have H4 := Lib.hid h4
              clear h4
              go_wp2
              go_ret2
              exact ⟨ret_two (by rw [HN2.out, if_neg h1, if_neg (by intro h; exact h.elim h2 H3.out), if_pos H4.out]), rfl⟩
    · go_wp2
      go_ret2
      exact ⟨ret_two (by rw [HN.out, List.drop_of_length_le (by rw [H.out.len]; omega), unitT]), rfl⟩

end Go.Proofs.Ytalcnkoidmoibaa

namespace Go.Proofs.Ytalcnkoidmoibaa
open Go.RowKit
set_option linter.unusedVariables false
set_option linter.unusedSimpArgs false

theorem ints_val (r : Bool) (A : Option Addr) (n c : Nat) (zs : List Int) (A' : Option Addr) (n' c' : Nat) (zs' : List Int) (w : World) (h : RI w A n c zs) (h' : RI w A' n' c' zs') (hr : sameB zs zs' = r) :
    Calls Try.prog 18 #[.slice A n c, .slice A' n' c'] w fun e w' => e = .returned (.bool r) ∧ Below w.heap.size w w' :=
  (ints_any A n c zs A' n' c' zs' w h h').mono fun _ _ ⟨he, q, hq⟩ => ⟨by rw [he, hr], by rw [hq]; exact drewN_below w q⟩

def samesB (a b : List (List Int)) : Bool := a == b
theorem samesB_iff {a b : List (List Int)} : samesB a b = true ↔ a = b := by simp [samesB]
theorem samesB_len {a b : List (List Int)} (h : a.length ≠ b.length) : samesB a b = false := by
  unfold samesB; rw [beq_eq_false_iff_ne]; intro e; exact h (by rw [e])
theorem samesB_at {a b : List (List Int)} {k : Nat} (h : sameB (ell a k) (ell b k) = false) : samesB a b = false := by
  unfold samesB; rw [beq_eq_false_iff_ne]; intro e; subst e; simp [sameB] at h
theorem takel_eq_step {a b : List (List Int)} {k : Nat} (ha : k < a.length) (hb : k < b.length) (h : a.take k = b.take k) (e : sameB (ell a k) (ell b k) = true) : a.take (k + 1) = b.take (k + 1) := by
  rw [takel_snoc a k ha, takel_snoc b k hb, h, sameB_iff.1 e]
theorem samesB_full {a b : List (List Int)} {k n : Nat} (ha : a.length = n) (hb : b.length = n) (hk : ¬ k < n) (h : a.take k = b.take k) : samesB a b = true := by
  rw [List.take_of_length_le (by omega), List.take_of_length_le (by omega)] at h
  rw [samesB_iff]; exact h

set_option maxHeartbeats 800000 in
theorem lists_any (A : Option Addr) (n c : Nat) (ls : List (List Int)) (A' : Option Addr) (n' c' : Nat) (ls' : List (List Int)) (w : World) (h : RL w A n c ls) (h' : RL w A' n' c' ls') :
    Calls Try.prog 30 #[.slice A n c, .slice A' n' c'] w fun e w' => e = .returned (.bool (samesB ls ls')) ∧ Below w.heap.size w w' := by
  have hn := h.small
  have hn' := h'.small
  have H := Lib.hid h
  have H' := Lib.hid h'
  clear h h'
  by_cases hne : n = n'
  · subst hne
    go_enter Try.func30, Try.ntmps30
    go_wp2
    go_loopw [5] (fun i wr => ∃ k : Nat, k ≤ n ∧ i = .int .i64 k ∧ ls.take k = ls'.take k ∧ Below w.heap.size w wr) (fun i _ => n - (intOf i).toNat)
    case atStart => exact ⟨0, Nat.zero_le _, rfl, rfl, Below.refl _ _⟩
    case round =>
      obtain ⟨k, hk, rfl, hno, hbl⟩ := hrel
      have HN := Lib.hid hno
      have HB := Lib.hid hbl
      clear hno hbl
      by_cases hlt : k < n
      · obtain ⟨b, off, rfl, hb, hc⟩ := (H.out.below HB.out).cells (by omega)
        obtain ⟨a1, n1, c1, hck, hr1⟩ := hc k hlt
        clear hc
        obtain ⟨b', off', rfl, hb', hc'⟩ := (H'.out.below HB.out).cells (by omega)
        obtain ⟨a2, n2, c2, hck', hr2⟩ := hc' k hlt
        clear hc'
        have hl1 : (k : Int) < (n : Int) := by omega
        have R1 := Lib.hid hr1
        have R2 := Lib.hid hr2
        clear hr1 hr2
        have gk := fun u : Gr wr => u.cell (p := ⟨b, off + k, none⟩) hb hck
        have gk' := fun u : Gr wr => u.cell (p := ⟨b', off' + k, none⟩) hb' hck'
        generalize ho : sameB (ell ls k) (ell ls' k) = o
        have HO := Lib.hid ho
        clear ho
        cases o
        · go_wp2_with fail
          refine wp_region_grow (by kernel_rfl) (by kernel_rfl) ?_
          repeat (go_big_quiet_step ((go_at_call 18; exact Gr.call _ (ints_val false _ _ _ _ _ _ _ _ _ (R1.out.below (Gr.ok _)) (R2.out.below (Gr.ok _)) HO.out))))
          refine wpQuiet_nil ?_
          rintro _ ⟨⟨w2, hb2⟩, rfl⟩
          go_wp2_with fail
          go_ret
          exact ⟨ret_bool (samesB_at HO.out).symm, HB.out.trans (hb2.mono HB.out.size)⟩
        · go_wp2_with fail
          refine wp_region_grow (by kernel_rfl) (by kernel_rfl) ?_
          repeat (go_big_quiet_step ((go_at_call 18; exact Gr.call _ (ints_val true _ _ _ _ _ _ _ _ _ (R1.out.below (Gr.ok _)) (R2.out.below (Gr.ok _)) HO.out))))
          refine wpQuiet_nil ?_
          rintro _ ⟨⟨w2, hb2⟩, rfl⟩
          go_wp2_with fail
          go_roundw
          case rel => exact ⟨k + 1, by omega, by go_num, takel_eq_step (by rw [H.out.len]; exact hlt) (by rw [H'.out.len]; exact hlt) HN.out HO.out, HB.out.trans (hb2.mono HB.out.size)⟩
          case measure => simp [intOf]; omega
      · go_wp2
        go_ret
        exact ⟨ret_bool (samesB_full H.out.len H'.out.len hlt HN.out).symm, HB.out⟩
  · have hb : ((n : Int) != (n' : Int)) = true := by rw [bne_iff_ne]; omega
    go_enter Try.func30, Try.ntmps30
    go_wp2
    go_ret
    exact ⟨ret_bool (samesB_len (by rw [H.out.len, H'.out.len]; exact hne)).symm, Below.refl _ _⟩

/-- how many literals -/
def sumL (ls : List (List Int)) : Nat := (ls.map List.length).sum
theorem sumL_step {ls : List (List Int)} {k : Nat} (h : k < ls.length) : sumL (ls.take (k + 1)) = sumL (ls.take k) + (ell ls k).length := by
  rw [takel_snoc ls k h]; simp [sumL]

def fewB (ls : List (List Int)) : Bool := decide (ls.length ≤ 200) && decide (sumL (ls.take 200) ≤ 1000)
def fewL (ls : List (List Int)) : Bool := decide (ls.length ≤ 60) && decide (sumL ls ≤ 1000)

set_option maxHeartbeats 800000 in
theorem Few_any (A : Option Addr) (n c : Nat) (ls : List (List Int)) (w : World) (h : RL w A n c ls) :
    Calls Try.prog 36 #[.slice A n c] w fun e w' => e = .returned (.bool (fewB ls)) ∧ w = w' := by
  have hn := h.small
  have H := Lib.hid h
  clear h
  go_enter Try.func36, Try.ntmps36
  go_wp2
  go_loop [3, 4] (fun s i => ∃ (k : Nat), k ≤ n ∧ k ≤ 200 ∧ s = .int .i64 (sumL (ls.take k) : Nat) ∧ i = .int .i64 k ∧ sumL (ls.take k) ≤ k * 17592186044416) (fun _ i => n - (intOf i).toNat)
  case atStart => exact ⟨0, Nat.zero_le _, by omega, rfl, rfl, by simp [sumL]⟩
  case round =>
    obtain ⟨k, hk, hk2, rfl, rfl, hsm⟩ := hrel
    by_cases hlt : k < n
    · by_cases hlt2 : k < 200
      · obtain ⟨b, off, rfl, hb, hc⟩ := H.out.cells (by omega)
        obtain ⟨a1, n1, c1, hck, hr1⟩ := hc k hlt
        clear hc
        have hs1 := hr1.small
        have hl1 := hr1.len
        have hst := sumL_step (ls := ls) (k := k) (by rw [H.out.len]; exact hlt)
        rw [hl1] at hst
        clear hl1 hr1
        generalize hS : sumL (ls.take k) = S at *
        generalize hS' : sumL (ls.take (k + 1)) = S' at *
        have hw : wrap64 ((S : Int) + (n1 : Int)) = (S' : Int) := by rw [hst]; unfold wrap64; omega
        have HS := Lib.hid (And.intro hst (And.intro hS hS'))
        have HM := Lib.hid (And.intro hsm (And.intro hs1 hlt2))
        have hl0 : (k : Int) < 200 := by omega
        clear hst hS hS' hsm hs1 hlt2 hk2
        go_wp2
        go_round
        case rel => exact ⟨k + 1, by omega, by have := HM.out; omega, by rw [HS.out.2.2]; first | rfl | rw [hw] | simp [hw], by go_num, by have := HM.out; rw [HS.out.2.2, HS.out.1]; omega⟩
        case measure => simp [intOf]; omega
      · generalize hS : sumL (ls.take k) = S at *
        have HS := Lib.hid hS
        clear hS
        have hl0 : ¬ (k : Int) < 200 := by omega
        have hl1 : (k : Int) < n := by omega
        have hl2 : ¬ (n : Int) ≤ 200 := by omega
        have HK := Lib.hid (And.intro hlt hlt2)
        clear hlt hlt2 hk hk2 hn hsm
        go_wp2
        go_ret
        exact ⟨ret_bool (by have := HK.out; rw [fewB, H.out.len, decide_eq_false (by omega)]; rfl), rfl⟩
    · have hl1 : ¬ (k : Int) < n := by omega
      have hl2 : (n : Int) ≤ 200 := by omega
      generalize hS : sumL (ls.take k) = S at *
      have HS := Lib.hid hS
      clear hS
      have e : sumL (ls.take 200) = S := by rw [← HS.out, List.take_of_length_le (by rw [H.out.len]; omega), List.take_of_length_le (by rw [H.out.len]; omega)]
      have E := Lib.hid e
      have HN := Lib.hid hlt
      clear e hlt hk hsm
      by_cases h3 : (S : Int) ≤ 1000
      all_goals
        go_wp2
        go_ret
        refine ⟨ret_bool ?_, rfl⟩
        have := HN.out
        rw [fewB, H.out.len, E.out, decide_eq_true (by omega), Bool.true_and]
        simp
        omega

set_option maxHeartbeats 400000 in
theorem few_any (x : Int) (A : Option Addr) (n c : Nat) (ls : List (List Int)) (w : World) (h : RL w A n c ls) :
    Calls Try.prog 15 #[.agg #[.int .i64 x, .slice A n c]] w fun e w' => e = .returned (.bool (fewL ls)) ∧ Below w.heap.size w w' := by
  have hn := h.small
  have hl := h.len
  have e : fewL ls = (fewB ls && decide (n ≤ 60)) := by
    unfold fewL fewB
    rw [hl]
    by_cases h60 : n ≤ 60
    · rw [List.take_of_length_le (by omega), decide_eq_true h60, decide_eq_true (show n ≤ 200 by omega)]; simp
    · rw [decide_eq_false h60]; simp
  have HE := Lib.hid e
  clear e
  have H1 := (Few_any A n c ls (w.alloc (.cells #[.int .i64 x, .slice A n c] 29)) (h.alloc _))
  generalize ho : fewB ls = o at *
  clear h ho hl
  cases o
  · go_enter Try.func15, Try.ntmps15
    go_wp2_with (go_at_call 36; refine H1.mono ?_; rintro e w' ⟨rfl, rfl⟩)
    go_ret
    exact ⟨ret_bool (by rw [HE.out]; rfl), (Below.refl _ _).alloc (Nat.le_refl _) _⟩
  · by_cases h60 : (n : Int) ≤ 60
    all_goals
      go_enter Try.func15, Try.ntmps15
      go_wp2_with (go_at_call 36; refine H1.mono ?_; rintro e w' ⟨rfl, rfl⟩)
      go_ret
      exact ⟨ret_bool (by rw [HE.out, Bool.true_and]; simp; omega), (Below.refl _ _).alloc (Nat.le_refl _) _⟩

end Go.Proofs.Ytalcnkoidmoibaa

namespace Go.Proofs.Ytalcnkoidmoibaa
open Go.RowKit
set_option linter.unusedVariables false
set_option linter.unusedSimpArgs false

/-- all elements are literals of the variables 1 to n -/
def litsB (n : Int) (l : List Int) : Bool := l.all fun x => isB x n
def allB (n : Int) (ls : List (List Int)) : Bool := ls.all (litsB n)
/-- the error of a formula -/
def checkE (n : Int) (ls : List (List Int)) : Int := if n < 0 ∨ 65536 < n then 1 else if allB n ls = false then 1 else if 65536 < ls.length then 2 else 0

theorem allB_at {n : Int} {ls : List (List Int)} {k : Nat} (h : k < ls.length) (e : litsB n (ell ls k) = false) : allB n ls = false := by
  rw [ell_lt h] at e
  unfold allB; rw [List.all_eq_false]; exact ⟨_, List.getElem_mem h, by simp [e]⟩
theorem allB_step {n : Int} {ls : List (List Int)} {k : Nat} (h : k < ls.length) (e : litsB n (ell ls k) = true) (h0 : allB n (ls.take k) = true) : allB n (ls.take (k + 1)) = true := by
  unfold allB at *; rw [takel_snoc ls k h, List.all_append, h0]; simp [e]
theorem allB_full {n : Int} {ls : List (List Int)} {k m : Nat} (hl : ls.length = m) (h : ¬ k < m) (h0 : allB n (ls.take k) = true) : allB n ls = true := by
  rw [List.take_of_length_le (by omega)] at h0; exact h0

theorem checkE_out {n : Int} {ls : List (List Int)} (h : n < 0 ∨ 65536 < n) : checkE n ls = 1 := if_pos h
theorem checkE_arg {n : Int} {ls : List (List Int)} (h : allB n ls = false) : checkE n ls = 1 := by unfold checkE; split <;> simp [h]
theorem checkE_bound {n : Int} {ls : List (List Int)} (h0 : 0 ≤ n ∧ n ≤ 65536) (h : allB n ls = true) (hl : 65536 < ls.length) : checkE n ls = 2 := by
  unfold checkE; rw [if_neg (by omega), if_neg (by rw [h]; exact Bool.noConfusion), if_pos hl]
theorem checkE_ok {n : Int} {ls : List (List Int)} (h0 : 0 ≤ n ∧ n ≤ 65536) (h : allB n ls = true) (hl : ¬ 65536 < ls.length) : checkE n ls = 0 := by
  unfold checkE; rw [if_neg (by omega), if_neg (by rw [h]; exact Bool.noConfusion), if_neg hl]

/-- an api.Cnf in a box -/
structure BoxC (w : World) (B : Nat) (x : Int) (A : Option Addr) (n c : Nat) : Prop where
  lt : B < w.heap.size
  c0 : w.cell? ⟨B, 0, none⟩ = some (.int .i64 x)
  c1 : w.cell? ⟨B, 1, none⟩ = some (.slice A n c)
theorem BoxC.below {w w' : World} {B : Nat} {x : Int} {A : Option Addr} {n c : Nat} (h : BoxC w B x A n c) (hb : Below w.heap.size w w') : BoxC w' B x A n c :=
  ⟨Nat.lt_of_lt_of_le h.lt hb.size, (hb.cell (p := ⟨B, 0, none⟩) h.lt).trans h.c0, (hb.cell (p := ⟨B, 1, none⟩) h.lt).trans h.c1⟩
theorem BoxC.new (w : World) (x : Int) (A : Option Addr) (n c : Nat) : BoxC (w.alloc (.cells #[.int .i64 x, .slice A n c] 29)) w.heap.size x A n c :=
  ⟨by simp, by simp, by simp⟩

theorem is_val (r : Bool) (x n : Int) (w : World) (h0 : 0 ≤ n) (h1 : n ≤ 65536) (hr : isB x n = r) : Calls Try.prog 69 #[.int .i64 x, .int .i64 n] w fun e w' => e = .returned (.bool r) ∧ w = w' :=
  (is_any x n w h0 h1).mono fun _ _ ⟨he, hw⟩ => ⟨by rw [he, hr], hw⟩

set_option maxHeartbeats 1600000 in
theorem checkR_in (x : Int) (A : Option Addr) (n c : Nat) (ls : List (List Int)) (w : World) (h : RL w A n c ls) (h0 : 0 ≤ x) (h1 : x ≤ 65536) :
    Calls Try.prog 38 #[.agg #[.int .i64 x, .slice A n c]] w fun e w' => e = .returned (.int .i64 (checkE x ls)) ∧ Below w.heap.size w w' := by
  have hn := h.small
  have H := Lib.hid h
  clear h
  have z1 : ¬ x < 0 := by omega
  have z2 : ¬ 65536 < x := by omega
  have HX := Lib.hid (And.intro h0 h1)
  clear h0 h1
  go_enter Try.func38, Try.ntmps38
  go_wp2
  have hbw : Below w.heap.size w (w.alloc (.cells #[.int .i64 x, .slice A n c] 29)) := (Below.refl _ _).alloc (Nat.le_refl _) _
  have hbx := BoxC.new w x A n c
  generalize hW : w.alloc (.cells #[.int .i64 x, .slice A n c] 29) = W at hbw hbx ⊢
  clear hW
  have HBW := Lib.hid hbw
  have BX := Lib.hid hbx
  have HB0 : w.heap.size < W.heap.size := BX.out.lt
  clear hbw hbx
  go_loopw [3] (fun i wr => ∃ k : Nat, k ≤ n ∧ i = .int .i64 k ∧ allB x (ls.take k) = true ∧ Below W.heap.size W wr) (fun i _ => n - (intOf i).toNat)
  case atStart => exact ⟨0, Nat.zero_le _, rfl, rfl, Below.refl _ _⟩
  case round =>
    obtain ⟨k, hk, rfl, hno, hbl⟩ := hrel
    have HN := Lib.hid hno
    have HB := Lib.hid hbl
    clear hno hbl
    have p0 := (BX.out.below HB.out).c0
    have p1 := (BX.out.below HB.out).c1
    by_cases hlt : k < n
    · obtain ⟨b, off, rfl, hb, hc⟩ := ((H.out.below HBW.out).below HB.out).cells (by omega)
      obtain ⟨a1, n1, c1, hck, hr1⟩ := hc k hlt
      clear hc
      have R1 := Lib.hid hr1
      have hn1 := hr1.small
      clear hr1
      have hl1 : (k : Int) < (n : Int) := by omega
      rename World => V
      go_wp2_with fail
      go_loopw [4] (fun i wq => ∃ j : Nat, j ≤ n1 ∧ i = .int .i64 j ∧ ((ell ls k).take j).all (fun y => isB y x) = true ∧ Below V.heap.size V wq) (fun i _ => n1 - (intOf i).toNat)
      case atStart => exact ⟨0, Nat.zero_le _, rfl, rfl, Below.refl _ _⟩
      case round =>
        obtain ⟨j, hj, rfl, hno2, hbl2⟩ := hrel
        have HN2 := Lib.hid hno2
        have HB2 := Lib.hid hbl2
        clear hno2 hbl2
        have hBr : w.heap.size < V.heap.size := (BX.out.below HB.out).lt
        have q0 := (HB2.out.cell (p := ⟨w.heap.size, 0, none⟩) hBr).trans p0
        have q1 := (HB2.out.cell (p := ⟨w.heap.size, 1, none⟩) hBr).trans p1
        have qk := (HB2.out.cell (p := ⟨b, off + k, none⟩) hb).trans hck
        have hBF : Below w.heap.size w wr := HBW.out.trans ((HB.out.trans (HB2.out.mono HB.out.size)).mono HBW.out.size)
        have HBF := Lib.hid hBF
        clear hBF
        by_cases hlt2 : j < n1
        · obtain ⟨b1, off1, rfl, hb1, hc1⟩ := (R1.out.below HB2.out).cells (by omega)
          have hcj := hc1 j hlt2
          clear hc1
          have hB2 : w.heap.size < wr.heap.size := Nat.lt_of_lt_of_le hBr HB2.out.size
          have hb2 : b < wr.heap.size := Nat.lt_of_lt_of_le hb HB2.out.size
          have hl2 : (j : Int) < (n1 : Int) := by omega
          generalize ho : isB (elt (ell ls k) j) x = o
          have HO := Lib.hid ho
          clear ho p0 p1 hck
          cases o
          · go_wp2_with fail
            refine wp_region_grow (by kernel_rfl) (by kernel_rfl) ?_
            have g0 := fun u : Gr wr => u.cell (p := ⟨w.heap.size, 0, none⟩) hB2 q0
            have g1 := fun u : Gr wr => u.cell (p := ⟨w.heap.size, 1, none⟩) hB2 q1
            have gk := fun u : Gr wr => u.cell (p := ⟨b, off + k, none⟩) hb2 qk
            have gj := fun u : Gr wr => u.cell (p := ⟨b1, off1 + j, none⟩) hb1 hcj
            repeat (go_big_quiet_step ((go_at_call 69; exact Gr.same _ (is_val false _ _ _ HX.out.1 HX.out.2 HO.out))))
            refine wpQuiet_nil ?_
            rintro _ ⟨⟨w2, hb2⟩, rfl⟩
            go_wp2_with fail
            go_ret
            exact ⟨ret_int (checkE_arg (allB_at (k := k) (by rw [H.out.len]; exact hlt) (all_at (p := fun y => isB y x) (by rw [R1.out.len]; exact hlt2) HO.out))).symm, HBF.out.trans (hb2.mono HBF.out.size)⟩
          · go_wp2_with fail
            refine wp_region_grow (by kernel_rfl) (by kernel_rfl) ?_
            have g0 := fun u : Gr wr => u.cell (p := ⟨w.heap.size, 0, none⟩) hB2 q0
            have g1 := fun u : Gr wr => u.cell (p := ⟨w.heap.size, 1, none⟩) hB2 q1
            have gk := fun u : Gr wr => u.cell (p := ⟨b, off + k, none⟩) hb2 qk
            have gj := fun u : Gr wr => u.cell (p := ⟨b1, off1 + j, none⟩) hb1 hcj
            repeat (go_big_quiet_step ((go_at_call 69; exact Gr.same _ (is_val true _ _ _ HX.out.1 HX.out.2 HO.out))))
            refine wpQuiet_nil ?_
            rintro _ ⟨⟨w2, hb2⟩, rfl⟩
            go_wp2_with fail
            go_roundw
            case rel => exact ⟨j + 1, by omega, by go_num, all_step (p := fun y => isB y x) (by rw [R1.out.len]; exact hlt2) HO.out HN2.out, HB2.out.trans (hb2.mono HB2.out.size)⟩
            case measure => simp [intOf]; omega
        · go_wp2_with fail
          go_roundw
          case rel => exact ⟨k + 1, by omega, by go_num, allB_step (by rw [H.out.len]; exact hlt) (all_full R1.out.len hlt2 HN2.out) HN.out, HB.out.trans (HB2.out.mono HB.out.size)⟩
          case measure => simp [intOf]; omega
    · have hfu := allB_full H.out.len hlt HN.out
      have HF := Lib.hid hfu
      clear hfu
      have hl1 : ¬ (k : Int) < (n : Int) := by omega
      by_cases hbig : (65536 : Int) < n
      · go_wp2_with fail
        go_ret
        exact ⟨ret_int (checkE_bound HX.out HF.out (by rw [H.out.len]; omega)).symm, HBW.out.trans (HB.out.mono HBW.out.size)⟩
      · go_wp2_with fail
        go_ret
        exact ⟨ret_int (checkE_ok HX.out HF.out (by rw [H.out.len]; omega)).symm, HBW.out.trans (HB.out.mono HBW.out.size)⟩

set_option maxHeartbeats 400000 in
theorem checkR_out (x : Int) (A : Option Addr) (n c : Nat) (w : World) (h : x < 0 ∨ 65536 < x) :
    Calls Try.prog 38 #[.agg #[.int .i64 x, .slice A n c]] w fun e w' => e = .returned (.int .i64 1) ∧ Below w.heap.size w w' := by
  by_cases h0 : x < 0
  · clear h
    go_enter Try.func38, Try.ntmps38
    go_wp2
    go_ret
    exact ⟨rfl, (Below.refl _ _).alloc (Nat.le_refl _) _⟩
  · have h1 : 65536 < x := by omega
    clear h
    go_enter Try.func38, Try.ntmps38
    go_wp2
    go_ret
    exact ⟨rfl, (Below.refl _ _).alloc (Nat.le_refl _) _⟩

theorem checkR_any (x : Int) (A : Option Addr) (n c : Nat) (ls : List (List Int)) (w : World) (h : RL w A n c ls) :
    Calls Try.prog 38 #[.agg #[.int .i64 x, .slice A n c]] w fun e w' => e = .returned (.int .i64 (checkE x ls)) ∧ Below w.heap.size w w' := by
  by_cases hx : x < 0 ∨ 65536 < x
  · rw [checkE_out hx]; exact checkR_out x A n c w hx
  · exact checkR_in x A n c ls w h (by omega) (by omega)

theorem lists_val (r : Bool) (A : Option Addr) (n c : Nat) (ls : List (List Int)) (A' : Option Addr) (n' c' : Nat) (ls' : List (List Int)) (w : World) (h : RL w A n c ls) (h' : RL w A' n' c' ls') (hr : samesB ls ls' = r) :
    Calls Try.prog 30 #[.slice A n c, .slice A' n' c'] w fun e w' => e = .returned (.bool r) ∧ Below w.heap.size w w' :=
  (lists_any A n c ls A' n' c' ls' w h h').mono fun _ _ ⟨he, hq⟩ => ⟨by rw [he, hr], hq⟩

set_option maxHeartbeats 400000 in
theorem sameC_any (x : Int) (A : Option Addr) (n c : Nat) (ls : List (List Int)) (x' : Int) (A' : Option Addr) (n' c' : Nat) (ls' : List (List Int)) (w : World) (h : RL w A n c ls) (h' : RL w A' n' c' ls') :
    Calls Try.prog 21 #[.agg #[.int .i64 x, .slice A n c], .agg #[.int .i64 x', .slice A' n' c']] w fun e w' => e = .returned (.bool (decide (x = x') && samesB ls ls')) ∧ Below w.heap.size w w' := by
  have hb : Below w.heap.size w ((w.alloc (.cells #[.int .i64 x, .slice A n c] 29)).alloc (.cells #[.int .i64 x', .slice A' n' c'] 29)) := ((Below.refl _ _).alloc (Nat.le_refl _) _).alloc (by simp) _
  have H1 := lists_any A n c ls A' n' c' ls' _ (h.below hb) (h'.below hb)
  have HB := Lib.hid hb
  clear h h' hb
  by_cases hx : x = x'
  · have hx1 : (x == x') = true := by simpa using hx
    have HX := Lib.hid hx
    clear hx
    go_enter Try.func21, Try.ntmps21
    go_wp2_with (go_at_call 30; refine H1.mono ?_; rintro e w' ⟨rfl, hbb⟩)
    go_ret
    exact ⟨ret_bool (by rw [decide_eq_true HX.out, Bool.true_and]), HB.out.trans (hbb.mono HB.out.size)⟩
  · have hx1 : (x == x') = false := by simpa using hx
    have HX := Lib.hid hx
    clear hx
    go_enter Try.func21, Try.ntmps21
    go_wp2
    go_ret
    exact ⟨ret_bool (by rw [decide_eq_false HX.out, Bool.false_and]), HB.out⟩

end Go.Proofs.Ytalcnkoidmoibaa

namespace Go.Proofs.Ytalcnkoidmoibaa
open Go.RowKit Go.Shelf
set_option linter.unusedVariables false
set_option linter.unusedSimpArgs false

theorem any_at {zs : List Int} {p : Int → Bool} {k : Nat} (h : k < zs.length) (e : p (elt zs k) = true) : zs.any p = true := by
  rw [elt_lt h] at e
  rw [List.any_eq_true]; exact ⟨_, List.getElem_mem h, e⟩
theorem any_step {zs : List Int} {p : Int → Bool} {k : Nat} (h : k < zs.length) (e : p (elt zs k) = false) (h0 : (zs.take k).any p = false) : (zs.take (k + 1)).any p = false := by
  rw [take_snoc zs k h, List.any_append, h0]; simp [e]
theorem any_full {zs : List Int} {p : Int → Bool} {k n : Nat} (hl : zs.length = n) (h : ¬ k < n) (h0 : (zs.take k).any p = false) : zs.any p = false := by
  rw [List.take_of_length_le (by omega)] at h0; exact h0

def IdxP (p : Int → Bool) (zs : List Int) (w : World) (e : Ending) (w' : World) : Prop := ∃ r : Int, e = .returned (.int .i64 r) ∧ (decide (0 ≤ r) = zs.any p) ∧ w = w'

set_option maxHeartbeats 400000 in
theorem indexI_any (g : Nat) (lb : Array Value) (p : Int → Bool) (eg : ∀ args w, (callFunc g args).run Try.prog w = .ok (.enter g args) w) (A : Option Addr) (n c : Nat) (zs : List Int) (w : World) (h : RI w A n c zs)
    (hp : ∀ x ∈ zs, Calls Try.prog g (#[.int .i64 x] ++ lb) w fun e w' => e = .returned (.bool (p x)) ∧ w = w') :
    Calls Try.prog 75 #[.slice A n c, .func (.func g) #[] lb] w (IdxP p zs w) := by
  have hn := h.small
  have H := Lib.hid h
  clear h
  have HP := Lib.hid hp
  clear hp
  go_enter Try.func75, Try.ntmps75
  go_wp2
  go_loop [8] (fun i => ∃ k : Nat, k ≤ n ∧ i = .int .i64 k ∧ (zs.take k).any p = false) (fun i => n - (intOf i).toNat)
  case atStart => exact ⟨0, Nat.zero_le _, rfl, rfl⟩
  case round =>
    obtain ⟨k, hk, rfl, hno⟩ := hrel
    have HN := Lib.hid hno
    clear hno
    by_cases hlt : k < n
    · obtain ⟨b, off, rfl, hb, hc⟩ := H.out.cells (by omega)
      have hck := hc k hlt
      clear hc
      have hl : k < zs.length := by rw [H.out.len]; exact hlt
      have hcall := HP.out (elt zs k) (elt_mem hl)
      generalize ho : p (elt zs k) = o at hcall
      have HO := Lib.hid ho
      clear ho
      cases o
      · go_wp2_with (go_at_fn g; refine hcall.mono ?_; rintro e w' ⟨rfl, rfl⟩)
        go_round
        case rel => exact ⟨k + 1, by omega, by go_num, any_step hl HO.out HN.out⟩
        case measure => simp [intOf]; omega
      · go_wp2_with (go_at_fn g; refine hcall.mono ?_; rintro e w' ⟨rfl, rfl⟩)
        go_ret
        exact ⟨k, rfl, by rw [any_at hl HO.out]; simp, rfl⟩
    · go_wp2
      go_ret
      exact ⟨-1, rfl, by rw [any_full H.out.len hlt HN.out]; rfl, rfl⟩

set_option maxHeartbeats 400000 in
theorem containsI_any (g : Nat) (lb : Array Value) (p : Int → Bool) (eg : ∀ args w, (callFunc g args).run Try.prog w = .ok (.enter g args) w) (A : Option Addr) (n c : Nat) (zs : List Int) (w : World) (h : RI w A n c zs)
    (hp : ∀ x ∈ zs, Calls Try.prog g (#[.int .i64 x] ++ lb) w fun e w' => e = .returned (.bool (p x)) ∧ w = w') :
    Calls Try.prog 53 #[.slice A n c, .func (.func g) #[] lb] w fun e w' => e = .returned (.bool (zs.any p)) ∧ w = w' := by
  have hI := indexI_any g lb p eg A n c zs w h hp
  clear h hp
  go_enter Try.func53, Try.ntmps53
  go_wp2_with (go_at_call 75; refine hI.mono ?_; rintro e w' ⟨r, rfl, hr, rfl⟩)
  all_goals
    go_ret
    exact ⟨ret_bool (by rw [← hr]), rfl⟩

theorem enters55 : ∀ args w, (callFunc 55 args).run Try.prog w = .ok (.enter 55 args) w := enters_of Try.func55 (by kernel_rfl) rfl
theorem enters54 : ∀ args w, (callFunc 54 args).run Try.prog w = .ok (.enter 54 args) w := enters_of Try.func54 (by kernel_rfl) rfl

set_option maxHeartbeats 400000 in
theorem check1_any (B : Nat) (n x : Int) (w : World) (hc : w.cell? ⟨B, 0, none⟩ = some (.int .i64 n)) (h0 : 0 ≤ n) (h1 : n ≤ 65536) :
    Calls Try.prog 55 #[.int .i64 x, .pointer (some ⟨B, 0, none⟩)] w fun e w' => e = .returned (.bool (!(isB x n))) ∧ w = w' := by
  go_enter Try.func55, Try.ntmps55
  go_wp2_with (go_at_call 49; refine (may_any x n w h0 h1).mono ?_; rintro e w' ⟨rfl, rfl⟩)
  go_ret
  exact ⟨rfl, rfl⟩

theorem any_not_all (n : Int) (l : List Int) : l.any (fun x => !(isB x n)) = !(litsB n l) := by
  unfold litsB; rw [List.not_all_eq_any_not]

set_option maxHeartbeats 800000 in
theorem check_in (x : Int) (A : Option Addr) (n c : Nat) (ls : List (List Int)) (w : World) (h : RL w A n c ls) (h0 : 0 ≤ x) (h1 : x ≤ 65536) :
    Calls Try.prog 25 #[.agg #[.int .i64 x, .slice A n c]] w fun e w' => e = .returned (.int .i64 (checkE x ls)) ∧ Below w.heap.size w w' := by
  have hn := h.small
  have H := Lib.hid h
  clear h
  have z1 : ¬ x < 0 := by omega
  have z2 : ¬ 65536 < x := by omega
  have HX := Lib.hid (And.intro h0 h1)
  clear h0 h1
  go_enter Try.func25, Try.ntmps25
  go_wp2
  have hbw : Below w.heap.size w (w.alloc (.cells #[.int .i64 x, .slice A n c] 29)) := (Below.refl _ _).alloc (Nat.le_refl _) _
  have hbx := BoxC.new w x A n c
  generalize hW : w.alloc (.cells #[.int .i64 x, .slice A n c] 29) = W at hbw hbx ⊢
  clear hW
  have HBW := Lib.hid hbw
  have BX := Lib.hid hbx
  have p0 := hbx.c0
  have p1 := hbx.c1
  clear hbw hbx
  go_loop [16] (fun i => ∃ k : Nat, k ≤ n ∧ i = .int .i64 k ∧ allB x (ls.take k) = true) (fun i => n - (intOf i).toNat)
  case atStart => exact ⟨0, Nat.zero_le _, rfl, rfl⟩
  case round =>
    obtain ⟨k, hk, rfl, hno⟩ := hrel
    have HN := Lib.hid hno
    clear hno
    by_cases hlt : k < n
    · obtain ⟨b, off, rfl, hb, hc⟩ := (H.out.below HBW.out).cells (by omega)
      obtain ⟨a1, n1, c1, hck, hr1⟩ := hc k hlt
      clear hc
      have hcall := containsI_any 55 #[.pointer (some ⟨w.heap.size, 0, none⟩)] (fun y => !(isB y x)) enters55 a1 n1 c1 (ell ls k) W hr1 (fun y _ => check1_any w.heap.size x y W p0 HX.out.1 HX.out.2)
      rw [any_not_all] at hcall
      clear hr1
      generalize ho : litsB x (ell ls k) = o at hcall
      have HO := Lib.hid ho
      clear ho
      cases o
      · go_wp2_with (go_at_call 53; refine hcall.mono ?_; rintro e w' ⟨rfl, rfl⟩)
        go_ret
        exact ⟨ret_int (checkE_arg (allB_at (k := k) (by rw [H.out.len]; exact hlt) HO.out)).symm, HBW.out⟩
      · go_wp2_with (go_at_call 53; refine hcall.mono ?_; rintro e w' ⟨rfl, rfl⟩)
        go_round
        case rel => exact ⟨k + 1, by omega, by go_num, allB_step (by rw [H.out.len]; exact hlt) HO.out HN.out⟩
        case measure => simp [intOf]; omega
    · have hfu := allB_full H.out.len hlt HN.out
      have HF := Lib.hid hfu
      clear hfu
      have hl1 : ¬ (k : Int) < (n : Int) := by omega
      by_cases hbig : (65536 : Int) < n
      · go_wp2
        go_ret
        exact ⟨ret_int (checkE_bound HX.out HF.out (by rw [H.out.len]; omega)).symm, HBW.out⟩
      · go_wp2
        go_ret
        exact ⟨ret_int (checkE_ok HX.out HF.out (by rw [H.out.len]; omega)).symm, HBW.out⟩

set_option maxHeartbeats 400000 in
theorem check_out (x : Int) (A : Option Addr) (n c : Nat) (w : World) (h : x < 0 ∨ 65536 < x) :
    Calls Try.prog 25 #[.agg #[.int .i64 x, .slice A n c]] w fun e w' => e = .returned (.int .i64 1) ∧ Below w.heap.size w w' := by
  by_cases h0 : x < 0
  · clear h
    go_enter Try.func25, Try.ntmps25
    go_wp2
    go_ret
    exact ⟨rfl, (Below.refl _ _).alloc (Nat.le_refl _) _⟩
  · have h1 : 65536 < x := by omega
    clear h
    go_enter Try.func25, Try.ntmps25
    go_wp2
    go_ret
    exact ⟨rfl, (Below.refl _ _).alloc (Nat.le_refl _) _⟩

theorem check_any (x : Int) (A : Option Addr) (n c : Nat) (ls : List (List Int)) (w : World) (h : RL w A n c ls) :
    Calls Try.prog 25 #[.agg #[.int .i64 x, .slice A n c]] w fun e w' => e = .returned (.int .i64 (checkE x ls)) ∧ Below w.heap.size w w' := by
  by_cases hx : x < 0 ∨ 65536 < x
  · rw [checkE_out hx]; exact check_out x A n c w hx
  · exact check_in x A n c ls w h (by omega) (by omega)

end Go.Proofs.Ytalcnkoidmoibaa

namespace Go.Proofs.Ytalcnkoidmoibaa
open Go.RowKit Go.Shelf
set_option linter.unusedVariables false
set_option linter.unusedSimpArgs false

theorem enters48 : ∀ args w, (callFunc 48 args).run Try.prog w = .ok (.enter 48 args) w := enters_of Try.func48 (by kernel_rfl) rfl
theorem enters50 : ∀ args w, (callFunc 50 args).run Try.prog w = .ok (.enter 50 args) w := enters_of Try.func50 (by kernel_rfl) rfl

set_option maxHeartbeats 400000 in
theorem norm1_any (x : Int) (w : World) : Calls Try.prog 48 #[.int .i64 x] w fun e w' => e = .returned (.bool (!(isB x 65536))) ∧ w = w' := by
  go_enter Try.func48, Try.ntmps48
  go_wp2_with (go_at_call 49; refine (may_any x 65536 w (by omega) (by omega)).mono ?_; rintro e w' ⟨rfl, rfl⟩)
  go_ret
  exact ⟨rfl, rfl⟩

/-- how Norm orders two literals -/
def litI (a b : Int) : Int := orI (cmpI (absI a) (absI b)) (cmpI b a)

set_option maxHeartbeats 400000 in
theorem norm2_any (x y : Int) (w : World) (hx0 : -65536 ≤ x) (hx1 : x ≤ 65536) (hy0 : -65536 ≤ y) (hy1 : y ≤ 65536) :
    Calls Try.prog 50 #[.int .i64 x, .int .i64 y] w fun e w' => e = .returned (.int .i64 (litI x y)) ∧ w' = w.alloc (.cells #[.int .i64 (cmpI (absI x) (absI y)), .int .i64 (cmpI y x)] 3) := by
  have HX := Lib.hid (And.intro hx0 hx1)
  have HY := Lib.hid (And.intro hy0 hy1)
  clear hx0 hx1 hy0 hy1
  go_enter Try.func50, Try.ntmps50
  go_wp2_with (first
    | (go_at_call 51; refine (of_any _ _ (by first | exact HX.out.1 | exact HY.out.1) (by first | exact HX.out.2 | exact HY.out.2)).mono ?_; rintro e w' ⟨rfl, rfl⟩)
    | (go_at_call 34; refine (compare_any _ _ _).mono ?_; rintro e w' ⟨rfl, rfl⟩)
    | (go_at_call 33; refine (or_any w.heap.size (cmpI (absI x) (absI y)) (cmpI y x) _ (by go_simp) (by go_simp)).mono ?_; rintro e w' ⟨rfl, rfl⟩))
  go_ret
  exact ⟨rfl, rfl⟩

end Go.Proofs.Ytalcnkoidmoibaa

namespace Go.Proofs.Ytalcnkoidmoibaa
open Go.RowKit Go.Shelf
set_option linter.unusedVariables false
set_option linter.unusedSimpArgs false

set_option maxHeartbeats 400000 in
theorem index_nil (fv : Value) (w : World) :
    Calls Try.prog 75 #[.slice none 0 0, fv] w fun e w' => e = .returned (.int .i64 (-1)) ∧ w = w' := by
  go_enter Try.func75, Try.ntmps75
  go_wp2
  refine wp_loop_rounds 1 ?_
  rw [rounds_succ]
  go_wp2
  go_ret
  exact ⟨rfl, rfl⟩

set_option maxHeartbeats 400000 in
theorem delete_nil (fv : Value) (w : World) :
    Calls Try.prog 47 #[.slice none 0 0, fv] w fun e w' => e = .returned (.slice none 0 0) ∧ w = w' := by
  have hI := index_nil fv w
  go_enter Try.func47, Try.ntmps47
  go_wp2_with (go_at_call 75; refine hI.mono ?_; rintro e w' ⟨rfl, rfl⟩)
  go_ret
  exact ⟨rfl, rfl⟩

set_option maxHeartbeats 400000 in
theorem compact_nil (w : World) :
    Calls Try.prog 52 #[.slice none 0 0] w fun e w' => e = .returned (.slice none 0 0) ∧ w = w' := by
  go_enter Try.func52, Try.ntmps52
  go_wp2
  go_ret
  exact ⟨rfl, rfl⟩

end Go.Proofs.Ytalcnkoidmoibaa
