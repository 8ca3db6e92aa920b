/-
  Contracts of the reference's Lists, Few, Check, Same and the law's few. No condition.
-/
import Derived.Test.YtalcnkoidmoibaaA2
namespace Go.Proofs.Ytalcnkoidmoibaa
open Go.RowKit
set_option linter.unusedVariables false
set_option linter.unusedSimpArgs false

theorem ints_val (r : Bool) (A : Option Addr) (n c : Nat) (zs : List Int) (A' : Option Addr) (n' c' : Nat) (zs' : List Int) (w : World) (h : RI w A n c zs) (h' : RI w A' n' c' zs') (hr : sameB zs zs' = r) :
    Calls Try.prog 18 #[.slice A n c, .slice A' n' c'] w fun e w' => e = .returned (.bool r) ∧ Below w.heap.size w w' :=
  (ints_any A n c zs A' n' c' zs' w h h').mono fun _ _ ⟨he, q, hq⟩ => ⟨by rw [he, hr], by rw [hq]; exact drewN_below w q⟩

def samesB (a b : List (List Int)) : Bool := a == b
theorem samesB_iff {a b : List (List Int)} : samesB a b = true ↔ a = b := by simp [samesB]
theorem samesB_len {a b : List (List Int)} (h : a.length ≠ b.length) : samesB a b = false := by
  unfold samesB; rw [beq_eq_false_iff_ne]; intro e; exact h (by rw [e])
theorem samesB_at {a b : List (List Int)} {k : Nat} (h : sameB (ell a k) (ell b k) = false) : samesB a b = false := by
  unfold samesB; rw [beq_eq_false_iff_ne]; intro e; subst e; simp [sameB] at h
theorem takel_eq_step {a b : List (List Int)} {k : Nat} (ha : k < a.length) (hb : k < b.length) (h : a.take k = b.take k) (e : sameB (ell a k) (ell b k) = true) : a.take (k + 1) = b.take (k + 1) := by
  rw [takel_snoc a k ha, takel_snoc b k hb, h, sameB_iff.1 e]
theorem samesB_full {a b : List (List Int)} {k n : Nat} (ha : a.length = n) (hb : b.length = n) (hk : ¬ k < n) (h : a.take k = b.take k) : samesB a b = true := by
  rw [List.take_of_length_le (by omega), List.take_of_length_le (by omega)] at h
  rw [samesB_iff]; exact h

set_option maxHeartbeats 800000 in
theorem lists_any (A : Option Addr) (n c : Nat) (ls : List (List Int)) (A' : Option Addr) (n' c' : Nat) (ls' : List (List Int)) (w : World) (h : RL w A n c ls) (h' : RL w A' n' c' ls') :
    Calls Try.prog 30 #[.slice A n c, .slice A' n' c'] w fun e w' => e = .returned (.bool (samesB ls ls')) ∧ Below w.heap.size w w' := by
  have hn := h.small
  have hn' := h'.small
  have H := Lib.hid h
  have H' := Lib.hid h'
  clear h h'
  by_cases hne : n = n'
  · subst hne
    go_enter Try.func30, Try.ntmps30
    go_wp2
    go_loopw [5] (fun i wr => ∃ k : Nat, k ≤ n ∧ i = .int .i64 k ∧ ls.take k = ls'.take k ∧ Below w.heap.size w wr) (fun i _ => n - (intOf i).toNat)
    case atStart => exact ⟨0, Nat.zero_le _, rfl, rfl, Below.refl _ _⟩
    case round =>
      obtain ⟨k, hk, rfl, hno, hbl⟩ := hrel
      have HN := Lib.hid hno
      have HB := Lib.hid hbl
      clear hno hbl
      by_cases hlt : k < n
      · obtain ⟨b, off, rfl, hb, hc⟩ := (H.out.below HB.out).cells (by omega)
        obtain ⟨a1, n1, c1, hck, hr1⟩ := hc k hlt
        clear hc
        obtain ⟨b', off', rfl, hb', hc'⟩ := (H'.out.below HB.out).cells (by omega)
        obtain ⟨a2, n2, c2, hck', hr2⟩ := hc' k hlt
        clear hc'
        have hl1 : (k : Int) < (n : Int) := by omega
        have R1 := Lib.hid hr1
        have R2 := Lib.hid hr2
        clear hr1 hr2
        have gk := fun u : Gr wr => u.cell (p := ⟨b, off + k, none⟩) hb hck
        have gk' := fun u : Gr wr => u.cell (p := ⟨b', off' + k, none⟩) hb' hck'
        generalize ho : sameB (ell ls k) (ell ls' k) = o
        have HO := Lib.hid ho
        clear ho
        cases o
        · go_wp2_with fail
          refine wp_region_grow (by kernel_rfl) (by kernel_rfl) ?_
          repeat (go_big_quiet_step ((go_at_call 18; exact Gr.call _ (ints_val false _ _ _ _ _ _ _ _ _ (R1.out.below (Gr.ok _)) (R2.out.below (Gr.ok _)) HO.out))))
          refine wpQuiet_nil ?_
          rintro _ ⟨⟨w2, hb2⟩, rfl⟩
          go_wp2_with fail
          go_ret
          exact ⟨ret_bool (samesB_at HO.out).symm, HB.out.trans (hb2.mono HB.out.size)⟩
        · go_wp2_with fail
          refine wp_region_grow (by kernel_rfl) (by kernel_rfl) ?_
          repeat (go_big_quiet_step ((go_at_call 18; exact Gr.call _ (ints_val true _ _ _ _ _ _ _ _ _ (R1.out.below (Gr.ok _)) (R2.out.below (Gr.ok _)) HO.out))))
          refine wpQuiet_nil ?_
          rintro _ ⟨⟨w2, hb2⟩, rfl⟩
          go_wp2_with fail
          go_roundw
          case rel => exact ⟨k + 1, by omega, by go_num, takel_eq_step (by rw [H.out.len]; exact hlt) (by rw [H'.out.len]; exact hlt) HN.out HO.out, HB.out.trans (hb2.mono HB.out.size)⟩
          case measure => simp [intOf]; omega
      · go_wp2
        go_ret
        exact ⟨ret_bool (samesB_full H.out.len H'.out.len hlt HN.out).symm, HB.out⟩
  · have hb : ((n : Int) != (n' : Int)) = true := by rw [bne_iff_ne]; omega
    go_enter Try.func30, Try.ntmps30
    go_wp2
    go_ret
    exact ⟨ret_bool (samesB_len (by rw [H.out.len, H'.out.len]; exact hne)).symm, Below.refl _ _⟩

/-- how many literals -/
def sumL (ls : List (List Int)) : Nat := (ls.map List.length).sum
theorem sumL_step {ls : List (List Int)} {k : Nat} (h : k < ls.length) : sumL (ls.take (k + 1)) = sumL (ls.take k) + (ell ls k).length := by
  rw [takel_snoc ls k h]; simp [sumL]

def fewB (ls : List (List Int)) : Bool := decide (ls.length ≤ 200) && decide (sumL (ls.take 200) ≤ 1000)
def fewL (ls : List (List Int)) : Bool := decide (ls.length ≤ 60) && decide (sumL ls ≤ 1000)

set_option maxHeartbeats 800000 in
theorem Few_any (A : Option Addr) (n c : Nat) (ls : List (List Int)) (w : World) (h : RL w A n c ls) :
    Calls Try.prog 36 #[.slice A n c] w fun e w' => e = .returned (.bool (fewB ls)) ∧ w = w' := by
  have hn := h.small
  have H := Lib.hid h
  clear h
  go_enter Try.func36, Try.ntmps36
  go_wp2
  go_loop [3, 4] (fun s i => ∃ (k : Nat), k ≤ n ∧ k ≤ 200 ∧ s = .int .i64 (sumL (ls.take k) : Nat) ∧ i = .int .i64 k ∧ sumL (ls.take k) ≤ k * 17592186044416) (fun _ i => n - (intOf i).toNat)
  case atStart => exact ⟨0, Nat.zero_le _, by omega, rfl, rfl, by simp [sumL]⟩
  case round =>
    obtain ⟨k, hk, hk2, rfl, rfl, hsm⟩ := hrel
    by_cases hlt : k < n
    · by_cases hlt2 : k < 200
      · obtain ⟨b, off, rfl, hb, hc⟩ := H.out.cells (by omega)
        obtain ⟨a1, n1, c1, hck, hr1⟩ := hc k hlt
        clear hc
        have hs1 := hr1.small
        have hl1 := hr1.len
        have hst := sumL_step (ls := ls) (k := k) (by rw [H.out.len]; exact hlt)
        rw [hl1] at hst
        clear hl1 hr1
        generalize hS : sumL (ls.take k) = S at *
        generalize hS' : sumL (ls.take (k + 1)) = S' at *
        have hw : wrap64 ((S : Int) + (n1 : Int)) = (S' : Int) := by rw [hst]; unfold wrap64; omega
        have HS := Lib.hid (And.intro hst (And.intro hS hS'))
        have HM := Lib.hid (And.intro hsm (And.intro hs1 hlt2))
        have hl0 : (k : Int) < 200 := by omega
        clear hst hS hS' hsm hs1 hlt2 hk2
        go_wp2
        go_round
        case rel => exact ⟨k + 1, by omega, by have := HM.out; omega, by rw [HS.out.2.2]; first | rfl | rw [hw] | simp [hw], by go_num, by have := HM.out; rw [HS.out.2.2, HS.out.1]; omega⟩
        case measure => simp [intOf]; omega
      · generalize hS : sumL (ls.take k) = S at *
        have HS := Lib.hid hS
        clear hS
        have hl0 : ¬ (k : Int) < 200 := by omega
        have hl1 : (k : Int) < n := by omega
        have hl2 : ¬ (n : Int) ≤ 200 := by omega
        have HK := Lib.hid (And.intro hlt hlt2)
        clear hlt hlt2 hk hk2 hn hsm
        go_wp2
        go_ret
        exact ⟨ret_bool (by have := HK.out; rw [fewB, H.out.len, decide_eq_false (by omega)]; rfl), rfl⟩
    · have hl1 : ¬ (k : Int) < n := by omega
      have hl2 : (n : Int) ≤ 200 := by omega
      generalize hS : sumL (ls.take k) = S at *
      have HS := Lib.hid hS
      clear hS
      have e : sumL (ls.take 200) = S := by rw [← HS.out, List.take_of_length_le (by rw [H.out.len]; omega), List.take_of_length_le (by rw [H.out.len]; omega)]
      have E := Lib.hid e
      have HN := Lib.hid hlt
      clear e hlt hk hsm
      by_cases h3 : (S : Int) ≤ 1000
      all_goals
        go_wp2
        go_ret
        refine ⟨ret_bool ?_, rfl⟩
        have := HN.out
        rw [fewB, H.out.len, E.out, decide_eq_true (by omega), Bool.true_and]
        simp
        omega

set_option maxHeartbeats 400000 in
theorem few_any (x : Int) (A : Option Addr) (n c : Nat) (ls : List (List Int)) (w : World) (h : RL w A n c ls) :
    Calls Try.prog 15 #[.agg #[.int .i64 x, .slice A n c]] w fun e w' => e = .returned (.bool (fewL ls)) ∧ Below w.heap.size w w' := by
  have hn := h.small
  have hl := h.len
  have e : fewL ls = (fewB ls && decide (n ≤ 60)) := by
    unfold fewL fewB
    rw [hl]
    by_cases h60 : n ≤ 60
    · rw [List.take_of_length_le (by omega), decide_eq_true h60, decide_eq_true (show n ≤ 200 by omega)]; simp
    · rw [decide_eq_false h60]; simp
  have HE := Lib.hid e
  clear e
  have H1 := (Few_any A n c ls (w.alloc (.cells #[.int .i64 x, .slice A n c] 29)) (h.alloc _))
  generalize ho : fewB ls = o at *
  clear h ho hl
  cases o
  · go_enter Try.func15, Try.ntmps15
    go_wp2_with (go_at_call 36; refine H1.mono ?_; rintro e w' ⟨rfl, rfl⟩)
    go_ret
    exact ⟨ret_bool (by rw [HE.out]; rfl), (Below.refl _ _).alloc (Nat.le_refl _) _⟩
  · by_cases h60 : (n : Int) ≤ 60
    all_goals
      go_enter Try.func15, Try.ntmps15
      go_wp2_with (go_at_call 36; refine H1.mono ?_; rintro e w' ⟨rfl, rfl⟩)
      go_ret
      exact ⟨ret_bool (by rw [HE.out, Bool.true_and]; simp; omega), (Below.refl _ _).alloc (Nat.le_refl _) _⟩

end Go.Proofs.Ytalcnkoidmoibaa
