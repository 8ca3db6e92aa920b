/-
  First and Less, both texts, one contract for each; Few and few. No condition.
-/
import Derived.Test.YtenpenelikpeeaaF7
import Derived.Test.YtenpenelikpeeaaD5
namespace Go.Proofs.Ytenpenelikpeeaa
open Go.RowKit Go.Shelf
set_option linter.unusedVariables false
set_option linter.unusedSimpArgs false

def firstL (x : Int) (ls : List (List Int)) (ts : List Stp) (q : Int) : List Int := if firstE x ls ts q = 0 then risL (highs ts (roadEnd ls ts q)) else []
def firstB (x : Int) (ls : List (List Int)) (ts : List Stp) (q : Int) : Int := if firstE x ls ts q = 0 then backL ts (firstX ls ts q) (roadEnd ls ts q) else 0
theorem firstE_bad {x : Int} {ls : List (List Int)} {ts : List Stp} {q : Int} (h : propE x ls ts ≠ 0) : firstE x ls ts q = propE x ls ts := by unfold firstE; rw [if_pos h]
theorem firstE_arg {x : Int} {ls : List (List Int)} {ts : List Stp} {q : Int} (h : propE x ls ts = 0) (h2 : q < 0 ∨ (ls.length : Int) ≤ q ∨ deadB ts (ell ls q.toNat) = false) : firstE x ls ts q = 1 := by unfold firstE; rw [if_neg (by simpa using h), if_pos h2]
theorem firstE_back {x : Int} {ls : List (List Int)} {ts : List Stp} {q : Int} (h : propE x ls ts = 0) (h2 : ¬(q < 0 ∨ (ls.length : Int) ≤ q ∨ deadB ts (ell ls q.toNat) = false)) (h3 : lastT ts = 0 ∨ hiN ts (lastT ts) (start ls q) = 0) : firstE x ls ts q = 200 := by unfold firstE; rw [if_neg (by simpa using h), if_neg h2, if_pos h3]
theorem firstE_ok {x : Int} {ls : List (List Int)} {ts : List Stp} {q : Int} (h : propE x ls ts = 0) (h2 : ¬(q < 0 ∨ (ls.length : Int) ≤ q ∨ deadB ts (ell ls q.toNat) = false)) (h3 : ¬(lastT ts = 0 ∨ hiN ts (lastT ts) (start ls q) = 0)) : firstE x ls ts q = 0 := by unfold firstE; rw [if_neg (by simpa using h), if_neg h2, if_neg h3]

theorem first_any (x : Int) (A : Option Addr) (n c : Nat) (ls : List (List Int)) (A' : Option Addr) (n' c' : Nat) (ts : List Stp) (q : Int) (w : World) (h : RL w A n c ls) (h' : RS w A' n' c' ts) (hn' : n' ≤ 900) (hlong : ∀ l ∈ ls, l.length ≤ 1000) :
    Calls Try.prog 13 #[.agg #[.int .i64 x, .slice A n c], .slice A' n' c', .int .i64 q] w (FirstP (firstL x ls ts q) (firstB x ls ts q) (firstE x ls ts q) w) := by
  by_cases hE : propE x ls ts = 0
  · by_cases h2 : q < 0 ∨ (ls.length : Int) ≤ q ∨ deadB ts (ell ls q.toNat) = false
    · have e := firstE_arg (x := x) hE h2
      have e1 : firstL x ls ts q = [] := by unfold firstL; rw [if_neg (by rw [e]; decide)]
      have e2 : firstB x ls ts q = 0 := by unfold firstB; rw [if_neg (by rw [e]; decide)]
      rw [e, e1, e2]
      exact first_arg x A n c ls A' n' c' ts q w h h' (by omega) hE h2
    · obtain ⟨j, rfl⟩ : ∃ j : Nat, q = j := ⟨q.toNat, by omega⟩
      have hl := h.len
      have hj : j < n := by omega
      have hd : deadB ts (ell ls j) = true := by
        cases hd : deadB ts (ell ls j) with
        | true => rfl
        | false => exact absurd (Or.inr (Or.inr (by rw [Int.toNat_natCast]; exact hd))) h2
      refine first_ok x A n c ls A' n' c' ts j w h h' hn' hE hj hd hlong _ _ _ (fun h3 => ?_) (fun h3 => ?_)
      · have e := firstE_back (x := x) hE h2 h3
        refine ⟨by unfold firstL; rw [if_neg (by rw [e]; decide)], by unfold firstB; rw [if_neg (by rw [e]; decide)], e⟩
      · have e := firstE_ok (x := x) hE h2 h3
        refine ⟨by unfold firstL; rw [if_pos e], by unfold firstB; rw [if_pos e], e⟩
  · have e := firstE_bad (q := q) hE
    have e1 : firstL x ls ts q = [] := by unfold firstL; rw [if_neg (by rw [e]; exact hE)]
    have e2 : firstB x ls ts q = 0 := by unfold firstB; rw [if_neg (by rw [e]; exact hE)]
    rw [e, e1, e2]
    exact first_bad x A n c ls A' n' c' ts q w h h' (by omega) hE
theorem rfirst_any (x : Int) (A : Option Addr) (n c : Nat) (ls : List (List Int)) (A' : Option Addr) (n' c' : Nat) (ts : List Stp) (q : Int) (w : World) (h : RL w A n c ls) (h' : RS w A' n' c' ts) (hn' : n' ≤ 900) (hlong : ∀ l ∈ ls, l.length ≤ 1000) :
    Calls Try.prog 14 #[.agg #[.int .i64 x, .slice A n c], .slice A' n' c', .int .i64 q] w (FirstP (firstL x ls ts q) (firstB x ls ts q) (firstE x ls ts q) w) := by
  by_cases hE : propE x ls ts = 0
  · by_cases h2 : q < 0 ∨ (ls.length : Int) ≤ q ∨ deadB ts (ell ls q.toNat) = false
    · have e := firstE_arg (x := x) hE h2
      have e1 : firstL x ls ts q = [] := by unfold firstL; rw [if_neg (by rw [e]; decide)]
      have e2 : firstB x ls ts q = 0 := by unfold firstB; rw [if_neg (by rw [e]; decide)]
      rw [e, e1, e2]
      exact rfirst_arg x A n c ls A' n' c' ts q w h h' (by omega) hE h2
    · obtain ⟨j, rfl⟩ : ∃ j : Nat, q = j := ⟨q.toNat, by omega⟩
      have hl := h.len
      have hj : j < n := by omega
      have hd : deadB ts (ell ls j) = true := by
        cases hd : deadB ts (ell ls j) with
        | true => rfl
        | false => exact absurd (Or.inr (Or.inr (by rw [Int.toNat_natCast]; exact hd))) h2
      refine rfirst_ok x A n c ls A' n' c' ts j w h h' (by omega) hE hj hd hlong _ _ _ (fun h3 => ?_) (fun h3 => ?_)
      · have e := firstE_back (x := x) hE h2 h3
        refine ⟨by unfold firstL; rw [if_neg (by rw [e]; decide)], by unfold firstB; rw [if_neg (by rw [e]; decide)], e⟩
      · have e := firstE_ok (x := x) hE h2 h3
        refine ⟨by unfold firstL; rw [if_pos e], by unfold firstB; rw [if_pos e], e⟩
  · have e := firstE_bad (q := q) hE
    have e1 : firstL x ls ts q = [] := by unfold firstL; rw [if_neg (by rw [e]; exact hE)]
    have e2 : firstB x ls ts q = 0 := by unfold firstB; rw [if_neg (by rw [e]; exact hE)]
    rw [e, e1, e2]
    exact rfirst_bad x A n c ls A' n' c' ts q w h h' (by omega) hE

def lessE (x : Int) (ls : List (List Int)) (ts : List Stp) (l : List Int) : Int := if propE x ls ts ≠ 0 then propE x ls ts else if lessOk x ts l = false then 1 else 0
def lessR (x : Int) (ls : List (List Int)) (ts : List Stp) (l : List Int) : List Int := if lessE x ls ts l = 0 then lessL ls ts l else []
theorem less_any (x : Int) (A : Option Addr) (n c : Nat) (ls : List (List Int)) (A' : Option Addr) (n' c' : Nat) (ts : List Stp) (Al : Option Addr) (nl cl : Nat) (l : List Int) (w : World) (h : RL w A n c ls) (h' : RS w A' n' c' ts) (hl : RI w Al nl cl l) (hw : Wfl l) (hn' : n' ≤ 900) (hnl : nl ≤ 1000) :
    Calls Try.prog 16 #[.agg #[.int .i64 x, .slice A n c], .slice A' n' c', .slice Al nl cl] w (LessP (lessR x ls ts l) (lessE x ls ts l) w) := by
  by_cases hE : propE x ls ts = 0
  · refine less_ok x A n c ls A' n' c' ts Al nl cl l w h h' hl hw (by omega) hE hnl _ _ (fun h3 => ?_) (fun h3 => ?_)
    · have e : lessE x ls ts l = 1 := by unfold lessE; rw [if_neg (by simpa using hE), if_pos h3]
      exact ⟨by unfold lessR; rw [if_neg (by rw [e]; decide)], e⟩
    · have e : lessE x ls ts l = 0 := by unfold lessE; rw [if_neg (by simpa using hE), if_neg (by rw [h3]; decide)]
      exact ⟨by unfold lessR; rw [if_pos e], e⟩
  · have e : lessE x ls ts l = propE x ls ts := by unfold lessE; rw [if_pos hE]
    have e1 : lessR x ls ts l = [] := by unfold lessR; rw [if_neg (by rw [e]; exact hE)]
    rw [e, e1]
    exact less_bad x A n c ls A' n' c' ts Al nl cl w h h' (by omega) hE
theorem rless_any (x : Int) (A : Option Addr) (n c : Nat) (ls : List (List Int)) (A' : Option Addr) (n' c' : Nat) (ts : List Stp) (Al : Option Addr) (nl cl : Nat) (l : List Int) (w : World) (h : RL w A n c ls) (h' : RS w A' n' c' ts) (hl : RI w Al nl cl l) (hw : Wfl l) (hn' : n' ≤ 900) (hnl : nl ≤ 1000) (hlong : ∀ l ∈ ls, l.length ≤ 1000) :
    Calls Try.prog 17 #[.agg #[.int .i64 x, .slice A n c], .slice A' n' c', .slice Al nl cl] w (LessP (lessR x ls ts l) (lessE x ls ts l) w) := by
  by_cases hE : propE x ls ts = 0
  · cases h3 : lessOk x ts l with
    | false =>
      have e : lessE x ls ts l = 1 := by unfold lessE; rw [if_neg (by simpa using hE), if_pos h3]
      have e1 : lessR x ls ts l = [] := by unfold lessR; rw [if_neg (by rw [e]; decide)]
      rw [e, e1]
      exact rless_arg x A n c ls A' n' c' ts Al nl cl l w h h' hl hw (by omega) hE h3
    | true =>
      have e : lessE x ls ts l = 0 := by unfold lessE; rw [if_neg (by simpa using hE), if_neg (by rw [h3]; decide)]
      have e1 : lessR x ls ts l = lessL ls ts l := by unfold lessR; rw [if_pos e]
      rw [e, e1]
      exact rless_ok x A n c ls A' n' c' ts Al nl cl l w h h' hl (by omega) hE h3 hlong hnl
  · have e : lessE x ls ts l = propE x ls ts := by unfold lessE; rw [if_pos hE]
    have e1 : lessR x ls ts l = [] := by unfold lessR; rw [if_neg (by rw [e]; exact hE)]
    rw [e, e1]
    exact rless_bad x A n c ls A' n' c' ts Al nl cl w h h' (by omega) hE

def shortTo (ls : List (List Int)) (k : Nat) : Bool := (ls.take k).all fun l => decide (l.length ≤ 12)
def fewB (ls : List (List Int)) (ts : List Stp) : Bool := shortTo ls 60 && (decide (ls.length ≤ 50) && decide (ts.length ≤ 30))
theorem few_facts {ls : List (List Int)} {ts : List Stp} (h : fewB ls ts = true) : (∀ l ∈ ls, l.length ≤ 12) ∧ ls.length ≤ 50 ∧ ts.length ≤ 30 := by
  unfold fewB shortTo at h
  simp only [Bool.and_eq_true, decide_eq_true_iff, List.all_eq_true] at h
  refine ⟨fun l hl => h.1 l ?_, h.2.1, h.2.2⟩
  rw [List.take_of_length_le (by omega)]; exact hl
theorem short_succ {ls : List (List Int)} {k : Nat} (hk : k < ls.length) : shortTo ls (k + 1) = (shortTo ls k && decide ((ell ls k).length ≤ 12)) := by
  unfold shortTo; rw [takel_snoc ls k hk, List.all_append]; simp
theorem short_no {ls : List (List Int)} {k : Nat} (hk : k < ls.length) (hk2 : k < 60) (h : ¬ (ell ls k).length ≤ 12) : shortTo ls 60 = false := by
  unfold shortTo
  rw [List.all_eq_false]
  refine ⟨ell ls k, ?_, by simpa using h⟩
  rw [ell_lt hk]
  exact List.mem_take_iff_getElem.2 ⟨k, by omega, rfl⟩

set_option maxRecDepth 100000 in
set_option maxHeartbeats 2000000 in
theorem few_val (r : Bool) (x : Int) (A : Option Addr) (n c : Nat) (ls : List (List Int)) (A' : Option Addr) (n' c' : Nat) (ts : List Stp) (w : World) (h : RL w A n c ls) (h' : RS w A' n' c' ts) (hr : fewB ls ts = r) :
    Calls Try.prog 30 #[.agg #[.int .i64 x, .slice A n c], .slice A' n' c'] w fun e w' => e = .returned (.bool r) ∧ Below w.heap.size w w' := by
  have H := Lib.hid (h.alloc (.cells #[.int .i64 x, .slice A n c] 24))
  have BX := Lib.hid (Two.new w (.int .i64 x) (.slice A n c))
  have HB0 := Lib.hid ((Below.refl w.heap.size w).alloc (Nat.le_refl _) (.cells #[.int .i64 x, .slice A n c] 24))
  have HLN := Lib.hid h.len
  have HTS := Lib.hid h'.len
  have hnb := h.small
  have hnb' := h'.small
  have HRR := Lib.hid hr
  clear h h' hr
  go_enter Try.func30, Try.ntmps30
  go_wp2
  generalize hW : w.alloc (.cells #[.int .i64 x, .slice A n c] 24) = W0 at *
  clear hW
  have t1 := BX.out.c1
  go_loop [5] (fun s5 => ∃ k : Nat, k ≤ n ∧ k ≤ 60 ∧ s5 = .int .i64 k ∧ shortTo ls k = true) (fun s5 => 60 - (intOf s5).toNat)
  case atStart => exact ⟨0, Nat.zero_le _, Nat.zero_le _, rfl, rfl⟩
  case round =>
    obtain ⟨k, hk, hk6, rfl, hs⟩ := hrel
    have HS := Lib.hid hs
    clear hs
    by_cases hlt : k < n
    · have d1 : decide (k < n) = true := by simpa using hlt
      by_cases hl6 : k < 60
      · have d2 : decide ((k : Int) < 60) = true := by rw [decide_eq_true_iff]; omega
        have hkl : k < ls.length := by rw [HLN.out]; exact hlt
        obtain ⟨b, off, rfl, hb, hc⟩ := H.out.cells (by omega)
        obtain ⟨a1, n1, c1, hc1, hr1⟩ := hc k hlt
        have HL1 := Lib.hid hr1.len
        have hn1 := hr1.small
        clear hc hr1
        by_cases hsh : n1 ≤ 12
        · have E : Hid (shortTo ls (k + 1) = true) := Lib.hid (by rw [short_succ hkl, HS.out, HL1.out]; simpa using hsh)
          clear hkl
          go_wp2
          go_round
          case rel => exact ⟨k + 1, by omega, by omega, by go_num, E.out⟩
          case measure => simp [intOf]; omega
        · have E : Hid (fewB ls ts = false) := Lib.hid (by unfold fewB; rw [short_no hkl hl6 (by rw [HL1.out]; exact hsh)]; rfl)
          clear hkl
          go_wp2
          go_ret
          exact ⟨ret_bool (by rw [← HRR.out, E.out]), HB0.out⟩
      · have d2 : decide ((k : Int) < 60) = false := by rw [decide_eq_false_iff_not]; omega
        have d3' : (60 : Int) ≤ (k : Int) := by omega
        have e50 : decide (ls.length ≤ 50) = false := by rw [decide_eq_false_iff_not, HLN.out]; omega
        have E : Hid (fewB ls ts = false) := Lib.hid (by unfold fewB; rw [e50]; simp)
        have d3 : ¬ n ≤ 50 := by omega
        have d5 : decide ((n : Int) ≤ 50) = false := by rw [decide_eq_false_iff_not]; omega
        clear e50
        go_wp2
        go_ret
        exact ⟨ret_bool (by rw [← HRR.out, E.out]), HB0.out⟩
    · obtain rfl : k = n := by omega
      have d1 : decide (k < k) = false := by simp
      have ES : Hid (shortTo ls 60 = true) := Lib.hid (by have := HS.out; unfold shortTo at *; rw [List.take_of_length_le (by rw [HLN.out]; exact Nat.le_refl _)] at this; rw [List.take_of_length_le (by rw [HLN.out]; exact hk6)]; exact this)
      by_cases h5 : k ≤ 50
      · have d5 : decide ((k : Int) ≤ 50) = true := by simp; omega
        by_cases h3 : n' ≤ 30
        · have d6 : decide ((n' : Int) ≤ 30) = true := by simp; omega
          have E : Hid (fewB ls ts = true) := Lib.hid (by unfold fewB; rw [ES.out, HLN.out, HTS.out]; simp [h5, h3])
          go_wp2
          go_ret
          exact ⟨ret_bool (by rw [← HRR.out, E.out]), HB0.out⟩
        · have d6 : decide ((n' : Int) ≤ 30) = false := by simp; omega
          have E : Hid (fewB ls ts = false) := Lib.hid (by unfold fewB; rw [ES.out, HLN.out, HTS.out]; simp [h5, h3])
          go_wp2
          go_ret
          exact ⟨ret_bool (by rw [← HRR.out, E.out]), HB0.out⟩
      · have d5 : decide ((k : Int) ≤ 50) = false := by simp; omega
        have E : Hid (fewB ls ts = false) := Lib.hid (by unfold fewB; rw [HLN.out]; simp [h5])
        go_wp2
        go_ret
        exact ⟨ret_bool (by rw [← HRR.out, E.out]), HB0.out⟩

set_option maxHeartbeats 400000 in
theorem lfew_val (r : Bool) (x : Int) (A : Option Addr) (n c : Nat) (ls : List (List Int)) (A' : Option Addr) (n' c' : Nat) (ts : List Stp) (w : World) (h : RL w A n c ls) (h' : RS w A' n' c' ts) (hr : fewB ls ts = r) :
    Calls Try.prog 12 #[.agg #[.int .i64 x, .slice A n c], .slice A' n' c'] w fun e w' => e = .returned (.bool r) ∧ Below w.heap.size w w' := by
  have hcall := few_val r x A n c ls A' n' c' ts _ (h.alloc (.cells #[.int .i64 x, .slice A n c] 24)) (h'.alloc (.cells #[.int .i64 x, .slice A n c] 24)) hr
  have HB0 := Lib.hid ((Below.refl w.heap.size w).alloc (Nat.le_refl _) (.cells #[.int .i64 x, .slice A n c] 24))
  clear h h' hr
  go_enter Try.func12, Try.ntmps12
  go_wp2_with (go_at_call 30; refine hcall.mono ?_; clear hcall; rintro e w1 ⟨rfl, hb⟩; have HB1 := Lib.hid (HB0.out.trans (hb.mono HB0.out.size)); clear hb)
  go_ret
  exact ⟨rfl, HB1.out⟩

end Go.Proofs.Ytenpenelikpeeaa
