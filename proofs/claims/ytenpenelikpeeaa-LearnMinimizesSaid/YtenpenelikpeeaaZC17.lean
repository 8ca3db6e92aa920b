/-
  First and Less, both texts, one contract for each; Few and few. No condition.
  The sanity check live returns true. No condition.
  Appends to a slice of steps: rows of the call's own whose elements have two cells. No condition.
-/
import Derived.Test.YtenpenelikpeeaaZC15
import Derived.Test.YtenpenelikpeeaaZC16

namespace Go.Proofs.Ytenpenelikpeeaa
open Go.RowKit Go.Shelf
set_option linter.unusedVariables false
set_option linter.unusedSimpArgs false

def firstL (x : Int) (ls : List (List Int)) (ts : List Stp) (q : Int) : List Int := if firstE x ls ts q = 0 then risL (highs ts (roadEnd ls ts q)) else []
def firstB (x : Int) (ls : List (List Int)) (ts : List Stp) (q : Int) : Int := if firstE x ls ts q = 0 then backL ts (firstX ls ts q) (roadEnd ls ts q) else 0
theorem firstE_bad {x : Int} {ls : List (List Int)} {ts : List Stp} {q : Int} (h : propE x ls ts ≠ 0) : firstE x ls ts q = propE x ls ts := by unfold firstE; rw [if_pos h]
theorem firstE_arg {x : Int} {ls : List (List Int)} {ts : List Stp} {q : Int} (h : propE x ls ts = 0) (h2 : q < 0 ∨ (ls.length : Int) ≤ q ∨ deadB ts (ell ls q.toNat) = false) : firstE x ls ts q = 1 := by unfold firstE; rw [if_neg (by simpa using h), if_pos h2]
theorem firstE_back {x : Int} {ls : List (List Int)} {ts : List Stp} {q : Int} (h : propE x ls ts = 0) (h2 : ¬(q < 0 ∨ (ls.length : Int) ≤ q ∨ deadB ts (ell ls q.toNat) = false)) (h3 : lastT ts = 0 ∨ hiN ts (lastT ts) (start ls q) = 0) : firstE x ls ts q = 200 := by unfold firstE; rw [if_neg (by simpa using h), if_neg h2, if_pos h3]
theorem firstE_ok {x : Int} {ls : List (List Int)} {ts : List Stp} {q : Int} (h : propE x ls ts = 0) (h2 : ¬(q < 0 ∨ (ls.length : Int) ≤ q ∨ deadB ts (ell ls q.toNat) = false)) (h3 : ¬(lastT ts = 0 ∨ hiN ts (lastT ts) (start ls q) = 0)) : firstE x ls ts q = 0 := by unfold firstE; rw [if_neg (by simpa using h), if_neg h2, if_neg h3]

theorem first_any (x : Int) (A : Option Addr) (n c : Nat) (ls : List (List Int)) (A' : Option Addr) (n' c' : Nat) (ts : List Stp) (q : Int) (w : World) (h : RL w A n c ls) (h' : RS w A' n' c' ts) (hn' : n' ≤ 900) (hlong : ∀ l ∈ ls, l.length ≤ 1000) :
    Calls Try.prog 13 #[.agg #[.int .i64 x, .slice A n c], .slice A' n' c', .int .i64 q] w (FirstP (firstL x ls ts q) (firstB x ls ts q) (firstE x ls ts q) w) := by
  by_cases hE : propE x ls ts = 0
  · by_cases h2 : q < 0 ∨ (ls.length : Int) ≤ q ∨ deadB ts (ell ls q.toNat) = false
    · have e := firstE_arg (x := x) hE h2
      have e1 : firstL x ls ts q = [] := by unfold firstL; rw [if_neg (by rw [e]; decide)]
      have e2 : firstB x ls ts q = 0 := by unfold firstB; rw [if_neg (by rw [e]; decide)]
      rw [e, e1, e2]
      exact first_arg x A n c ls A' n' c' ts q w h h' (by omega) hE h2
    · obtain ⟨j, rfl⟩ : ∃ j : Nat, q = j := ⟨q.toNat, by omega⟩
      have hl := h.len
      have hj : j < n := by omega
      have hd : deadB ts (ell ls j) = true := by
        cases hd : deadB ts (ell ls j) with
        | true => rfl
        | false => exact absurd (Or.inr (Or.inr (by rw [Int.toNat_natCast]; exact hd))) h2
      refine first_ok x A n c ls A' n' c' ts j w h h' hn' hE hj hd hlong _ _ _ (fun h3 => ?_) (fun h3 => ?_)
      · have e := firstE_back (x := x) hE h2 h3
        refine ⟨by unfold firstL; rw [if_neg (by rw [e]; decide)], by unfold firstB; rw [if_neg (by rw [e]; decide)], e⟩
      · have e := firstE_ok (x := x) hE h2 h3
        refine ⟨by unfold firstL; rw [if_pos e], by unfold firstB; rw [if_pos e], e⟩
  · have e := firstE_bad (q := q) hE
    have e1 : firstL x ls ts q = [] := by unfold firstL; rw [if_neg (by rw [e]; exact hE)]
    have e2 : firstB x ls ts q = 0 := by unfold firstB; rw [if_neg (by rw [e]; exact hE)]
    rw [e, e1, e2]
    exact first_bad x A n c ls A' n' c' ts q w h h' (by omega) hE
theorem rfirst_any (x : Int) (A : Option Addr) (n c : Nat) (ls : List (List Int)) (A' : Option Addr) (n' c' : Nat) (ts : List Stp) (q : Int) (w : World) (h : RL w A n c ls) (h' : RS w A' n' c' ts) (hn' : n' ≤ 900) (hlong : ∀ l ∈ ls, l.length ≤ 1000) :
    Calls Try.prog 14 #[.agg #[.int .i64 x, .slice A n c], .slice A' n' c', .int .i64 q] w (FirstP (firstL x ls ts q) (firstB x ls ts q) (firstE x ls ts q) w) := by
  by_cases hE : propE x ls ts = 0
  · by_cases h2 : q < 0 ∨ (ls.length : Int) ≤ q ∨ deadB ts (ell ls q.toNat) = false
    · have e := firstE_arg (x := x) hE h2
      have e1 : firstL x ls ts q = [] := by unfold firstL; rw [if_neg (by rw [e]; decide)]
      have e2 : firstB x ls ts q = 0 := by unfold firstB; rw [if_neg (by rw [e]; decide)]
      rw [e, e1, e2]
      exact rfirst_arg x A n c ls A' n' c' ts q w h h' (by omega) hE h2
    · obtain ⟨j, rfl⟩ : ∃ j : Nat, q = j := ⟨q.toNat, by omega⟩
      have hl := h.len
      have hj : j < n := by omega
      have hd : deadB ts (ell ls j) = true := by
        cases hd : deadB ts (ell ls j) with
        | true => rfl
        | false => exact absurd (Or.inr (Or.inr (by rw [Int.toNat_natCast]; exact hd))) h2
      refine rfirst_ok x A n c ls A' n' c' ts j w h h' (by omega) hE hj hd hlong _ _ _ (fun h3 => ?_) (fun h3 => ?_)
      · have e := firstE_back (x := x) hE h2 h3
        refine ⟨by unfold firstL; rw [if_neg (by rw [e]; decide)], by unfold firstB; rw [if_neg (by rw [e]; decide)], e⟩
      · have e := firstE_ok (x := x) hE h2 h3
        refine ⟨by unfold firstL; rw [if_pos e], by unfold firstB; rw [if_pos e], e⟩
  · have e := firstE_bad (q := q) hE
    have e1 : firstL x ls ts q = [] := by unfold firstL; rw [if_neg (by rw [e]; exact hE)]
    have e2 : firstB x ls ts q = 0 := by unfold firstB; rw [if_neg (by rw [e]; exact hE)]
    rw [e, e1, e2]
    exact rfirst_bad x A n c ls A' n' c' ts q w h h' (by omega) hE

def lessE (x : Int) (ls : List (List Int)) (ts : List Stp) (l : List Int) : Int := if propE x ls ts ≠ 0 then propE x ls ts else if lessOk x ts l = false then 1 else 0
def lessR (x : Int) (ls : List (List Int)) (ts : List Stp) (l : List Int) : List Int := if lessE x ls ts l = 0 then lessL ls ts l else []
theorem less_any (x : Int) (A : Option Addr) (n c : Nat) (ls : List (List Int)) (A' : Option Addr) (n' c' : Nat) (ts : List Stp) (Al : Option Addr) (nl cl : Nat) (l : List Int) (w : World) (h : RL w A n c ls) (h' : RS w A' n' c' ts) (hl : RI w Al nl cl l) (hw : Wfl l) (hn' : n' ≤ 900) (hnl : nl ≤ 1000) :
    Calls Try.prog 16 #[.agg #[.int .i64 x, .slice A n c], .slice A' n' c', .slice Al nl cl] w (LessP (lessR x ls ts l) (lessE x ls ts l) w) := by
  by_cases hE : propE x ls ts = 0
  · refine less_ok x A n c ls A' n' c' ts Al nl cl l w h h' hl hw (by omega) hE hnl _ _ (fun h3 => ?_) (fun h3 => ?_)
    · have e : lessE x ls ts l = 1 := by unfold lessE; rw [if_neg (by simpa using hE), if_pos h3]
      exact ⟨by unfold lessR; rw [if_neg (by rw [e]; decide)], e⟩
    · have e : lessE x ls ts l = 0 := by unfold lessE; rw [if_neg (by simpa using hE), if_neg (by rw [h3]; decide)]
      exact ⟨by unfold lessR; rw [if_pos e], e⟩
  · have e : lessE x ls ts l = propE x ls ts := by unfold lessE; rw [if_pos hE]
    have e1 : lessR x ls ts l = [] := by unfold lessR; rw [if_neg (by rw [e]; exact hE)]
    rw [e, e1]
    exact less_bad x A n c ls A' n' c' ts Al nl cl w h h' (by omega) hE
theorem rless_any (x : Int) (A : Option Addr) (n c : Nat) (ls : List (List Int)) (A' : Option Addr) (n' c' : Nat) (ts : List Stp) (Al : Option Addr) (nl cl : Nat) (l : List Int) (w : World) (h : RL w A n c ls) (h' : RS w A' n' c' ts) (hl : RI w Al nl cl l) (hw : Wfl l) (hn' : n' ≤ 900) (hnl : nl ≤ 1000) (hlong : ∀ l ∈ ls, l.length ≤ 1000) :
    Calls Try.prog 17 #[.agg #[.int .i64 x, .slice A n c], .slice A' n' c', .slice Al nl cl] w (LessP (lessR x ls ts l) (lessE x ls ts l) w) := by
  by_cases hE : propE x ls ts = 0
  · cases h3 : lessOk x ts l with
    | false =>
      have e : lessE x ls ts l = 1 := by unfold lessE; rw [if_neg (by simpa using hE), if_pos h3]
      have e1 : lessR x ls ts l = [] := by unfold lessR; rw [if_neg (by rw [e]; decide)]
      rw [e, e1]
      exact rless_arg x A n c ls A' n' c' ts Al nl cl l w h h' hl hw (by omega) hE h3
    | true =>
      have e : lessE x ls ts l = 0 := by unfold lessE; rw [if_neg (by simpa using hE), if_neg (by rw [h3]; decide)]
      have e1 : lessR x ls ts l = lessL ls ts l := by unfold lessR; rw [if_pos e]
      rw [e, e1]
      exact rless_ok x A n c ls A' n' c' ts Al nl cl l w h h' hl (by omega) hE h3 hlong hnl
  · have e : lessE x ls ts l = propE x ls ts := by unfold lessE; rw [if_pos hE]
    have e1 : lessR x ls ts l = [] := by unfold lessR; rw [if_neg (by rw [e]; exact hE)]
    rw [e, e1]
    exact rless_bad x A n c ls A' n' c' ts Al nl cl w h h' (by omega) hE

def shortTo (ls : List (List Int)) (k : Nat) : Bool := (ls.take k).all fun l => decide (l.length ≤ 12)
def fewB (ls : List (List Int)) (ts : List Stp) : Bool := shortTo ls 60 && (decide (ls.length ≤ 50) && decide (ts.length ≤ 30))
theorem few_facts {ls : List (List Int)} {ts : List Stp} (h : fewB ls ts = true) : (∀ l ∈ ls, l.length ≤ 12) ∧ ls.length ≤ 50 ∧ ts.length ≤ 30 := by
  unfold fewB shortTo at h
  simp only [Bool.and_eq_true, decide_eq_true_iff, List.all_eq_true] at h
  refine ⟨fun l hl => h.1 l ?_, h.2.1, h.2.2⟩
  rw [List.take_of_length_le (by omega)]; exact hl
theorem short_succ {ls : List (List Int)} {k : Nat} (hk : k < ls.length) : shortTo ls (k + 1) = (shortTo ls k && decide ((ell ls k).length ≤ 12)) := by
  unfold shortTo; rw [takel_snoc ls k hk, List.all_append]; simp
theorem short_no {ls : List (List Int)} {k : Nat} (hk : k < ls.length) (hk2 : k < 60) (h : ¬ (ell ls k).length ≤ 12) : shortTo ls 60 = false := by
  unfold shortTo
  rw [List.all_eq_false]
  refine ⟨ell ls k, ?_, by simpa using h⟩
  rw [ell_lt hk]
  exact List.mem_take_iff_getElem.2 ⟨k, by omega, rfl⟩

set_option maxRecDepth 100000 in
set_option maxHeartbeats 2000000 in
theorem few_val (r : Bool) (x : Int) (A : Option Addr) (n c : Nat) (ls : List (List Int)) (A' : Option Addr) (n' c' : Nat) (ts : List Stp) (w : World) (h : RL w A n c ls) (h' : RS w A' n' c' ts) (hr : fewB ls ts = r) :
    Calls Try.prog 30 #[.agg #[.int .i64 x, .slice A n c], .slice A' n' c'] w fun e w' => e = .returned (.bool r) ∧ Below w.heap.size w w' := by
  have H := Lib.hid (h.alloc (.cells #[.int .i64 x, .slice A n c] 24))
  have BX := Lib.hid (Two.new w (.int .i64 x) (.slice A n c))
  have HB0 := Lib.hid ((Below.refl w.heap.size w).alloc (Nat.le_refl _) (.cells #[.int .i64 x, .slice A n c] 24))
  have HLN := Lib.hid h.len
  have HTS := Lib.hid h'.len
  have hnb := h.small
  have hnb' := h'.small
  have HRR := Lib.hid hr
  clear h h' hr
  go_enter Try.func30, Try.ntmps30
  go_wp2
  generalize hW : w.alloc (.cells #[.int .i64 x, .slice A n c] 24) = W0 at *
  clear hW
  have t1 := BX.out.c1
  go_loop [5] (fun s5 => ∃ k : Nat, k ≤ n ∧ k ≤ 60 ∧ s5 = .int .i64 k ∧ shortTo ls k = true) (fun s5 => 60 - (intOf s5).toNat)
  case atStart => exact ⟨0, Nat.zero_le _, Nat.zero_le _, rfl, rfl⟩
  case round =>
    obtain ⟨k, hk, hk6, rfl, hs⟩ := hrel
    have HS := Lib.hid hs
    clear hs
    by_cases hlt : k < n
    · have d1 : decide (k < n) = true := by simpa using hlt
      by_cases hl6 : k < 60
      · have d2 : decide ((k : Int) < 60) = true := by rw [decide_eq_true_iff]; omega
        have hkl : k < ls.length := by rw [HLN.out]; exact hlt
        obtain ⟨b, off, rfl, hb, hc⟩ := H.out.cells (by omega)
        obtain ⟨a1, n1, c1, hc1, hr1⟩ := hc k hlt
        have HL1 := Lib.hid hr1.len
        have hn1 := hr1.small
        clear hc hr1
        by_cases hsh : n1 ≤ 12
        · have E : Hid (shortTo ls (k + 1) = true) := Lib.hid (by rw [short_succ hkl, HS.out, HL1.out]; simpa using hsh)
          clear hkl
          go_wp2
          go_round
          case rel => exact ⟨k + 1, by omega, by omega, by go_num, E.out⟩
          case measure => simp [intOf]; omega
        · have E : Hid (fewB ls ts = false) := Lib.hid (by unfold fewB; rw [short_no hkl hl6 (by rw [HL1.out]; exact hsh)]; rfl)
          clear hkl
          go_wp2
          go_ret
          exact ⟨ret_bool (by rw [← HRR.out, E.out]), HB0.out⟩
      · have d2 : decide ((k : Int) < 60) = false := by rw [decide_eq_false_iff_not]; omega
        have d3' : (60 : Int) ≤ (k : Int) := by omega
        have e50 : decide (ls.length ≤ 50) = false := by rw [decide_eq_false_iff_not, HLN.out]; omega
        have E : Hid (fewB ls ts = false) := Lib.hid (by unfold fewB; rw [e50]; simp)
        have d3 : ¬ n ≤ 50 := by omega
        have d5 : decide ((n : Int) ≤ 50) = false := by rw [decide_eq_false_iff_not]; omega
        clear e50
        go_wp2
        go_ret
        exact ⟨ret_bool (by rw [← HRR.out, E.out]), HB0.out⟩
    · obtain rfl : k = n := by omega
      have d1 : decide (k < k) = false := by simp
      have ES : Hid (shortTo ls 60 = true) := Lib.hid (by have := HS.out; unfold shortTo at *; rw [List.take_of_length_le (by rw [HLN.out]; exact Nat.le_refl _)] at this; rw [List.take_of_length_le (by rw [HLN.out]; exact hk6)]; exact this)
      by_cases h5 : k ≤ 50
      · have d5 : decide ((k : Int) ≤ 50) = true := by simp; omega
        by_cases h3 : n' ≤ 30
        · have d6 : decide ((n' : Int) ≤ 30) = true := by simp; omega
          have E : Hid (fewB ls ts = true) := Lib.hid (by unfold fewB; rw [ES.out, HLN.out, HTS.out]; simp [h5, h3])
          go_wp2
          go_ret
          exact ⟨ret_bool (by rw [← HRR.out, E.out]), HB0.out⟩
        · have d6 : decide ((n' : Int) ≤ 30) = false := by simp; omega
          have E : Hid (fewB ls ts = false) := Lib.hid (by unfold fewB; rw [ES.out, HLN.out, HTS.out]; simp [h5, h3])
          go_wp2
          go_ret
          exact ⟨ret_bool (by rw [← HRR.out, E.out]), HB0.out⟩
      · have d5 : decide ((k : Int) ≤ 50) = false := by simp; omega
        have E : Hid (fewB ls ts = false) := Lib.hid (by unfold fewB; rw [HLN.out]; simp [h5])
        go_wp2
        go_ret
        exact ⟨ret_bool (by rw [← HRR.out, E.out]), HB0.out⟩

set_option maxHeartbeats 400000 in
theorem lfew_val (r : Bool) (x : Int) (A : Option Addr) (n c : Nat) (ls : List (List Int)) (A' : Option Addr) (n' c' : Nat) (ts : List Stp) (w : World) (h : RL w A n c ls) (h' : RS w A' n' c' ts) (hr : fewB ls ts = r) :
    Calls Try.prog 12 #[.agg #[.int .i64 x, .slice A n c], .slice A' n' c'] w fun e w' => e = .returned (.bool r) ∧ Below w.heap.size w w' := by
  have hcall := few_val r x A n c ls A' n' c' ts _ (h.alloc (.cells #[.int .i64 x, .slice A n c] 24)) (h'.alloc (.cells #[.int .i64 x, .slice A n c] 24)) hr
  have HB0 := Lib.hid ((Below.refl w.heap.size w).alloc (Nat.le_refl _) (.cells #[.int .i64 x, .slice A n c] 24))
  clear h h' hr
  go_enter Try.func12, Try.ntmps12
  go_wp2_with (go_at_call 30; refine hcall.mono ?_; clear hcall; rintro e w1 ⟨rfl, hb⟩; have HB1 := Lib.hid (HB0.out.trans (hb.mono HB0.out.size)); clear hb)
  go_ret
  exact ⟨rfl, HB1.out⟩

end Go.Proofs.Ytenpenelikpeeaa

namespace Go.Proofs.Ytenpenelikpeeaa
open Go.RowKit Go.Shelf
set_option linter.unusedVariables false
set_option linter.unusedSimpArgs false

def lsA : List (List Int) := [[-1, 2], [-1, 3], [-2, -3, -4]]
def tsA : List Stp := [⟨4, -1⟩, ⟨1, -1⟩, ⟨2, 0⟩, ⟨3, 1⟩]
def lsB : List (List Int) := [[1], [-1]]
def tsB : List Stp := [⟨1, 0⟩]
def lsD : List (List Int) := [[-1, 2]]
def tsD : List Stp := [⟨1, -1⟩, ⟨2, 0⟩, ⟨3, -1⟩]
theorem eA1 : firstE 4 lsA tsA 2 = 0 := by decide +kernel
theorem eA2 : firstL 4 lsA tsA 2 = [-1, -4] := by decide +kernel
theorem eA3 : firstB 4 lsA tsA 2 = 1 := by decide +kernel
theorem eA4 : firstE 4 lsA tsA 0 = 1 := by decide +kernel
theorem eB1 : firstE 1 lsB tsB 1 = 200 := by decide +kernel
theorem eD1 : lessE 3 lsD tsD [-3, -2, -1] = 0 := by decide +kernel
theorem eD2 : lessR 3 lsD tsD [-3, -2, -1] = [-1, -3] := by decide +kernel
theorem eD3 : lessE 3 lsD tsD [3] = 1 := by decide +kernel

theorem firstB_of (x : Int) (ls : List (List Int)) (ts : List Stp) (q : Int) (h : firstE x ls ts q ≠ 0) : firstL x ls ts q = [] ∧ firstB x ls ts q = 0 := by
  unfold firstL firstB; rw [if_neg h, if_neg h]; exact ⟨rfl, rfl⟩
theorem lessR_of (x : Int) (ls : List (List Int)) (ts : List Stp) (l : List Int) (h : lessE x ls ts l ≠ 0) : lessR x ls ts l = [] := by
  unfold lessR; rw [if_neg h]

/-- a trail that was built -/
def stepsO (ts : List Stp) : Obj := .cells ((ts.map fun s => [Value.int .i64 s.lit, Value.int .i64 s.why]).flatten.toArray) 41
theorem flat_at : ∀ (ts : List Stp) (j : Nat), j < ts.length → ((ts.map fun s => [Value.int .i64 s.lit, Value.int .i64 s.why]).flatten)[j * 2]? = some (.int .i64 (stp ts j).lit) ∧ ((ts.map fun s => [Value.int .i64 s.lit, Value.int .i64 s.why]).flatten)[j * 2 + 1]? = some (.int .i64 (stp ts j).why)
  | s :: ts, 0, _ => ⟨rfl, rfl⟩
  | s :: ts, j + 1, h => by
    have := flat_at ts j (by simpa using h)
    rw [show (j + 1) * 2 = j * 2 + 2 by omega]
    exact this
theorem RS.lit (w : World) (ts : List Stp) (n s : Nat) (hn : ts.length = n) (hs : s = w.heap.size) (h : n ≤ 1000) : RS (w.alloc (stepsO ts)) (some ⟨s, 0, none⟩) n n ts := by
  subst hs
  refine ⟨hn, Nat.le_refl _, by omega, by unfold maxLen; omega, fun h0 => ⟨w.heap.size, 0, rfl, by simp, fun j hj => ?_⟩⟩
  have hb : (w.alloc (stepsO ts)).heap[w.heap.size]? = some (stepsO ts) := World.alloc_heap_new w _
  generalize w.alloc (stepsO ts) = W at hb
  obtain ⟨h1, h2⟩ := flat_at ts j (by omega)
  unfold stepsO at hb
  constructor
  · simp only [World.cell?, hb, Nat.zero_add, List.getElem?_toArray]; exact h1
  · simp only [World.cell?, hb, Nat.zero_add, List.getElem?_toArray]; exact h2

theorem RL.litT {w : World} (t : TypeId) {rs : List Row} {n s : Nat} {ls : List (List Int)} (hls : rs.map (·.zs) = ls) (hn : rs.length = n) (hs : s = w.heap.size) (h : n ≤ 1000) (hi : ∀ r ∈ rs, RI w r.A r.n r.c r.zs) : RL (w.alloc (.cells ((rs.map rowV).toArray) t)) (some ⟨s, 0, none⟩) n n ls := by
  subst hs hls
  refine ⟨by simpa using hn, Nat.le_refl _, by omega, by unfold maxLen; omega, fun h0 => ⟨w.heap.size, 0, rfl, by simp, fun j hj => ?_⟩⟩
  have hj' : j < rs.length := by omega
  have hri := (hi _ (List.getElem_mem hj')).alloc (.cells ((rs.map rowV).toArray) t)
  have hb : (w.alloc (.cells ((rs.map rowV).toArray) t)).heap[w.heap.size]? = some (.cells ((rs.map rowV).toArray) t) := World.alloc_heap_new w _
  generalize w.alloc (.cells ((rs.map rowV).toArray) t) = W at hb hri
  have : ((rs.map rowV).toArray)[j]? = some (rowV rs[j]) := by
    rw [List.getElem?_toArray, List.getElem?_map, List.getElem?_eq_getElem hj']
    rfl
  refine ⟨rs[j].A, rs[j].n, rs[j].c, ?_, ?_⟩
  · have h1 : W.cell? ⟨w.heap.size, 0 + j, none⟩ = ((rs.map rowV).toArray)[0 + j]? := by
      unfold World.cell?
      simp only [hb]
      rfl
    rw [h1, Nat.zero_add, this]
    rfl
  · rw [ell_lt (by simpa using hj')]
    simpa using hri

theorem below1 (w : World) (o : Obj) : Below w.heap.size w (w.alloc o) := (Below.refl _ _).alloc (Nat.le_refl _) _
theorem bthen {a b c : World} (h : Below a.heap.size a b) (h' : Below b.heap.size b c) : Below a.heap.size a c := h.trans (h'.mono h.size)

theorem mk_rl3 (w : World) (z1 z2 z3 : List Int) (n1 n2 n3 : Nat) (h1 : z1.length = n1) (h2 : z2.length = n2) (h3 : z3.length = n3) (b1 : n1 ≤ 1000) (b2 : n2 ≤ 1000) (b3 : n3 ≤ 1000) :
    RL ((((w.alloc (intsO z1)).alloc (intsO z2)).alloc (intsO z3)).alloc (.cells #[.slice (some ⟨w.heap.size, 0, none⟩) n1 n1, .slice (some ⟨w.heap.size + 1, 0, none⟩) n2 n2, .slice (some ⟨w.heap.size + 1 + 1, 0, none⟩) n3 n3] 28)) (some ⟨w.heap.size + 1 + 1 + 1, 0, none⟩) 3 3 [z1, z2, z3] := by
  have q1 := ((RI.lit w z1 n1 w.heap.size h1 rfl b1).alloc (intsO z2)).alloc (intsO z3)
  have q2 := (RI.lit (w.alloc (intsO z1)) z2 n2 (w.heap.size + 1) h2 (by simp) b2).alloc (intsO z3)
  have q3 := RI.lit ((w.alloc (intsO z1)).alloc (intsO z2)) z3 n3 (w.heap.size + 1 + 1) h3 (by simp) b3
  exact RL.litT 28 (rs := [⟨some ⟨w.heap.size, 0, none⟩, n1, n1, z1⟩, ⟨some ⟨w.heap.size + 1, 0, none⟩, n2, n2, z2⟩, ⟨some ⟨w.heap.size + 1 + 1, 0, none⟩, n3, n3, z3⟩]) rfl rfl (by simp) (by omega)
    (by intro r hr; simp only [List.mem_cons, List.not_mem_nil, or_false] at hr; rcases hr with rfl | rfl | rfl <;> first | exact q1 | exact q2 | exact q3)
theorem mk_rl2 (w : World) (z1 z2 : List Int) (n1 n2 : Nat) (h1 : z1.length = n1) (h2 : z2.length = n2) (b1 : n1 ≤ 1000) (b2 : n2 ≤ 1000) :
    RL (((w.alloc (intsO z1)).alloc (intsO z2)).alloc (.cells #[.slice (some ⟨w.heap.size, 0, none⟩) n1 n1, .slice (some ⟨w.heap.size + 1, 0, none⟩) n2 n2] 28)) (some ⟨w.heap.size + 1 + 1, 0, none⟩) 2 2 [z1, z2] := by
  have q1 := (RI.lit w z1 n1 w.heap.size h1 rfl b1).alloc (intsO z2)
  have q2 := RI.lit (w.alloc (intsO z1)) z2 n2 (w.heap.size + 1) h2 (by simp) b2
  exact RL.litT 28 (rs := [⟨some ⟨w.heap.size, 0, none⟩, n1, n1, z1⟩, ⟨some ⟨w.heap.size + 1, 0, none⟩, n2, n2, z2⟩]) rfl rfl (by simp) (by omega)
    (by intro r hr; simp only [List.mem_cons, List.not_mem_nil, or_false] at hr; rcases hr with rfl | rfl <;> first | exact q1 | exact q2)
theorem mk_rl1 (w : World) (z1 : List Int) (n1 : Nat) (h1 : z1.length = n1) (b1 : n1 ≤ 1000) :
    RL ((w.alloc (intsO z1)).alloc (.cells #[.slice (some ⟨w.heap.size, 0, none⟩) n1 n1] 28)) (some ⟨w.heap.size + 1, 0, none⟩) 1 1 [z1] := by
  have q1 := RI.lit w z1 n1 w.heap.size h1 rfl b1
  exact RL.litT 28 (rs := [⟨some ⟨w.heap.size, 0, none⟩, n1, n1, z1⟩]) rfl rfl (by simp) (by omega)
    (by intro r hr; simp only [List.mem_cons, List.not_mem_nil, or_false] at hr; subst hr; exact q1)

/-- what First hands back, its values known -/
def FirstV (zs : List Int) (n : Nat) (bk e' : Int) (w : World) (e : Ending) (w' : World) : Prop :=
  ∃ A c, e = .returned (.tuple #[.slice A n c, .int .i64 bk, .int .i64 e']) ∧ RI w' A n c zs ∧ Below w.heap.size w w'
theorem first_known (zs : List Int) (k : Nat) (bk e' : Int) (x : Int) (A : Option Addr) (n c : Nat) (ls : List (List Int)) (A' : Option Addr) (n' c' : Nat) (ts : List Stp) (q : Int) (w : World) (h : RL w A n c ls) (h' : RS w A' n' c' ts) (hn' : n' ≤ 900) (hlong : ∀ l ∈ ls, l.length ≤ 1000)
    (h1 : firstL x ls ts q = zs) (h2 : firstB x ls ts q = bk) (h3 : firstE x ls ts q = e') (h4 : zs.length = k) :
    Calls Try.prog 13 #[.agg #[.int .i64 x, .slice A n c], .slice A' n' c', .int .i64 q] w (FirstV zs k bk e' w) := by
  have := first_any x A n c ls A' n' c' ts q w h h' hn' hlong
  rw [h1, h2, h3] at this
  subst h4
  exact this
def LessV (zs : List Int) (n : Nat) (e' : Int) (w : World) (e : Ending) (w' : World) : Prop :=
  ∃ A c, e = .returned (.tuple #[.slice A n c, .int .i64 e']) ∧ RI w' A n c zs ∧ Below w.heap.size w w'
theorem less_known (zs : List Int) (k : Nat) (e' : Int) (x : Int) (A : Option Addr) (n c : Nat) (ls : List (List Int)) (A' : Option Addr) (n' c' : Nat) (ts : List Stp) (Al : Option Addr) (nl cl : Nat) (l : List Int) (w : World) (h : RL w A n c ls) (h' : RS w A' n' c' ts) (hl : RI w Al nl cl l) (hw : Wfl l) (hn' : n' ≤ 900) (hnl : nl ≤ 1000)
    (h1 : lessR x ls ts l = zs) (h3 : lessE x ls ts l = e') (h4 : zs.length = k) :
    Calls Try.prog 16 #[.agg #[.int .i64 x, .slice A n c], .slice A' n' c', .slice Al nl cl] w (LessV zs k e' w) := by
  have := less_any x A n c ls A' n' c' ts Al nl cl l w h h' hl hw hn' hnl
  rw [h1, h3] at this
  subst h4
  exact this
theorem ints_val (r : Bool) (A : Option Addr) (n c : Nat) (zs : List Int) (A' : Option Addr) (n' c' : Nat) (zs' : List Int) (w : World) (h : RI w A n c zs) (h' : RI w A' n' c' zs') (hr : sameB zs zs' = r) :
    Calls Try.prog 15 #[.slice A n c, .slice A' n' c'] w fun e w' => e = .returned (.bool r) ∧ Below w.heap.size w w' := by
  have := ints_any A n c zs A' n' c' zs' w h h'
  rw [hr] at this
  refine this.mono ?_
  rintro e w' ⟨h1, q, rfl⟩
  exact ⟨h1, drewN_below _ _⟩

set_option maxRecDepth 100000 in
set_option maxHeartbeats 4000000 in
theorem live_any (w : World) : Calls Try.prog 11 #[] w fun e w' => e = .returned (.bool true) ∧ Below w.heap.size w w' := by
  go_enter Try.func11, Try.ntmps11
  go_upto_region 3 with fail
  have hA := ((mk_rl3 w [-1, 2] [-1, 3] [-2, -3, -4] 2 2 3 rfl rfl rfl (by omega) (by omega) (by omega)).alloc (.cells #[.int .i64 4, .slice (some ⟨w.heap.size + 1 + 1 + 1, 0, none⟩) 3 3] 24)).alloc (stepsO tsA)
  have hS := RS.lit (((((w.alloc (intsO [-1, 2])).alloc (intsO [-1, 3])).alloc (intsO [-2, -3, -4])).alloc (.cells #[.slice (some ⟨w.heap.size, 0, none⟩) 2 2, .slice (some ⟨w.heap.size + 1, 0, none⟩) 2 2, .slice (some ⟨w.heap.size + 1 + 1, 0, none⟩) 3 3] 28)).alloc (.cells #[.int .i64 4, .slice (some ⟨w.heap.size + 1 + 1 + 1, 0, none⟩) 3 3] 24)) tsA 4 (w.heap.size + 1 + 1 + 1 + 1 + 1) rfl (by simp) (by omega)
  have hT := (show Two _ (w.heap.size + 1 + 1 + 1 + 1) _ _ by have := Two.new ((((w.alloc (intsO [-1, 2])).alloc (intsO [-1, 3])).alloc (intsO [-2, -3, -4])).alloc (.cells #[.slice (some ⟨w.heap.size, 0, none⟩) 2 2, .slice (some ⟨w.heap.size + 1, 0, none⟩) 2 2, .slice (some ⟨w.heap.size + 1 + 1, 0, none⟩) 3 3] 28)) (.int .i64 4) (.slice (some ⟨w.heap.size + 1 + 1 + 1, 0, none⟩) 3 3); simpa using this).below (below1 _ (stepsO tsA))
  have hB : Below w.heap.size w ((((((w.alloc (intsO [-1, 2])).alloc (intsO [-1, 3])).alloc (intsO [-2, -3, -4])).alloc (.cells #[.slice (some ⟨w.heap.size, 0, none⟩) 2 2, .slice (some ⟨w.heap.size + 1, 0, none⟩) 2 2, .slice (some ⟨w.heap.size + 1 + 1, 0, none⟩) 3 3] 28)).alloc (.cells #[.int .i64 4, .slice (some ⟨w.heap.size + 1 + 1 + 1, 0, none⟩) 3 3] 24)).alloc (stepsO tsA)) :=
    bthen (bthen (bthen (bthen (bthen (below1 w _) (below1 _ _)) (below1 _ _)) (below1 _ _)) (below1 _ _)) (below1 _ _)
  obtain ⟨s3, hs3⟩ : ∃ s3, w.heap.size + 1 + 1 + 1 = s3 := ⟨_, rfl⟩
  obtain ⟨s4, hs4⟩ : ∃ s4, s3 + 1 = s4 := ⟨_, rfl⟩
  obtain ⟨s5, hs5⟩ : ∃ s5, s4 + 1 = s5 := ⟨_, rfl⟩
  rw [hs3] at hA hS hT hB
  rw [hs4] at hS hT
  rw [hs5] at hS
  rw [hs3, hs4, hs5]
  have HA := Lib.hid hA
  have HS := Lib.hid hS
  have HT := Lib.hid hT
  have HB := Lib.hid hB
  clear hA hS hT hB hs3 hs4 hs5
  generalize hW1 : (((((w.alloc (.cells #[.int .i64 (-1), .int .i64 2] 3)).alloc (.cells #[.int .i64 (-1), .int .i64 3] 3)).alloc (.cells #[.int .i64 (-2), .int .i64 (-3), .int .i64 (-4)] 3)).alloc (.cells #[.slice (some ⟨w.heap.size, 0, none⟩) 2 2, .slice (some ⟨w.heap.size + 1, 0, none⟩) 2 2, .slice (some ⟨w.heap.size + 1 + 1, 0, none⟩) 3 3] 28)).alloc (.cells #[.int .i64 4, .slice (some ⟨s3, 0, none⟩) 3 3] 24)).alloc (.cells #[.int .i64 4, .int .i64 (-1), .int .i64 1, .int .i64 (-1), .int .i64 2, .int .i64 0, .int .i64 3, .int .i64 1] 41) = W1 at *
  have HA1 : Hid (RL W1 (some ⟨s3, 0, none⟩) 3 3 lsA) := Lib.hid (by rw [← hW1]; exact HA.out)
  have HS1 : Hid (RS W1 (some ⟨s5, 0, none⟩) 4 4 tsA) := Lib.hid (by rw [← hW1]; exact HS.out)
  have HT1 : Hid (Two W1 s4 (.int .i64 4) (.slice (some ⟨s3, 0, none⟩) 3 3)) := Lib.hid (by rw [← hW1]; exact HT.out)
  have HB1 : Hid (Below w.heap.size w W1) := Lib.hid (by rw [← hW1]; exact HB.out)
  clear hW1 HA HS HT HB
  have t0 := HT1.out.c0
  have t1 := HT1.out.c1
  go_upto_region 4 with (go_at_call 13; refine (first_known [-1, -4] 2 1 0 4 _ 3 3 lsA _ 4 4 tsA 2 W1 HA1.out HS1.out (by omega) (by decide) eA2 eA3 eA1 rfl).mono ?_; rintro e W2 ⟨A1, c1, rfl, hr2, hb2⟩; have HR2 := Lib.hid hr2; have HB2 := Lib.hid hb2; clear hr2 hb2)
  clear t0 t1
  have t0 := (HT1.out.below HB2.out).c0
  have t1 := (HT1.out.below HB2.out).c1
  go_upto_region 5 with (go_at_call 13; refine (first_known [] 0 0 1 4 _ 3 3 lsA _ 4 4 tsA 0 W2 (HA1.out.below HB2.out) (HS1.out.below HB2.out) (by omega) (by decide) (firstB_of _ _ _ _ (by rw [eA4]; decide)).1 (firstB_of _ _ _ _ (by rw [eA4]; decide)).2 eA4 rfl).mono ?_; rintro e W3 ⟨A2, c2, rfl, hr3, hb3⟩; have HR3 := Lib.hid (HR2.out.below hb3); have HB3 := Lib.hid (bthen (bthen HB1.out HB2.out) hb3); clear hr3 hb3)
  clear t0 t1
  go_upto_region 6 with (go_at_call 13; refine (first_known [] 0 0 200 1 (some ⟨W3.heap.size + 1 + 1, 0, none⟩) 2 2 lsB (some ⟨W3.heap.size + 1 + 1 + 1, 0, none⟩) 1 1 tsB 1 ((((W3.alloc (intsO [1])).alloc (intsO [-1])).alloc (.cells #[.slice (some ⟨W3.heap.size, 0, none⟩) 1 1, .slice (some ⟨W3.heap.size + 1, 0, none⟩) 1 1] 28)).alloc (stepsO tsB)) ((mk_rl2 W3 [1] [-1] 1 1 rfl rfl (by omega) (by omega)).alloc _) (RS.lit _ tsB 1 _ rfl (by simp) (by omega)) (by omega) (by decide) (firstB_of _ _ _ _ (by rw [eB1]; decide)).1 (firstB_of _ _ _ _ (by rw [eB1]; decide)).2 eB1 rfl).mono ?_; rintro e W4 ⟨A3, c3, rfl, hr4, hb4⟩; have hb34 := bthen (bthen (bthen (bthen (below1 W3 _) (below1 _ _)) (below1 _ _)) (below1 _ _)) hb4; have HR4 := Lib.hid (HR3.out.below hb34); have HB4 := Lib.hid (bthen HB3.out hb34); clear hr4 hb4 hb34)
  go_upto_region 8 with fail
  have hD := ((mk_rl1 W4 [-1, 2] 2 rfl (by omega)).alloc (.cells #[.int .i64 3, .slice (some ⟨W4.heap.size + 1, 0, none⟩) 1 1] 24)).alloc (stepsO tsD)
  have hSD := RS.lit (((W4.alloc (intsO [-1, 2])).alloc (.cells #[.slice (some ⟨W4.heap.size, 0, none⟩) 2 2] 28)).alloc (.cells #[.int .i64 3, .slice (some ⟨W4.heap.size + 1, 0, none⟩) 1 1] 24)) tsD 3 (W4.heap.size + 1 + 1 + 1) rfl (by simp) (by omega)
  have hTD := (show Two _ (W4.heap.size + 1 + 1) _ _ by have := Two.new ((W4.alloc (intsO [-1, 2])).alloc (.cells #[.slice (some ⟨W4.heap.size, 0, none⟩) 2 2] 28)) (.int .i64 3) (.slice (some ⟨W4.heap.size + 1, 0, none⟩) 1 1); simpa using this).below (below1 _ (stepsO tsD))
  have hb45 : Below W4.heap.size W4 ((((W4.alloc (intsO [-1, 2])).alloc (.cells #[.slice (some ⟨W4.heap.size, 0, none⟩) 2 2] 28)).alloc (.cells #[.int .i64 3, .slice (some ⟨W4.heap.size + 1, 0, none⟩) 1 1] 24)).alloc (stepsO tsD)) := bthen (bthen (bthen (below1 W4 _) (below1 _ _)) (below1 _ _)) (below1 _ _)
  obtain ⟨d1, hd1⟩ : ∃ d1, W4.heap.size + 1 = d1 := ⟨_, rfl⟩
  obtain ⟨d2, hd2⟩ : ∃ d2, d1 + 1 = d2 := ⟨_, rfl⟩
  obtain ⟨d3, hd3⟩ : ∃ d3, d2 + 1 = d3 := ⟨_, rfl⟩
  rw [hd1] at hD hSD hTD hb45
  rw [hd2] at hSD hTD
  rw [hd3] at hSD
  have HD := Lib.hid hD
  have HSD := Lib.hid hSD
  have HTD := Lib.hid hTD
  have HBD := Lib.hid hb45
  rw [hd1, hd2, hd3]
  clear hD hSD hTD hb45 hd1 hd2 hd3
  generalize hW5 : (((W4.alloc (.cells #[.int .i64 (-1), .int .i64 2] 3)).alloc (.cells #[.slice (some ⟨W4.heap.size, 0, none⟩) 2 2] 28)).alloc (.cells #[.int .i64 3, .slice (some ⟨d1, 0, none⟩) 1 1] 24)).alloc (.cells #[.int .i64 1, .int .i64 (-1), .int .i64 2, .int .i64 0, .int .i64 3, .int .i64 (-1)] 41) = W5 at *
  have HD5 : Hid (RL W5 (some ⟨d1, 0, none⟩) 1 1 lsD) := Lib.hid (by rw [← hW5]; exact HD.out)
  have HSD5 : Hid (RS W5 (some ⟨d3, 0, none⟩) 3 3 tsD) := Lib.hid (by rw [← hW5]; exact HSD.out)
  have HTD5 : Hid (Two W5 d2 (.int .i64 3) (.slice (some ⟨d1, 0, none⟩) 1 1)) := Lib.hid (by rw [← hW5]; exact HTD.out)
  have HB45 : Hid (Below W4.heap.size W4 W5) := Lib.hid (by rw [← hW5]; exact HBD.out)
  have HR5 := Lib.hid (HR4.out.below HB45.out)
  have HB5 := Lib.hid (bthen HB4.out HB45.out)
  clear hW5 HD HSD HTD HBD
  have t0 := HTD5.out.c0
  have t1 := HTD5.out.c1
  go_upto_region 9 with (go_at_call 16; refine (less_known [-1, -3] 2 0 3 (some ⟨d1, 0, none⟩) 1 1 lsD (some ⟨d3, 0, none⟩) 3 3 tsD (some ⟨W5.heap.size, 0, none⟩) 3 3 [-3, -2, -1] (W5.alloc (intsO [-3, -2, -1])) (HD5.out.alloc _) (HSD5.out.alloc _) (RI.lit W5 [-3, -2, -1] 3 _ rfl rfl (by omega)) (by intro z hz; simp only [List.mem_cons, List.not_mem_nil, or_false] at hz; rcases hz with rfl | rfl | rfl <;> decide) (by omega) (by omega) eD2 eD1 rfl).mono ?_; rintro e W6 ⟨A6, c6, rfl, hr6, hb6⟩; have HB56 := Lib.hid (bthen (below1 W5 _) hb6); have HL6 := Lib.hid hr6; clear hr6 hb6)
  clear t0 t1
  have t0 := (HTD5.out.below HB56.out).c0
  have t1 := (HTD5.out.below HB56.out).c1
  go_upto_region 10 with (go_at_call 16; refine (less_known [] 0 1 3 (some ⟨d1, 0, none⟩) 1 1 lsD (some ⟨d3, 0, none⟩) 3 3 tsD (some ⟨W6.heap.size, 0, none⟩) 1 1 [3] (W6.alloc (intsO [3])) ((HD5.out.below HB56.out).alloc _) ((HSD5.out.below HB56.out).alloc _) (RI.lit W6 [3] 1 _ rfl rfl (by omega)) (by intro z hz; simp only [List.mem_cons, List.not_mem_nil, or_false] at hz; subst hz; decide) (by omega) (by omega) (lessR_of _ _ _ _ (by rw [eD3]; decide)) eD3 rfl).mono ?_; rintro e W7 ⟨A7, c7, rfl, hr7, hb7⟩; have HB67 := Lib.hid (bthen (below1 W6 _) hb7); clear hr7 hb7)
  clear t0 t1
  have HB7 := Lib.hid (bthen (bthen HB5.out HB56.out) HB67.out)
  have HR7 := Lib.hid ((HR5.out.below HB56.out).below HB67.out)
  have HL7 := Lib.hid (HL6.out.below HB67.out)
  have l1 : ∀ W : World, RI (W.alloc (.cells #[.int .i64 (-1), .int .i64 (-4)] 3)) (some ⟨W.heap.size, 0, none⟩) 2 2 [-1, -4] := fun W => RI.lit W [-1, -4] 2 _ rfl rfl (by omega)
  have l2 : ∀ W : World, RI (W.alloc (.cells #[.int .i64 (-1), .int .i64 (-3)] 3)) (some ⟨W.heap.size, 0, none⟩) 2 2 [-1, -3] := fun W => RI.lit W [-1, -3] 2 _ rfl rfl (by omega)
  have L1 := Lib.hid l1
  have L2 := Lib.hid l2
  clear l1 l2
  go_wp2_with (first
    | (go_at_call 15; have _t := L1; refine (ints_val true A1 2 c1 [-1, -4] (some ⟨W7.heap.size, 0, none⟩) 2 2 [-1, -4] (W7.alloc (.cells #[.int .i64 (-1), .int .i64 (-4)] 3)) (HR7.out.alloc _) (L1.out W7) (by decide)).mono ?_; rintro e W8 ⟨rfl, hb8⟩; have HB78 := Lib.hid (bthen (below1 W7 _) hb8); clear hb8 _t L1)
    | (go_at_call 15; have _t := HB78; refine (ints_val true A6 2 c6 [-1, -3] (some ⟨W8.heap.size, 0, none⟩) 2 2 [-1, -3] (W8.alloc (.cells #[.int .i64 (-1), .int .i64 (-3)] 3)) ((HL7.out.below HB78.out).alloc _) (L2.out W8) (by decide)).mono ?_; rintro e W9 ⟨rfl, hb9⟩; have HB89 := Lib.hid (bthen (below1 W8 _) hb9); clear hb9))
  go_ret
  exact ⟨rfl, bthen (bthen HB7.out HB78.out) HB89.out⟩

end Go.Proofs.Ytenpenelikpeeaa

namespace Go.Proofs.Ytenpenelikpeeaa
open Go.RowKit Go.Shelf
set_option linter.unusedVariables false
set_option linter.unusedSimpArgs false

def flatS (ts : List Stp) : List Value := (ts.map fun s => [Value.int .i64 s.lit, Value.int .i64 s.why]).flatten
theorem flatS_cons (s : Stp) (ts : List Stp) : flatS (s :: ts) = .int .i64 s.lit :: .int .i64 s.why :: flatS ts := rfl
theorem flatS_len : ∀ ts : List Stp, (flatS ts).length = ts.length * 2
  | [] => rfl
  | s :: ts => by rw [flatS_cons, List.length_cons, List.length_cons, flatS_len ts, List.length_cons]; omega
theorem flatS_app (a b : List Stp) : flatS (a ++ b) = flatS a ++ flatS b := by simp [flatS]
theorem flatS_one : ∀ (ts : List Stp), ∀ u ∈ flatS ts, u.oneCell' = true
  | [], u, h => by cases h
  | s :: ts, u, h => by
    rw [flatS_cons] at h
    rcases List.mem_cons.1 h with rfl | h
    · rfl
    · rcases List.mem_cons.1 h with rfl | h
      · rfl
      · exact flatS_one ts u h
theorem flatS_at {ts : List Stp} {j : Nat} (h : j < ts.length) : (flatS ts)[j * 2]? = some (.int .i64 (stp ts j).lit) ∧ (flatS ts)[j * 2 + 1]? = some (.int .i64 (stp ts j).why) := flat_at ts j h
theorem RS.news {w : World} {ad : Addr} {n c : Nat} {ts : List Stp} (h : RS w (some ad) n c ts) : ∀ j u, (flatS ts)[j]? = some u → w.cell? (ad.add j) = some u := by
  intro j u hj
  have hl : j < ts.length * 2 := by rw [← flatS_len]; exact (List.getElem?_eq_some_iff.1 hj).1
  obtain ⟨b, off, he, _, hc⟩ := h.cells (by have := h.len; omega)
  injection he with he
  subst he
  have hd : j / 2 < ts.length := by omega
  obtain ⟨c0, c1⟩ := hc (j / 2) (by rw [← h.len]; exact hd)
  obtain ⟨f0, f1⟩ := flatS_at hd
  rw [Go.WideShapes.add_plain]
  rcases Nat.mod_two_eq_zero_or_one j with e | e
  · have ej : j / 2 * 2 = j := by omega
    rw [ej] at c0 f0
    rw [f0] at hj
    rw [c0]; exact hj
  · have ej : j / 2 * 2 + 1 = j := by omega
    rw [ej] at f1
    rw [Nat.add_assoc, ej] at c1
    rw [f1] at hj
    rw [c1]; exact hj
theorem infoStp : (Try.prog.info? 41).map (fun i => (i.zero, i.size, i.bytes)) = some (some (.agg #[.int .i64 0, .int .i64 0]), 2, 16) := by kernel_rfl

theorem RS.of_own {w : World} {base : Nat} {A : Option Addr} {n c : Nat} {ts : List Stp} (h : w.ownsRow base 41 2 (.slice A n c) n (flatS ts)) (hbig : n * 16 ≤ 140737488355328) : RS w A n c ts := by
  obtain ⟨h1, h2⟩ := h
  rw [flatS_len] at h1
  have hl : ts.length = n := by omega
  rcases h2 with ⟨hv, hn⟩ | ⟨g, cap, cur, hv, hg, hh, hnc, hcm, hcs, htk⟩
  · simp only [Value.slice.injEq] at hv
    obtain ⟨rfl, _, rfl⟩ := hv
    subst hn
    exact ⟨hl, Nat.le_refl _, hbig, Nat.zero_le _, fun h => absurd h (by omega)⟩
  · simp only [Value.slice.injEq] at hv
    obtain ⟨rfl, _, rfl⟩ := hv
    refine ⟨hl, hnc, hbig, hcm, fun hn => ⟨g, 0, rfl, ?_, fun j hj => ?_⟩⟩
    · rcases Nat.lt_or_ge g w.heap.size with hlt | hge
      · exact hlt
      · rw [Array.getElem?_eq_none hge] at hh; cases hh
    · obtain ⟨f0, f1⟩ := flatS_at (ts := ts) (j := j) (by omega)
      have e0 : cur[j * 2]? = some (.int .i64 (stp ts j).lit) := by
        rw [← htk, List.getElem?_take_of_lt (by omega), Array.getElem?_toList] at f0; exact f0
      have e1 : cur[j * 2 + 1]? = some (.int .i64 (stp ts j).why) := by
        rw [← htk, List.getElem?_take_of_lt (by omega), Array.getElem?_toList] at f1; exact f1
      constructor
      · simp [World.cell?, hh, e0]
      · simp [World.cell?, hh, e1]
theorem own_emptyS (w : World) (base s : Nat) (hs : s = w.heap.size) (hb : base ≤ w.heap.size) : (w.alloc (.cells #[] 41)).ownsRow base 41 2 (.slice (some ⟨s, 0, none⟩) 0 0) 0 (flatS []) := by
  subst hs; exact World.ownsRow_made w #[] 0 hb (Nat.zero_le _) rfl

set_option maxRecDepth 100000 in
theorem run_append_st (w : World) (ty : TypeId) (base : Nat) (v : Value) (n : Nat) (xs : List Stp) (hown : w.ownsRow base 41 2 v n (flatS xs))
    (A : Option Addr) (m c : Nat) (zs : List Stp) (hr : RS w A m c zs) (hbytes : (n + m) * 16 ≤ 140737488355328) (hbase : base ≤ w.heap.size) :
    ∃ v' w', (Builtin.append_ #[25, 25] ty #[v, .slice A m c]).run Try.prog w = .ok v' w' ∧ w'.ownsRow base 41 2 v' (n + m) (flatS (xs ++ zs)) ∧ w.grownBy w' v.ownBlock := by
  obtain ⟨i0, hi, hz0, hz1, hz2⟩ := info_parts infoStp
  cases A with
  | none =>
    have hm : m = 0 := by
      rcases Nat.eq_zero_or_pos m with h0 | h0
      · exact h0
      · obtain ⟨b, off, he, _⟩ := hr.cells h0; cases he
    subst hm
    have hz : zs = [] := List.eq_nil_of_length_eq_zero hr.len
    subst hz
    exact ⟨v, w, run_append_none Try.underlying25 w base ty i0 hi v n 2 _ hown c, by simpa using hown, World.grownBy.refl w _⟩
  | some ad =>
    obtain ⟨v', w', h1, h2, h3, _, h5⟩ := run_append_own_at (P := Try.prog) w base 25 ty 41 i0 (.agg #[.int .i64 0, .int .i64 0]) 2 16 Try.underlying25 hi hz0 hz1 hz2 rfl (by decide) v n _ hown ad m c (flatS zs) (by rw [flatS_len, hr.len]) hr.news (flatS_one zs) (by unfold maxLen; omega) hbytes hbase
    exact ⟨v', w', h1, by rw [flatS_app]; exact h2, h3⟩

theorem wpList_append_st {w wr : World} {ops : Array Oper} {rest : List Oper} {o : Oper} {a : Act} {Q : Exit → Act → World → Prop} (hgd : o.guard = none) (s x : Operand)
    (ho : o.op = .call { callee := .builtin .append, args := #[s, x], argTypes := #[25, 25] }) (hb : Below wr.heap.size wr w) (v : Value) (n : Nat) (xs : List Stp) (hs : a.eval s = v) (hown : w.ownsRow wr.heap.size 41 2 v n (flatS xs))
    (A : Option Addr) (m c : Nat) (zs : List Stp) (hx : a.eval x = .slice A m c) (hr : RS w A m c zs) (hbytes : (n + m) * 16 ≤ 140737488355328) (k : Nat) (hk : n + m = k) (ys : List Stp) (hy : xs ++ zs = ys)
    (h : ∀ A' c' w', w'.ownsRow wr.heap.size 41 2 (.slice A' k c') k (flatS ys) → Below wr.heap.size wr w' → wpList Try.prog ops Q rest (a.put o.dst (.slice A' k c')) w') :
    wpList Try.prog ops Q (o :: rest) a w := by
  subst hk hy
  obtain ⟨v', w', h1, h2, h3⟩ := run_append_st w o.type wr.heap.size v n xs hown A m c zs hr hbytes hb.size
  refine wpList_plain hgd fun K hK => ?_
  unfold Oper.wp
  simp only [execOp, ho, resolve, invoke, builtin, Sem.run_bind, Sem.run_pure, Result.andThen_ok, List.map_toArray, List.map_cons, List.map_nil, hs, hx, h1]
  obtain ⟨A', c', rfl⟩ := own_form h2
  exact hK _ _ (h A' c' w' h2 (hb.grown h3 hb.size (fun g hg => (own_lt hown hg).1)))

end Go.Proofs.Ytenpenelikpeeaa
