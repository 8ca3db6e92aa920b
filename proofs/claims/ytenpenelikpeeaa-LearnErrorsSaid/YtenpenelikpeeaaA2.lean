/-
  prop.Check of the program. No condition.
-/
import Derived.Test.YtenpenelikpeeaaA1
namespace Go.Proofs.Ytenpenelikpeeaa
open Go.RowKit Go.Shelf
set_option linter.unusedVariables false
set_option linter.unusedSimpArgs false

theorem wfI_lit {x : Int} (h0 : -65536 ≤ x) (h1 : x ≤ 65536) : wfI x = true := wfI_of (by omega) (by omega)

def whyOk (l prev : List Int) (lit : Int) : Bool := hasB l lit && !(l.any fun y => (y != lit) && !(hasB prev (-y)))
def stepOk (x : Int) (ls : List (List Int)) (prev : List Int) (s : Stp) : Bool :=
  isB s.lit x && !(hasB prev s.lit || hasB prev (-s.lit)) && decide (-1 ≤ s.why) && decide (s.why < ls.length) && (decide (s.why < 0) || whyOk (ell ls s.why.toNat) prev s.lit)
def litsOf (ts : List Stp) : List Int := ts.map (·.lit)
theorem litsOf_snoc (ts : List Stp) (s : Stp) : litsOf (ts ++ [s]) = litsOf ts ++ [s.lit] := by simp [litsOf]
def trailTo (x : Int) (ls : List (List Int)) (ts : List Stp) (k : Nat) : Bool := (List.range k).all fun j => stepOk x ls (litsOf (ts.take j)) (stp ts j)
def trailB (x : Int) (ls : List (List Int)) (ts : List Stp) : Bool := trailTo x ls ts ts.length
theorem trailTo_succ (x : Int) (ls : List (List Int)) (ts : List Stp) (k : Nat) : trailTo x ls ts (k + 1) = (trailTo x ls ts k && stepOk x ls (litsOf (ts.take k)) (stp ts k)) := by simp [trailTo, List.range_succ]
theorem trailB_no {x : Int} {ls : List (List Int)} {ts : List Stp} {k : Nat} (hk : k < ts.length) (h : stepOk x ls (litsOf (ts.take k)) (stp ts k) = false) : trailB x ls ts = false := by
  unfold trailB trailTo
  rw [List.all_eq_false]
  exact ⟨k, List.mem_range.2 hk, by rw [h]; simp⟩
def propE (x : Int) (ls : List (List Int)) (ts : List Stp) : Int := if checkE x ls ≠ 0 then checkE x ls else if trailB x ls ts = true then 0 else 1

/-- the first thing that is wrong with a step -/
theorem step_no {x : Int} {ls : List (List Int)} {prev : List Int} {s : Stp} (h : stepOk x ls prev s = false) :
    s.lit = 0 ∨ (s.lit ≠ 0 ∧ x < s.lit) ∨ (s.lit ≠ 0 ∧ s.lit ≤ x ∧ s.lit < -x) ∨ (isB s.lit x = true ∧ (hasB prev s.lit || hasB prev (-s.lit)) = true) ∨
    (isB s.lit x = true ∧ (hasB prev s.lit || hasB prev (-s.lit)) = false ∧ s.why < -1) ∨
    (isB s.lit x = true ∧ (hasB prev s.lit || hasB prev (-s.lit)) = false ∧ -1 ≤ s.why ∧ (ls.length : Int) ≤ s.why) ∨
    (isB s.lit x = true ∧ (hasB prev s.lit || hasB prev (-s.lit)) = false ∧ 0 ≤ s.why ∧ s.why < (ls.length : Int) ∧ hasB (ell ls s.why.toNat) s.lit = false) ∨
    (isB s.lit x = true ∧ (hasB prev s.lit || hasB prev (-s.lit)) = false ∧ 0 ≤ s.why ∧ s.why < (ls.length : Int) ∧ hasB (ell ls s.why.toNat) s.lit = true ∧ ((ell ls s.why.toNat).any fun y => (y != s.lit) && !(hasB prev (-y))) = true) := by
  unfold stepOk whyOk at h
  by_cases h1 : s.lit = 0
  · exact Or.inl h1
  right
  by_cases h2 : x < s.lit
  · exact Or.inl ⟨h1, h2⟩
  right
  by_cases h3 : s.lit < -x
  · exact Or.inl ⟨h1, by omega, h3⟩
  right
  have h4 : isB s.lit x = true := isB_iff.2 ⟨h1, by omega, by omega⟩
  cases h5 : (hasB prev s.lit || hasB prev (-s.lit)) with
  | true => exact Or.inl ⟨h4, rfl⟩
  | false =>
    right
    by_cases h6 : s.why < -1
    · exact Or.inl ⟨h4, rfl, h6⟩
    right
    by_cases h7 : (ls.length : Int) ≤ s.why
    · exact Or.inl ⟨h4, rfl, by omega, h7⟩
    right
    rw [h4, h5, decide_eq_true (by omega), decide_eq_true (by omega)] at h
    by_cases h8 : s.why < 0
    · rw [decide_eq_true h8] at h; simp at h
    · rw [decide_eq_false h8] at h
      cases h9 : hasB (ell ls s.why.toNat) s.lit with
      | false => exact Or.inl ⟨h4, rfl, by omega, by omega, rfl⟩
      | true =>
        right
        rw [h9] at h
        refine ⟨h4, rfl, by omega, by omega, rfl, ?_⟩
        cases h10 : ((ell ls s.why.toNat).any fun y => (y != s.lit) && !(hasB prev (-y))) with
        | true => rfl
        | false => rw [h10] at h; simp at h
theorem step_yes {x : Int} {ls : List (List Int)} {prev : List Int} {s : Stp} (h : stepOk x ls prev s = true) :
    isB s.lit x = true ∧ (hasB prev s.lit || hasB prev (-s.lit)) = false ∧ -1 ≤ s.why ∧ s.why < (ls.length : Int) ∧
    (0 ≤ s.why → hasB (ell ls s.why.toNat) s.lit = true ∧ ((ell ls s.why.toNat).any fun y => (y != s.lit) && !(hasB prev (-y))) = false) := by
  unfold stepOk whyOk at h
  simp only [Bool.and_eq_true, Bool.or_eq_true, decide_eq_true_iff, Bool.not_eq_true'] at h
  obtain ⟨⟨⟨⟨h1, h2⟩, h3⟩, h4⟩, h5⟩ := h
  refine ⟨h1, h2, h3, h4, fun h6 => ?_⟩
  rcases h5 with h5 | h5
  · omega
  · exact h5

abbrev SetM (w : World) (b n : Nat) (S : List Int) : Prop := MF 4 edB w b n (setF S)
theorem SetM.look {w : World} {b n : Nat} {S : List Int} (h : SetM w b n S) {t : TypeId} (ht : Try.prog.underlying t = some (.map 3 4)) {x : Int} (hx : wfI x = true) :
    (Instr.lookup t (.map (some b)) (.int .i64 x) false).run Try.prog w = .ok (.bool (hasB S x)) w := by
  have := MF.look ekB ht h hx
  rwa [setF_get] at this
theorem SetM.put {w : World} {b n : Nat} {S : List Int} (h : SetM w b n S) (hn : n < maxLen) {t : TypeId} (ht : Try.prog.underlying t = some (.map 3 4)) {x : Int} (hx : wfI x = true) :
    ∃ w', (Instr.mapUpdate t (.map (some b)) (.int .i64 x) (.bool true)).run Try.prog w = .ok () w' ∧ SetM w' b (n + 1) (S ++ [x]) ∧ w.mapTurned w' b := by
  obtain ⟨w', h1, h2, h3⟩ := MF.put ekB ht h hn hx (v := true) trivial
  exact ⟨w', h1, by rw [setF_put] at h2; exact h2, h3⟩

theorem known_or {S : List Int} {x : Int} {r : Bool} (h : (hasB S x || hasB S (-x)) = r) : hasB S x = true ∧ r = true ∨ hasB S x = false ∧ hasB S (-x) = r := by
  cases h1 : hasB S x <;> rw [h1] at h <;> simp at h <;> simp [h]

set_option maxHeartbeats 400000 in
theorem known_val (r : Bool) (b n : Nat) (S : List Int) (x : Int) (w : World) (h : SetM w b n S) (h0 : -65536 ≤ x) (h1 : x ≤ 65536) (hr : (hasB S x || hasB S (-x)) = r) :
    Calls Try.prog 53 #[.map (some b), .int .i64 x] w fun e w' => e = .returned (.bool r) ∧ w = w' := by
  have l1 := h.look Try.underlying81 (wfI_lit h0 h1)
  have l2 := h.look Try.underlying81 (x := -x) (wfI_lit (by omega) (by omega))
  have hneg := lit_neg' h0 h1
  clear h
  rcases known_or hr with ⟨h2, rfl⟩ | ⟨h2, h3⟩
  · rw [h2] at l1
    clear l2 h2 hr
    go_enter Try.func53, Try.ntmps53
    go_wp2
    go_ret
    exact ⟨rfl, rfl⟩
  · rw [h2] at l1
    rw [h3] at l2
    clear h2 h3 hr
    go_enter Try.func53, Try.ntmps53
    go_wp2
    go_ret
    exact ⟨rfl, rfl⟩

set_option maxHeartbeats 400000 in
theorem step56_any (b n : Nat) (S : List Int) (x : Int) (w : World) (h : SetM w b n S) (hn : n < maxLen) (hx : wfI x = true) :
    Calls Try.prog 56 #[.map (some b), .int .i64 x] w fun e w' => e = .returned (.tuple #[]) ∧ SetM w' b (n + 1) (S ++ [x]) ∧ w.mapTurned w' b := by
  obtain ⟨w1, hrun, h1, h2⟩ := h.put hn Try.underlying81 hx
  have H1 := Lib.hid (And.intro h1 h2)
  clear h hn h1 h2
  go_enter Try.func56, Try.ntmps56
  go_wp2
  go_end0
  exact ⟨rfl, H1.out.1, H1.out.2⟩

set_option maxHeartbeats 400000 in
theorem index_any (A : Option Addr) (n c : Nat) (zs : List Int) (x : Int) (w : World) (h : RI w A n c zs) :
    Calls Try.prog 78 #[.slice A n c, .int .i64 x] w fun e w' => (∃ r : Int, e = .returned (.int .i64 r) ∧ decide (0 ≤ r) = hasB zs x) ∧ w = w' := by
  have hn := h.small
  have H := Lib.hid h
  clear h
  go_enter Try.func78, Try.ntmps78
  go_wp2
  go_loop [8] (fun i => ∃ k : Nat, k ≤ n ∧ i = .int .i64 k ∧ hasB (zs.take k) x = false) (fun i => n - (intOf i).toNat)
  case atStart => exact ⟨0, Nat.zero_le _, rfl, rfl⟩
  case round =>
    obtain ⟨k, hk, rfl, hno⟩ := hrel
    have HN := Lib.hid hno
    clear hno
    by_cases hlt : k < n
    · obtain ⟨b, off, rfl, hb, hc⟩ := H.out.cells (by omega)
      have hck := hc k hlt
      clear hc
      by_cases hx : x = elt zs k
      · have hxb : (x == elt zs k) = true := by simpa using hx
        have E : Hid (hasB zs x = true) := Lib.hid (hasB_of_at (k := k) (by rw [H.out.len]; exact hlt) (by simpa using hx.symm))
        clear hx
        go_wp2
        go_ret
        exact ⟨⟨k, rfl, by rw [E.out]; simp⟩, rfl⟩
      · have hxb : (x == elt zs k) = false := by simpa using hx
        have E : Hid (hasB (zs.take (k + 1)) x = false) := Lib.hid (hasB_step (by rw [H.out.len]; exact hlt) (by simpa using Ne.symm hx) HN.out)
        clear hx
        go_wp2
        go_round
        case rel => exact ⟨k + 1, by omega, by go_num, E.out⟩
        case measure => simp [intOf]; omega
    · go_wp2
      go_ret
      exact ⟨⟨-1, rfl, by rw [hasB_full H.out.len hlt HN.out]; rfl⟩, rfl⟩

set_option maxHeartbeats 400000 in
theorem contains_val (r : Bool) (A : Option Addr) (n c : Nat) (zs : List Int) (x : Int) (w : World) (h : RI w A n c zs) (hr : hasB zs x = r) :
    Calls Try.prog 55 #[.slice A n c, .int .i64 x] w fun e w' => e = .returned (.bool r) ∧ w = w' := by
  have hI := index_any A n c zs x w h
  rw [hr] at hI
  clear h hr
  go_enter Try.func55, Try.ntmps55
  go_wp2_with (go_at_call 78; refine hI.mono ?_; rintro e w' ⟨⟨r, rfl, hr⟩, rfl⟩)
  all_goals
    go_ret
    exact ⟨ret_bool (by rw [← hr]), rfl⟩

theorem enters54 : ∀ args w, (callFunc 54 args).run Try.prog w = .ok (.enter 54 args) w := enters_of Try.func54 (by kernel_rfl) rfl

set_option maxHeartbeats 400000 in
theorem check1p_any (Bs Bd b n : Nat) (S : List Int) (s : Stp) (y : Int) (w : World) (hs : BoxS w Bs s) (hd : w.cell? ⟨Bd, 0, none⟩ = some (.map (some b))) (h : SetM w b n S) (h0 : -65536 ≤ y) (h1 : y ≤ 65536) :
    Calls Try.prog 54 #[.int .i64 y, .pointer (some ⟨Bs, 0, none⟩), .pointer (some ⟨Bd, 0, none⟩)] w fun e w' => e = .returned (.bool ((y != s.lit) && !(hasB S (-y)))) ∧ w = w' := by
  have l2 := h.look Try.underlying81 (x := -y) (wfI_lit (by omega) (by omega))
  have hneg := lit_neg' h0 h1
  have c0 := hs.c0
  clear h hs
  generalize hasB S (-y) = v at *
  generalize s.lit = z at *
  by_cases hy : y = z
  · have hyb : (y != z) = false := by simpa using hy
    clear hy
    go_enter Try.func54, Try.ntmps54
    go_wp2
    go_ret
    exact ⟨ret_bool (by rw [hyb]; rfl), rfl⟩
  · have hyb : (y != z) = true := by simpa using hy
    clear hy
    go_enter Try.func54, Try.ntmps54
    go_wp2
    go_ret
    exact ⟨ret_bool (by rw [hyb]; rfl), rfl⟩

end Go.Proofs.Ytenpenelikpeeaa
