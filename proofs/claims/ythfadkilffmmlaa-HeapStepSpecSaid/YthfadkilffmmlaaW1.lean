/-
  Contracts of small functions. No condition.
-/
import Derived.Test.YthfadkilffmmlaaMem
import Derived.Deep.QuietTactic
import Derived.BigQuiet
import Derived.StillTailTactics
namespace Go.Proofs.Ythfadkilffmmlaa
open Go.RowKit
set_option linter.unusedVariables false
set_option linter.unusedSimpArgs false

set_option maxHeartbeats 400000 in
theorem has_any (A : Option Addr) (n c : Nat) (zs : List Int) (x : Int) (w : World) (h : RI w A n c zs) :
    Calls Try.prog 27 #[.slice A n c, .int .i64 x] w fun e w' => e = .returned (.bool (hasB zs x)) ∧ w = w' := by
  have hn := h.small
  have H := Lib.hid h
  clear h
  go_enter Try.func27, Try.ntmps27
  go_wp2
  go_loop [5] (fun i => ∃ k : Nat, k ≤ n ∧ i = .int .i64 k ∧ hasB (zs.take k) x = false) (fun i => n - (intOf i).toNat)
  case atStart => exact ⟨0, Nat.zero_le _, rfl, rfl⟩
  case round =>
    obtain ⟨k, hk, rfl, hno⟩ := hrel
    have HN := Lib.hid hno
    clear hno
    by_cases hlt : k < n
    · obtain ⟨b, off, rfl, hb, hc⟩ := H.out.cells (by omega)
      have hck := hc k hlt
      clear hc
      go_wp2
      · go_ret
        exact ⟨ret_bool (hasB_of_at (by rw [H.out.len]; exact hlt) (by assumption)).symm, rfl⟩
      · go_round
        case rel => exact ⟨k + 1, by omega, by go_num, hasB_step (by rw [H.out.len]; exact hlt) (by assumption) HN.out⟩
        case measure => simp [intOf]; omega
    · go_wp2
      go_ret
      exact ⟨ret_bool (hasB_full H.out.len hlt HN.out).symm, rfl⟩

set_option maxHeartbeats 400000 in
theorem in_any (A : Option Addr) (n c : Nat) (zs : List Int) (x : Int) (w : World) (h : RI w A n c zs) :
    Calls Try.prog 36 #[.slice A n c, .int .i64 x] w fun e w' => e = .returned (.bool (hasB zs x)) ∧ w = w' := by
  have hn := h.small
  have H := Lib.hid h
  clear h
  go_enter Try.func36, Try.ntmps36
  go_wp2
  go_loop [5] (fun i => ∃ k : Nat, k ≤ n ∧ i = .int .i64 k ∧ hasB (zs.take k) x = false) (fun i => n - (intOf i).toNat)
  case atStart => exact ⟨0, Nat.zero_le _, rfl, rfl⟩
  case round =>
    obtain ⟨k, hk, rfl, hno⟩ := hrel
    have HN := Lib.hid hno
    clear hno
    by_cases hlt : k < n
    · obtain ⟨b, off, rfl, hb, hc⟩ := H.out.cells (by omega)
      have hck := hc k hlt
      clear hc
      go_wp2
      · go_ret
        exact ⟨ret_bool (hasB_of_at (by rw [H.out.len]; exact hlt) (by assumption)).symm, rfl⟩
      · go_round
        case rel => exact ⟨k + 1, by omega, by go_num, hasB_step (by rw [H.out.len]; exact hlt) (by assumption) HN.out⟩
        case measure => simp [intOf]; omega
    · go_wp2
      go_ret
      exact ⟨ret_bool (hasB_full H.out.len hlt HN.out).symm, rfl⟩

set_option maxHeartbeats 400000 in
theorem ints_any (A : Option Addr) (n c : Nat) (zs : List Int) (A' : Option Addr) (n' c' : Nat) (zs' : List Int) (w : World) (h : RI w A n c zs) (h' : RI w A' n' c' zs') :
    Calls Try.prog 28 #[.slice A n c, .slice A' n' c'] w fun e w' => e = .returned (.bool (sameB zs zs')) ∧ ∃ q, w' = w.drewN q := by
  have hn := h.small
  have hn' := h'.small
  have H := Lib.hid h
  have H' := Lib.hid h'
  clear h h'
  by_cases hne : n = n'
  · subst hne
    go_enter Try.func28, Try.ntmps28
    go_wp2
    go_loopw [5] (fun i wr => ∃ k q : Nat, k ≤ n ∧ i = .int .i64 k ∧ zs.take k = zs'.take k ∧ wr = w.drewN q) (fun i _ => n - (intOf i).toNat)
    case atStart => exact ⟨0, 0, Nat.zero_le _, rfl, rfl, rfl⟩
    case round =>
      obtain ⟨k, q, hk, rfl, hno, rfl⟩ := hrel
      have HN := Lib.hid hno
      clear hno
      by_cases hlt : k < n
      · obtain ⟨b, off, rfl, hb, hc⟩ := H.out.cells (by omega)
        have hck := hc k hlt
        clear hc
        obtain ⟨b', off', rfl, hb', hc'⟩ := H'.out.cells (by omega)
        have hck' := hc' k hlt
        clear hc'
        have hl1 : (k : Int) < (n : Int) := by omega
        go_wp2_with fail
        go_quiet (fail)
        go_wp2
        · have hne : (elt zs k != elt zs' k) = true := by assumption
          go_ret
          exact ⟨ret_bool (sameB_at (by rw [H.out.len]; exact hlt) (by rw [H'.out.len]; exact hlt) (by simpa using hne)).symm, _, World.drewN_drewN ..⟩
        · have heq : (elt zs k != elt zs' k) = false := by assumption
          go_roundw
          case rel => exact ⟨k + 1, _, by omega, by go_num, take_eq_step (by rw [H.out.len]; exact hlt) (by rw [H'.out.len]; exact hlt) HN.out (by simpa using heq), rfl⟩
          case measure => simp [intOf]; omega
      · go_wp2
        go_ret
        exact ⟨ret_bool (sameB_full H.out.len H'.out.len hlt HN.out).symm, q, rfl⟩
  · have hb : ((n : Int) != (n' : Int)) = true := by rw [bne_iff_ne]; omega
    go_enter Try.func28, Try.ntmps28
    go_wp2
    go_ret
    exact ⟨ret_bool (sameB_len (by rw [H.out.len, H'.out.len]; exact hne)).symm, 0, rfl⟩



/- the heap's struct as a value -/
def fewB (n n' : Nat) : Bool := decide (n ≤ 60) && decide (n' ≤ 60)

set_option maxHeartbeats 400000 in
theorem few_any (A : Option Addr) (n c : Nat) (A' : Option Addr) (n' c' : Nat) (y : Int) (w : World) :
    Calls Try.prog 11 #[.agg #[.slice A n c, .slice A' n' c', .int .i64 y]] w fun e w' => e = .returned (.bool (fewB n n')) ∧ Below w.heap.size w w' := by
  by_cases h1 : n ≤ 60
  · have h1' : (n : Int) ≤ 60 := by omega
    by_cases h2 : n' ≤ 60
    · have h2' : (n' : Int) ≤ 60 := by omega
      go_enter Try.func11, Try.ntmps11
      go_wp2
      go_ret
      exact ⟨ret_bool (by simp [fewB, h1, h2]), (Below.refl _ _).alloc (Nat.le_refl _) _⟩
    · have h2' : ¬ (n' : Int) ≤ 60 := by omega
      go_enter Try.func11, Try.ntmps11
      go_wp2
      go_ret
      exact ⟨ret_bool (by simp [fewB, h1, h2]), (Below.refl _ _).alloc (Nat.le_refl _) _⟩
  · have h1' : ¬ (n : Int) ≤ 60 := by omega
    go_enter Try.func11, Try.ntmps11
    go_wp2
    go_ret
    exact ⟨ret_bool (by simp [fewB, h1]), (Below.refl _ _).alloc (Nat.le_refl _) _⟩

def knownB (n : Nat) (v : Int) : Bool := decide (0 < v) && decide (v < n)
theorem knownB_iff {n : Nat} {v : Int} : knownB n v = true ↔ 0 < v ∧ v < n := by simp [knownB]

set_option maxHeartbeats 400000 in
theorem variable_any (A : Option Addr) (n c : Nat) (A' : Option Addr) (n' c' : Nat) (y v : Int) (w : World) :
    Calls Try.prog 31 #[.agg #[.slice A n c, .slice A' n' c', .int .i64 y], .int .i64 v] w fun e w' => e = .returned (.bool (knownB n v)) ∧ Below w.heap.size w w' := by
  by_cases h1 : 1 ≤ v
  · have h0 : 0 < v := by omega
    by_cases h2 : v < n
    all_goals
      go_enter Try.func31, Try.ntmps31
      go_wp2
      go_ret
      exact ⟨ret_bool (by simp [knownB, h0, h2]), (Below.refl _ _).alloc (Nat.le_refl _) _⟩
  · have h0 : ¬ 0 < v := by omega
    go_enter Try.func31, Try.ntmps31
    go_wp2
    go_ret
    exact ⟨ret_bool (by rw [knownB, decide_eq_false (show ¬ 0 < v by omega)]; rfl), (Below.refl _ _).alloc (Nat.le_refl _) _⟩

set_option maxHeartbeats 400000 in
theorem known_any (B : Nat) (A : Option Addr) (n c : Nat) (v : Int) (w : World) (hc0 : w.cell? ⟨B, 0, none⟩ = some (.slice A n c)) :
    Calls Try.prog 34 #[.pointer (some ⟨B, 0, none⟩), .int .i64 v] w fun e w' => e = .returned (.bool (knownB n v)) ∧ w = w' := by
  by_cases h0 : 0 < v
  · by_cases h2 : v < n
    all_goals
      go_enter Try.func34, Try.ntmps34
      go_wp2
      go_ret
      exact ⟨ret_bool (by simp [knownB, h0, h2]), rfl⟩
  · go_enter Try.func34, Try.ntmps34
    go_wp2
    go_ret
    exact ⟨ret_bool (by rw [knownB, decide_eq_false (show ¬ 0 < v by omega)]; rfl), rfl⟩

def oddB (n : Int) : Bool := decide (n < 0) || decide (1099511627776 < n)

set_option maxHeartbeats 400000 in
theorem odd_any (x : Int) (w : World) : Calls Try.prog 43 #[.int .i64 x] w fun e w' => e = .returned (.bool (oddB x)) ∧ w = w' := by
  by_cases h1 : x < 0
  · go_enter Try.func43, Try.ntmps43
    go_wp2
    go_ret
    exact ⟨ret_bool (by simp [oddB, h1]), rfl⟩
  · by_cases h2 : 1099511627776 < x
    all_goals
      go_enter Try.func43, Try.ntmps43
      go_wp2
      go_ret
      exact ⟨ret_bool (by simp [oddB, h1, h2]), rfl⟩

/-- the three-way comparison -/
def cmpI (x y : Int) : Int := if x < y then -1 else if y < x then 1 else 0

set_option maxHeartbeats 400000 in
theorem nan_any (x : Int) (w : World) : Calls Try.prog 56 #[.int .i64 x] w fun e w' => e = .returned (.bool false) ∧ w = w' := by
  go_enter Try.func56, Try.ntmps56
  go_wp2
  go_ret
  exact ⟨ret_bool (by simp), rfl⟩



set_option maxHeartbeats 400000 in
theorem compare_any (x y : Int) (w : World) : Calls Try.prog 50 #[.int .i64 x, .int .i64 y] w fun e w' => e = .returned (.int .i64 (cmpI x y)) ∧ w = w' := by
  by_cases h1 : x < y
  · go_enter Try.func50, Try.ntmps50
    go_wp2_with (go_at_call 56; refine (nan_any _ _).mono ?_; rintro e w' ⟨rfl, rfl⟩)
    go_ret
    exact ⟨ret_int (by simp [cmpI, h1]), rfl⟩
  · by_cases h2 : y < x
    all_goals
      go_enter Try.func50, Try.ntmps50
      go_wp2_with (go_at_call 56; refine (nan_any _ _).mono ?_; rintro e w' ⟨rfl, rfl⟩)
      go_ret
      exact ⟨ret_int (by unfold cmpI; split <;> (try split) <;> omega), rfl⟩

/-- the first that is not 0 -/
def orI (x y : Int) : Int := if x = 0 then y else x

set_option maxHeartbeats 400000 in
theorem or_any (g : Nat) (x y : Int) (w : World) (h0 : w.cell? ⟨g, 0, none⟩ = some (.int .i64 x)) (h1 : w.cell? ⟨g, 1, none⟩ = some (.int .i64 y)) :
    Calls Try.prog 49 #[.slice (some ⟨g, 0, none⟩) 2 2] w fun e w' => e = .returned (.int .i64 (orI x y)) ∧ w = w' := by
  by_cases hx : x = 0
  · have hx1 : (x != 0) = false := by simp [hx]
    have HX := Lib.hid hx
    clear hx
    by_cases hy : y = 0
    · have hy1 : (y != 0) = false := by simp [hy]
      have HY := Lib.hid hy
      clear hy
      go_enter Try.func49, Try.ntmps49
      go_wp2
      refine wp_loop_rounds 3 ?_
      rw [rounds_succ]
      go_wp2
      rw [rounds_succ]
      go_wp2
      rw [rounds_succ]
      go_wp2
      go_ret
      exact ⟨ret_int (by rw [orI, if_pos HX.out, HY.out]), rfl⟩
    · have hy1 : (y != 0) = true := by simpa using hy
      clear hy
      go_enter Try.func49, Try.ntmps49
      go_wp2
      refine wp_loop_rounds 2 ?_
      rw [rounds_succ]
      go_wp2
      rw [rounds_succ]
      go_wp2
      go_ret
      exact ⟨ret_int (by rw [orI, if_pos HX.out]), rfl⟩
  · have hx1 : (x != 0) = true := by simpa using hx
    have HX := Lib.hid hx
    clear hx
    go_enter Try.func49, Try.ntmps49
    go_wp2
    refine wp_loop_rounds 1 ?_
    rw [rounds_succ]
    go_wp2
    go_ret
    exact ⟨ret_int (by rw [orI, if_neg HX.out]), rfl⟩

def ordI (act : List Int) (a b : Int) : Int := orI (cmpI (elt act b.toNat) (elt act a.toNat)) (cmpI a b)

set_option maxHeartbeats 400000 in
theorem order_any (B b off n c : Nat) (act : List Int) (x y : Nat) (w : World) (hB : B < w.heap.size) (hb : b < w.heap.size) (hc0 : w.cell? ⟨B, 0, none⟩ = some (.slice (some ⟨b, off, none⟩) n c))
    (hx : x < n) (hy : y < n) (hn : n ≤ 17592186044416) (hcx : w.cell? ⟨b, off + x, none⟩ = some (.int .i64 (elt act x))) (hcy : w.cell? ⟨b, off + y, none⟩ = some (.int .i64 (elt act y))) :
    Calls Try.prog 41 #[.pointer (some ⟨B, 0, none⟩), .int .i64 x, .int .i64 y] w fun e w' => e = .returned (.int .i64 (ordI act x y)) ∧ Below w.heap.size w w' := by
  have hx' : (x : Int) < (n : Int) := by omega
  have hy' : (y : Int) < (n : Int) := by omega
  go_enter Try.func41, Try.ntmps41
  go_wp2
  refine wp_region_still_tail 20 (by kernel_rfl) (by kernel_rfl) ?_
  simp only [List.take_succ_cons, List.take_zero, List.drop_succ_cons, List.drop_zero]
  iterate 16 still_step
  still_call ((compare_any _ _ _).mono (fun e w' h => ⟨h.1, h.2.symm⟩))
  still_step
  still_step
  still_call ((compare_any _ _ _).mono (fun e w' h => ⟨h.1, h.2.symm⟩))
  refine wpStill_nil ?_
  change wpList _ _ _ _ _ w.drew
  go_wp2_with fail
  refine (or_any w.heap.size (cmpI (elt act y) (elt act x)) (cmpI x y) _ (by go_simp) (by go_simp)).mono ?_
  rintro e w' ⟨rfl, rfl⟩
  go_wp2
  go_ret
  exact ⟨ret_int (by simp [ordI]), ((Below.refl _ _).alloc (Nat.le_refl _) _).drew⟩

end Go.Proofs.Ythfadkilffmmlaa
