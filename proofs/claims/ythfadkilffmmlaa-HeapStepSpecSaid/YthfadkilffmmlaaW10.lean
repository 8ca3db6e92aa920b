/-
  Contracts of scaled: rescaling, then sorting the queue. It takes what slices.SortFunc does as a hypothesis.
-/
import Derived.Test.YthfadkilffmmlaaW9
import Derived.Test.YthfadkilffmmlaaW6
namespace Go.Proofs.Ythfadkilffmmlaa
open Go.RowKit
set_option linter.unusedVariables false
set_option linter.unusedSimpArgs false

/- no element at all -/
set_option maxHeartbeats 1000000 in
theorem insertion_none (A : Option Addr) (c : Nat) (fv : Value) (w : World) :
    Calls Try.prog 58 #[.slice A 0 c, .int .i64 0, .int .i64 0, fv] w fun e w' => e = .returned (.tuple #[]) ∧ w = w' := by
  go_enter Try.func58, Try.ntmps58
  go_wp2
  refine wp_loop_rounds 1 ?_
  rw [rounds_succ]
  go_wp2
  go_end0
  exact ⟨rfl, rfl⟩
set_option maxHeartbeats 1000000 in
theorem pdq_none (A : Option Addr) (c : Nat) (lim : Int) (fv : Value) (w : World) :
    Calls Try.prog 54 #[.slice A 0 c, .int .i64 0, .int .i64 0, .int .i64 lim, fv] w fun e w' => e = .returned (.tuple #[]) ∧ w = w' := by
  go_enter Try.func54, Try.ntmps54
  go_wp2_with fail
  refine wp_loop_rounds 1 ?_
  rw [rounds_succ]
  go_wp2_with fail
  refine (insertion_none A c fv _).mono ?_
  rintro e w2 ⟨rfl, rfl⟩
  go_wp2_with fail
  (try simp only [Exit.inBlock, Exit.then])
  refine bodyPost_ret (results_none rfl _ _ _) rfl ?_
  exact ⟨rfl, rfl⟩
set_option maxHeartbeats 1000000 in
theorem sort_none (A : Option Addr) (c : Nat) (fv : Value) (w : World) :
    Calls Try.prog 47 #[.slice A 0 c, fv] w fun e w' => e = .returned (.tuple #[]) ∧ w = w' := by
  have hw : IntKind.u64.wrap ((0 : Nat) : Int) = 0 := by rw [IntKind.wrap_u64]; omega
  go_enter Try.func47, Try.ntmps47
  go_wp2_with fail
  refine (Try.bits_Len (0 : Int) _ (by omega) (by omega)).mono ?_
  rintro e w2 ⟨rfl, rfl⟩
  go_wp2_with fail
  refine (pdq_none A c _ fv _).mono ?_
  rintro e w2 ⟨rfl, rfl⟩
  go_wp2_with fail
  go_end0
  exact ⟨rfl, rfl⟩

/- the arithmetic of rescaling -/
def M40 : Int := 1099511627776
def mix (act : List Int) (k : Nat) : List Int := (List.range act.length).map fun j => if j < k then elt act j / 1024 else elt act j
theorem mix_len (act : List Int) (k : Nat) : (mix act k).length = act.length := by simp [mix]
theorem elt_mix (act : List Int) (k j : Nat) (h : j < act.length) : elt (mix act k) j = if j < k then elt act j / 1024 else elt act j := by
  rw [elt_lt (by rw [mix_len]; exact h)]; simp [mix]
theorem mix_zero (act : List Int) : mix act 0 = act := ext_elt (mix_len _ _) fun j h => by rw [elt_mix _ _ _ (by rwa [mix_len] at h)]; simp
theorem mix_succ (act : List Int) (k : Nat) (h : k < act.length) : (mix act k).set k (elt act k / 1024) = mix act (k + 1) := by
  refine ext_elt (by simp [mix_len]) fun j hj => ?_
  have hj' : j < act.length := by simpa [mix_len] using hj
  rw [elt_set _ _ _ _ (by rw [mix_len]; exact h), elt_mix _ _ _ hj', elt_mix _ _ _ hj']
  by_cases e : k = j
  · subst e; simp
  · by_cases e2 : j < k
    · rw [if_neg e, if_pos e2, if_pos (by omega)]
    · rw [if_neg e, if_neg e2, if_neg (by omega)]
def down (act : List Int) : List Int := act.map (· / 1024)
theorem mix_full (act : List Int) (k : Nat) (h : act.length ≤ k) : mix act k = down act := by
  refine ext_elt (by simp [mix_len, down]) fun j hj => ?_
  have hj' : j < act.length := by simpa [mix_len] using hj
  rw [elt_mix _ _ _ hj', if_pos (by omega), elt_lt hj', elt_lt (by simpa [down] using hj')]
  simp [down]
theorem elt_down (act : List Int) (j : Nat) (h : j < act.length) : elt (down act) j = elt act j / 1024 := by
  rw [elt_lt (by simpa [down] using h), elt_lt h]; simp [down]

/-- nothing is below 0 or above 2^42 -/
def Mid (act : List Int) : Prop := ∀ k, k < act.length → 0 ≤ elt act k ∧ elt act k ≤ 4398046511104
def bigB (act : List Int) (y : Int) : Bool := decide (M40 < y) || decide (M40 < maxTo act act.length)

/-- what lies behind the pointer to a working copy -/
structure Wk (w : World) (base B ga : Nat) (ra : List Value) (ca : Nat) (A' : Option Addr) (cl : Nat) (act l : List Int) (y : Int) : Prop where
  box : w.heap[B]? = some (.cells #[.slice (some ⟨ga, 0, none⟩) act.length ca, .slice A' l.length cl, .int .i64 y] 45 (0, 0))
  row : w.heap[ga]? = some (.cells (act.map (Value.int .i64) ++ ra).toArray 3 (0, 0))
  capa : act.length ≤ ca ∧ ca ≤ maxLen ∧ act.length * 8 ≤ 140737488355328
  capl : l.length ≤ cl ∧ cl ≤ maxLen ∧ l.length * 8 ≤ 140737488355328
  own : 0 < l.length → ∃ gl rl, A' = some ⟨gl, 0, none⟩ ∧ w.heap[gl]? = some (.cells (l.map (Value.int .i64) ++ rl).toArray 3 (0, 0)) ∧ gl ≠ ga ∧ base ≤ gl
  hB : base ≤ B
  hga : base ≤ ga

section
variable {w : World} {base B ga : Nat} {ra : List Value} {ca : Nat} {A' : Option Addr} {cl : Nat} {act l : List Int} {y : Int}
theorem lt_of_block {w : World} {k : Nat} {o : Obj} (h : w.heap[k]? = some o) : k < w.heap.size := by
  rcases Nat.lt_or_ge k w.heap.size with hlt | hge
  · exact hlt
  · rw [Array.getElem?_eq_none hge] at h; cases h
theorem Wk.ne (h : Wk w base B ga ra ca A' cl act l y) : B ≠ ga := by
  intro e
  subst e
  have h1 := h.box
  rw [h.row] at h1
  injection h1 with h1
  injection h1 with _ h2
  exact absurd h2 (by decide)
theorem Wk.ri (h : Wk w base B ga ra ca A' cl act l y) : RI w (some ⟨ga, 0, none⟩) act.length ca act :=
  ⟨rfl, h.capa.1, h.capa.2.2, h.capa.2.1, fun _ => ⟨ga, 0, rfl, lt_of_block h.row, fun j hj => by simp [World.cell?, h.row, List.getElem?_append, hj, elt_lt hj]⟩⟩
end

/-- what scaled leaves -/
def Scaled (base ga ca : Nat) (A' : Option Addr) (cl : Nat) (act l : List Int) (y : Int) (w : World) (e : Ending) (w' : World) : Prop :=
  ∃ l', e = .returned (.agg #[.slice (some ⟨ga, 0, none⟩) act.length ca, .slice A' l'.length cl, .int .i64 y]) ∧ RI w' (some ⟨ga, 0, none⟩) act.length ca act ∧ RI w' A' l'.length cl l' ∧ l'.Perm l ∧ SortedSeg act 0 l'.length l' ∧ Below base w w'

end Go.Proofs.Ythfadkilffmmlaa
