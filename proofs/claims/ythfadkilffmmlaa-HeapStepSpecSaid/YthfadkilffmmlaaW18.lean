/-
  The sanity check 'live' returns true. No condition.
-/
import Derived.Test.YthfadkilffmmlaaW14
import Derived.Test.YthfadkilffmmlaaW17
import Derived.Test.YthfadkilffmmlaaW7
namespace Go.Proofs.Ythfadkilffmmlaa
open Go.RowKit
set_option linter.unusedVariables false
set_option linter.unusedSimpArgs false

theorem SortedSeg.pairwise {act l : List Int} (h : SortedSeg act 0 l.length l) : l.Pairwise (fun a b => ¬ ltO act b a) := by
  rw [List.pairwise_iff_getElem]
  intro i j hi hj hij
  have := h i j (Nat.zero_le _) hij hj
  rwa [elt_lt hi, elt_lt hj] at this
theorem sorted_unique {act l l' : List Int} (hp : l.Perm l') (h : SortedSeg act 0 l.length l) (h' : SortedSeg act 0 l'.length l') : l = l' :=
  hp.eq_of_pairwise (fun a b _ _ h1 h2 => leO_antisymm h2 h1) h.pairwise h'.pairwise
theorem sorted_of_valid {act l : List Int} {y : Int} (h : Valid act l y) : SortedSeg act 0 l.length l := fun p q _ h1 h2 => ltO_asymm (h.sorted p q h1 h2)

/-- a heap of known contents is handed back, all is well -/
def HV (act l : List Int) (na nl : Nat) (y : Int) (w : World) (e : Ending) (w' : World) : Prop :=
  ∃ (A : Option Addr) (c : Nat) (A' : Option Addr) (c' : Nat), e = .returned (.tuple #[.agg #[.slice A na c, .slice A' nl c', .int .i64 y], .int .i64 0]) ∧
    RI w' A na c act ∧ RI w' A' nl c' l ∧ Below w.heap.size w w'
def HPop (act l : List Int) (na nl : Nat) (y v : Int) (w : World) (e : Ending) (w' : World) : Prop :=
  ∃ (A : Option Addr) (c : Nat) (A' : Option Addr) (c' : Nat), e = .returned (.tuple #[.agg #[.slice A na c, .slice A' nl c', .int .i64 y], .int .i64 v, .int .i64 0]) ∧
    RI w' A na c act ∧ RI w' A' nl c' l ∧ Below w.heap.size w w'

theorem l_new (w : World) : Calls Try.prog 12 #[.int .i64 3] w (HV [0, 0, 0, 0] [1, 2, 3] 4 3 1 w) :=
  (new_ok 3 w (by omega)).mono fun e w' ⟨A, c, A', c', he, h1, h2, h3⟩ => ⟨A, c, A', c', he, h1, h2, h3⟩

theorem scOk_hv {act l l2 : List Int} {y : Int} {w w' : World} {e : Ending} (h : ScOk act l y w e w') (hv : Valid act l2 y) (hp : l2.Perm l) : HV act l2 act.length l2.length y w e w' := by
  obtain ⟨A, c, A', c', l', he, h1, h2, hpp, hs, hb⟩ := h
  have : l' = l2 := sorted_unique (hpp.trans hp.symm) hs (sorted_of_valid hv)
  subst this
  exact ⟨A, c, A', c', he, h1, h2, hb⟩

theorem v1 : Valid [0, 0, 0, 0] [1, 2, 3] 1 := (valid_iff _ _ _).1 (by decide)
theorem v2 : Valid [0, 0, 1, 0] [2, 1, 3] 1 := (valid_iff _ _ _).1 (by decide)
theorem v3 : Valid [0, 0, 1, 0] [1, 3] 1 := (valid_iff _ _ _).1 (by decide)
theorem v4 : Valid [0, 0, 1, 0] [3] 1 := (valid_iff _ _ _).1 (by decide)
theorem v5 : Valid [0, 0, 1, 0] [] 1 := (valid_iff _ _ _).1 (by decide)
theorem v6 : Valid [0, 0, 0, 0] [1, 2, 3] 2 := (valid_iff _ _ _).1 (by decide)

section
variable (A : Option Addr) (c : Nat) (A' : Option Addr) (c' : Nat) (w : World)
theorem l_bump (h : RI w A 4 c [0, 0, 0, 0]) (h' : RI w A' 3 c' [1, 2, 3]) : Calls Try.prog 19 #[.agg #[.slice A 4 c, .slice A' 3 c', .int .i64 1], .int .i64 2] w (HV [0, 0, 1, 0] [2, 1, 3] 4 3 1 w) :=
  (bump_ok A 4 c [0, 0, 0, 0] A' 3 c' [1, 2, 3] 1 w 12 sort_small 2 h h' v1 (by decide) (by decide)).mono fun e w' h0 => by
    have e1 : sclA ([0, 0, 0, 0].set 2 (elt [0, 0, 0, 0] 2 + 1)) 1 = [0, 0, 1, 0] := by decide
    have e2 : sclY ([0, 0, 0, 0].set 2 (elt [0, 0, 0, 0] 2 + 1)) 1 = 1 := by decide
    rw [e1, e2] at h0
    exact scOk_hv h0 v2 (by decide)
theorem l_pop1 (h : RI w A 4 c [0, 0, 1, 0]) (h' : RI w A' 3 c' [2, 1, 3]) : Calls Try.prog 23 #[.agg #[.slice A 4 c, .slice A' 3 c', .int .i64 1]] w (HPop [0, 0, 1, 0] [1, 3] 4 2 1 2 w) :=
  (pop_ok A 4 c _ A' 3 c' _ 1 w h h' ((valid_iff _ _ _).2 v2) (by decide)).mono fun e w' h0 => h0
theorem l_pop2 (h : RI w A 4 c [0, 0, 1, 0]) (h' : RI w A' 2 c' [1, 3]) : Calls Try.prog 23 #[.agg #[.slice A 4 c, .slice A' 2 c', .int .i64 1]] w (HPop [0, 0, 1, 0] [3] 4 1 1 1 w) :=
  (pop_ok A 4 c _ A' 2 c' _ 1 w h h' ((valid_iff _ _ _).2 v3) (by decide)).mono fun e w' h0 => h0
theorem l_pop3 (h : RI w A 4 c [0, 0, 1, 0]) (h' : RI w A' 1 c' [3]) : Calls Try.prog 23 #[.agg #[.slice A 4 c, .slice A' 1 c', .int .i64 1]] w (HPop [0, 0, 1, 0] [] 4 0 1 3 w) :=
  (pop_ok A 4 c _ A' 1 c' _ 1 w h h' ((valid_iff _ _ _).2 v4) (by decide)).mono fun e w' h0 => h0
theorem l_pop4 (h : RI w A 4 c [0, 0, 1, 0]) (h' : RI w A' 0 c' []) : Calls Try.prog 23 #[.agg #[.slice A 4 c, .slice A' 0 c', .int .i64 1]] w fun e w' => e = .returned (.tuple #[zeroH, .int .i64 0, .int .i64 270]) ∧ Below w.heap.size w w' :=
  pop_none A 4 c _ A' 0 c' _ 1 w h h' ((valid_iff _ _ _).2 v5) rfl
theorem l_push1 (h : RI w A 4 c [0, 0, 1, 0]) (h' : RI w A' 0 c' []) : Calls Try.prog 25 #[.agg #[.slice A 4 c, .slice A' 0 c', .int .i64 1], .int .i64 3] w (HV [0, 0, 1, 0] [3] 4 1 1 w) :=
  (push_ok A 4 c _ A' 0 c' [] 1 w 3 h h' v5 (by decide) (by decide) (by decide)).mono fun e w' ⟨i, hi, _, _, h0⟩ => by
    have : i = 0 := by simpa using hi
    subst this
    exact h0
theorem l_push2 (h : RI w A 4 c [0, 0, 1, 0]) (h' : RI w A' 1 c' [3]) : Calls Try.prog 25 #[.agg #[.slice A 4 c, .slice A' 1 c', .int .i64 1], .int .i64 3] w fun e w' => e = .returned (.tuple #[zeroH, .int .i64 270]) ∧ Below w.heap.size w w' :=
  push_in A 4 c _ A' 1 c' [3] 1 w 3 h h' v4 (by decide) (by decide)
theorem l_decay (h : RI w A 4 c [0, 0, 0, 0]) (h' : RI w A' 3 c' [1, 2, 3]) : Calls Try.prog 21 #[.agg #[.slice A 4 c, .slice A' 3 c', .int .i64 1]] w (HV [0, 0, 0, 0] [1, 2, 3] 4 3 2 w) :=
  (decay_ok A 4 c [0, 0, 0, 0] A' 3 c' [1, 2, 3] 1 w 12 sort_small h h' v1 (by decide)).mono fun e w' h0 => by
    have e1 : sclA [0, 0, 0, 0] (1 + (1 / 20 + 1)) = [0, 0, 0, 0] := by decide
    have e2 : sclY [0, 0, 0, 0] (1 + (1 / 20 + 1)) = 2 := by decide
    rw [e1, e2] at h0
    exact scOk_hv h0 v6 (by decide)
theorem l_check (h : RI w A 4 c [0, 0, 1, 0]) (h' : RI w A' 3 c' [2, 1, 3]) : Calls Try.prog 14 #[.agg #[.slice A 4 c, .slice A' 3 c', .int .i64 1]] w fun e w' => e = .returned (.int .i64 0) ∧ Below w.heap.size w w' :=
  heapCheck_any A 4 c _ A' 3 c' _ 1 w h h'
theorem l_check0 : Calls Try.prog 14 #[.agg #[.slice none 0 0, .slice none 0 0, .int .i64 0]] w fun e w' => e = .returned (.int .i64 1) ∧ Below w.heap.size w w' :=
  heapCheck_any none 0 0 [] none 0 0 [] 0 w (RI.nil _ _ _ (Nat.zero_le _)) (RI.nil _ _ _ (Nat.zero_le _))
end
theorem l_luby (i : Nat) (r : Int) (w : World) (h : lubI i = r) : Calls Try.prog 17 #[.int .i64 i] w fun e w' => e = .returned (.int .i64 r) ∧ w = w' := by rw [← h]; exact luby_any i w

/-- a struct variable -/
def Box (w : World) (b : Nat) (v0 v1 v2 : Value) : Prop := w.heap[b]? = some (.cells #[v0, v1, v2] 24 (0, 0))
theorem Box.below {w w' : World} {b : Nat} {v0 v1 v2 : Value} (h : Box w b v0 v1 v2) (hb : Below w.heap.size w w') : Box w' b v0 v1 v2 := (hb.block b (lt_of_block h)).trans h
theorem Box.new (w : World) (v0 v1 v2 : Value) : Box (w.alloc (.cells #[v0, v1, v2] 24)) w.heap.size v0 v1 v2 := heap_alloc_new _ _
theorem Box.c0 {w : World} {b : Nat} {v0 v1 v2 : Value} (h : Box w b v0 v1 v2) : w.cell? ⟨b, 0, none⟩ = some v0 := by unfold Box at h; simp [World.cell?, h]
theorem Box.c1 {w : World} {b : Nat} {v0 v1 v2 : Value} (h : Box w b v0 v1 v2) : w.cell? ⟨b, 1, none⟩ = some v1 := by unfold Box at h; simp [World.cell?, h]
theorem Box.c2 {w : World} {b : Nat} {v0 v1 v2 : Value} (h : Box w b v0 v1 v2) : w.cell? ⟨b, 2, none⟩ = some v2 := by unfold Box at h; simp [World.cell?, h]
theorem belowA {w w' : World} (h : Below w.heap.size w w') (o : Obj) : Below w.heap.size w (w'.alloc o) := h.alloc h.size o
theorem stepA (w : World) (o : Obj) : Below w.heap.size w (w.alloc o) := (Below.refl _ _).alloc (Nat.le_refl _) _

end Go.Proofs.Ythfadkilffmmlaa
