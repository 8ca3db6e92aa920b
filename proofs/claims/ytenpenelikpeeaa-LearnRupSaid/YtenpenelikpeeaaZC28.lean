/-
  The regions of unit and play that decide one literal more. No condition.
  unit of the law's package: the RUP property. No condition.
-/
import Derived.Test.YtenpenelikpeeaaZC27
import Derived.Test.YtenpenelikpeeaaZC17
import Derived.Test.YtenpenelikpeeaaZC25

namespace Go.Proofs.Ytenpenelikpeeaa
open Go.RowKit Go.Shelf
set_option linter.unusedVariables false
set_option linter.unusedSimpArgs false

/-- the facts of unit's region -/
def GU (W : World) (A : Option Addr) (n c : Nat) (ts : List Stp) (bl ol nl cl k : Nat) (y : Int) (j : Nat) (v : Value) (w : World) : Prop :=
  match j with
  | 0 => (∃ b, v = .slice (some ⟨b, 0, none⟩) 0 0) ∧ w.ownsRow W.heap.size 41 2 v 0 []
  | 1 => v = .slice A n c
  | 2 => w.ownsRow W.heap.size 41 2 v n (flatS ts)
  | 3 => v = .slice (some ⟨bl, ol, none⟩) nl cl
  | 4 => v = .int .i64 k
  | 5 => v = .pointer (some ⟨bl, ol + k, none⟩)
  | 6 => v = .int .i64 y
  | 7 => v = .int .i64 (-y)
  | 8 => v = .agg #[.int .i64 (-y), .int .i64 (-1)]
  | 9 => ∃ b, v = .slice (some ⟨b, 0, none⟩) 1 1 ∧ RS w (some ⟨b, 0, none⟩) 1 1 [⟨-y, -1⟩]
  | 10 => ∃ A' c', v = .slice A' (n + 1) c' ∧ RS w A' (n + 1) c' (ts ++ [⟨-y, -1⟩])
  | _ => True
def DU (j : Nat) : Option Nat := match j with
  | 0 => some 2
  | 2 => some 10
  | 9 => some 10
  | _ => none
theorem GU.mono (W : World) (A : Option Addr) (n c : Nat) (ts : List Stp) (bl ol nl cl k : Nat) (y : Int) (j : Nat) (u : Value) (w w' : World) (hb : Below w.heap.size w w') (h : GU W A n c ts bl ol nl cl k y j u w) : GU W A n c ts bl ol nl cl k y j u w' := by
  match j, h with
  | 0, h => exact ⟨h.1, own_below h.2 hb⟩
  | 1, h => exact h
  | 2, h => exact own_below h hb
  | 3, h => exact h
  | 4, h => exact h
  | 5, h => exact h
  | 6, h => exact h
  | 7, h => exact h
  | 8, h => exact h
  | 9, h => obtain ⟨b, h1, h2⟩ := h; exact ⟨b, h1, h2.below hb⟩
  | 10, h => obtain ⟨A', c', h1, h2⟩ := h; exact ⟨A', c', h1, h2.below hb⟩
  | n + 11, h => trivial

set_option maxRecDepth 100000 in
theorem stepsU (W : World) (A : Option Addr) (n c : Nat) (ts : List Stp) (bl ol nl cl k : Nat) (y : Int) (hrs : RS W A n c ts) (hn : n ≤ 100000) (hk : k < nl) (hnl : nl ≤ 1000) (hc : W.cell? ⟨bl, ol + k, none⟩ = some (.int .i64 y)) (hbl : bl < W.heap.size) (hy0 : -65536 ≤ y) (hy1 : y ≤ 65536) :
    StepsOk Try.prog [some 49, some 50, some 51, some 52, some 53, some 54, some 55, some 56, some 57, some 58, some 59, some 5] [[], [], [0, 1], [], [], [3, 4], [5], [6], [7], [8], [2, 9, 2], [10, 10, 0, 1, 2, 3, 4, 5, 6, 7, 8, 9, 10]]
      [(5, .slice A n c), (1, .slice (some ⟨bl, ol, none⟩) nl cl), (6, .int .i64 k)] (fun w' => Below W.heap.size W w') (GU W A n c ts bl ol nl cl k y) DU 0 ((regAt Try.f25 12).take 11) := by
  have hM := GU.mono W A n c ts bl ol nl cl k y
  have hneg : IntKind.i64.wrap (-y) = -y := IntWalk.i64_in _ (by omega)
  refine ⟨?_, ?_, ?_, ?_, ?_, ?_, ?_, ?_, ?_, ?_, ?_, trivial⟩
  · intro vals w ρ hB hd ho hp
    simp only [Gives, execOp]
    simp [GivesR, go_sem]
    exact .more hM ((Below.refl _ _).alloc (Nat.le_refl _) _) (hB.alloc hB.size _) ⟨⟨_, rfl⟩, own_emptyS w _ _ rfl hB.size⟩
  · intro vals w ρ hB hd ho hp
    have o5 : ρ (.tmp 5) = _ := ho.1 rfl
    simp only [Gives, execOp, o5]
    simp [GivesR, go_sem]
    exact .same hB rfl
  · intro vals w ρ hB hd ho hp
    obtain ⟨⟨f0, e0⟩, ⟨f1, e1⟩, -⟩ := (⟨hd.1 rfl, hd.2.1 rfl, hd.2.2⟩ : _ ∧ _ ∧ _)
    have e0 : ρ (.tmp 49) = vals 0 := e0 _ rfl
    have e1 : ρ (.tmp 50) = vals 1 := e1 _ rfl
    obtain ⟨⟨b, f0⟩, f0'⟩ : (∃ b, vals 0 = .slice (some ⟨b, 0, none⟩) 0 0) ∧ w.ownsRow _ _ _ (vals 0) _ _ := f0 (Or.inr rfl)
    have f1 : vals 1 = _ := f1 (Or.inl rfl)
    rw [f1] at e1
    refine gives_made_st _ _ rfl _ b _ e0 f0 f0' _ _ _ ts e1 (hrs.below hB) (by omega) hB.size fun v' w' h1 h2 => ?_
    exact .more hM h2 (hB.trans (h2.mono hB.size)) h1
  · intro vals w ρ hB hd ho hp
    have o1 : ρ (.tmp 1) = _ := ho.2.1 rfl
    simp only [Gives, execOp, o1]
    simp [GivesR, go_sem]
    exact .same hB rfl
  · intro vals w ρ hB hd ho hp
    have o6 : ρ (.tmp 6) = _ := ho.2.2.1 rfl
    simp only [Gives, execOp, o6]
    simp [GivesR, go_sem]
    exact .same hB rfl
  · intro vals w ρ hB hd ho hp
    obtain ⟨⟨f3, e3⟩, ⟨f4, e4⟩, -⟩ := (⟨hd.1 rfl, hd.2.1 rfl, hd.2.2⟩ : _ ∧ _ ∧ _)
    have e3 : ρ (.tmp 52) = vals 3 := e3 _ rfl
    have e4 : ρ (.tmp 53) = vals 4 := e4 _ rfl
    have f3 : vals 3 = _ := f3 (Or.inl rfl)
    have f4 : vals 4 = _ := f4 (Or.inl rfl)
    rw [f3] at e3
    rw [f4] at e4
    simp only [Gives, execOp, e3, e4]
    simp [GivesR, go_sem, hk]
    exact .same hB rfl
  · intro vals w ρ hB hd ho hp
    obtain ⟨⟨f5, e5⟩, -⟩ := (⟨hd.1 rfl, hd.2⟩ : _ ∧ _)
    have e5 : ρ (.tmp 54) = vals 5 := e5 _ rfl
    have f5 : vals 5 = _ := f5 (Or.inl rfl)
    rw [f5] at e5
    have hcw := (hB.cell (p := ⟨bl, ol + k, none⟩) hbl).trans hc
    simp only [Gives, execOp, e5]
    simp [GivesR, go_sem, hcw]
    exact .same hB rfl
  · intro vals w ρ hB hd ho hp
    obtain ⟨⟨f6, e6⟩, -⟩ := (⟨hd.1 rfl, hd.2⟩ : _ ∧ _)
    have e6 : ρ (.tmp 55) = vals 6 := e6 _ rfl
    have f6 : vals 6 = _ := f6 (Or.inl rfl)
    rw [f6] at e6
    simp only [Gives, execOp, e6]
    simp [GivesR, go_sem, hneg]
    exact .same hB rfl
  · intro vals w ρ hB hd ho hp
    obtain ⟨⟨f7, e7⟩, -⟩ := (⟨hd.1 rfl, hd.2⟩ : _ ∧ _)
    have e7 : ρ (.tmp 56) = vals 7 := e7 _ rfl
    have f7 : vals 7 = _ := f7 (Or.inl rfl)
    rw [f7] at e7
    simp only [Gives, execOp, List.map_toArray, List.map_cons, List.map_nil, e7, hp.1]
    simp [GivesR, go_sem]
    exact .same hB rfl
  · intro vals w ρ hB hd ho hp
    obtain ⟨⟨f8, e8⟩, -⟩ := (⟨hd.1 rfl, hd.2⟩ : _ ∧ _)
    have e8 : ρ (.tmp 57) = vals 8 := e8 _ rfl
    have f8 : vals 8 = _ := f8 (Or.inl rfl)
    rw [f8] at e8
    simp only [Gives, execOp, List.map_toArray, List.map_cons, List.map_nil, e8]
    simp [GivesR, go_sem]
    exact .more hM ((Below.refl _ _).alloc (Nat.le_refl _) _) (hB.alloc hB.size _) ⟨_, rfl, RS.lit w [⟨-y, -1⟩] 1 _ rfl rfl (by omega)⟩
  · intro vals w ρ hB hd ho hp
    obtain ⟨⟨f2, e2⟩, ⟨f9, e9⟩, -⟩ := (⟨hd.1 rfl, hd.2.1 rfl, hd.2.2⟩ : _ ∧ _ ∧ _)
    have e2 : ρ (.tmp 51) = vals 2 := e2 _ rfl
    have e9 : ρ (.tmp 58) = vals 9 := e9 _ rfl
    have f2 : w.ownsRow _ _ _ (vals 2) _ _ := f2 (Or.inr rfl)
    obtain ⟨b9, f9, f9'⟩ : ∃ b, vals 9 = _ ∧ RS w _ _ _ _ := f9 (Or.inr rfl)
    rw [f9] at e9
    refine gives_append_st _ _ rfl _ _ n ts e2 f2 _ _ _ [⟨-y, -1⟩] e9 f9' (by omega) hB.size fun v' w' h1 h2 => ?_
    have hB' : Below W.heap.size W w' := hB.grown h2 hB.size (fun g hg => (own_lt f2 hg).1)
    obtain ⟨A', c', rfl⟩ := own_form h1
    refine ⟨hB', ⟨A', c', rfl, RS.of_own h1 (by omega)⟩, fun j u k1 k2 k3 k4 h => ?_⟩
    match j, h with
    | 0, h => cases k4 2 rfl
    | 1, h => exact h
    | 2, h => exact absurd rfl k2
    | 3, h => exact h
    | 4, h => exact h
    | 5, h => exact h
    | 6, h => exact h
    | 7, h => exact h
    | 8, h => exact h
    | 9, h => exact absurd rfl k2
    | 10, h => exact absurd rfl k1
    | n + 11, h => trivial

theorem enters27 : ∀ args w, (callFunc 27 args).run Try.prog w = .ok (.enter 27 args) w := enters_of Try.func27 (by kernel_rfl) rfl

/-- the facts of play's region -/
def GP (b0 : Nat) (W : World) (x : Int) (Ac : Option Addr) (nc cc : Nat) (A : Option Addr) (n c : Nat) (ts : List Stp) (y ci er : Int) (k2 : Nat) (ys : List Stp) (j : Nat) (v : Value) (w : World) : Prop :=
  match j with
  | 0 => v = .agg #[.int .i64 x, .slice Ac nc cc]
  | 1 => (∃ b, v = .slice (some ⟨b, 0, none⟩) 0 0) ∧ w.ownsRow W.heap.size 41 2 v 0 []
  | 2 => v = .slice A n c
  | 3 => w.ownsRow W.heap.size 41 2 v n (flatS ts)
  | 4 => v = .int .i64 y
  | 5 => v = .agg #[.int .i64 y, .int .i64 (-1)]
  | 6 => ∃ b, v = .slice (some ⟨b, 0, none⟩) 1 1 ∧ RS w (some ⟨b, 0, none⟩) 1 1 [⟨y, -1⟩]
  | 7 => ∃ A' c', v = .slice A' (n + 1) c' ∧ RS w A' (n + 1) c' (ts ++ [⟨y, -1⟩])
  | 8 => ∃ A' c', v = .tuple #[.slice A' k2 c', .int .i64 ci, .int .i64 er] ∧ RS w A' k2 c' ys
  | 9 => ∃ A' c', v = .tuple #[.slice A' k2 c', .int .i64 ci, .int .i64 er] ∧ RS w A' k2 c' ys
  | 10 => ∃ A' c', v = .slice A' k2 c' ∧ RS w A' k2 c' ys
  | 11 => v = .int .i64 ci
  | 12 => v = .int .i64 er
  | 13 => ∃ A' c', v = .slice A' k2 c' ∧ RS w A' k2 c' ys
  | 14 => v = .int .i64 ci
  | _ => True
def DP (j : Nat) : Option Nat := match j with
  | 1 => some 3
  | 3 => some 7
  | 6 => some 7
  | _ => none
section
variable (b0 : Nat) (W : World) (x : Int) (Ac : Option Addr) (nc cc : Nat) (A : Option Addr) (n c : Nat) (ts : List Stp) (y ci er : Int) (k2 : Nat) (ys : List Stp)
theorem GP.mono (j : Nat) (u : Value) (w w' : World) (hb : Below w.heap.size w w') (h : GP b0 W x Ac nc cc A n c ts y ci er k2 ys j u w) : GP b0 W x Ac nc cc A n c ts y ci er k2 ys j u w' := by
  match j, h with
  | 0, h => exact h
  | 1, h => exact ⟨h.1, own_below h.2 hb⟩
  | 2, h => exact h
  | 3, h => exact own_below h hb
  | 4, h => exact h
  | 5, h => exact h
  | 6, h => obtain ⟨b, h1, h2⟩ := h; exact ⟨b, h1, h2.below hb⟩
  | 7, h => obtain ⟨A', c', h1, h2⟩ := h; exact ⟨A', c', h1, h2.below hb⟩
  | 8, h => obtain ⟨A', c', h1, h2⟩ := h; exact ⟨A', c', h1, h2.below hb⟩
  | 9, h => obtain ⟨A', c', h1, h2⟩ := h; exact ⟨A', c', h1, h2.below hb⟩
  | 10, h => obtain ⟨A', c', h1, h2⟩ := h; exact ⟨A', c', h1, h2.below hb⟩
  | 11, h => exact h
  | 12, h => exact h
  | 13, h => obtain ⟨A', c', h1, h2⟩ := h; exact ⟨A', c', h1, h2.below hb⟩
  | 14, h => exact h
  | n + 15, h => trivial

set_option maxRecDepth 100000 in
theorem stepsP (hbx : Two W b0 (.int .i64 x) (.slice Ac nc cc)) (hrs : RS W A n c ts) (hn : n ≤ 60000)
    (hcall : ∀ A7 c7 w, Below W.heap.size W w → RS w A7 (n + 1) c7 (ts ++ [⟨y, -1⟩]) → Calls Try.prog 27 #[.agg #[.int .i64 x, .slice Ac nc cc], .slice A7 (n + 1) c7] w fun e w' => ∃ A' c', e = .returned (.tuple #[.slice A' k2 c', .int .i64 ci, .int .i64 er]) ∧ RS w' A' k2 c' ys ∧ Below w.heap.size w w') :
    StepsOk Try.prog [some 66, some 67, some 68, some 69, some 70, some 71, some 72, some 73, some 74, some 65, some 75, some 76, some 77, some 6, some 7, some 8]
      [[], [], [], [1, 2], [], [4], [5], [3, 6, 3], [0, 7, 7], [8], [9], [9], [9], [10, 8, 0, 1, 2, 3, 4, 5, 6, 7, 8, 9, 10], [11, 13, 0, 1, 2, 3, 4, 5, 6, 7, 8, 9, 10, 11, 13], [12, 14, 0, 1, 2, 3, 4, 5, 6, 7, 8, 9, 10, 11, 12, 13, 14]]
      [(2, .pointer (some ⟨b0, 0, none⟩)), (6, .slice A n c), (10, .int .i64 y)] (fun w' => Below W.heap.size W w') (GP b0 W x Ac nc cc A n c ts y ci er k2 ys) DP 0 ((regAt Try.f24 8).take 15) := by
  have hM := GP.mono b0 W x Ac nc cc A n c ts y ci er k2 ys
  refine ⟨?_, ?_, ?_, ?_, ?_, ?_, ?_, ?_, ?_, ?_, ?_, ?_, ?_, ?_, ?_, trivial⟩
  · intro vals w ρ hB hd ho hp
    have o2 : ρ (.tmp 2) = _ := ho.1 rfl
    have c0 := (hbx.below hB).c0
    have c1 := (hbx.below hB).c1
    simp only [Gives, execOp, o2]
    simp [GivesR, go_sem, c0, c1]
    exact .same hB rfl
  · intro vals w ρ hB hd ho hp
    simp only [Gives, execOp]
    simp [GivesR, go_sem]
    exact .more hM ((Below.refl _ _).alloc (Nat.le_refl _) _) (hB.alloc hB.size _) ⟨⟨_, rfl⟩, own_emptyS w _ _ rfl hB.size⟩
  · intro vals w ρ hB hd ho hp
    have o6 : ρ (.tmp 6) = _ := ho.2.1 rfl
    simp only [Gives, execOp, o6]
    simp [GivesR, go_sem]
    exact .same hB rfl
  · intro vals w ρ hB hd ho hp
    obtain ⟨⟨f1, e1⟩, ⟨f2, e2⟩, -⟩ := (⟨hd.1 rfl, hd.2.1 rfl, hd.2.2⟩ : _ ∧ _ ∧ _)
    have e1 : ρ (.tmp 67) = vals 1 := e1 _ rfl
    have e2 : ρ (.tmp 68) = vals 2 := e2 _ rfl
    obtain ⟨⟨b, f1⟩, f1'⟩ : (∃ b, vals 1 = .slice (some ⟨b, 0, none⟩) 0 0) ∧ w.ownsRow _ _ _ (vals 1) _ _ := f1 (Or.inr rfl)
    have f2 : vals 2 = _ := f2 (Or.inl rfl)
    rw [f2] at e2
    refine gives_made_st _ _ rfl _ b _ e1 f1 f1' _ _ _ ts e2 (hrs.below hB) (by omega) hB.size fun v' w' h1 h2 => ?_
    exact .more hM h2 (hB.trans (h2.mono hB.size)) h1
  · intro vals w ρ hB hd ho hp
    have o10 : ρ (.tmp 10) = _ := ho.2.2.1 rfl
    simp only [Gives, execOp, o10]
    simp [GivesR, go_sem]
    exact .same hB rfl
  · intro vals w ρ hB hd ho hp
    obtain ⟨⟨f4, e4⟩, -⟩ := (⟨hd.1 rfl, hd.2⟩ : _ ∧ _)
    have e4 : ρ (.tmp 70) = vals 4 := e4 _ rfl
    have f4 : vals 4 = _ := f4 (Or.inl rfl)
    rw [f4] at e4
    simp only [Gives, execOp, List.map_toArray, List.map_cons, List.map_nil, e4, hp.1]
    simp [GivesR, go_sem]
    exact .same hB rfl
  · intro vals w ρ hB hd ho hp
    obtain ⟨⟨f5, e5⟩, -⟩ := (⟨hd.1 rfl, hd.2⟩ : _ ∧ _)
    have e5 : ρ (.tmp 71) = vals 5 := e5 _ rfl
    have f5 : vals 5 = _ := f5 (Or.inl rfl)
    rw [f5] at e5
    simp only [Gives, execOp, List.map_toArray, List.map_cons, List.map_nil, e5]
    simp [GivesR, go_sem]
    exact .more hM ((Below.refl _ _).alloc (Nat.le_refl _) _) (hB.alloc hB.size _) ⟨_, rfl, RS.lit w [⟨y, -1⟩] 1 _ rfl rfl (by omega)⟩
  · intro vals w ρ hB hd ho hp
    obtain ⟨⟨f3, e3⟩, ⟨f6, e6⟩, -⟩ := (⟨hd.1 rfl, hd.2.1 rfl, hd.2.2⟩ : _ ∧ _ ∧ _)
    have e3 : ρ (.tmp 69) = vals 3 := e3 _ rfl
    have e6 : ρ (.tmp 72) = vals 6 := e6 _ rfl
    have f3 : w.ownsRow _ _ _ (vals 3) _ _ := f3 (Or.inr rfl)
    obtain ⟨b6, f6, f6'⟩ : ∃ b, vals 6 = _ ∧ RS w _ _ _ _ := f6 (Or.inr rfl)
    rw [f6] at e6
    refine gives_append_st _ _ rfl _ _ n ts e3 f3 _ _ _ [⟨y, -1⟩] e6 f6' (by omega) hB.size fun v' w' h1 h2 => ?_
    have hB' : Below W.heap.size W w' := hB.grown h2 hB.size (fun g hg => (own_lt f3 hg).1)
    obtain ⟨A', c', rfl⟩ := own_form h1
    refine ⟨hB', ⟨A', c', rfl, RS.of_own h1 (by omega)⟩, fun j u k1 k2 k3 k4 h => ?_⟩
    match j, h with
    | 0, h => exact h
    | 1, h => cases k4 3 rfl
    | 2, h => exact h
    | 3, h => exact absurd rfl k2
    | 4, h => exact h
    | 5, h => exact h
    | 6, h => exact absurd rfl k2
    | 7, h => exact absurd rfl k1
    | 8, h => cases k3
    | 9, h => cases k3
    | 10, h => cases k3
    | 11, h => exact h
    | 12, h => exact h
    | 13, h => cases k3
    | 14, h => exact h
    | n + 15, h => trivial
  · intro vals w ρ hB hd ho hp
    obtain ⟨⟨f0, e0⟩, ⟨f7, e7⟩, -⟩ := (⟨hd.1 rfl, hd.2.1 rfl, hd.2.2⟩ : _ ∧ _ ∧ _)
    have e0 : ρ (.tmp 66) = vals 0 := e0 _ rfl
    have e7 : ρ (.tmp 73) = vals 7 := e7 _ rfl
    have f0 : vals 0 = _ := f0 (Or.inl rfl)
    obtain ⟨A7, c7, f7, f7'⟩ : ∃ A' c', vals 7 = _ ∧ RS w _ _ _ _ := f7 (Or.inl rfl)
    rw [f0] at e0
    rw [f7] at e7
    refine gives_call 27 _ _ rfl enters27 hp ?_
    simp only [List.map_toArray, List.map_cons, List.map_nil, e0, e7]
    refine (hcall A7 c7 w hB f7').mono fun e w' hpd => ?_
    obtain ⟨A8, c8, rfl, hr8, hb8⟩ := hpd
    exact ⟨_, rfl, .more hM hb8 (hB.trans (hb8.mono hB.size)) ⟨A8, c8, rfl, hr8⟩⟩
  · intro vals w ρ hB hd ho hp
    obtain ⟨⟨f8, e8⟩, -⟩ := (⟨hd.1 rfl, hd.2⟩ : _ ∧ _)
    have e8 : ρ (.tmp 74) = vals 8 := e8 _ rfl
    obtain ⟨A8, c8, f8, f8'⟩ : ∃ A' c', vals 8 = _ ∧ RS w _ _ _ _ := f8 (Or.inl rfl)
    rw [f8] at e8
    simp only [Gives, execOp, e8]
    simp [GivesR, go_sem]
    exact .same hB ⟨_, _, rfl, f8'⟩
  · intro vals w ρ hB hd ho hp
    obtain ⟨⟨f8, e8⟩, -⟩ := (⟨hd.1 rfl, hd.2⟩ : _ ∧ _)
    have e8 : ρ (.tmp 65) = vals 9 := e8 _ rfl
    obtain ⟨A8, c8, f8, f8'⟩ : ∃ A' c', vals 9 = _ ∧ RS w _ _ _ _ := f8 (Or.inl rfl)
    rw [f8] at e8
    simp only [Gives, execOp, e8]
    simp [GivesR, go_sem]
    exact .same hB ⟨_, _, rfl, f8'⟩
  · intro vals w ρ hB hd ho hp
    obtain ⟨⟨f8, e8⟩, -⟩ := (⟨hd.1 rfl, hd.2⟩ : _ ∧ _)
    have e8 : ρ (.tmp 65) = vals 9 := e8 _ rfl
    obtain ⟨A8, c8, f8, f8'⟩ : ∃ A' c', vals 9 = _ ∧ RS w _ _ _ _ := f8 (Or.inl rfl)
    rw [f8] at e8
    simp only [Gives, execOp, e8]
    simp [GivesR, go_sem]
    exact .same hB rfl
  · intro vals w ρ hB hd ho hp
    obtain ⟨⟨f8, e8⟩, -⟩ := (⟨hd.1 rfl, hd.2⟩ : _ ∧ _)
    have e8 : ρ (.tmp 65) = vals 9 := e8 _ rfl
    obtain ⟨A8, c8, f8, f8'⟩ : ∃ A' c', vals 9 = _ ∧ RS w _ _ _ _ := f8 (Or.inl rfl)
    rw [f8] at e8
    simp only [Gives, execOp, e8]
    simp [GivesR, go_sem]
    exact .same hB rfl
  · intro vals w ρ hB hd ho hp
    obtain ⟨⟨f8, e8⟩, -⟩ := (⟨hd.1 rfl, hd.2⟩ : _ ∧ _)
    have e8 : ρ (.tmp 75) = vals 10 := e8 _ rfl
    obtain ⟨A8, c8, f8, f8'⟩ : ∃ A' c', vals 10 = _ ∧ RS w _ _ _ _ := f8 (Or.inl rfl)
    rw [f8] at e8
    simp only [Gives, execOp, e8]
    simp [GivesR, go_sem]
    exact .same hB ⟨_, _, rfl, f8'⟩
  · intro vals w ρ hB hd ho hp
    obtain ⟨⟨f8, e8⟩, -⟩ := (⟨hd.1 rfl, hd.2⟩ : _ ∧ _)
    have e8 : ρ (.tmp 76) = vals 11 := e8 _ rfl
    have f8 : vals 11 = _ := f8 (Or.inl rfl)
    rw [f8] at e8
    simp only [Gives, execOp, e8]
    simp [GivesR, go_sem]
    exact .same hB rfl
end

end Go.Proofs.Ytenpenelikpeeaa

namespace Go.Proofs.Ytenpenelikpeeaa
open Go.RowKit Go.Shelf
set_option linter.unusedVariables false
set_option linter.unusedSimpArgs false

set_option maxRecDepth 100000 in
set_option maxHeartbeats 8000000 in
theorem unit_any (x : Int) (A : Option Addr) (n c : Nat) (ls : List (List Int)) (Al : Option Addr) (nl cl : Nat) (l : List Int) (w : World) (h : RL w A n c ls) (hl : RI w Al nl cl l) (hc : checkE x ls = 0) (hb : ∀ y ∈ l, isB y x = true) (hN : NoClo ls l) (hn : n ≤ 50) (h12 : ∀ l ∈ ls, l.length ≤ 12) (hnl : nl ≤ 1000) :
    Calls Try.prog 25 #[.agg #[.int .i64 x, .slice A n c], .slice Al nl cl] w fun e w' => e = .returned (.bool true) ∧ Below w.heap.size w w' := by
  have H := Lib.hid h
  have HL := Lib.hid hl
  have HC := Lib.hid hc
  have HBd := Lib.hid hb
  have HN := Lib.hid hN
  have H12 := Lib.hid h12
  have HLL := Lib.hid hl.len
  have BX := Lib.hid (Two.new w (.int .i64 x) (.slice A n c))
  have HB0 := Lib.hid (below1 w (.cells #[.int .i64 x, .slice A n c] 24))
  have HB1 := Lib.hid (HB0.out.alloc HB0.out.size (.cells #[] 41))
  have BX1 := Lib.hid (BX.out.below ((Below.refl _ _).alloc (Nat.le_refl _) (.cells #[] 41)))
  have hxb := checkE_n hc
  clear h hl hc hb hN h12
  go_enter Try.func25, Try.ntmps25
  go_wp2
  obtain ⟨W1, hW1⟩ : ∃ W1, (w.alloc (.cells #[.int .i64 x, .slice A n c] 24)).alloc (.cells #[] 41) = W1 := ⟨_, rfl⟩
  rw [hW1] at HB1 BX1
  rw [hW1]
  clear hW1
  go_loopw [5, 6] (fun s5 s6 W => ∃ (k : Nat) (At : Option Addr) (kt ct : Nat) (ts : List Stp), k ≤ nl ∧ s6 = .int .i64 k ∧ s5 = .slice At kt ct ∧ RS W At kt ct ts ∧ propE x ls ts = 0 ∧ NegTo l k ts ∧ Below W1.heap.size W1 W) (fun _ i _ => nl - (intOf i).toNat)
  case atStart => exact ⟨0, _, _, _, [], Nat.zero_le _, rfl, rfl, RS.nil _ _ _ (by unfold maxLen; omega), by unfold propE; rw [if_neg (by simpa using HC.out), if_pos (show trailB x ls [] = true from rfl)], fun y hy => by simp at hy, Below.refl _ _⟩
  case round =>
    obtain ⟨k, At, kt, ct, ts, hk, rfl, rfl, hrs, hpe, hneg, hbW⟩ := hrel
    obtain ⟨W2, hw2, eW⟩ : ∃ W2, (RS W2 At kt ct ts ∧ Below W1.heap.size W1 W2) ∧ W2 = _ := ⟨_, ⟨hrs, hbW⟩, rfl⟩
    subst eW
    have HS2 := Lib.hid hw2.1
    have HW2 := Lib.hid hw2.2
    have HB2 := Lib.hid (bthen HB1.out hw2.2)
    have BX2 := Lib.hid (BX1.out.below hw2.2)
    have HPE := Lib.hid hpe
    have HNEG := Lib.hid hneg
    have hkt : kt ≤ 65536 := by rw [← hw2.1.len]; have := trail_len hxb.1 (propE_zero hpe).2; omega
    have t0 := BX2.out.c0
    have t1 := BX2.out.c1
    obtain ⟨rp, hrp⟩ : ∃ rp, propT x ls ts = rp := ⟨_, rfl⟩
    obtain ⟨r1, hr1⟩ : ∃ r1, rp.1 = r1 := ⟨_, rfl⟩
    obtain ⟨xs, hxs⟩ : ∃ xs, rp.2.ts = xs := ⟨_, rfl⟩
    obtain ⟨kx, hkx⟩ : ∃ kx, xs.length = kx := ⟨_, rfl⟩
    have hF := prop_fixed hpe
    rw [hrp] at hF
    have htx := hF.tr
    have hmx := hF.more
    rw [hxs] at htx hmx
    have hkx1 : kx ≤ 65536 := by rw [← hkx]; have := trail_len hxb.1 htx; omega
    have HRP := Lib.hid (And.intro hrp (And.intro hr1 (And.intro hxs hkx)))
    have HTX := Lib.hid htx
    have HMX := Lib.hid hmx
    have XB := Lib.hid (lits_bound (trail_tr htx) hxb.2)
    have HPX : Hid (propE x ls xs = 0) := Lib.hid (by unfold propE; rw [if_neg (by simpa using HC.out), if_pos htx])
    clear hrs hpe hneg hbW hw2 hrp hr1 hxs hkx hF htx hmx
    by_cases hlt : k < nl
    · have hll : k < l.length := by rw [HLL.out]; exact hlt
      obtain ⟨y, hy⟩ : ∃ y, elt l k = y := ⟨_, rfl⟩
      have hyb := HBd.out y (by rw [← hy]; exact elt_mem hll)
      have hyi := isB_iff.1 hyb
      obtain ⟨b4, o4, hAl, hb4l, hc4⟩ := (HL.out.below HB2.out).cells (by omega)
      have e4 := hc4 k hlt
      rw [hy] at e4
      have HE4 := Lib.hid e4
      have HY := Lib.hid (And.intro hll (And.intro hy hyb))
      have hAl2 := hAl
      subst hAl2
      clear hc4 hll hy hyb e4 hAl
      go_upto_region 8 with (go_at_call 27; refine (prop_ok x A n c ls At kt ct ts _ (H.out.below HB2.out) HS2.out HPE.out (by omega) (by omega) (fun l hl => Nat.le_trans (H12.out l hl) (by omega))).mono ?_; rintro e w3 hpd; obtain ⟨Ax, cx, rfl, hrx, hb3⟩ := hpd.named HRP.out; have HW3 := Lib.hid (bthen HW2.out hb3); have HX3 := Lib.hid hrx; have e4 := (hb3.cell (p := ⟨b4, o4 + k, none⟩) hb4l).trans HE4.out; have hl3 := Nat.lt_of_lt_of_le hb4l hb3.size; clear hpd hrx hb3)
      clear t0 t1
      cases r1 with
      | some i1 =>
        have d9 : decide ((0 : Int) ≤ cfl (some i1)) = true := by rw [decide_eq_true_iff]; simp [cfl]
        obtain ⟨ci, hci⟩ : ∃ ci, cfl (some i1) = ci := ⟨_, rfl⟩
        rw [hci] at d9 ⊢
        clear hci
        go_quiet (fail)
        go_wp2
        go_ret
        exact ⟨rfl, bthen HB1.out (bthen HW3.out (drewN_below _ _))⟩
      | none =>
        have d9 : decide ((0 : Int) ≤ cfl none) = false := by rw [decide_eq_false_iff_not]; simp [cfl]
        obtain ⟨ci, hci⟩ : ∃ ci, cfl none = ci := ⟨_, rfl⟩
        rw [hci] at d9 ⊢
        obtain ⟨v2, hv2⟩ : ∃ v2, lvlT (flipT xs) y = v2 := ⟨_, rfl⟩
        have V2 := Lib.hid hv2
        clear hci hv2
        have e4' : w3.drew.cell? ⟨b4, o4 + k, none⟩ = some (.int .i64 y) := e4
        go_cut [40] (fun s40 W => s40 = .bool (decide (0 ≤ v2)) ∧ Below w3.heap.size w3 W)
        case first =>
          go_region_held3 (fun w' => w'.cell? ⟨b4, o4 + k, none⟩ = some (.int .i64 y)) (go_keep) (first
            | (go_at_call 29; refine (flip_any Ax kx cx xs _ (HX3.out.below ((Below.refl _ _).drew)) (by omega) XB.out).mono ?_; rintro e w8 ⟨A8, c8, rfl, hr8, hb8⟩; have HR8 := Lib.hid hr8; have HW8 : Hid (Below w3.heap.size w3 w8) := Lib.hid (bthen ((Below.refl _ _).drew) hb8); have e8 := (hb8.cell (p := ⟨b4, o4 + k, none⟩) hl3).trans e4; have hl8 := Nat.lt_of_lt_of_le hl3 hb8.size; clear hr8 hb8)
            | (go_at_call 19; refine (lev_val v2 A8 kx c8 (flipT xs) y _ HR8.out (by omega) (by omega) (by omega) V2.out).mono ?_; rintro e w9 ⟨rfl, hb9⟩; have HW9 := Lib.hid (bthen HW8.out hb9); have e9 := (hb9.cell (p := ⟨b4, o4 + k, none⟩) hl8).trans e8; clear hb9))
          all_goals
            go_wp2_with fail
            go_meet
            exact ⟨rfl, HW9.out⟩
        case rest =>
          obtain ⟨rfl, hb9⟩ := hcut
          have HW9 := Lib.hid (bthen HW3.out hb9)
          have HX9 := Lib.hid (HX3.out.below hb9)
          have e9 := (hb9.cell (p := ⟨b4, o4 + k, none⟩) hl3).trans e4
          have hl9 := Nat.lt_of_lt_of_le hl3 hb9.size
          clear hb9 e4 e4'
          by_cases hv : 0 ≤ v2
          · have dv2 : decide (0 ≤ v2) = true := by rw [decide_eq_true_iff]; exact hv
            go_wp2
            go_ret
            exact ⟨rfl, bthen HB1.out HW9.out⟩
          · have dv2 : decide (0 ≤ v2) = false := by rw [decide_eq_false_iff_not]; exact hv
            have hnot : hasB (litsOf xs) y = false := lvl_flip.1 (by rw [V2.out]; omega)
            have HNOT := Lib.hid hnot
            obtain ⟨v, hv1⟩ : ∃ v, lvlT xs y = v := ⟨_, rfl⟩
            have V := Lib.hid hv1
            clear hnot hv1
            go_upto_if 48 with (go_at_call 19; refine (lev_val v Ax kx cx xs y _ HX9.out (by omega) (by omega) (by omega) V.out).mono ?_; rintro e w10 ⟨rfl, hb10⟩; have HW10 := Lib.hid (bthen HW9.out hb10); have HX10 := Lib.hid (HX9.out.below hb10); have e10 := (hb10.cell (p := ⟨b4, o4 + k, none⟩) hl9).trans e9; have hl10 := Nat.lt_of_lt_of_le hl9 hb10.size; clear hb10)
            by_cases hv0 : v < 0
            · have dv : decide (v < 0) = true := by rw [decide_eq_true_iff]; exact hv0
              have hneg2 : hasB (litsOf xs) (-y) = false := lvl_neg.1 (by rw [V.out]; exact hv0)
              have HTR := Lib.hid (trail_decide HTX.out (y := -y) (by rw [isB_iff]; omega) hneg2 (by rw [Int.neg_neg]; exact HNOT.out))
              have ST := Lib.hid (stepsU w10 Ax kx cx xs b4 o4 nl cl k y HX10.out (by omega) hlt (by omega) e10 hl10 (by omega) (by omega) : StepsOk _ _ _ _ _ (GU w10 Ax kx cx xs b4 o4 nl cl k y) _ _ _)
              have HD10 : Hid (Below w10.heap.size w10 w10.drew) := Lib.hid ((Below.refl _ _).drew)
              go_upto_region 12 with fail
              refine wp_region_facts (regAt Try.f25 12) 11 73 _ _ [(5, .slice Ax kx cx), (1, .slice (some ⟨b4, o4, none⟩) nl cl), (6, .int .i64 k)] _ (GU w10 Ax kx cx xs b4 o4 nl cl k y) _ (by kernel_rfl) (by kernel_rfl) (by kernel_rfl) (by kernel_rfl) (by kernel_rfl) (by decide +kernel) (by decide +kernel) (by decide +kernel) (by decide +kernel) (by decide +kernel) (by rfl) ⟨rfl, rfl, rfl, trivial⟩ HD10.out ST.out _ (by rfl) ?_
              intro vals w11 hB11 hG11 a' ha'
              obtain ⟨A9, c9, f10, g10⟩ : ∃ A' c', vals 10 = .slice A' (kx + 1) c' ∧ RS w11 A' (kx + 1) c' (xs ++ [(⟨-y, -1⟩ : Stp)]) := (hG11 10 (by omega) rfl :)
              simp only [putsL, Act.put, List.take, f10] at ha'
              subst ha'
              have HR9 := Lib.hid g10
              have HW11 := Lib.hid (bthen HW10.out hB11)
              clear g10 hB11 hG11
              simp only [Gives, execOp]
              simp [GivesR, go_sem, Act.eval, Act.put]
              go_wp2
              go_roundw
              case rel =>
                refine ⟨k + 1, A9, kx + 1, c9, _, by omega, by go_num, rfl, HR9.out, ?_, ?_, HW11.out⟩
                · unfold propE; rw [if_neg (by simpa using HC.out), if_pos HTR.out]
                · refine ((HNEG.out.more HMX.out).more ⟨_, rfl⟩).succ HY.out.1 ?_
                  rw [HY.out.2.1, hasB_iff, litsOf_snoc]; simp
              case measure => simp [intOf]; omega
            · have dv : decide (v < 0) = false := by rw [decide_eq_false_iff_not]; exact hv0
              go_wp2
              go_roundw
              case rel =>
                refine ⟨k + 1, Ax, kx, cx, xs, by omega, by go_num, rfl, HX10.out, HPX.out, (HNEG.out.more HMX.out).succ HY.out.1 ?_, HW10.out⟩
                rw [HY.out.2.1]
                cases hq : hasB (litsOf xs) (-y) with
                | true => rfl
                | false => exact absurd (lvl_neg.2 hq) (by rw [V.out]; exact hv0)
              case measure => simp [intOf]; omega
    · obtain rfl : k = nl := by omega
      obtain ⟨i1, hi1⟩ := rup_end (x := x) HN.out HPE.out (by rw [HLL.out]; exact HNEG.out)
      rw [HRP.out.1, HRP.out.2.1] at hi1
      subst hi1
      have d9 : decide ((0 : Int) ≤ cfl (some i1)) = true := by rw [decide_eq_true_iff]; simp [cfl]
      obtain ⟨ci, hci⟩ : ∃ ci, cfl (some i1) = ci := ⟨_, rfl⟩
      rw [hci] at d9
      have HCI := Lib.hid hci
      clear hci
      go_wp2_with (go_at_call 27; refine (prop_ok x A n c ls At kt ct ts _ (H.out.below HB2.out) HS2.out HPE.out (by omega) (by omega) (fun l hl => Nat.le_trans (H12.out l hl) (by omega))).mono ?_; rintro e w3 hpd; obtain ⟨Ax, cx, rfl, hrx, hb3⟩ := hpd.named HRP.out; rw [HCI.out]; have HW3 := Lib.hid (bthen HW2.out hb3); clear hpd hrx hb3)
      go_ret
      exact ⟨rfl, bthen HB1.out HW3.out⟩

end Go.Proofs.Ytenpenelikpeeaa
