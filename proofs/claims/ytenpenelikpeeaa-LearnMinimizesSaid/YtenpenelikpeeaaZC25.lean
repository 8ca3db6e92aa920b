/-
  The region of LearnBackjump that makes the formula with one clause more. No condition.
  The law LearnBackjump returns true. No condition.
  Minimization once more: what Less makes of its own result, and what unit propagation makes of what it removed. No program in sight. No condition.
-/
import Derived.Test.YtenpenelikpeeaaZC24
import Derived.Test.YtenpenelikpeeaaZC20
import Derived.Test.YtenpenelikpeeaaZC22
import Derived.Test.YtenpenelikpeeaaZC23

namespace Go.Proofs.Ytenpenelikpeeaa
open Go.RowKit Go.Shelf
set_option linter.unusedVariables false
set_option linter.unusedSimpArgs false

/-- the facts of the region that makes the longer formula -/
def G19 (b0 : Nat) (W : World) (x : Int) (A : Option Addr) (n c : Nat) (rs : List Row) (r4 : Row) (j : Nat) (v : Value) (w : World) : Prop :=
  match j with
  | 0 => v = .pointer (some ⟨b0, 0, none⟩)
  | 1 => v = .int .i64 x
  | 2 => (∃ b, v = .slice (some ⟨b, 0, none⟩) 0 0) ∧ w.ownsRow W.heap.size 28 1 v 0 []
  | 3 => v = .pointer (some ⟨b0, 1, none⟩)
  | 4 => v = .slice A n c
  | 5 => w.ownsRow W.heap.size 28 1 v n (rs.map rowV)
  | 6 => v = rowV r4
  | 7 => ∃ b, v = .slice (some ⟨b, 0, none⟩) 1 1 ∧ RR w (some ⟨b, 0, none⟩) 1 1 [r4]
  | 8 => w.ownsRow W.heap.size 28 1 v (n + 1) ((rs ++ [r4]).map rowV)
  | 9 => ∃ u, v = .agg #[.int .i64 x, u] ∧ w.ownsRow W.heap.size 28 1 u (n + 1) ((rs ++ [r4]).map rowV)
  | 10 => ∃ b, v = .pointer (some ⟨b, 0, none⟩) ∧ W.heap.size ≤ b ∧ Two w b (.int .i64 0) (.slice none 0 0)
  | _ => True
def D19 (j : Nat) : Option Nat := match j with
  | 2 => some 5
  | 5 => some 8
  | 7 => some 8
  | _ => none
theorem G19.mono (b0 : Nat) (W : World) (x : Int) (A : Option Addr) (n c : Nat) (rs : List Row) (r4 : Row) (j : Nat) (u : Value) (w w' : World) (hb : Below w.heap.size w w') (h : G19 b0 W x A n c rs r4 j u w) : G19 b0 W x A n c rs r4 j u w' := by
  match j, h with
  | 0, h => exact h
  | 1, h => exact h
  | 2, h => exact ⟨h.1, own_below h.2 hb⟩
  | 3, h => exact h
  | 4, h => exact h
  | 5, h => exact own_below h hb
  | 6, h => exact h
  | 7, h => obtain ⟨b, h1, h2⟩ := h; exact ⟨b, h1, h2.below hb⟩
  | 8, h => exact own_below h hb
  | 9, h => obtain ⟨b, h1, h2⟩ := h; exact ⟨b, h1, own_below h2 hb⟩
  | 10, h => obtain ⟨b, h1, h2, h3⟩ := h; exact ⟨b, h1, h2, h3.below hb⟩
  | n + 11, h => trivial
/-- an append onto a row that has just been made empty -/
theorem gives_append_zero {w : World} {ρ : Operand → Value} {o : Oper} {post : Value → World → Prop} (s x : Operand) (ho : o.op = .call { callee := .builtin .append, args := #[s, x], argTypes := #[22, 22] }) (base : Nat) (v : Value) (b : Nat) (hs : ρ s = v) (hv : v = .slice (some ⟨b, 0, none⟩) 0 0) (hown : w.ownsRow base 28 1 v 0 [])
    (A : Option Addr) (m c : Nat) (rs : List Row) (hx : ρ x = .slice A m c) (hr : RR w A m c rs) (hbytes : m * 24 ≤ 140737488355328) (hbase : base ≤ w.heap.size)
    (h : ∀ v' w', w'.ownsRow base 28 1 v' m (rs.map rowV) → Below w.heap.size w w' → post v' w') : Gives Try.prog ρ o w post := by
  subst hv
  have key : ∃ v' w', (Builtin.append_ #[22, 22] o.type #[.slice (some ⟨b, 0, none⟩) 0 0, .slice A m c]).run Try.prog w = .ok v' w' ∧ w'.ownsRow base 28 1 v' m (rs.map rowV) ∧ Below w.heap.size w w' := by
    obtain ⟨i0, hi, hz0, hz1, hz2⟩ := info_parts infoRow
    by_cases hm : m = 0
    · subst hm
      have hz : rs = [] := List.eq_nil_of_length_eq_zero hr.len
      subst hz
      cases A with
      | none => exact ⟨_, w, run_append_none Try.underlying22 w base o.type i0 hi _ 0 1 _ hown c, hown, Below.refl _ _⟩
      | some ad =>
        have := run_append_room_cells (P := Try.prog) w 22 o.type 28 i0 Try.underlying22 hi b 0 0 0 ad 0 c [] (by simp) (by simp) (by simp) (Nat.le_refl _) (by simp) (by simp)
        exact ⟨_, _, this, hown, Below.refl _ _⟩
    · obtain ⟨b1, off, rfl, _, hc⟩ := hr.cells (by omega)
      obtain ⟨v', w', h1, h2, h3⟩ := run_append_arg_grows (P := Try.prog) w 22 o.type 28 i0 (.slice none 0 0) 1 24 Try.underlying22 hi hz0 hz1 hz2 rfl (by decide) ⟨b, 0, none⟩ 0 0 [] rfl (by simp) ⟨b1, off, none⟩ m c (rs.map rowV) (by simp [hr.len]) (fun j u hj => by rw [Addr.add_lit]; exact hc j u hj) (by omega) (by unfold maxLen; omega) (by omega)
      rw [Nat.zero_add] at h2
      refine ⟨v', w', h1, ?_, ⟨h3.os, h3.tape, h3.output, h3.size, fun k hk => h3.block k hk (by simp)⟩⟩
      exact ⟨h2.1, h2.2.imp id fun ⟨g, cap, cur, e1, e2, e3⟩ => ⟨g, cap, cur, e1, Nat.le_trans hbase e2, e3⟩⟩
  obtain ⟨v', w', h1, h2, h3⟩ := key
  unfold Gives
  simp only [execOp, ho, resolve, invoke, builtin, Sem.run_bind, Sem.run_pure, Result.andThen_ok, List.map_toArray, List.map_cons, List.map_nil, hs, hx, h1, GivesR]
  exact h v' w' h2 h3
theorem gives_append_rr {w : World} {ρ : Operand → Value} {o : Oper} {post : Value → World → Prop} (s x : Operand) (ho : o.op = .call { callee := .builtin .append, args := #[s, x], argTypes := #[22, 22] }) (base : Nat) (v : Value) (n : Nat) (xs : List Row) (hs : ρ s = v) (hown : w.ownsRow base 28 1 v n (xs.map rowV))
    (A : Option Addr) (m c : Nat) (rs : List Row) (hx : ρ x = .slice A m c) (hr : RR w A m c rs) (hbytes : (n + m) * 24 ≤ 140737488355328) (hbase : base ≤ w.heap.size)
    (h : ∀ v' w', Appd w base 28 v (n + m) ((xs ++ rs).map rowV) v' w' → post v' w') : Gives Try.prog ρ o w post := by
  obtain ⟨v', w', h1, h2⟩ := run_append_rr w o.type base v n xs hown A m c rs hr hbytes hbase
  unfold Gives
  simp only [execOp, ho, resolve, invoke, builtin, Sem.run_bind, Sem.run_pure, Result.andThen_ok, List.map_toArray, List.map_cons, List.map_nil, hs, hx, h1, GivesR]
  exact h v' w' h2
/-- a row of one row, as made for an append -/
theorem RR.one {w : World} {r : Row} (h : RI w r.A r.n r.c r.zs) : RR (w.alloc (.cells #[rowV r] 28)) (some ⟨w.heap.size, 0, none⟩) 1 1 [r] := by
  refine ⟨rfl, Nat.le_refl _, by omega, by unfold maxLen; omega, fun _ => ⟨_, _, rfl, by simp, fun j u hj => ?_⟩, fun r' hr' => ?_⟩
  · match j, hj with
    | 0, hj =>
      simp only [List.map_cons, List.map_nil, List.getElem?_cons_zero, Option.some.injEq] at hj
      subst hj
      have e : (w.alloc (.cells #[rowV r] 28)).heap[w.heap.size]? = _ := heap_alloc_new w _
      show (match (w.alloc (.cells #[rowV r] 28)).heap[w.heap.size]? with | some (.cells c _ _) => c[0 + 0]? | _ => none) = _
      rw [e]; rfl
  · rw [List.mem_singleton.1 hr']
    exact h.alloc _

set_option maxRecDepth 100000 in
theorem steps19 (b0 : Nat) (W : World) (x : Int) (A : Option Addr) (n c : Nat) (rs : List Row) (r4 : Row) (hb0 : Two W b0 (.int .i64 x) (.slice A n c)) (hrr : RR W A n c rs) (h4 : RI W r4.A r4.n r4.c r4.zs) (hn : n ≤ 1000) :
    StepsOk Try.prog [some 69, some 70, some 71, some 72, some 73, some 74, some 75, some 76, some 77, some 78, some 14, none] [[], [0], [], [], [3], [2, 4], [], [6], [5, 7, 5], [1, 8], [], [10, 9, 8, 0, 1, 2, 3, 4, 5, 6, 7, 8, 9, 10]] [(3, .pointer (some ⟨b0, 0, none⟩)), (7, rowV r4)]
      (fun w' => Below W.heap.size W w') (G19 b0 W x A n c rs r4) D19 0 ((regAt Try.f10 19).take 11) := by
  refine ⟨?_, ?_, ?_, ?_, ?_, ?_, ?_, ?_, ?_, ?_, ?_, trivial⟩
  · intro vals w ρ hB hd ho hp
    obtain ⟨o3, o7, -⟩ := ho
    have o3 := o3 rfl
    have o7 := o7 rfl
    dsimp only at o3 o7
    simp only [Gives, execOp, o3]
    simp [GivesR, go_sem]
    exact .same hB rfl
  · intro vals w ρ hB hd ho hp
    obtain ⟨⟨f0, e0⟩, -⟩ := (⟨hd.1 rfl, hd.2⟩ : _ ∧ _)
    have e0 := e0 _ rfl
    have f0 : vals 0 = _ := f0 (Or.inl rfl)
    rw [f0] at e0
    have hc := (hb0.below hB).c0
    simp only [Gives, execOp, e0]
    simp [GivesR, go_sem, hc]
    exact .same hB rfl
  · intro vals w ρ hB hd ho hp
    simp only [Gives, execOp]
    simp [GivesR, go_sem]
    exact .more (G19.mono b0 W x A n c rs r4) ((Below.refl _ _).alloc (Nat.le_refl _) _) (hB.alloc hB.size _) ⟨⟨_, rfl⟩, own_empty w _ _ 28 rfl hB.size⟩
  · intro vals w ρ hB hd ho hp
    obtain ⟨o3, o7, -⟩ := ho
    have o3 := o3 rfl
    have o7 := o7 rfl
    dsimp only at o3 o7
    simp only [Gives, execOp, o3]
    simp [GivesR, go_sem]
    exact .same hB rfl
  · intro vals w ρ hB hd ho hp
    obtain ⟨⟨f0, e0⟩, -⟩ := (⟨hd.1 rfl, hd.2⟩ : _ ∧ _)
    have e0 := e0 _ rfl
    have f0 : vals 3 = _ := f0 (Or.inl rfl)
    rw [f0] at e0
    have hc := (hb0.below hB).c1
    simp only [Gives, execOp, e0]
    simp [GivesR, go_sem, hc]
    exact .same hB rfl
  · intro vals w ρ hB hd ho hp
    obtain ⟨⟨f2, e2⟩, ⟨f4, e4⟩, -⟩ := (⟨hd.1 rfl, hd.2.1 rfl, hd.2.2⟩ : _ ∧ _ ∧ _)
    have e2 : ρ (.tmp 71) = vals 2 := e2 _ rfl
    have e4 : ρ (.tmp 73) = vals 4 := e4 _ rfl
    obtain ⟨⟨b, f2⟩, f2'⟩ : (∃ b, vals 2 = .slice (some ⟨b, 0, none⟩) 0 0) ∧ w.ownsRow _ _ _ (vals 2) _ _ := f2 (Or.inr rfl)
    have f4 : vals 4 = _ := f4 (Or.inl rfl)
    rw [f4] at e4
    refine gives_append_zero _ _ rfl _ _ b e2 f2 f2' _ _ _ rs e4 (hrr.below hB) (by omega) hB.size fun v' w' h1 h2 => ?_
    exact .more (G19.mono b0 W x A n c rs r4) h2 (hB.trans (h2.mono hB.size)) h1
  · intro vals w ρ hB hd ho hp
    obtain ⟨o3, o7, -⟩ := ho
    have o3 := o3 rfl
    have o7 := o7 rfl
    dsimp only at o3 o7
    simp only [Gives, execOp, o7]
    simp [GivesR, go_sem]
    exact .same hB rfl
  · intro vals w ρ hB hd ho hp
    obtain ⟨⟨f6, e6⟩, -⟩ := (⟨hd.1 rfl, hd.2⟩ : _ ∧ _)
    have e6 : ρ (.tmp 75) = vals 6 := e6 _ rfl
    have f6 : vals 6 = _ := f6 (Or.inl rfl)
    rw [f6] at e6
    simp only [Gives, execOp, List.map_toArray, List.map_cons, List.map_nil, e6]
    simp [GivesR, go_sem, rowV]
    exact .more (G19.mono b0 W x A n c rs r4) ((Below.refl _ _).alloc (Nat.le_refl _) _) (hB.alloc hB.size _) ⟨_, rfl, RR.one (h4.below hB)⟩
  · intro vals w ρ hB hd ho hp
    obtain ⟨⟨f5, e5⟩, ⟨f7, e7⟩, -⟩ := (⟨hd.1 rfl, hd.2.1 rfl, hd.2.2⟩ : _ ∧ _ ∧ _)
    have e5 : ρ (.tmp 74) = vals 5 := e5 _ rfl
    have e7 : ρ (.tmp 76) = vals 7 := e7 _ rfl
    have f5 : w.ownsRow _ _ _ (vals 5) _ _ := f5 (Or.inr rfl)
    obtain ⟨b7, f7, f7'⟩ : ∃ b, vals 7 = _ ∧ RR w _ _ _ _ := f7 (Or.inr rfl)
    rw [f7] at e7
    refine gives_append_rr _ _ rfl _ _ n rs e5 f5 _ _ _ [r4] e7 f7' (by omega) hB.size fun v' w' hap => ?_
    have hB' : Below W.heap.size W w' := hB.grown hap.2.1 hB.size (fun g hg => (own_lt f5 hg).1)
    refine ⟨hB', hap.1, fun j u h1 h2 h3 h4 h => ?_⟩
    match j, h with
    | 0, h => exact h
    | 1, h => exact h
    | 2, h => cases h4 5 rfl
    | 3, h => exact h
    | 4, h => exact h
    | 5, h => exact absurd rfl h2
    | 6, h => exact h
    | 7, h => exact absurd rfl h2
    | 8, h => exact absurd rfl h1
    | 9, h => cases h3
    | 10, h =>
      obtain ⟨b, k1, k2, k3⟩ := h
      refine ⟨b, k1, k2, k3.kept hap.2.1 fun e => ?_⟩
      rcases own_ne_box f5 k3 (by decide) with e2 | e2
      · rw [e2] at e; cases e
      · exact e2 e.symm
    | n + 11, h => trivial
  · intro vals w ρ hB hd ho hp
    obtain ⟨⟨f1, e1⟩, ⟨f8, e8⟩, -⟩ := (⟨hd.1 rfl, hd.2.1 rfl, hd.2.2⟩ : _ ∧ _ ∧ _)
    have e1 : ρ (.tmp 70) = vals 1 := e1 _ rfl
    have e8 : ρ (.tmp 77) = vals 8 := e8 _ rfl
    have f1 : vals 1 = _ := f1 (Or.inl rfl)
    have f8 : w.ownsRow _ _ _ (vals 8) _ _ := f8 (Or.inl rfl)
    rw [f1] at e1
    obtain ⟨A8, c8, hA8⟩ := own_form f8
    rw [hA8] at e8 f8
    simp only [Gives, execOp, List.map_toArray, List.map_cons, List.map_nil, e1, e8]
    simp [GivesR, go_sem]
    exact .same hB ⟨_, rfl, f8⟩
  · intro vals w ρ hB hd ho hp
    simp only [Gives, execOp]
    simp [GivesR, go_sem]
    exact .more (G19.mono b0 W x A n c rs r4) ((Below.refl _ _).alloc (Nat.le_refl _) _) (hB.alloc hB.size _) ⟨_, rfl, hB.size, Two.new _ _ _⟩
end Go.Proofs.Ytenpenelikpeeaa

namespace Go.Proofs.Ytenpenelikpeeaa
open Go.RowKit Go.Shelf
set_option linter.unusedVariables false
set_option linter.unusedSimpArgs false

/-- level of a trail turned over -/
theorem lits_bound {x : Int} {ls : List (List Int)} {ts : List Stp} (h : Tr x ls ts) (hx : x ≤ 65536) : ∀ s ∈ ts, -65536 ≤ s.lit ∧ s.lit ≤ 65536 := fun s hs => by
  obtain ⟨k, hk, e⟩ := List.mem_iff_getElem.1 hs
  have h1 := isB_iff.1 (h.lit k hk)
  rw [stp_lt hk, e] at h1
  omega

theorem PropD.named {x : Int} {ls : List (List Int)} {ts : List Stp} {w : World} {e : Ending} {w' : World} {rp : Option Nat × PS} {r1 : Option Nat} {xs : List Stp} {kx : Nat} (h : PropD x ls ts w e w') (h1 : propT x ls ts = rp ∧ rp.1 = r1 ∧ rp.2.ts = xs ∧ xs.length = kx) :
    ∃ A' c', e = .returned (.tuple #[.slice A' kx c', .int .i64 (cfl r1), .int .i64 0]) ∧ RS w' A' kx c' xs ∧ Below w.heap.size w w' := by
  obtain ⟨rfl, rfl, rfl, rfl⟩ := h1
  exact h

set_option maxRecDepth 100000 in
set_option maxHeartbeats 8000000 in
theorem lawBackjump_any (x : Int) (A : Option Addr) (n c : Nat) (ls : List (List Int)) (A' : Option Addr) (n' c' : Nat) (ts : List Stp) (q : Int) (w : World) (h : RL w A n c ls) (h' : RS w A' n' c' ts) :
    Calls Try.prog 10 #[.agg #[.int .i64 x, .slice A n c], .slice A' n' c', .int .i64 q] w fun e w' => e = .returned (.bool true) ∧ Below w.heap.size w w' := by
  have H := Lib.hid h
  have H' := Lib.hid h'
  have BX := Lib.hid (Two.new w (.int .i64 x) (.slice A n c))
  have HB0 := Lib.hid (below1 w (.cells #[.int .i64 x, .slice A n c] 24))
  have HTS := Lib.hid h'.len
  have HLS := Lib.hid h.len
  clear h h'
  cases hf : fewB ls ts with
  | false =>
    have HF := Lib.hid hf
    clear hf
    go_enter Try.func10, Try.ntmps10
    go_wp2_with (first
      | (go_at_call 11; refine (live_any _).mono ?_; rintro e w1 ⟨rfl, hb⟩; have HB1 := Lib.hid (bthen HB0.out hb); have t0 := (BX.out.below hb).c0; have t1 := (BX.out.below hb).c1; clear hb)
      | (go_at_call 12; refine (lfew_val false x A n c ls A' n' c' ts _ (H.out.below HB1.out) (H'.out.below HB1.out) HF.out).mono ?_; rintro e w2 ⟨rfl, hb⟩; have HB2 := Lib.hid (bthen HB1.out hb); clear hb))
    go_ret
    exact ⟨rfl, HB2.out⟩
  | true =>
    obtain ⟨f1, f2, f3⟩ := few_facts hf
    have HF := Lib.hid hf
    have F1 := Lib.hid f1
    have hn30 : n' ≤ 30 := by rw [← HTS.out]; exact f3
    have hn50 : n ≤ 50 := by rw [← HLS.out]; exact f2
    clear hf f1 f2 f3
    by_cases hx : 1000 < x
    · have d1 : decide ((1000 : Int) < x) = true := by rw [decide_eq_true_iff]; omega
      go_enter Try.func10, Try.ntmps10
      go_wp2_with (first
        | (go_at_call 11; refine (live_any _).mono ?_; rintro e w1 ⟨rfl, hb⟩; have HB1 := Lib.hid (bthen HB0.out hb); have BX1 := Lib.hid (BX.out.below hb); have t0 := BX1.out.c0; have t1 := BX1.out.c1; clear hb)
        | (go_at_call 12; refine (lfew_val true x A n c ls A' n' c' ts _ (H.out.below HB1.out) (H'.out.below HB1.out) HF.out).mono ?_; rintro e w2 ⟨rfl, hb⟩; have HB2 := Lib.hid (bthen HB1.out hb); have t2 := (BX1.out.below hb).c0; clear hb))
      go_ret
      exact ⟨rfl, HB2.out⟩
    · have d1 : decide ((1000 : Int) < x) = false := by rw [decide_eq_false_iff_not]; exact hx
      by_cases hE : firstE x ls ts q = 0
      · obtain ⟨zs, hzs⟩ : ∃ zs, firstL x ls ts q = zs := ⟨_, rfl⟩
        obtain ⟨m, hm⟩ : ∃ m, zs.length = m := ⟨_, rfl⟩
        obtain ⟨bk, hbk⟩ : ∃ bk, firstB x ls ts q = bk := ⟨_, rfl⟩
        obtain ⟨L, hL⟩ : ∃ L, lastT ts = L := ⟨_, rfl⟩
        obtain ⟨us, hus⟩ : ∃ us, backT ts bk n' = us := ⟨_, rfl⟩
        obtain ⟨ku, hku⟩ : ∃ ku, us.length = ku := ⟨_, rfl⟩
        have hJ := jump_of hE (by have := HLS.out; omega)
        have hone := (asserting hE).1
        rw [hbk, HTS.out, hus, hzs] at hJ
        obtain ⟨j1, j2, j3, j4⟩ := hJ
        rw [hzs] at hone
        rw [hL] at j2 j3 j4 hone
        obtain ⟨rp, hrp⟩ : ∃ rp, propT x (ls ++ [zs]) us = rp := ⟨_, rfl⟩
        obtain ⟨r1, hr1⟩ : ∃ r1, rp.1 = r1 := ⟨_, rfl⟩
        obtain ⟨xs, hxs⟩ : ∃ xs, rp.2.ts = xs := ⟨_, rfl⟩
        obtain ⟨kx, hkx⟩ : ∃ kx, xs.length = kx := ⟨_, rfl⟩
        have htx := (prop_fixed j1).tr
        rw [hrp] at j4 htx
        rw [hr1, hxs] at j4
        rw [hxs] at htx
        have hkx1 : kx ≤ 1000 := by rw [← hkx]; have := trail_len (checkE_n (propE_zero j1).1).1 htx; omega
        have hk30 : ku ≤ 30 := by rw [← hku, ← hus]; have := backT_len ts bk n'; omega
        have Z := Lib.hid (And.intro hzs (And.intro hm (And.intro hbk hE)))
        have hm30 : m ≤ 30 := by have := firstL_len hE; rw [hzs, hm, HTS.out] at this; omega
        have hpz := propE_zero j1
        have hce := hpz.1
        have OK := Lib.hid (show Okl zs by rw [← hzs]; exact firstL_okl hE)
        have HM := Lib.hid hm
        have J1 := Lib.hid j1
        have J2 := Lib.hid j2
        have J3 := Lib.hid j3
        have J4 := Lib.hid j4
        have ONE := Lib.hid hone
        have HUS := Lib.hid hus
        have HKU := Lib.hid hku
        have UB := Lib.hid (lits_bound (trail_tr hpz.2) (checkE_n hce).2)
        have XB := Lib.hid (lits_bound (trail_tr htx) (checkE_n hce).2)
        have HRP := Lib.hid (And.intro hrp (And.intro hr1 (And.intro hxs hkx)))
        clear hzs hm hbk hE hL hus hku j1 j2 j3 j4 hone hrp hpz hce hr1 hxs hkx htx
        go_enter Try.func10, Try.ntmps10
        go_upto_region 5 with (first
          | (go_at_call 11; refine (live_any _).mono ?_; rintro e w1 ⟨rfl, hb⟩; have HB1 := Lib.hid (bthen HB0.out hb); have BX1 := Lib.hid (BX.out.below hb); have t0 := BX1.out.c0; have t1 := BX1.out.c1; clear hb)
          | (go_at_call 12; refine (lfew_val true x A n c ls A' n' c' ts _ (H.out.below HB1.out) (H'.out.below HB1.out) HF.out).mono ?_; rintro e w2 ⟨rfl, hb⟩; have HB2 := Lib.hid (bthen HB1.out hb); have BX2 := Lib.hid (BX1.out.below hb); clear t0 t1; have t0 := BX2.out.c0; have t1 := BX2.out.c1; clear hb))
        clear t0 t1
        have t0 := BX2.out.c0
        have t1 := BX2.out.c1
        go_upto_region 8 with (go_at_call 13; refine (first_any x A n c ls A' n' c' ts q _ (H.out.below HB2.out) (H'.out.below HB2.out) (by omega) (fun l hl => Nat.le_trans (F1.out l hl) (by omega))).mono ?_; rintro e w4 hfp; obtain ⟨A4, c4, rfl, hr4, hb4⟩ := hfp.named Z.out.1 Z.out.2.1 Z.out.2.2.1 Z.out.2.2.2; have HB4 := Lib.hid (bthen HB2.out hb4); have BX4 := Lib.hid (BX2.out.below hb4); have HR4 := Lib.hid hr4; clear hfp hr4 hb4)
        clear t0 t1
        go_upto_region 9 with (go_at_call 28; refine (back_any ku A' n' c' ts bk _ (H'.out.below HB4.out) (by omega) (by rw [HUS.out]; exact HKU.out)).mono ?_; rintro e w5 ⟨Au, cu, rfl, hu5, hb5⟩; have HB5 := Lib.hid (bthen HB4.out hb5); have BX5 := Lib.hid (BX4.out.below hb5); have HR5 := Lib.hid (HR4.out.below hb5); rw [HUS.out] at hu5; have HU5 := Lib.hid hu5; clear hu5 hb5)
        go_wp2
        go_loopw [11, 12, 13] (fun s11 s12 s13 W => ∃ k : Nat, k ≤ m ∧ s13 = .int .i64 k ∧ s11 = .int .i64 (hiN ts L (zs.take k)) ∧ s12 = .int .i64 (lastHi ts L (zs.take k)) ∧ Below w5.heap.size w5 W) (fun _ _ i _ => m - (intOf i).toNat)
        case atStart => exact ⟨0, Nat.zero_le _, rfl, rfl, rfl, Below.refl _ _⟩
        case round =>
          obtain ⟨k, hk, rfl, rfl, rfl, hbW⟩ := hrel
          obtain ⟨W6, hbW, eW⟩ : ∃ W6, Below w5.heap.size w5 W6 ∧ W6 = _ := ⟨_, hbW, rfl⟩
          subst eW
          have HW := Lib.hid hbW
          have HB6 := Lib.hid (bthen HB5.out hbW)
          clear hbW
          by_cases hlt : k < m
          · have hl : k < zs.length := by rw [HM.out]; exact hlt
            have hmem := elt_mem hl
            obtain ⟨y, hy⟩ : ∃ y, elt zs k = y := ⟨_, rfl⟩
            obtain ⟨v, hv⟩ : ∃ v, lvlT us y = v := ⟨_, rfl⟩
            rw [hy] at hmem
            obtain ⟨o1, o2, o3⟩ := OK.out y hmem
            obtain ⟨hi, hhi⟩ : ∃ hi, hiN ts L (zs.take k) = hi := ⟨_, rfl⟩
            obtain ⟨ll, hll⟩ : ∃ ll, lastHi ts L (zs.take k) = ll := ⟨_, rfl⟩
            have hi30 : hi ≤ 30 := by rw [← hhi]; have := hi_le ts L (zs.take k); rw [List.length_take] at this; omega
            have nx1 : hiN ts L (zs.take (k + 1)) = hi + (if lvlT ts y = L then 1 else 0) := by rw [take_snoc zs k hl, hiN_snoc, hhi, hy]
            have nx2 : lastHi ts L (zs.take (k + 1)) = if lvlT ts y = L then y else ll := by rw [take_snoc zs k hl, lastHi_snoc, hll, hy]
            obtain ⟨b4, o4, rfl, hb4l, hc4⟩ := (HR5.out.below HW.out).cells (by omega)
            have e4 := hc4 k hlt
            rw [hy] at e4
            have V := Lib.hid hv
            rw [hhi, hll]
            by_cases hvL : lvlT ts y = L
            · have hj := J2.out y hmem hvL
              rw [hv] at hj
              have dv : decide (v < 0) = true := by rw [decide_eq_true_iff]; exact hj.1
              rw [if_pos hvL] at nx1 nx2
              have NX1 := Lib.hid nx1
              have NX2 := Lib.hid nx2
              obtain ⟨v2, hv2⟩ : ∃ v2, lvlT (flipT us) y = v2 := ⟨_, rfl⟩
              have dv2 : decide (0 ≤ v2) = false := by rw [decide_eq_false_iff_not, ← hv2]; omega
              have V2 := Lib.hid hv2
              clear hy hv hhi hll hmem hl nx1 nx2 hj hvL hv2 hc4
              go_upto_region 15 with (go_at_call 19; refine (lev_val v Au ku cu us y _ (HU5.out.below HW.out) (by omega) o2 o3 V.out).mono ?_; rintro e w7 ⟨rfl, hb7⟩; have HB7 := Lib.hid (bthen HB6.out hb7); have HW7 := Lib.hid (bthen HW.out hb7); have e7 := (hb7.cell (p := ⟨b4, o4 + k, none⟩) hb4l).trans e4; have hl7 := Nat.lt_of_lt_of_le hb4l hb7.size; clear hb7)
              have e7' : w7.drew.cell? ⟨b4, o4 + k, none⟩ = some (.int .i64 y) := e7
              go_region_held3 (fun w' => w'.cell? ⟨b4, o4 + k, none⟩ = some (.int .i64 y)) (go_keep) (first
                | (go_at_call 29; refine (flip_any Au ku cu us _ (HU5.out.below (HW7.out.drew)) (by omega) UB.out).mono ?_; rintro e w8 ⟨A8, c8, rfl, hr8, hb8⟩; have HR8 := Lib.hid hr8; have HW8 := Lib.hid (bthen HW7.out.drew hb8); have e8 := (hb8.cell (p := ⟨b4, o4 + k, none⟩) hl7).trans e7; have hl8 := Nat.lt_of_lt_of_le hl7 hb8.size; clear hr8 hb8)
                | (go_at_call 19; refine (lev_val v2 A8 ku c8 (flipT us) y _ HR8.out (by omega) o2 o3 V2.out).mono ?_; rintro e w9 ⟨rfl, hb9⟩; have HW9 := Lib.hid (bthen HW8.out hb9); have e9 := (hb9.cell (p := ⟨b4, o4 + k, none⟩) hl8).trans e8; clear hb9))
              all_goals
                go_wp2
                go_roundw
                case rel => exact ⟨k + 1, by omega, by go_num, by rw [NX1.out]; go_num, by rw [NX2.out], HW9.out⟩
                case measure => simp [intOf]; omega
            · have hj := J3.out y hmem hvL
              rw [hv] at hj
              have dv : decide (v < 0) = false := by rw [decide_eq_false_iff_not]; omega
              rw [if_neg hvL] at nx1 nx2
              have NX1 := Lib.hid nx1
              have NX2 := Lib.hid nx2
              clear hy hv hhi hll hmem hl nx1 nx2 hj hvL hc4
              go_wp2_with (go_at_call 19; refine (lev_val v Au ku cu us y _ (HU5.out.below HW.out) (by omega) o2 o3 V.out).mono ?_; rintro e w7 ⟨rfl, hb7⟩; have HW7 := Lib.hid (bthen HW.out hb7); clear hb7)
              go_roundw
              case rel => exact ⟨k + 1, by omega, by go_num, by rw [NX1.out]; rfl, by rw [NX2.out], HW7.out⟩
              case measure => simp [intOf]; omega
          · obtain rfl : k = m := by omega
            have e1 : hiN ts L (zs.take k) = 1 := by rw [← HM.out, List.take_length]; exact ONE.out
            have e2 : zs.take k = zs := by rw [← HM.out, List.take_length]
            rw [e1, e2]
            clear e1 e2 hlt
            obtain ⟨rs, hrs, hrr⟩ := H.out.rr
            have BX6 := Lib.hid ((BX5.out.below HW.out))
            have t0 := BX6.out.c0
            have t1 := BX6.out.c1
            go_upto_region 19 with fail
            go_cut [14] (fun s W => ∃ B A9 c9, s = .pointer (some ⟨B, 0, none⟩) ∧ Two W B (.int .i64 x) (.slice A9 (n + 1) c9) ∧ RL W A9 (n + 1) c9 (ls ++ [zs]) ∧ Below w5.heap.size w5 W)
            case first =>
              have HD6 : Hid (Below W6.heap.size W6 W6.drew) := Lib.hid ((Below.refl _ _).drew)
              have ST := Lib.hid (steps19 w.heap.size W6 x A n c rs ⟨A4, k, c4, zs⟩ BX6.out (hrr.below HB6.out) (HR5.out.below HW.out) (by omega) : StepsOk _ _ _ _ _ (G19 w.heap.size W6 x A n c rs ⟨A4, k, c4, zs⟩) _ _ _)
              refine wp_region_facts (regAt Try.f10 19) 11 101 _ _ [(3, .pointer (some ⟨w.heap.size, 0, none⟩)), (7, .slice A4 k c4)] _ (G19 w.heap.size W6 x A n c rs ⟨A4, k, c4, zs⟩) _ (by kernel_rfl) (by kernel_rfl) (by kernel_rfl) (by kernel_rfl) (by kernel_rfl) (by decide +kernel) (by decide +kernel) (by decide +kernel) (by decide +kernel) (by decide +kernel) (by rfl) ⟨rfl, rfl, trivial⟩ HD6.out ST.out _ (by rfl) ?_
              intro vals w7 hB7 hG7 a' ha'
              obtain ⟨u9, f9, o9⟩ : ∃ u, vals 9 = .agg #[.int .i64 x, u] ∧ w7.ownsRow W6.heap.size 28 1 u (n + 1) (List.map rowV (rs ++ [(⟨A4, k, c4, zs⟩ : Row)])) := (hG7 9 (by omega) rfl :)
              obtain ⟨b10, f10, l10, t10⟩ : ∃ b, vals 10 = .pointer (some ⟨b, 0, none⟩) ∧ W6.heap.size ≤ b ∧ Two w7 b (.int .i64 0) (.slice none 0 0) := (hG7 10 (by omega) rfl :)
              obtain ⟨A9, c9, rfl⟩ := own_form o9
              simp only [putsL, Act.put, List.take, f9, f10] at ha'
              subst ha'
              have q0 := t10.c0
              have q1 := t10.c1
              have q2 := t10.f 0
              have q3 := t10.f 1
              simp only [Gives, execOp]
              simp [GivesR, go_sem, q0, q1, q2, q3, Act.eval, Act.put]
              have HBZ := Lib.hid ((hB7.setCell (p := ⟨b10, 0, none⟩) l10 (.int .i64 x)).setCell (p := ⟨b10, 1, none⟩) l10 (.slice A9 (n + 1) c9))
              have OWZ := Lib.hid (own_two (own_two o9 (by decide) t10 (k := 0) (.int .i64 x)) (by decide) (t10.set0 _) (k := 1) (.slice A9 (n + 1) c9))
              have TWZ := Lib.hid ((t10.set0 (.int .i64 x)).set1 (.slice A9 (n + 1) c9))
              have RLZ := Lib.hid (RL.of_own OWZ.out (fun r hr => by
                rcases List.mem_append.1 hr with h1 | h1
                · exact (hrr.below HB6.out).rows r h1 |>.below HBZ.out
                · rw [List.mem_singleton.1 h1]; exact (HR5.out.below HW.out).below HBZ.out) (by omega))
              go_wp2_with fail
              go_meet
              refine ⟨b10, A9, c9, rfl, TWZ.out, ?_, bthen HW.out HBZ.out⟩
              have e9 : List.map (fun r : Row => r.zs) (rs ++ [(⟨A4, k, c4, zs⟩ : Row)]) = ls ++ [zs] := by rw [List.map_append, hrs]; rfl
              rw [← e9]; exact RLZ.out
            case rest =>
              obtain ⟨B8, A9, c9, rfl, t8, rl8, hb8⟩ := hcut
              have HU8 := Lib.hid (HU5.out.below hb8)
              have HB8 := Lib.hid (bthen HB5.out hb8)
              have RL8 := Lib.hid rl8
              have q0 := t8.c0
              have q1 := t8.c1
              clear t8 hb8 rl8
              have HL30 := Lib.hid (show ∀ l ∈ ls ++ [zs], l.length ≤ 30 from fun l hl => by
                rcases List.mem_append.1 hl with h1 | h1
                · have := F1.out l h1; omega
                · rw [List.mem_singleton.1 h1, HM.out]; exact hm30)
              obtain ⟨ll, hll⟩ : ∃ ll, lastHi ts L zs = ll := ⟨_, rfl⟩
              have hlb : -65536 ≤ ll ∧ ll ≤ 65536 := by
                have := OK.out ll (by rw [← hll]; exact (lastHi_mem ts L zs (by rw [ONE.out]; omega)).1)
                omega
              have J4' := Lib.hid (show r1 = none → 0 ≤ lvlT (flipT xs) ll by rw [← hll]; exact J4.out)
              rw [hll]
              clear hll
              go_upto_region 21 with (go_at_call 27; refine (prop_ok x A9 (n + 1) c9 (ls ++ [zs]) Au ku cu us _ RL8.out HU8.out J1.out (by omega) (by omega) HL30.out).mono ?_; rintro e w9 hpd; obtain ⟨Ax, cx, rfl, hrx, hb9⟩ := hpd.named HRP.out; have HB9 := Lib.hid (bthen HB8.out hb9); have HX9 := Lib.hid hrx; clear hpd hrx hb9)
              cases r1 with
              | some i1 =>
                have d9 : decide ((0 : Int) ≤ cfl (some i1)) = true := by rw [decide_eq_true_iff]; simp [cfl]
                obtain ⟨ci, hci⟩ : ∃ ci, cfl (some i1) = ci := ⟨_, rfl⟩
                rw [hci] at d9 ⊢
                clear hci
                go_wp2
                go_ret
                exact ⟨rfl, HB9.out⟩
              | none =>
                have d9 : decide ((0 : Int) ≤ cfl none) = false := by rw [decide_eq_false_iff_not]; simp [cfl]
                obtain ⟨ci, hci⟩ : ∃ ci, cfl none = ci := ⟨_, rfl⟩
                rw [hci] at d9 ⊢
                obtain ⟨v9, hv9⟩ : ∃ v9, lvlT (flipT xs) ll = v9 := ⟨_, rfl⟩
                have dv9 : decide ((0 : Int) ≤ v9) = true := by rw [decide_eq_true_iff, ← hv9]; exact J4'.out rfl
                have V9 := Lib.hid hv9
                obtain ⟨hl1, hl2⟩ := hlb
                clear hci hv9
                go_wp2_with (first
                  | (go_at_call 29; refine (flip_any Ax kx cx xs _ HX9.out (by omega) XB.out).mono ?_; rintro e w10 ⟨A10, c10, rfl, hr10, hb10⟩; have HR10 := Lib.hid hr10; have HB10 := Lib.hid (bthen HB9.out hb10); clear hr10 hb10)
                  | (go_at_call 19; refine (lev_val v9 A10 kx c10 (flipT xs) ll _ HR10.out (by omega) hl1 hl2 V9.out).mono ?_; rintro e w11 ⟨rfl, hb11⟩; have HB11 := Lib.hid (bthen HB10.out hb11); clear hb11))
                go_ret
                exact ⟨rfl, HB11.out⟩
      · obtain ⟨er, her⟩ : ∃ er, firstE x ls ts q = er := ⟨_, rfl⟩
        have Z := Lib.hid (And.intro (first_no hE).1 (And.intro (first_no hE).2 her))
        have hr : (er != 0) = true := by rw [← her]; simpa using hE
        clear hE her
        go_enter Try.func10, Try.ntmps10
        go_upto_region 5 with (first
          | (go_at_call 11; refine (live_any _).mono ?_; rintro e w1 ⟨rfl, hb⟩; have HB1 := Lib.hid (bthen HB0.out hb); have BX1 := Lib.hid (BX.out.below hb); have t0 := BX1.out.c0; have t1 := BX1.out.c1; clear hb)
          | (go_at_call 12; refine (lfew_val true x A n c ls A' n' c' ts _ (H.out.below HB1.out) (H'.out.below HB1.out) HF.out).mono ?_; rintro e w2 ⟨rfl, hb⟩; have HB2 := Lib.hid (bthen HB1.out hb); have BX2 := Lib.hid (BX1.out.below hb); clear t0 t1; have t0 := BX2.out.c0; have t1 := BX2.out.c1; clear hb))
        clear t0 t1
        have t0 := BX2.out.c0
        have t1 := BX2.out.c1
        go_wp2_with (go_at_call 13; refine (first_any x A n c ls A' n' c' ts q _ (H.out.below HB2.out) (H'.out.below HB2.out) (by omega) (fun l hl => Nat.le_trans (F1.out l hl) (by omega))).mono ?_; rintro e w4 hfp; obtain ⟨A4, c4, rfl, hr4, hb4⟩ := hfp.named Z.out.1 rfl Z.out.2.1 Z.out.2.2; have HB4 := Lib.hid (bthen HB2.out hb4); clear hfp hr4 hb4)
        go_ret
        exact ⟨rfl, HB4.out⟩

end Go.Proofs.Ytenpenelikpeeaa

namespace Go.Proofs.Ytenpenelikpeeaa
set_option linter.unusedVariables false
set_option linter.unusedSimpArgs false

theorem insV_last (x : Int) : ∀ l : List Int, (∀ y ∈ l, absI y < absI x) → insV x l = l ++ [x]
  | [], _ => rfl
  | y :: l, h => by
    have h1 := h y (by simp)
    rw [insV]
    split
    · rw [insV_last x l (fun z hz => h z (by simp [hz]))]; rfl
    · omega
theorem risL_asc {l : List Int} : AscV l → risL l = l := by
  refine snoc_ind (P := fun l => AscV l → risL l = l) (fun _ => rfl) (fun l x ih h => ?_) l
  have h1 := List.pairwise_append.1 h
  rw [risL_snoc, ih h1.1, insV_last x l (fun y hy => h1.2.2 y hy x (by simp))]

theorem topT_ge {ts : List Stp} {l : List Int} : ∀ y ∈ l, lvlT ts y ≤ topT ts l := by
  induction l using snoc_ind with
  | h0 => intro y hy; cases hy
  | h1 l z ih =>
    intro y hy
    rw [topT_snoc]
    rcases List.mem_append.1 hy with h | h
    · have := ih y h; omega
    · rw [List.mem_singleton.1 h]; omega
theorem topT_at {ts : List Stp} {l : List Int} : topT ts l = 0 ∨ ∃ y ∈ l, lvlT ts y = topT ts l := by
  induction l using snoc_ind with
  | h0 => exact Or.inl rfl
  | h1 l z ih =>
    rw [topT_snoc]
    have h0 := (topT_bd (ts := ts) (l := l)).1
    rcases Int.lt_or_le (topT ts l) (lvlT ts z) with h | h
    · exact Or.inr ⟨z, by simp, by omega⟩
    · rcases ih with h1 | ⟨y, hy, h1⟩
      · exact Or.inl (by omega)
      · exact Or.inr ⟨y, by simp [hy], by omega⟩

section
variable {x : Int} {ls : List (List Int)} {ts : List Stp} {l : List Int}
theorem redB_mono (h : Tr x ls ts) {m : List Int} (hm : ∀ y ∈ m, y ∈ l) : ∀ k, k < ts.length → redB ls ts m k = true → redB ls ts l k = true := by
  intro k
  induction k using Nat.strongRecOn with
  | _ k ih =>
    intro hk hr
    rw [redB_eq h m hk] at hr
    rw [redB_eq h l hk]
    rw [Bool.or_eq_true, Bool.and_eq_true] at hr ⊢
    rcases hr with hr | ⟨hw, hr⟩
    · exact Or.inl hr
    · refine Or.inr ⟨hw, ?_⟩
      have hw := of_decide_eq_true hw
      rw [List.all_eq_true] at hr ⊢
      intro y hy
      have h1 := hr y hy
      rw [Bool.or_eq_true, Bool.or_eq_true] at h1 ⊢
      rcases h1 with h1 | h1 | h1
      · exact Or.inl h1
      · exact Or.inr (Or.inl (hasB_iff.2 (hm y (hasB_iff.1 h1))))
      · by_cases e : y = (stp ts k).lit
        · exact Or.inl (by simpa using e)
        · obtain ⟨j, hj, e2⟩ := (h.reason k hk hw).2 y hy e
          have hp := h.plc (k := j) (by omega)
          rw [e2] at hp
          rw [hp] at h1 ⊢
          exact Or.inr (Or.inr (ih j hj (by omega) h1))
theorem mem_lessL {y : Int} : y ∈ lessL ls ts l ↔ y ∈ l ∧ keepB ls ts l y = true := by unfold lessL; rw [mem_risL, List.mem_filter]
theorem lessE_zero (h : lessE x ls ts l = 0) : propE x ls ts = 0 ∧ lessOk x ts l = true := by
  unfold lessE at h
  by_cases h1 : propE x ls ts = 0
  · rw [if_neg (by simpa using h1)] at h
    refine ⟨h1, ?_⟩
    cases h2 : lessOk x ts l with
    | true => rfl
    | false => rw [if_pos h2] at h; cases h
  · rw [if_pos h1] at h; exact absurd h h1
theorem top_less (h : Tr x ls ts) : topT ts (lessL ls ts l) = topT ts l := by
  have h0 := (topT_bd (ts := ts) (l := lessL ls ts l)).1
  have h1 : topT ts (lessL ls ts l) ≤ topT ts l := by
    rcases topT_at (ts := ts) (l := lessL ls ts l) with h2 | ⟨y, hy, h2⟩
    · have := (topT_bd (ts := ts) (l := l)).1; omega
    · rw [← h2]; exact topT_ge y (mem_lessL.1 hy).1
  rcases topT_at (ts := ts) (l := l) with h2 | ⟨y, hy, h2⟩
  · omega
  · by_cases h3 : 0 < topT ts l
    · have : y ∈ lessL ls ts l := mem_lessL.2 ⟨hy, by unfold keepB; simp [h3, h2]⟩
      have := topT_ge (ts := ts) y this
      omega
    · have := (topT_bd (ts := ts) (l := l)).1; omega
/-- Less leaves its own result as it is -/
theorem less_again (hE : lessE x ls ts l = 0) : lessE x ls ts (lessL ls ts l) = 0 ∧ lessL ls ts (lessL ls ts l) = lessL ls ts l := by
  obtain ⟨hP, hO⟩ := lessE_zero hE
  obtain ⟨hc, ht⟩ := propE_zero hP
  have T := trail_tr ht
  have hx := (checkE_n hc).2
  obtain ⟨o1, o2, o3, o4⟩ := lessOk_facts hO hx
  have hn : (l.filter (keepB ls ts l)).Nodup := o3.sublist List.filter_sublist
  have hcs : Cons (l.filter (keepB ls ts l)) := ⟨fun y hy => o2.1 y (List.mem_filter.1 hy).1, fun y hy hy2 => o2.2 y (List.mem_filter.1 hy).1 (List.mem_filter.1 hy2).1⟩
  have ha : AscV (lessL ls ts l) := asc_risL hn hcs
  have hu : Under ts ts.length (lessL ls ts l) := fun y hy => o4 y (mem_lessL.1 hy).1
  refine ⟨?_, ?_⟩
  · unfold lessE
    rw [if_neg (by simpa using hP), if_neg (by rw [less_takes T hx (asc_nodup ha) hu]; decide)]
  · have hk : (lessL ls ts l).filter (keepB ls ts (lessL ls ts l)) = lessL ls ts l := by
      refine List.filter_eq_self.2 fun y hy => ?_
      have h1 := (mem_lessL.1 hy).2
      have hp := hu y hy
      unfold keepB at h1 ⊢
      rw [top_less T]
      rw [Bool.or_eq_true] at h1 ⊢
      rcases h1 with h1 | h1
      · exact Or.inl h1
      · refine Or.inr ?_
        cases hr : redB ls ts (lessL ls ts l) (plc ts (-y)) with
        | false => rfl
        | true =>
          rw [redB_mono T (fun z hz => (mem_lessL.1 hz).1) _ hp hr] at h1
          cases h1
    show risL ((lessL ls ts l).filter (keepB ls ts (lessL ls ts l))) = _
    rw [hk, risL_asc ha]

/-- the negations, decided in turn -/
def negT (m : List Int) : List Stp := m.map fun y => ⟨-y, -1⟩
theorem negT_snoc (m : List Int) (y : Int) : negT (m ++ [y]) = negT m ++ [⟨-y, -1⟩] := by simp [negT]
theorem litsOf_negT (m : List Int) (y : Int) : hasB (litsOf (negT m)) y = true ↔ -y ∈ m := by
  rw [hasB_iff]
  unfold litsOf negT
  simp only [List.mem_map, List.map_map]
  constructor
  · rintro ⟨z, hz, e⟩
    have e' : -z = y := e
    rw [show -y = z by omega]; exact hz
  · intro h
    exact ⟨-y, h, by simp⟩
theorem negT_trail (hb : ∀ y ∈ l, isB y x = true) : l.Nodup → (∀ y ∈ l, ¬ -y ∈ l) → trailB x ls (negT l) = true := by
  revert hb
  refine snoc_ind (P := fun l => (∀ y ∈ l, isB y x = true) → l.Nodup → (∀ y ∈ l, ¬ -y ∈ l) → trailB x ls (negT l) = true) (fun _ _ _ => rfl) (fun l y ih hb hn hc => ?_) l
  rw [negT_snoc]
  rw [List.nodup_append] at hn
  refine trail_decide (ih (fun z hz => hb z (by simp [hz])) hn.1 (fun z hz h => hc z (by simp [hz]) (by simp [h]))) ?_ ?_ ?_
  · have := isB_iff.1 (hb y (by simp))
    rw [isB_iff]; omega
  · cases h : hasB (litsOf (negT l)) (-y) with
    | false => rfl
    | true =>
      rw [litsOf_negT, Int.neg_neg] at h
      exact absurd rfl (hn.2.2 y h y (by simp))
  · cases h : hasB (litsOf (negT l)) (- -y) with
    | false => rfl
    | true =>
      rw [litsOf_negT, Int.neg_neg] at h
      exact absurd (show -y ∈ l ++ [y] by simp [h]) (hc y (by simp))
/-- what the law asks of unit propagation -/
theorem minimizes (hE : lessE x ls ts l = 0) : propE x ls (negT (lessL ls ts l)) = 0 ∧ ((propT x ls (negT (lessL ls ts l))).1 = none → ∀ y ∈ l, 0 ≤ lvlT (propT x ls (negT (lessL ls ts l))).2.ts y) := by
  obtain ⟨hP, hO⟩ := lessE_zero hE
  obtain ⟨hc, ht⟩ := propE_zero hP
  have T := trail_tr ht
  have hx := (checkE_n hc).2
  obtain ⟨o1, o2, o3, o4⟩ := lessOk_facts hO hx
  have hb : ∀ y ∈ lessL ls ts l, isB y x = true := fun y hy => by
    have h1 := o4 y (mem_lessL.1 hy).1
    have h2 := isB_iff.1 (T.lit _ h1)
    rw [(plc_lt h1).1] at h2
    rw [isB_iff]; omega
  have hn : (lessL ls ts l).Nodup := asc_nodup (asc_risL (o3.sublist List.filter_sublist) ⟨fun y hy => o2.1 y (List.mem_filter.1 hy).1, fun y hy hy2 => o2.2 y (List.mem_filter.1 hy).1 (List.mem_filter.1 hy2).1⟩)
  have hpe : propE x ls (negT (lessL ls ts l)) = 0 := by
    unfold propE
    rw [if_neg (by simpa using hc), if_pos (negT_trail hb hn fun y hy hy2 => o2.2 y (mem_lessL.1 hy).1 (mem_lessL.1 hy2).1)]
  refine ⟨hpe, fun hnone y hy => ?_⟩
  have hF := prop_fixed hpe
  have hC := fixed_clo hF hnone
  have h1 := clo_less (T := fun z => hasB (litsOf (propT x ls (negT (lessL ls ts l))).2.ts) z = true) T hC.unit o4 (fun z hz => by
    obtain ⟨more, hm⟩ := hF.more
    have h2 : hasB (litsOf (negT (lessL ls ts l))) (-z) = true := by rw [litsOf_negT, Int.neg_neg]; exact hz
    exact hasB_iff.2 (litsOf_sub hF.more _ (hasB_iff.1 h2))) _ y rfl hy
  rcases Int.lt_or_le (lvlT (propT x ls (negT (lessL ls ts l))).2.ts y) 0 with h2 | h2
  · rw [lvl_neg] at h2
    have h1' : hasB (litsOf (propT x ls (negT (lessL ls ts l))).2.ts) (-y) = true := h1
    rw [h1'] at h2; cases h2
  · exact h2
end

end Go.Proofs.Ytenpenelikpeeaa
