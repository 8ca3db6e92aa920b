/-
  The walk of chalklinelaw21.HeapStepSpec: it returns true. No condition.
-/
import Derived.Test.YthfadkilffmmlaaU7
import Derived.Test.YthfadkilffmmlaaT3
namespace Go.Proofs.Ythfadkilffmmlaa
open Go.RowKit
set_option linter.unusedVariables false
set_option linter.unusedSimpArgs false

theorem exists_pos (P : Nat → Prop) : ∀ n : Nat, ∃ i, i ≤ n ∧ (∀ k, k < i → P k) ∧ (i < n → ¬ P i)
  | 0 => ⟨0, Nat.le_refl _, fun k hk => by omega, fun h => by omega⟩
  | n + 1 => by
    obtain ⟨i, h1, h2, h3⟩ := exists_pos P n
    by_cases hi : i < n
    · exact ⟨i, by omega, h2, fun _ => h3 hi⟩
    · have e : i = n := by omega
      subst e
      by_cases hp : P i
      · refine ⟨i + 1, Nat.le_refl _, fun k hk => ?_, fun h => by omega⟩
        by_cases e : k = i
        · subst e; exact hp
        · exact h2 k (by omega)
      · exact ⟨i, by omega, h2, fun _ => hp⟩
theorem exists_sorted (act : List Int) : ∀ l : List Int, ∃ m : List Int, m.Perm l ∧ SortedSeg act 0 m.length m
  | [] => ⟨[], List.Perm.refl _, fun p q h1 h2 h3 => by simp at h3⟩
  | x :: l => by
    obtain ⟨m, hp, hs⟩ := exists_sorted act l
    obtain ⟨i, h1, h2, h3⟩ := exists_pos (fun k => ltO act (elt m k) x) m.length
    refine ⟨insAt m i x, (insAt_perm m i x).trans (hp.cons x), ?_⟩
    rw [insAt_len _ _ _ h1]
    exact put_sorted hs h1 h2 h3
theorem NewV.sc {act l l2 : List Int} {y : Int} {w : World} {e : Ending} {w' : World} (hp : l2.Perm l) (hs : SortedSeg act 0 l2.length l2) (h : ScOk act l y w e w') : NewV act l2 y 0 w e w' := by
  obtain ⟨A, c, A', c', l', rfl, r1, r2, hp', hs', hb⟩ := h
  have e : l' = l2 := sorted_unique (hp'.trans hp.symm) hs' hs
  subst e
  exact ⟨A, c, A', c', rfl, r1, r2, hb⟩
theorem NewV.push {act l : List Int} {v y : Int} {i : Nat} {w : World} {e : Ending} {w' : World} (h0 : i ≤ l.length) (h1 : ∀ k, k < i → ltO act (elt l k) v) (h2 : ∀ k, i ≤ k → k < l.length → ¬ ltO act (elt l k) v) (h : PushOk act l v y w e w') : NewV act (insAt l i v) y 0 w e w' := by
  obtain ⟨j, j0, j1, j2, hh⟩ := h
  have : j = i := by
    rcases Nat.lt_trichotomy j i with h3 | h3 | h3
    · exact absurd (h1 j h3) (j2 j (Nat.le_refl _) (by omega))
    · exact h3
    · exact absurd (j1 i h3) (h2 i (Nat.le_refl _) (by omega))
  subst this
  exact hh
/-- a heap, a number and an error, returned -/
def PopV (act l : List Int) (y u er : Int) (w : World) (e : Ending) (w' : World) : Prop :=
  ∃ (A : Option Addr) (c : Nat) (A' : Option Addr) (c' : Nat), e = .returned (.tuple #[.agg #[.slice A act.length c, .slice A' l.length c', .int .i64 y], .int .i64 u, .int .i64 er]) ∧
    RI w' A act.length c act ∧ RI w' A' l.length c' l ∧ Below w.heap.size w w'
theorem PopV.ok {act l : List Int} {y : Int} {w : World} {e : Ending} {w' : World} (h : PopOk act l y w e w') : PopV act l.tail y (elt l 0) 0 w e w' := by
  obtain ⟨A, c, A', c', rfl, r1, r2, hb⟩ := h
  have el : l.tail.length = l.length - 1 := by simp
  exact ⟨A, c, A', c', by rw [el], r1, by rw [el]; exact r2, hb⟩
theorem PopV.bad {er : Int} {w : World} {e : Ending} {w' : World} (h : e = .returned (.tuple #[zeroH, .int .i64 0, .int .i64 er]) ∧ Below w.heap.size w w') : PopV [] [] 0 0 er w e w' :=
  ⟨none, 0, none, 0, h.1, RI.nil _ _ _ (Nat.zero_le _), RI.nil _ _ _ (Nat.zero_le _), h.2⟩

section
variable (A : Option Addr) (n c : Nat) (act : List Int) (A' : Option Addr) (n' c' : Nat) (l : List Int) (y : Int) (w : World)

theorem both_bump (v : Int) (h : RI w A n c act) (h' : RI w A' n' c' l) (hn : n ≤ 60) (hn' : n' ≤ 60) : ∃ a2 l2 y2 er,
    (∀ w', Below w.heap.size w w' → Calls Try.prog 19 #[.agg #[.slice A n c, .slice A' n' c', .int .i64 y], .int .i64 v] w' (NewV a2 l2 y2 er w')) ∧
    (∀ w', Below w.heap.size w w' → Calls Try.prog 20 #[.agg #[.slice A n c, .slice A' n' c', .int .i64 y], .int .i64 v] w' (NewV a2 l2 y2 er w')) := by
  have hl := h.len
  have hl' := h'.len
  cases hk : checkB act l y
  · exact ⟨[], [], 0, 1, fun w' hb => (bump_bad A n c act A' n' c' l y w' v (h.below hb) (h'.below hb) hk).mono fun _ _ h => NewV.bad h, fun w' hb => (rbump_bad A n c act A' n' c' l y w' v (h.below hb) (h'.below hb) hk).mono fun _ _ h => NewV.bad h⟩
  · cases hv : knownB act.length v
    · exact ⟨[], [], 0, 1, fun w' hb => (bump_unknown A n c act A' n' c' l y w' v (h.below hb) (h'.below hb) hk hv).mono fun _ _ h => NewV.bad h, fun w' hb => (rbump_unknown A n c act A' n' c' l y w' v (h.below hb) (h'.below hb) hk (by rw [← hl]; exact hv)).mono fun _ _ h => NewV.bad h⟩
    · have hv2 := knownB_iff.1 hv
      obtain ⟨k, rfl⟩ := Int.eq_ofNat_of_zero_le (show 0 ≤ v by omega)
      have hval := (valid_iff _ _ _).1 hk
      obtain ⟨m, hp, hs⟩ := exists_sorted (sclA (act.set k (elt act k + y)) y) l
      exact ⟨_, m, _, 0, fun w' hb => (bump_ok A n c act A' n' c' l y w' 1000000 sort_all k (h.below hb) (h'.below hb) hval ⟨by omega, by omega⟩ (by omega)).mono fun _ _ h => NewV.sc hp hs h,
        fun w' hb => (rbump_ok A n c act A' n' c' l y w' k (h.below hb) (h'.below hb) hval ⟨by omega, by omega⟩ (by omega) (by omega)).mono fun _ _ h => NewV.sc hp hs h⟩
theorem both_decay (h : RI w A n c act) (h' : RI w A' n' c' l) (hn : n ≤ 60) (hn' : n' ≤ 60) : ∃ a2 l2 y2 er,
    (∀ w', Below w.heap.size w w' → Calls Try.prog 21 #[.agg #[.slice A n c, .slice A' n' c', .int .i64 y]] w' (NewV a2 l2 y2 er w')) ∧
    (∀ w', Below w.heap.size w w' → Calls Try.prog 22 #[.agg #[.slice A n c, .slice A' n' c', .int .i64 y]] w' (NewV a2 l2 y2 er w')) := by
  have hl := h.len
  have hl' := h'.len
  cases hk : checkB act l y
  · exact ⟨[], [], 0, 1, fun w' hb => (decay_bad A n c act A' n' c' l y w' (h.below hb) (h'.below hb) hk).mono fun _ _ h => NewV.bad h, fun w' hb => (rdecay_bad A n c act A' n' c' l y w' (h.below hb) (h'.below hb) hk).mono fun _ _ h => NewV.bad h⟩
  · have hval := (valid_iff _ _ _).1 hk
    obtain ⟨m, hp, hs⟩ := exists_sorted (sclA act (y + (y / 20 + 1))) l
    exact ⟨_, m, _, 0, fun w' hb => (decay_ok A n c act A' n' c' l y w' 1000000 sort_all (h.below hb) (h'.below hb) hval (by omega)).mono fun _ _ h => NewV.sc hp hs h,
      fun w' hb => (rdecay_ok A n c act A' n' c' l y w' (h.below hb) (h'.below hb) hval (by omega) (by omega)).mono fun _ _ h => NewV.sc hp hs h⟩
theorem both_pop (h : RI w A n c act) (h' : RI w A' n' c' l) : ∃ a2 l2 y2 u er,
    (∀ w', Below w.heap.size w w' → Calls Try.prog 23 #[.agg #[.slice A n c, .slice A' n' c', .int .i64 y]] w' (PopV a2 l2 y2 u er w')) ∧
    (∀ w', Below w.heap.size w w' → Calls Try.prog 24 #[.agg #[.slice A n c, .slice A' n' c', .int .i64 y]] w' (PopV a2 l2 y2 u er w')) := by
  cases hk : checkB act l y
  · exact ⟨[], [], 0, 0, 1, fun w' hb => (pop_bad A n c act A' n' c' l y w' (h.below hb) (h'.below hb) hk).mono fun _ _ h => PopV.bad h, fun w' hb => (rpop_bad A n c act A' n' c' l y w' (h.below hb) (h'.below hb) hk).mono fun _ _ h => PopV.bad h⟩
  · rcases Nat.eq_zero_or_pos l.length with h0 | h0
    · exact ⟨[], [], 0, 0, 270, fun w' hb => (pop_none A n c act A' n' c' l y w' (h.below hb) (h'.below hb) hk h0).mono fun _ _ h => PopV.bad h, fun w' hb => (rpop_none A n c act A' n' c' l y w' (h.below hb) (h'.below hb) hk h0).mono fun _ _ h => PopV.bad h⟩
    · exact ⟨_, _, _, _, _, fun w' hb => (pop_ok A n c act A' n' c' l y w' (h.below hb) (h'.below hb) hk h0).mono fun _ _ h => PopV.ok h, fun w' hb => (rpop_ok A n c act A' n' c' l y w' (h.below hb) (h'.below hb) hk h0).mono fun _ _ h => PopV.ok h⟩
theorem both_push (v : Int) (h : RI w A n c act) (h' : RI w A' n' c' l) (hn : n ≤ 60) (hn' : n' ≤ 60) : ∃ a2 l2 y2 er,
    (∀ w', Below w.heap.size w w' → Calls Try.prog 25 #[.agg #[.slice A n c, .slice A' n' c', .int .i64 y], .int .i64 v] w' (NewV a2 l2 y2 er w')) ∧
    (∀ w', Below w.heap.size w w' → Calls Try.prog 26 #[.agg #[.slice A n c, .slice A' n' c', .int .i64 y], .int .i64 v] w' (NewV a2 l2 y2 er w')) := by
  have hl := h.len
  have hl' := h'.len
  cases hk : checkB act l y
  · exact ⟨[], [], 0, 1, fun w' hb => (push_bad A n c act A' n' c' l y w' v (h.below hb) (h'.below hb) hk).mono fun _ _ h => NewV.bad h, fun w' hb => (rpush_bad A n c act A' n' c' l y w' v (h.below hb) (h'.below hb) hk).mono fun _ _ h => NewV.bad h⟩
  · cases hv : knownB act.length v
    · exact ⟨[], [], 0, 1, fun w' hb => (push_unknown A n c act A' n' c' l y w' v (h.below hb) (h'.below hb) hk hv).mono fun _ _ h => NewV.bad h, fun w' hb => (rpush_unknown A n c act A' n' c' l y w' v (h.below hb) (h'.below hb) hk (by rw [← hl]; exact hv)).mono fun _ _ h => NewV.bad h⟩
    · have hv2 := knownB_iff.1 hv
      have hval := (valid_iff _ _ _).1 hk
      cases hm : hasB l v
      · have hnm : v ∉ l := fun hh => by have := hasB_iff.2 hh; rw [hm] at this; cases this
        obtain ⟨i, h1, h2, h3⟩ := exists_pos (fun k => ltO act (elt l k) v) l.length
        have h4 := hval.high (v := v) (i := i) h3
        exact ⟨_, insAt l i v, _, 0, fun w' hb => (push_ok A n c act A' n' c' l y w' v (h.below hb) (h'.below hb) hval hv2 hnm (by omega)).mono fun _ _ h => NewV.push h1 h2 h4 h,
          fun w' hb => (rpush_ok A n c act A' n' c' l y w' v (h.below hb) (h'.below hb) hval hv2 hnm (by omega)).mono fun _ _ h => NewV.push h1 h2 h4 h⟩
      · exact ⟨[], [], 0, 270, fun w' hb => (push_in A n c act A' n' c' l y w' v (h.below hb) (h'.below hb) hval hv2 (hasB_iff.1 hm)).mono fun _ _ h => NewV.bad h, fun w' hb => (rpush_in A n c act A' n' c' l y w' v (h.below hb) (h'.below hb) hk (by rw [← hl]; exact hv) hm).mono fun _ _ h => NewV.bad h⟩

set_option maxRecDepth 100000 in
set_option maxHeartbeats 2000000 in
theorem step_few (a1 : Int) (hf : fewB n n' = false) :
    Calls Try.prog 4 #[.agg #[.slice A n c, .slice A' n' c', .int .i64 y], .int .i64 a1] w fun e w' => e = .returned (.bool true) ∧ Below w.heap.size w w' := by
  have HF := Lib.hid hf
  clear hf
  go_enter Try.func4, Try.ntmps4
  go_wp2_with fail
  refine (live_any _).mono ?_
  rintro e w1 ⟨rfl, hb⟩
  have BH := Lib.hid ((Box.new w (.slice A n c) (.slice A' n' c') (.int .i64 y)).below hb)
  have HB := Lib.hid ((stepA w _).trans (hb.mono (by simp)))
  have q0 := BH.out.c0; have q1 := BH.out.c1; have q2 := BH.out.c2
  clear hb
  go_wp2_with fail
  refine (few_any _ _ _ _ _ _ _ _).mono ?_
  rintro e w2 ⟨rfl, hb⟩
  rw [HF.out]
  clear q0 q1 q2
  go_wp2_with fail
  go_ret
  exact ⟨rfl, HB.out.trans (hb.mono HB.out.size)⟩

set_option maxRecDepth 100000 in
set_option maxHeartbeats 16000000 in
theorem step_ok (a1 : Int) (hf : fewB n n' = true) (h : RI w A n c act) (h' : RI w A' n' c' l) :
    Calls Try.prog 4 #[.agg #[.slice A n c, .slice A' n' c', .int .i64 y], .int .i64 a1] w fun e w' => e = .returned (.bool true) ∧ Below w.heap.size w w' := by
  have hle : n ≤ 60 ∧ n' ≤ 60 := by simpa [fewB] using hf
  obtain ⟨P1, L1, Y1, er1, c1, d1⟩ := both_bump A n c act A' n' c' l y w a1 h h' hle.1 hle.2
  obtain ⟨P2, L2, Y2, er2, c2, d2⟩ := both_decay A n c act A' n' c' l y w h h' hle.1 hle.2
  obtain ⟨P3, L3, Y3, u3, er3, c3, d3⟩ := both_pop A n c act A' n' c' l y w h h'
  obtain ⟨P4, L4, Y4, er4, c4, d4⟩ := both_push A n c act A' n' c' l y w a1 h h' hle.1 hle.2
  have C1 := Lib.hid c1; have C2 := Lib.hid c2; have C3 := Lib.hid c3; have C4 := Lib.hid c4
  have D1 := Lib.hid d1; have D2 := Lib.hid d2; have D3 := Lib.hid d3; have D4 := Lib.hid d4
  have HF := Lib.hid hf
  have ee1 : (er1 == er1) = true := by simp
  have ee2 : (er2 == er2) = true := by simp
  have ee3 : (er3 == er3) = true := by simp
  have ee4 : (er4 == er4) = true := by simp
  have eu3 : (u3 == u3) = true := by simp
  clear c1 c2 c3 c4 d1 d2 d3 d4 hf h h' hle
  go_enter Try.func4, Try.ntmps4
  go_wp2_with fail
  refine (live_any _).mono ?_
  rintro e w1 ⟨rfl, hb⟩
  have BH := Lib.hid ((Box.new w (.slice A n c) (.slice A' n' c') (.int .i64 y)).below hb)
  have HB := Lib.hid ((stepA w _).trans (hb.mono (by simp)))
  have q0 := BH.out.c0; have q1 := BH.out.c1; have q2 := BH.out.c2
  clear hb
  go_wp2_with fail
  refine (few_any _ _ _ _ _ _ _ _).mono ?_
  rintro e w2 ⟨rfl, hb⟩
  rw [HF.out]
  replace BH := Lib.hid (BH.out.below hb)
  replace HB := Lib.hid (HB.out.trans (hb.mono HB.out.size))
  clear q0 q1 q2 hb
  have q0 := BH.out.c0; have q1 := BH.out.c1; have q2 := BH.out.c2
  go_wp2_with fail
  refine (C1.out _ HB.out).mono ?_
  rintro e v1 ⟨E1, e1, F1, f1, rfl, ra, rb, hb⟩
  have sA := stepA v1 (.cells #[.slice E1 P1.length e1, .slice F1 L1.length f1, .int .i64 Y1] 24)
  replace BH := Lib.hid ((BH.out.below hb).below sA)
  have B1 := Lib.hid (Box.new v1 (.slice E1 P1.length e1) (.slice F1 L1.length f1) (.int .i64 Y1))
  have R1 := Lib.hid (ra.below sA)
  have S1 := Lib.hid (rb.below sA)
  replace HB := Lib.hid (belowA (HB.out.trans (hb.mono HB.out.size)) (.cells #[.slice E1 P1.length e1, .slice F1 L1.length f1, .int .i64 Y1] 24))
  obtain ⟨W1, hW1⟩ : ∃ W1, v1.alloc (.cells #[.slice E1 P1.length e1, .slice F1 L1.length f1, .int .i64 Y1] 24) = W1 := ⟨_, rfl⟩
  rw [hW1] at BH B1 R1 S1 HB
  clear q0 q1 q2 ra rb hb sA
  have q0 := BH.out.c0; have q1 := BH.out.c1; have q2 := BH.out.c2
  go_wp2_with fail
  refine (D1.out _ HB.out).mono ?_
  rintro e v2 ⟨E2, e2, F2, f2, rfl, ra, rb, hb⟩
  have sA := stepA v2 (.cells #[.slice E2 P1.length e2, .slice F2 L1.length f2, .int .i64 Y1] 24)
  replace BH := Lib.hid ((BH.out.below hb).below sA)
  replace B1 := Lib.hid ((B1.out.below hb).below sA)
  replace R1 := Lib.hid ((R1.out.below hb).below sA)
  replace S1 := Lib.hid ((S1.out.below hb).below sA)
  have B2 := Lib.hid (Box.new v2 (.slice E2 P1.length e2) (.slice F2 L1.length f2) (.int .i64 Y1))
  have R2 := Lib.hid (ra.below sA)
  have S2 := Lib.hid (rb.below sA)
  replace HB := Lib.hid (belowA (HB.out.trans (hb.mono HB.out.size)) (.cells #[.slice E2 P1.length e2, .slice F2 L1.length f2, .int .i64 Y1] 24))
  obtain ⟨W2, hW2⟩ : ∃ W2, v2.alloc (.cells #[.slice E2 P1.length e2, .slice F2 L1.length f2, .int .i64 Y1] 24) = W2 := ⟨_, rfl⟩
  rw [hW2] at BH B1 R1 S1 B2 R2 S2 HB
  clear q0 q1 q2 ra rb hb sA
  have q0 := BH.out.c0; have q1 := BH.out.c1; have q2 := BH.out.c2
  go_wp2_with fail
  refine (C2.out _ HB.out).mono ?_
  rintro e v3 ⟨E3, e3, F3, f3, rfl, ra, rb, hb⟩
  have sA := stepA v3 (.cells #[.slice E3 P2.length e3, .slice F3 L2.length f3, .int .i64 Y2] 24)
  replace BH := Lib.hid ((BH.out.below hb).below sA)
  replace B1 := Lib.hid ((B1.out.below hb).below sA)
  replace R1 := Lib.hid ((R1.out.below hb).below sA)
  replace S1 := Lib.hid ((S1.out.below hb).below sA)
  replace B2 := Lib.hid ((B2.out.below hb).below sA)
  replace R2 := Lib.hid ((R2.out.below hb).below sA)
  replace S2 := Lib.hid ((S2.out.below hb).below sA)
  have B3 := Lib.hid (Box.new v3 (.slice E3 P2.length e3) (.slice F3 L2.length f3) (.int .i64 Y2))
  have R3 := Lib.hid (ra.below sA)
  have S3 := Lib.hid (rb.below sA)
  replace HB := Lib.hid (belowA (HB.out.trans (hb.mono HB.out.size)) (.cells #[.slice E3 P2.length e3, .slice F3 L2.length f3, .int .i64 Y2] 24))
  obtain ⟨W3, hW3⟩ : ∃ W3, v3.alloc (.cells #[.slice E3 P2.length e3, .slice F3 L2.length f3, .int .i64 Y2] 24) = W3 := ⟨_, rfl⟩
  rw [hW3] at BH B1 R1 S1 B2 R2 S2 B3 R3 S3 HB
  clear q0 q1 q2 ra rb hb sA
  have q0 := BH.out.c0; have q1 := BH.out.c1; have q2 := BH.out.c2
  go_wp2_with fail
  refine (D2.out _ HB.out).mono ?_
  rintro e v4 ⟨E4, e4, F4, f4, rfl, ra, rb, hb⟩
  have sA := stepA v4 (.cells #[.slice E4 P2.length e4, .slice F4 L2.length f4, .int .i64 Y2] 24)
  replace BH := Lib.hid ((BH.out.below hb).below sA)
  replace B1 := Lib.hid ((B1.out.below hb).below sA)
  replace R1 := Lib.hid ((R1.out.below hb).below sA)
  replace S1 := Lib.hid ((S1.out.below hb).below sA)
  replace B2 := Lib.hid ((B2.out.below hb).below sA)
  replace R2 := Lib.hid ((R2.out.below hb).below sA)
  replace S2 := Lib.hid ((S2.out.below hb).below sA)
  replace B3 := Lib.hid ((B3.out.below hb).below sA)
  replace R3 := Lib.hid ((R3.out.below hb).below sA)
  replace S3 := Lib.hid ((S3.out.below hb).below sA)
  have B4 := Lib.hid (Box.new v4 (.slice E4 P2.length e4) (.slice F4 L2.length f4) (.int .i64 Y2))
  have R4 := Lib.hid (ra.below sA)
  have S4 := Lib.hid (rb.below sA)
  replace HB := Lib.hid (belowA (HB.out.trans (hb.mono HB.out.size)) (.cells #[.slice E4 P2.length e4, .slice F4 L2.length f4, .int .i64 Y2] 24))
  obtain ⟨W4, hW4⟩ : ∃ W4, v4.alloc (.cells #[.slice E4 P2.length e4, .slice F4 L2.length f4, .int .i64 Y2] 24) = W4 := ⟨_, rfl⟩
  rw [hW4] at BH B1 R1 S1 B2 R2 S2 B3 R3 S3 B4 R4 S4 HB
  clear q0 q1 q2 ra rb hb sA
  have q0 := BH.out.c0; have q1 := BH.out.c1; have q2 := BH.out.c2
  go_wp2_with fail
  refine (C3.out _ HB.out).mono ?_
  rintro e v5 ⟨E5, e5, F5, f5, rfl, ra, rb, hb⟩
  have sA := stepA v5 (.cells #[.slice E5 P3.length e5, .slice F5 L3.length f5, .int .i64 Y3] 24)
  replace BH := Lib.hid ((BH.out.below hb).below sA)
  replace B1 := Lib.hid ((B1.out.below hb).below sA)
  replace R1 := Lib.hid ((R1.out.below hb).below sA)
  replace S1 := Lib.hid ((S1.out.below hb).below sA)
  replace B2 := Lib.hid ((B2.out.below hb).below sA)
  replace R2 := Lib.hid ((R2.out.below hb).below sA)
  replace S2 := Lib.hid ((S2.out.below hb).below sA)
  replace B3 := Lib.hid ((B3.out.below hb).below sA)
  replace R3 := Lib.hid ((R3.out.below hb).below sA)
  replace S3 := Lib.hid ((S3.out.below hb).below sA)
  replace B4 := Lib.hid ((B4.out.below hb).below sA)
  replace R4 := Lib.hid ((R4.out.below hb).below sA)
  replace S4 := Lib.hid ((S4.out.below hb).below sA)
  have B5 := Lib.hid (Box.new v5 (.slice E5 P3.length e5) (.slice F5 L3.length f5) (.int .i64 Y3))
  have R5 := Lib.hid (ra.below sA)
  have S5 := Lib.hid (rb.below sA)
  replace HB := Lib.hid (belowA (HB.out.trans (hb.mono HB.out.size)) (.cells #[.slice E5 P3.length e5, .slice F5 L3.length f5, .int .i64 Y3] 24))
  obtain ⟨W5, hW5⟩ : ∃ W5, v5.alloc (.cells #[.slice E5 P3.length e5, .slice F5 L3.length f5, .int .i64 Y3] 24) = W5 := ⟨_, rfl⟩
  rw [hW5] at BH B1 R1 S1 B2 R2 S2 B3 R3 S3 B4 R4 S4 B5 R5 S5 HB
  clear q0 q1 q2 ra rb hb sA
  have q0 := BH.out.c0; have q1 := BH.out.c1; have q2 := BH.out.c2
  go_wp2_with fail
  refine (D3.out _ HB.out).mono ?_
  rintro e v6 ⟨E6, e6, F6, f6, rfl, ra, rb, hb⟩
  have sA := stepA v6 (.cells #[.slice E6 P3.length e6, .slice F6 L3.length f6, .int .i64 Y3] 24)
  replace BH := Lib.hid ((BH.out.below hb).below sA)
  replace B1 := Lib.hid ((B1.out.below hb).below sA)
  replace R1 := Lib.hid ((R1.out.below hb).below sA)
  replace S1 := Lib.hid ((S1.out.below hb).below sA)
  replace B2 := Lib.hid ((B2.out.below hb).below sA)
  replace R2 := Lib.hid ((R2.out.below hb).below sA)
  replace S2 := Lib.hid ((S2.out.below hb).below sA)
  replace B3 := Lib.hid ((B3.out.below hb).below sA)
  replace R3 := Lib.hid ((R3.out.below hb).below sA)
  replace S3 := Lib.hid ((S3.out.below hb).below sA)
  replace B4 := Lib.hid ((B4.out.below hb).below sA)
  replace R4 := Lib.hid ((R4.out.below hb).below sA)
  replace S4 := Lib.hid ((S4.out.below hb).below sA)
  replace B5 := Lib.hid ((B5.out.below hb).below sA)
  replace R5 := Lib.hid ((R5.out.below hb).below sA)
  replace S5 := Lib.hid ((S5.out.below hb).below sA)
  have B6 := Lib.hid (Box.new v6 (.slice E6 P3.length e6) (.slice F6 L3.length f6) (.int .i64 Y3))
  have R6 := Lib.hid (ra.below sA)
  have S6 := Lib.hid (rb.below sA)
  replace HB := Lib.hid (belowA (HB.out.trans (hb.mono HB.out.size)) (.cells #[.slice E6 P3.length e6, .slice F6 L3.length f6, .int .i64 Y3] 24))
  obtain ⟨W6, hW6⟩ : ∃ W6, v6.alloc (.cells #[.slice E6 P3.length e6, .slice F6 L3.length f6, .int .i64 Y3] 24) = W6 := ⟨_, rfl⟩
  rw [hW6] at BH B1 R1 S1 B2 R2 S2 B3 R3 S3 B4 R4 S4 B5 R5 S5 B6 R6 S6 HB
  clear q0 q1 q2 ra rb hb sA
  have q0 := BH.out.c0; have q1 := BH.out.c1; have q2 := BH.out.c2
  go_wp2_with fail
  refine (C4.out _ HB.out).mono ?_
  rintro e v7 ⟨E7, e7, F7, f7, rfl, ra, rb, hb⟩
  have sA := stepA v7 (.cells #[.slice E7 P4.length e7, .slice F7 L4.length f7, .int .i64 Y4] 24)
  replace BH := Lib.hid ((BH.out.below hb).below sA)
  replace B1 := Lib.hid ((B1.out.below hb).below sA)
  replace R1 := Lib.hid ((R1.out.below hb).below sA)
  replace S1 := Lib.hid ((S1.out.below hb).below sA)
  replace B2 := Lib.hid ((B2.out.below hb).below sA)
  replace R2 := Lib.hid ((R2.out.below hb).below sA)
  replace S2 := Lib.hid ((S2.out.below hb).below sA)
  replace B3 := Lib.hid ((B3.out.below hb).below sA)
  replace R3 := Lib.hid ((R3.out.below hb).below sA)
  replace S3 := Lib.hid ((S3.out.below hb).below sA)
  replace B4 := Lib.hid ((B4.out.below hb).below sA)
  replace R4 := Lib.hid ((R4.out.below hb).below sA)
  replace S4 := Lib.hid ((S4.out.below hb).below sA)
  replace B5 := Lib.hid ((B5.out.below hb).below sA)
  replace R5 := Lib.hid ((R5.out.below hb).below sA)
  replace S5 := Lib.hid ((S5.out.below hb).below sA)
  replace B6 := Lib.hid ((B6.out.below hb).below sA)
  replace R6 := Lib.hid ((R6.out.below hb).below sA)
  replace S6 := Lib.hid ((S6.out.below hb).below sA)
  have B7 := Lib.hid (Box.new v7 (.slice E7 P4.length e7) (.slice F7 L4.length f7) (.int .i64 Y4))
  have R7 := Lib.hid (ra.below sA)
  have S7 := Lib.hid (rb.below sA)
  replace HB := Lib.hid (belowA (HB.out.trans (hb.mono HB.out.size)) (.cells #[.slice E7 P4.length e7, .slice F7 L4.length f7, .int .i64 Y4] 24))
  obtain ⟨W7, hW7⟩ : ∃ W7, v7.alloc (.cells #[.slice E7 P4.length e7, .slice F7 L4.length f7, .int .i64 Y4] 24) = W7 := ⟨_, rfl⟩
  rw [hW7] at BH B1 R1 S1 B2 R2 S2 B3 R3 S3 B4 R4 S4 B5 R5 S5 B6 R6 S6 B7 R7 S7 HB
  clear q0 q1 q2 ra rb hb sA
  have q0 := BH.out.c0; have q1 := BH.out.c1; have q2 := BH.out.c2
  go_wp2_with fail
  refine (D4.out _ HB.out).mono ?_
  rintro e v8 ⟨E8, e8, F8, f8, rfl, ra, rb, hb⟩
  have sA := stepA v8 (.cells #[.slice E8 P4.length e8, .slice F8 L4.length f8, .int .i64 Y4] 24)
  replace BH := Lib.hid ((BH.out.below hb).below sA)
  replace B1 := Lib.hid ((B1.out.below hb).below sA)
  replace R1 := Lib.hid ((R1.out.below hb).below sA)
  replace S1 := Lib.hid ((S1.out.below hb).below sA)
  replace B2 := Lib.hid ((B2.out.below hb).below sA)
  replace R2 := Lib.hid ((R2.out.below hb).below sA)
  replace S2 := Lib.hid ((S2.out.below hb).below sA)
  replace B3 := Lib.hid ((B3.out.below hb).below sA)
  replace R3 := Lib.hid ((R3.out.below hb).below sA)
  replace S3 := Lib.hid ((S3.out.below hb).below sA)
  replace B4 := Lib.hid ((B4.out.below hb).below sA)
  replace R4 := Lib.hid ((R4.out.below hb).below sA)
  replace S4 := Lib.hid ((S4.out.below hb).below sA)
  replace B5 := Lib.hid ((B5.out.below hb).below sA)
  replace R5 := Lib.hid ((R5.out.below hb).below sA)
  replace S5 := Lib.hid ((S5.out.below hb).below sA)
  replace B6 := Lib.hid ((B6.out.below hb).below sA)
  replace R6 := Lib.hid ((R6.out.below hb).below sA)
  replace S6 := Lib.hid ((S6.out.below hb).below sA)
  replace B7 := Lib.hid ((B7.out.below hb).below sA)
  replace R7 := Lib.hid ((R7.out.below hb).below sA)
  replace S7 := Lib.hid ((S7.out.below hb).below sA)
  have B8 := Lib.hid (Box.new v8 (.slice E8 P4.length e8) (.slice F8 L4.length f8) (.int .i64 Y4))
  have R8 := Lib.hid (ra.below sA)
  have S8 := Lib.hid (rb.below sA)
  replace HB := Lib.hid (belowA (HB.out.trans (hb.mono HB.out.size)) (.cells #[.slice E8 P4.length e8, .slice F8 L4.length f8, .int .i64 Y4] 24))
  obtain ⟨W8, hW8⟩ : ∃ W8, v8.alloc (.cells #[.slice E8 P4.length e8, .slice F8 L4.length f8, .int .i64 Y4] 24) = W8 := ⟨_, rfl⟩
  rw [hW8] at BH B1 R1 S1 B2 R2 S2 B3 R3 S3 B4 R4 S4 B5 R5 S5 B6 R6 S6 B7 R7 S7 B8 R8 S8 HB
  clear q0 q1 q2 ra rb hb sA
  have q0 := B1.out.c0; have q1 := B1.out.c1; have q2 := B1.out.c2
  have r0 := B2.out.c0; have r1 := B2.out.c1; have r2 := B2.out.c2
  go_wp2_with fail
  refine (same_self _ _ _ P1 _ _ _ L1 _ _ _ _ _ _ _ _ R1.out S1.out R2.out S2.out).mono ?_
  rintro e z1 ⟨rfl, hb⟩
  replace B3 := Lib.hid (B3.out.below hb)
  replace R3 := Lib.hid (R3.out.below hb)
  replace S3 := Lib.hid (S3.out.below hb)
  replace B4 := Lib.hid (B4.out.below hb)
  replace R4 := Lib.hid (R4.out.below hb)
  replace S4 := Lib.hid (S4.out.below hb)
  replace B5 := Lib.hid (B5.out.below hb)
  replace R5 := Lib.hid (R5.out.below hb)
  replace S5 := Lib.hid (S5.out.below hb)
  replace B6 := Lib.hid (B6.out.below hb)
  replace R6 := Lib.hid (R6.out.below hb)
  replace S6 := Lib.hid (S6.out.below hb)
  replace B7 := Lib.hid (B7.out.below hb)
  replace R7 := Lib.hid (R7.out.below hb)
  replace S7 := Lib.hid (S7.out.below hb)
  replace B8 := Lib.hid (B8.out.below hb)
  replace R8 := Lib.hid (R8.out.below hb)
  replace S8 := Lib.hid (S8.out.below hb)
  replace HB := Lib.hid (HB.out.trans (hb.mono HB.out.size))
  clear q0 q1 q2 r0 r1 r2 hb
  have q0 := B3.out.c0; have q1 := B3.out.c1; have q2 := B3.out.c2
  have r0 := B4.out.c0; have r1 := B4.out.c1; have r2 := B4.out.c2
  go_wp2_with fail
  refine (same_self _ _ _ P2 _ _ _ L2 _ _ _ _ _ _ _ _ R3.out S3.out R4.out S4.out).mono ?_
  rintro e z2 ⟨rfl, hb⟩
  replace B5 := Lib.hid (B5.out.below hb)
  replace R5 := Lib.hid (R5.out.below hb)
  replace S5 := Lib.hid (S5.out.below hb)
  replace B6 := Lib.hid (B6.out.below hb)
  replace R6 := Lib.hid (R6.out.below hb)
  replace S6 := Lib.hid (S6.out.below hb)
  replace B7 := Lib.hid (B7.out.below hb)
  replace R7 := Lib.hid (R7.out.below hb)
  replace S7 := Lib.hid (S7.out.below hb)
  replace B8 := Lib.hid (B8.out.below hb)
  replace R8 := Lib.hid (R8.out.below hb)
  replace S8 := Lib.hid (S8.out.below hb)
  replace HB := Lib.hid (HB.out.trans (hb.mono HB.out.size))
  clear q0 q1 q2 r0 r1 r2 hb
  have q0 := B5.out.c0; have q1 := B5.out.c1; have q2 := B5.out.c2
  have r0 := B6.out.c0; have r1 := B6.out.c1; have r2 := B6.out.c2
  go_wp2_with fail
  refine (same_self _ _ _ P3 _ _ _ L3 _ _ _ _ _ _ _ _ R5.out S5.out R6.out S6.out).mono ?_
  rintro e z3 ⟨rfl, hb⟩
  replace B7 := Lib.hid (B7.out.below hb)
  replace R7 := Lib.hid (R7.out.below hb)
  replace S7 := Lib.hid (S7.out.below hb)
  replace B8 := Lib.hid (B8.out.below hb)
  replace R8 := Lib.hid (R8.out.below hb)
  replace S8 := Lib.hid (S8.out.below hb)
  replace HB := Lib.hid (HB.out.trans (hb.mono HB.out.size))
  clear q0 q1 q2 r0 r1 r2 hb
  have q0 := B7.out.c0; have q1 := B7.out.c1; have q2 := B7.out.c2
  have r0 := B8.out.c0; have r1 := B8.out.c1; have r2 := B8.out.c2
  go_wp2_with fail
  refine (same_self _ _ _ P4 _ _ _ L4 _ _ _ _ _ _ _ _ R7.out S7.out R8.out S8.out).mono ?_
  rintro e z4 ⟨rfl, hb⟩
  replace HB := Lib.hid (HB.out.trans (hb.mono HB.out.size))
  clear q0 q1 q2 r0 r1 r2 hb
  go_wp2_with fail
  go_ret
  exact ⟨rfl, HB.out⟩
theorem step_any (a1 : Int) (h : n * 8 ≤ 140737488355328 → RI w A n c act) (h' : n' * 8 ≤ 140737488355328 → RI w A' n' c' l) :
    Calls Try.prog 4 #[.agg #[.slice A n c, .slice A' n' c', .int .i64 y], .int .i64 a1] w fun e w' => e = .returned (.bool true) ∧ Below w.heap.size w w' := by
  cases hf : fewB n n'
  · exact step_few A n c A' n' c' y w a1 hf
  · have hle : n ≤ 60 ∧ n' ≤ 60 := by simpa [fewB] using hf
    exact step_ok A n c act A' n' c' l y w a1 hf (h (by omega)) (h' (by omega))
end

end Go.Proofs.Ythfadkilffmmlaa
