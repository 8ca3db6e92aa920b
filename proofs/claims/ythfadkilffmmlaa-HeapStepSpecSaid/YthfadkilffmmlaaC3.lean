/-
  The walk of chalklinelaw21.HeapCheckSpec: it returns true. No condition.
-/
import Derived.Test.YthfadkilffmmlaaC2
namespace Go.Proofs.Ythfadkilffmmlaa
open Go.RowKit
set_option linter.unusedVariables false
set_option linter.unusedSimpArgs false

/-- a heap and an error, returned -/
def NewV (act l : List Int) (y er : Int) (w : World) (e : Ending) (w' : World) : Prop :=
  ∃ (A : Option Addr) (c : Nat) (A' : Option Addr) (c' : Nat), e = .returned (.tuple #[.agg #[.slice A act.length c, .slice A' l.length c', .int .i64 y], .int .i64 er]) ∧
    RI w' A act.length c act ∧ RI w' A' l.length c' l ∧ Below w.heap.size w w'
theorem NewV.ok {act l : List Int} {y : Int} {w : World} {e : Ending} {w' : World} (h : HeapOk act l y w e w') : NewV act l y 0 w e w' := h
theorem NewV.bad {er : Int} {w : World} {e : Ending} {w' : World} (h : e = .returned (.tuple #[zeroH, .int .i64 er]) ∧ Below w.heap.size w w') : NewV [] [] 0 er w e w' :=
  ⟨none, 0, none, 0, h.1, RI.nil _ _ _ (Nat.zero_le _), RI.nil _ _ _ (Nat.zero_le _), h.2⟩

theorem both_new (a1 : Int) (h : ¬ (100 < a1 ∧ a1 ≤ 65536)) : ∃ act l y er, (∀ w, Calls Try.prog 12 #[.int .i64 a1] w (NewV act l y er w)) ∧ (∀ w, Calls Try.prog 13 #[.int .i64 a1] w (NewV act l y er w)) := by
  by_cases hb : a1 < 0 ∨ 65536 < a1
  · exact ⟨[], [], 0, 1, fun w => (new_bad a1 w hb).mono fun _ _ h => NewV.bad h, fun w => (rnew_bad a1 w hb).mono fun _ _ h => NewV.bad h⟩
  · obtain ⟨k, rfl⟩ := Int.eq_ofNat_of_zero_le (show 0 ≤ a1 by omega)
    exact ⟨_, _, _, 0, fun w => (new_ok k w (by omega)).mono fun _ _ h => NewV.ok h, fun w => (rnew_ok k w (by omega)).mono fun _ _ h => NewV.ok h⟩

theorem same_self (A : Option Addr) (n c : Nat) (act : List Int) (A' : Option Addr) (n' c' : Nat) (l : List Int) (y : Int) (E : Option Addr) (m d : Nat) (E' : Option Addr) (m' d' : Nat) (w : World)
    (h : RI w A n c act) (h' : RI w A' n' c' l) (k : RI w E m d act) (k' : RI w E' m' d' l) :
    Calls Try.prog 16 #[.agg #[.slice A n c, .slice A' n' c', .int .i64 y], .agg #[.slice E m d, .slice E' m' d', .int .i64 y]] w fun e w' => e = .returned (.bool true) ∧ Below w.heap.size w w' :=
  (same_any A n c act A' n' c' l y E m d act E' m' d' l y w h h' k k').mono fun e w' h => ⟨h.1.trans (by simp [sameH, sameB]), h.2⟩

section
variable (A : Option Addr) (n c : Nat) (act : List Int) (A' : Option Addr) (n' c' : Nat) (l : List Int) (y : Int) (w : World)

set_option maxRecDepth 100000 in
set_option maxHeartbeats 2000000 in
theorem checkS_few (a1 : Int) (hf : fewB n n' = false) :
    Calls Try.prog 3 #[.agg #[.slice A n c, .slice A' n' c', .int .i64 y], .int .i64 a1] w fun e w' => e = .returned (.bool true) ∧ Below w.heap.size w w' := by
  have HF := Lib.hid hf
  clear hf
  go_enter Try.func3, Try.ntmps3
  go_wp2_with fail
  refine (live_any _).mono ?_
  rintro e w1 ⟨rfl, hb⟩
  have BH := Lib.hid ((Box.new w (.slice A n c) (.slice A' n' c') (.int .i64 y)).below hb)
  have HB := Lib.hid ((stepA w _).trans (hb.mono (by simp)))
  have q0 := BH.out.c0; have q1 := BH.out.c1; have q2 := BH.out.c2
  clear hb
  go_wp2_with fail
  refine (few_any _ _ _ _ _ _ _ _).mono ?_
  rintro e w2 ⟨rfl, hb⟩
  rw [HF.out]
  clear q0 q1 q2
  go_wp2_with fail
  go_ret
  exact ⟨rfl, HB.out.trans (hb.mono HB.out.size)⟩

set_option maxRecDepth 100000 in
set_option maxHeartbeats 2000000 in
theorem checkS_mid (a1 : Int) (hf : fewB n n' = true) (hm : 100 < a1 ∧ a1 ≤ 65536) :
    Calls Try.prog 3 #[.agg #[.slice A n c, .slice A' n' c', .int .i64 y], .int .i64 a1] w fun e w' => e = .returned (.bool true) ∧ Below w.heap.size w w' := by
  have HF := Lib.hid hf
  clear hf
  obtain ⟨m1, m2⟩ := hm
  go_enter Try.func3, Try.ntmps3
  go_wp2_with fail
  refine (live_any _).mono ?_
  rintro e w1 ⟨rfl, hb⟩
  have BH := Lib.hid ((Box.new w (.slice A n c) (.slice A' n' c') (.int .i64 y)).below hb)
  have HB := Lib.hid ((stepA w _).trans (hb.mono (by simp)))
  have q0 := BH.out.c0; have q1 := BH.out.c1; have q2 := BH.out.c2
  clear hb
  go_wp2_with fail
  refine (few_any _ _ _ _ _ _ _ _).mono ?_
  rintro e w2 ⟨rfl, hb⟩
  rw [HF.out]
  clear q0 q1 q2
  go_wp2_with fail
  go_ret
  exact ⟨rfl, HB.out.trans (hb.mono HB.out.size)⟩

set_option maxRecDepth 100000 in
set_option maxHeartbeats 4000000 in
theorem checkS_ok (a1 : Int) (hf : fewB n n' = true) (hm : ¬ (100 < a1 ∧ a1 ≤ 65536)) (h : RI w A n c act) (h' : RI w A' n' c' l) :
    Calls Try.prog 3 #[.agg #[.slice A n c, .slice A' n' c', .int .i64 y], .int .i64 a1] w fun e w' => e = .returned (.bool true) ∧ Below w.heap.size w w' := by
  have HF := Lib.hid hf
  have H := Lib.hid h
  have H' := Lib.hid h'
  obtain ⟨act2, l2, y2, er, cN, cR⟩ := both_new a1 hm
  have CN := Lib.hid cN
  have CR := Lib.hid cR
  clear hf h h' cN cR
  generalize hX : errB (checkB act l y) = X
  have HX := Lib.hid hX
  clear hX
  have hmid : a1 ≤ 100 ∨ 65536 < a1 := by omega
  clear hm
  have go : ∀ (t : Bool), (t = true → a1 ≤ 100) → (t = false → 100 < a1 ∧ 65536 < a1) → Calls Try.prog 3 #[.agg #[.slice A n c, .slice A' n' c', .int .i64 y], .int .i64 a1] w fun e w' => e = .returned (.bool true) ∧ Below w.heap.size w w' := by
    intro t ht hf
    have hxx : (X == X) = true := by simp
    have hee : (er == er) = true := by simp
    have hll : (lubI a1 == lubI a1) = true := by simp
    cases t
    all_goals
      first | have m1 := (ht rfl) | obtain ⟨m1, m2⟩ := hf rfl
      clear ht hf hmid
      go_enter Try.func3, Try.ntmps3
      go_wp2_with fail
      refine (live_any _).mono ?_
      rintro e w1 ⟨rfl, hb⟩
      have BH := Lib.hid ((Box.new w (.slice A n c) (.slice A' n' c') (.int .i64 y)).below hb)
      have HB := Lib.hid ((stepA w _).trans (hb.mono (by simp)))
      have q0 := BH.out.c0; have q1 := BH.out.c1; have q2 := BH.out.c2
      clear hb
      go_wp2_with fail
      refine (few_any _ _ _ _ _ _ _ _).mono ?_
      rintro e w2 ⟨rfl, hb⟩
      rw [HF.out]
      replace BH := Lib.hid (BH.out.below hb)
      replace HB := Lib.hid (HB.out.trans (hb.mono HB.out.size))
      clear q0 q1 q2 hb
      go_wp2_with fail
      refine (CN.out _).mono ?_
      rintro e w3 ⟨E, d, E', d', rfl, rE, rE', hb⟩
      have RE := Lib.hid (rE.below (stepA w3 (.cells #[.slice E act2.length d, .slice E' l2.length d', .int .i64 y2] 24)))
      have RE' := Lib.hid (rE'.below (stepA w3 (.cells #[.slice E act2.length d, .slice E' l2.length d', .int .i64 y2] 24)))
      replace BH := Lib.hid ((BH.out.below hb).below (stepA w3 (.cells #[.slice E act2.length d, .slice E' l2.length d', .int .i64 y2] 24)))
      have B3 := Lib.hid (Box.new w3 (.slice E act2.length d) (.slice E' l2.length d') (.int .i64 y2))
      replace HB := Lib.hid (belowA (HB.out.trans (hb.mono HB.out.size)) (.cells #[.slice E act2.length d, .slice E' l2.length d', .int .i64 y2] 24))
      clear rE rE' hb
      go_wp2_with fail
      refine (CR.out _).mono ?_
      rintro e w4 ⟨F, f, F', f', rfl, rF, rF', hb⟩
      have sA := stepA w4 (.cells #[.slice F act2.length f, .slice F' l2.length f', .int .i64 y2] 24)
      have B4 := Lib.hid (Box.new w4 (.slice F act2.length f) (.slice F' l2.length f') (.int .i64 y2))
      replace B3 := Lib.hid ((B3.out.below hb).below sA)
      replace BH := Lib.hid ((BH.out.below hb).below sA)
      replace RE := Lib.hid ((RE.out.below hb).below sA)
      replace RE' := Lib.hid ((RE'.out.below hb).below sA)
      have RF := Lib.hid (rF.below sA)
      have RF' := Lib.hid (rF'.below sA)
      replace HB := Lib.hid (belowA (HB.out.trans (hb.mono HB.out.size)) (.cells #[.slice F act2.length f, .slice F' l2.length f', .int .i64 y2] 24))
      obtain ⟨W, hW⟩ : ∃ W, w4.alloc (.cells #[.slice F act2.length f, .slice F' l2.length f', .int .i64 y2] 24) = W := ⟨_, rfl⟩
      rw [hW] at B4 B3 BH RE RE' RF RF' HB
      clear sA rF rF' hb
      have hs0 : w.heap.size < W.heap.size := lt_of_block BH.out
      have hs3 : w3.heap.size < W.heap.size := lt_of_block B3.out
      have hs4 : w4.heap.size < W.heap.size := lt_of_block B4.out
      have p0 := BH.out.c0; have p1 := BH.out.c1; have p2 := BH.out.c2
      have q0 := B3.out.c0; have q1 := B3.out.c1; have q2 := B3.out.c2
      have r0 := B4.out.c0; have r1 := B4.out.c1; have r2 := B4.out.c2
      go_wp2_with fail
      refine wp_region_grow (by kernel_rfl) (by kernel_rfl) ?_
      have g0 := fun u : Gr W => u.cell (p := ⟨w.heap.size, 0, none⟩) hs0 p0
      have g1 := fun u : Gr W => u.cell (p := ⟨w.heap.size, 1, none⟩) hs0 p1
      have g2 := fun u : Gr W => u.cell (p := ⟨w.heap.size, 2, none⟩) hs0 p2
      have g3 := fun u : Gr W => u.cell (p := ⟨w3.heap.size, 0, none⟩) hs3 q0
      have g4 := fun u : Gr W => u.cell (p := ⟨w3.heap.size, 1, none⟩) hs3 q1
      have g5 := fun u : Gr W => u.cell (p := ⟨w3.heap.size, 2, none⟩) hs3 q2
      have g6 := fun u : Gr W => u.cell (p := ⟨w4.heap.size, 0, none⟩) hs4 r0
      have g7 := fun u : Gr W => u.cell (p := ⟨w4.heap.size, 1, none⟩) hs4 r1
      have g8 := fun u : Gr W => u.cell (p := ⟨w4.heap.size, 2, none⟩) hs4 r2
      repeat (go_big_quiet_step (first
        | (go_at_call 14; exact Gr.call _ ((heapCheck_any _ _ _ act _ _ _ l _ _ ((H.out.below HB.out).below (Gr.ok _)) ((H'.out.below HB.out).below (Gr.ok _))).mono fun e w' h => ⟨h.1.trans (by rw [HX.out]), h.2⟩))
        | (go_at_call 15; exact Gr.call _ ((rcheck_any _ _ _ act _ _ _ l _ _ ((H.out.below HB.out).below (Gr.ok _)) ((H'.out.below HB.out).below (Gr.ok _))).mono fun e w' h => ⟨h.1.trans (by rw [HX.out]), h.2⟩))
        | (go_at_call 16; exact Gr.call _ (same_self _ _ _ act2 _ _ _ l2 _ _ _ _ _ _ _ _ (RE.out.below (Gr.ok _)) (RE'.out.below (Gr.ok _)) (RF.out.below (Gr.ok _)) (RF'.out.below (Gr.ok _))))
        | (go_at_call 17; exact Gr.same _ (luby_any _ _))
        | (go_at_call 18; exact Gr.same _ (rluby_any _ _))))
      refine wpQuiet_nil ?_
      rintro _ ⟨⟨w5, hb5⟩, rfl⟩
      go_wp2_with fail
      go_ret
      exact ⟨rfl, HB.out.trans (hb5.mono HB.out.size)⟩
  by_cases h1 : a1 ≤ 100
  · exact go true (fun _ => h1) (fun h => by cases h)
  · exact go false (fun h => by cases h) (fun _ => by omega)

theorem checkS_any (a1 : Int) (h : n * 8 ≤ 140737488355328 → RI w A n c act) (h' : n' * 8 ≤ 140737488355328 → RI w A' n' c' l) :
    Calls Try.prog 3 #[.agg #[.slice A n c, .slice A' n' c', .int .i64 y], .int .i64 a1] w fun e w' => e = .returned (.bool true) ∧ Below w.heap.size w w' := by
  cases hf : fewB n n'
  · exact checkS_few A n c A' n' c' y w a1 hf
  · have hle : n ≤ 60 ∧ n' ≤ 60 := by simpa [fewB] using hf
    by_cases hm : 100 < a1 ∧ a1 ≤ 65536
    · exact checkS_mid A n c A' n' c' y w a1 hf hm
    · exact checkS_ok A n c act A' n' c' l y w a1 hf hm (h (by omega)) (h' (by omega))
end

end Go.Proofs.Ythfadkilffmmlaa
