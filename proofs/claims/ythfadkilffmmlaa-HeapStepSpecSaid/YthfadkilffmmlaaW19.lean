/-
  The walk of 'live'. No condition.
-/
import Derived.Test.YthfadkilffmmlaaW18
namespace Go.Proofs.Ythfadkilffmmlaa
open Go.RowKit
set_option linter.unusedVariables false
set_option linter.unusedSimpArgs false

set_option maxRecDepth 100000 in
set_option maxHeartbeats 8000000 in
theorem live_any (w : World) : Calls Try.prog 10 #[] w fun e w' => e = .returned (.bool true) ∧ Below w.heap.size w w' := by
  go_enter Try.func10, Try.ntmps10
  go_wp2_with fail
  refine (l_new _).mono ?_
  rintro e w1 ⟨A1, c1, D1, d1, rfl, r1, s1, hb⟩
  have HB := Lib.hid hb
  have R1 := Lib.hid r1
  have S1 := Lib.hid s1
  clear hb r1 s1
  skip
  go_wp2_with fail
  refine (l_bump A1 c1 D1 d1 _ (R1.out.alloc _) (S1.out.alloc _)).mono ?_
  rintro e w2 ⟨A2, c2, D2, d2, rfl, r2, s2, hb⟩
  replace R1 := Lib.hid ((R1.out.below (stepA _ _)).below hb)
  replace S1 := Lib.hid ((S1.out.below (stepA _ _)).below hb)
  have BH := Lib.hid ((Box.new w1 (.slice A1 4 c1) (.slice D1 3 d1) (.int .i64 1)).below hb)
  have hz2 : w1.heap.size < w2.heap.size := by have := hb.size; simp at this; omega
  replace HB := Lib.hid ((belowA HB.out _).trans (hb.mono (Nat.le_trans HB.out.size (by simp))))
  have R2 := Lib.hid r2
  have S2 := Lib.hid s2
  clear hb r2 s2
  skip
  go_wp2_with fail
  refine (l_pop1 A2 c2 D2 d2 _ (R2.out.alloc _) (S2.out.alloc _)).mono ?_
  rintro e w3 ⟨A3, c3, D3, d3, rfl, r3, s3, hb⟩
  replace R1 := Lib.hid ((R1.out.below (stepA _ _)).below hb)
  replace S1 := Lib.hid ((S1.out.below (stepA _ _)).below hb)
  replace BH := Lib.hid ((BH.out.below (stepA _ _)).below hb)
  replace R2 := Lib.hid ((R2.out.below (stepA _ _)).below hb)
  replace S2 := Lib.hid ((S2.out.below (stepA _ _)).below hb)
  have BX := Lib.hid ((Box.new w2 (.slice A2 4 c2) (.slice D2 3 d2) (.int .i64 1)).below hb)
  have hz3 : w2.heap.size < w3.heap.size := by have := hb.size; simp at this; omega
  replace HB := Lib.hid ((belowA HB.out _).trans (hb.mono (Nat.le_trans HB.out.size (by simp))))
  have R3 := Lib.hid r3
  have S3 := Lib.hid s3
  clear hb r3 s3
  skip
  go_wp2_with fail
  refine (l_pop2 A3 c3 D3 d3 _ (R3.out.alloc _) (S3.out.alloc _)).mono ?_
  rintro e w4 ⟨A4, c4, D4, d4, rfl, r4, s4, hb⟩
  replace R1 := Lib.hid ((R1.out.below (stepA _ _)).below hb)
  replace S1 := Lib.hid ((S1.out.below (stepA _ _)).below hb)
  replace BH := Lib.hid ((BH.out.below (stepA _ _)).below hb)
  replace R2 := Lib.hid ((R2.out.below (stepA _ _)).below hb)
  replace S2 := Lib.hid ((S2.out.below (stepA _ _)).below hb)
  replace BX := Lib.hid ((BX.out.below (stepA _ _)).below hb)
  replace R3 := Lib.hid ((R3.out.below (stepA _ _)).below hb)
  replace S3 := Lib.hid ((S3.out.below (stepA _ _)).below hb)
  have hz4 : w3.heap.size < w4.heap.size := by have := hb.size; simp at this; omega
  replace HB := Lib.hid ((belowA HB.out _).trans (hb.mono (Nat.le_trans HB.out.size (by simp))))
  have R4 := Lib.hid r4
  have S4 := Lib.hid s4
  clear hb r4 s4
  skip
  go_wp2_with fail
  refine (l_pop3 A4 c4 D4 d4 _ (R4.out.alloc _) (S4.out.alloc _)).mono ?_
  rintro e w5 ⟨A5, c5, D5, d5, rfl, r5, s5, hb⟩
  replace R1 := Lib.hid ((R1.out.below (stepA _ _)).below hb)
  replace S1 := Lib.hid ((S1.out.below (stepA _ _)).below hb)
  replace BH := Lib.hid ((BH.out.below (stepA _ _)).below hb)
  replace R2 := Lib.hid ((R2.out.below (stepA _ _)).below hb)
  replace S2 := Lib.hid ((S2.out.below (stepA _ _)).below hb)
  replace BX := Lib.hid ((BX.out.below (stepA _ _)).below hb)
  replace R3 := Lib.hid ((R3.out.below (stepA _ _)).below hb)
  replace S3 := Lib.hid ((S3.out.below (stepA _ _)).below hb)
  replace R4 := Lib.hid ((R4.out.below (stepA _ _)).below hb)
  replace S4 := Lib.hid ((S4.out.below (stepA _ _)).below hb)
  have hz5 : w4.heap.size < w5.heap.size := by have := hb.size; simp at this; omega
  replace HB := Lib.hid ((belowA HB.out _).trans (hb.mono (Nat.le_trans HB.out.size (by simp))))
  have R5 := Lib.hid r5
  have S5 := Lib.hid s5
  clear hb r5 s5
  skip
  go_wp2_with fail
  refine (l_pop4 A5 c5 D5 d5 _ (R5.out.alloc _) (S5.out.alloc _)).mono ?_
  rintro e w6 ⟨rfl, hb⟩
  replace R1 := Lib.hid ((R1.out.below (stepA _ _)).below hb)
  replace S1 := Lib.hid ((S1.out.below (stepA _ _)).below hb)
  replace BH := Lib.hid ((BH.out.below (stepA _ _)).below hb)
  replace R2 := Lib.hid ((R2.out.below (stepA _ _)).below hb)
  replace S2 := Lib.hid ((S2.out.below (stepA _ _)).below hb)
  replace BX := Lib.hid ((BX.out.below (stepA _ _)).below hb)
  replace R3 := Lib.hid ((R3.out.below (stepA _ _)).below hb)
  replace S3 := Lib.hid ((S3.out.below (stepA _ _)).below hb)
  replace R4 := Lib.hid ((R4.out.below (stepA _ _)).below hb)
  replace S4 := Lib.hid ((S4.out.below (stepA _ _)).below hb)
  replace R5 := Lib.hid ((R5.out.below (stepA _ _)).below hb)
  replace S5 := Lib.hid ((S5.out.below (stepA _ _)).below hb)
  have BC := Lib.hid ((Box.new w5 (.slice A5 4 c5) (.slice D5 0 d5) (.int .i64 1)).below hb)
  have hz6 : w5.heap.size < w6.heap.size := by have := hb.size; simp at this; omega
  replace HB := Lib.hid ((belowA HB.out _).trans (hb.mono (Nat.le_trans HB.out.size (by simp))))
  clear hb 
  have q0 := BC.out.c0; have q1 := BC.out.c1; have q2 := BC.out.c2
  go_wp2_with fail
  refine (l_push1 A5 c5 D5 d5 _ (R5.out.alloc _) (S5.out.alloc _)).mono ?_
  rintro e w7 ⟨A7, c7, D7, d7, rfl, r7, s7, hb⟩
  replace R1 := Lib.hid ((R1.out.below (stepA _ _)).below hb)
  replace S1 := Lib.hid ((S1.out.below (stepA _ _)).below hb)
  replace BH := Lib.hid ((BH.out.below (stepA _ _)).below hb)
  replace R2 := Lib.hid ((R2.out.below (stepA _ _)).below hb)
  replace S2 := Lib.hid ((S2.out.below (stepA _ _)).below hb)
  replace BX := Lib.hid ((BX.out.below (stepA _ _)).below hb)
  replace R3 := Lib.hid ((R3.out.below (stepA _ _)).below hb)
  replace S3 := Lib.hid ((S3.out.below (stepA _ _)).below hb)
  replace R4 := Lib.hid ((R4.out.below (stepA _ _)).below hb)
  replace S4 := Lib.hid ((S4.out.below (stepA _ _)).below hb)
  replace R5 := Lib.hid ((R5.out.below (stepA _ _)).below hb)
  replace S5 := Lib.hid ((S5.out.below (stepA _ _)).below hb)
  replace BC := Lib.hid ((BC.out.below (stepA _ _)).below hb)
  have hz7 : w6.heap.size < w7.heap.size := by have := hb.size; simp at this; omega
  replace HB := Lib.hid ((belowA HB.out _).trans (hb.mono (Nat.le_trans HB.out.size (by simp))))
  have R7 := Lib.hid r7
  have S7 := Lib.hid s7
  clear hb r7 s7
  clear q0 q1 q2
  skip
  go_wp2_with fail
  refine (l_push2 A7 c7 D7 d7 _ (R7.out.alloc _) (S7.out.alloc _)).mono ?_
  rintro e w8 ⟨rfl, hb⟩
  replace R1 := Lib.hid ((R1.out.below (stepA _ _)).below hb)
  replace S1 := Lib.hid ((S1.out.below (stepA _ _)).below hb)
  replace BH := Lib.hid ((BH.out.below (stepA _ _)).below hb)
  replace R2 := Lib.hid ((R2.out.below (stepA _ _)).below hb)
  replace S2 := Lib.hid ((S2.out.below (stepA _ _)).below hb)
  replace BX := Lib.hid ((BX.out.below (stepA _ _)).below hb)
  replace R3 := Lib.hid ((R3.out.below (stepA _ _)).below hb)
  replace S3 := Lib.hid ((S3.out.below (stepA _ _)).below hb)
  replace R4 := Lib.hid ((R4.out.below (stepA _ _)).below hb)
  replace S4 := Lib.hid ((S4.out.below (stepA _ _)).below hb)
  replace R5 := Lib.hid ((R5.out.below (stepA _ _)).below hb)
  replace S5 := Lib.hid ((S5.out.below (stepA _ _)).below hb)
  replace BC := Lib.hid ((BC.out.below (stepA _ _)).below hb)
  replace R7 := Lib.hid ((R7.out.below (stepA _ _)).below hb)
  replace S7 := Lib.hid ((S7.out.below (stepA _ _)).below hb)
  have BY := Lib.hid ((Box.new w7 (.slice A7 4 c7) (.slice D7 1 d7) (.int .i64 1)).below hb)
  have hz8 : w7.heap.size < w8.heap.size := by have := hb.size; simp at this; omega
  replace HB := Lib.hid ((belowA HB.out _).trans (hb.mono (Nat.le_trans HB.out.size (by simp))))
  clear hb 
  have hz18 : w1.heap.size < w8.heap.size := by omega
  have q0 := BH.out.c0; have q1 := BH.out.c1; have q2 := BH.out.c2
  go_wp2_with fail
  refine (l_decay A1 c1 D1 d1 _ (R1.out.alloc _) (S1.out.alloc _)).mono ?_
  rintro e w9 ⟨A9, c9, D9, d9, rfl, r9, s9, hb⟩
  replace R1 := Lib.hid ((R1.out.below (stepA _ _)).below hb)
  replace S1 := Lib.hid ((S1.out.below (stepA _ _)).below hb)
  replace BH := Lib.hid ((BH.out.below (stepA _ _)).below hb)
  replace R2 := Lib.hid ((R2.out.below (stepA _ _)).below hb)
  replace S2 := Lib.hid ((S2.out.below (stepA _ _)).below hb)
  replace BX := Lib.hid ((BX.out.below (stepA _ _)).below hb)
  replace R3 := Lib.hid ((R3.out.below (stepA _ _)).below hb)
  replace S3 := Lib.hid ((S3.out.below (stepA _ _)).below hb)
  replace R4 := Lib.hid ((R4.out.below (stepA _ _)).below hb)
  replace S4 := Lib.hid ((S4.out.below (stepA _ _)).below hb)
  replace R5 := Lib.hid ((R5.out.below (stepA _ _)).below hb)
  replace S5 := Lib.hid ((S5.out.below (stepA _ _)).below hb)
  replace BC := Lib.hid ((BC.out.below (stepA _ _)).below hb)
  replace R7 := Lib.hid ((R7.out.below (stepA _ _)).below hb)
  replace S7 := Lib.hid ((S7.out.below (stepA _ _)).below hb)
  replace BY := Lib.hid ((BY.out.below (stepA _ _)).below hb)
  have hz9 : w8.heap.size < w9.heap.size := by have := hb.size; simp at this; omega
  replace HB := Lib.hid ((belowA HB.out _).trans (hb.mono (Nat.le_trans HB.out.size (by simp))))
  have R9 := Lib.hid r9
  have S9 := Lib.hid s9
  clear hb r9 s9
  clear q0 q1 q2
  go_wp2_with fail
  refine (l_luby 1 1 _ (by decide)).mono ?_
  rintro e wl ⟨rfl, rfl⟩
  go_wp2_with fail
  refine (l_luby 2 1 _ (by decide)).mono ?_
  rintro e wl ⟨rfl, rfl⟩
  go_wp2_with fail
  refine (l_luby 3 2 _ (by decide)).mono ?_
  rintro e wl ⟨rfl, rfl⟩
  go_wp2_with fail
  refine (l_luby 4 1 _ (by decide)).mono ?_
  rintro e wl ⟨rfl, rfl⟩
  go_wp2_with fail
  refine (l_luby 7 4 _ (by decide)).mono ?_
  rintro e wl ⟨rfl, rfl⟩
  go_wp2_with fail
  refine (l_luby 0 0 _ (by decide)).mono ?_
  rintro e wl ⟨rfl, rfl⟩
  have p1 := BY.out.c1
  have p3 := BX.out.c0
  have p4 := BX.out.c1
  have p5 := BX.out.c2
  have hz79 : w7.heap.size < w9.heap.size := by omega
  have hz29 : w2.heap.size < w9.heap.size := by omega
  go_wp2_with fail
  refine (l_check A2 c2 D2 d2 _ (R2.out.alloc _) (S2.out.alloc _)).mono ?_
  rintro e w10 ⟨rfl, hb⟩
  replace HB := Lib.hid ((belowA HB.out _).trans (hb.mono (Nat.le_trans HB.out.size (by simp))))
  clear p1 p3 p4 p5 hb
  go_wp2_with fail
  refine (l_check0 _).mono ?_
  rintro e w11 ⟨rfl, hb⟩
  replace HB := Lib.hid (HB.out.trans (hb.mono HB.out.size))
  clear hb
  go_wp2_with fail
  go_ret
  exact ⟨rfl, HB.out⟩

end Go.Proofs.Ythfadkilffmmlaa
