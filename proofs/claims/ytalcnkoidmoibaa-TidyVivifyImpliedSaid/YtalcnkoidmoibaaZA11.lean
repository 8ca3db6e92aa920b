/-
  The sanity check 'live' returns true. No condition.
  The reference's Norm. No condition.
-/
import Derived.Test.YtalcnkoidmoibaaZA8
import Derived.Test.YtalcnkoidmoibaaZA10

namespace Go.Proofs.Ytalcnkoidmoibaa
open Go.RowKit Go.Shelf
set_option linter.unusedVariables false
set_option linter.unusedSimpArgs false

def intsO (zs : List Int) : Obj := .cells ((zs.map (Value.int .i64)).toArray) 3
theorem RI.lit (w : World) (zs : List Int) (n s : Nat) (hn : zs.length = n) (hs : s = w.heap.size) (h : n ≤ 1000) : RI (w.alloc (intsO zs)) (some ⟨s, 0, none⟩) n n zs := by
  subst hs
  refine ⟨hn, Nat.le_refl _, by omega, by unfold maxLen; omega, fun h0 => ⟨w.heap.size, 0, rfl, by simp, fun j hj => ?_⟩⟩
  have hb : (w.alloc (intsO zs)).heap[w.heap.size]? = some (intsO zs) := World.alloc_heap_new w _
  generalize w.alloc (intsO zs) = W at hb
  have : ((zs.map (Value.int .i64)).toArray)[j]? = some (.int .i64 (elt zs j)) := by
    rw [List.getElem?_toArray, List.getElem?_map, List.getElem?_eq_getElem (by omega : j < zs.length), elt_lt (by omega)]
    rfl
  unfold intsO at hb
  simp [World.cell?, hb, this]
theorem RL.lit {w : World} {W : World} {rs : List Row} {n s : Nat} {ls : List (List Int)} (hls : rs.map (·.zs) = ls) (hn : rs.length = n) (hs : s = w.heap.size) (h : n ≤ 1000) (hW : W = w.alloc (.cells ((rs.map rowV).toArray) 31)) (hi : ∀ r ∈ rs, RI w r.A r.n r.c r.zs) : RL W (some ⟨s, 0, none⟩) n n ls := by
  subst hs hW hls
  refine ⟨by simpa using hn, Nat.le_refl _, by omega, by unfold maxLen; omega, fun h0 => ⟨w.heap.size, 0, rfl, by simp, fun j hj => ?_⟩⟩
  have hj' : j < rs.length := by omega
  have hri := (hi _ (List.getElem_mem hj')).alloc (.cells ((rs.map rowV).toArray) 31)
  have hb : (w.alloc (.cells ((rs.map rowV).toArray) 31)).heap[w.heap.size]? = some (.cells ((rs.map rowV).toArray) 31) := World.alloc_heap_new w _
  generalize w.alloc (.cells ((rs.map rowV).toArray) 31) = W at hb hri
  have : ((rs.map rowV).toArray)[j]? = some (rowV rs[j]) := by
    rw [List.getElem?_toArray, List.getElem?_map, List.getElem?_eq_getElem hj']
    rfl
  refine ⟨rs[j].A, rs[j].n, rs[j].c, ?_, ?_⟩
  · have h1 : W.cell? ⟨w.heap.size, 0 + j, none⟩ = ((rs.map rowV).toArray)[0 + j]? := by
      unfold World.cell?
      simp only [hb]
      rfl
    rw [h1, Nat.zero_add, this]
    rfl
  · rw [ell_lt (by simpa using hj')]
    simpa using hri

def LV (zs : List Int) (n : Nat) (e' : Int) (w : World) (e : Ending) (w' : World) : Prop :=
  ∃ A c, e = .returned (.tuple #[.slice A n c, .int .i64 e']) ∧ RI w' A n c zs ∧ Below w.heap.size w w'
def LS (x : Int) (ls : List (List Int)) (n : Nat) (w : World) (e : Ending) (w' : World) : Prop :=
  ∃ A c, e = .returned (.tuple #[.agg #[.int .i64 x, .slice A n c], .int .i64 0]) ∧ RL w' A n c ls ∧ Below w.heap.size w w'

theorem alloc3_below (w : World) (o o' o'' : Obj) : Below w.heap.size w (((w.alloc o).alloc o').alloc o'') := (((Below.refl _ _).alloc (Nat.le_refl _) _).alloc (by simp) _).alloc (by simp; omega) _

theorem l_v1 (w : World) : Calls Try.prog 16 #[.agg #[.int .i64 3, .slice (some ⟨w.heap.size + 1 + 1, 0, none⟩) 2 2], .int .i64 0]
    (((w.alloc (.cells #[.int .i64 1, .int .i64 2, .int .i64 3] 3)).alloc (.cells #[.int .i64 (-1), .int .i64 2] 3)).alloc (.cells #[.slice (some ⟨w.heap.size, 0, none⟩) 3 3, .slice (some ⟨w.heap.size + 1, 0, none⟩) 2 2] 31)) (LV [1, 2, 3] 3 0 w) := by
  have h1 := (RI.lit w [1, 2, 3] 3 w.heap.size rfl rfl (by omega)).alloc (intsO [-1, 2])
  have h2 := RI.lit (w.alloc (intsO [1, 2, 3])) [-1, 2] 2 (w.heap.size + 1) rfl (by simp) (by omega)
  have h3 := RL.lit (w := (w.alloc (intsO [1, 2, 3])).alloc (intsO [-1, 2])) (rs := [⟨some ⟨w.heap.size, 0, none⟩, 3, 3, [1, 2, 3]⟩, ⟨some ⟨w.heap.size + 1, 0, none⟩, 2, 2, [-1, 2]⟩]) (n := 2) (s := w.heap.size + 1 + 1) rfl rfl (by simp) (by omega) rfl
    (by intro r hr; simp only [List.mem_cons, List.not_mem_nil, or_false] at hr; rcases hr with rfl | rfl <;> first | exact h1 | exact h2)
  have h4 := vivify_any 3 _ 2 2 [[1, 2, 3], [-1, 2]] 0 _ h3 (by decide)
  refine Calls.mono h4 ?_
  rintro e w' ⟨A, c, he, hr, hb⟩
  have e1 : vivL 3 [[1, 2, 3], [-1, 2]] 0 = [1, 2, 3] := by decide
  have e2 : vivE 3 [[1, 2, 3], [-1, 2]] 0 = 0 := by decide
  rw [e1] at he hr
  rw [e2] at he
  exact ⟨A, c, he, hr, (alloc3_below w _ _ _).trans (hb.mono (by simp; omega))⟩

theorem l_v2 (w : World) : Calls Try.prog 16 #[.agg #[.int .i64 3, .slice (some ⟨w.heap.size + 1 + 1, 0, none⟩) 2 2], .int .i64 0]
    (((w.alloc (.cells #[.int .i64 1, .int .i64 2, .int .i64 3] 3)).alloc (.cells #[.int .i64 1, .int .i64 2] 3)).alloc (.cells #[.slice (some ⟨w.heap.size, 0, none⟩) 3 3, .slice (some ⟨w.heap.size + 1, 0, none⟩) 2 2] 31)) (LV [1, 2] 2 0 w) := by
  have h1 := (RI.lit w [1, 2, 3] 3 w.heap.size rfl rfl (by omega)).alloc (intsO [1, 2])
  have h2 := RI.lit (w.alloc (intsO [1, 2, 3])) [1, 2] 2 (w.heap.size + 1) rfl (by simp) (by omega)
  have h3 := RL.lit (w := (w.alloc (intsO [1, 2, 3])).alloc (intsO [1, 2])) (rs := [⟨some ⟨w.heap.size, 0, none⟩, 3, 3, [1, 2, 3]⟩, ⟨some ⟨w.heap.size + 1, 0, none⟩, 2, 2, [1, 2]⟩]) (n := 2) (s := w.heap.size + 1 + 1) rfl rfl (by simp) (by omega) rfl
    (by intro r hr; simp only [List.mem_cons, List.not_mem_nil, or_false] at hr; rcases hr with rfl | rfl <;> first | exact h1 | exact h2)
  have h4 := vivify_any 3 _ 2 2 [[1, 2, 3], [1, 2]] 0 _ h3 (by decide)
  refine Calls.mono h4 ?_
  rintro e w' ⟨A, c, he, hr, hb⟩
  have e1 : vivL 3 [[1, 2, 3], [1, 2]] 0 = [1, 2] := by decide
  have e2 : vivE 3 [[1, 2, 3], [1, 2]] 0 = 0 := by decide
  rw [e1] at he hr
  rw [e2] at he
  exact ⟨A, c, he, hr, (alloc3_below w _ _ _).trans (hb.mono (by simp; omega))⟩

theorem l_v3 (w : World) : Calls Try.prog 16 #[.agg #[.int .i64 3, .slice (some ⟨w.heap.size + 1, 0, none⟩) 1 1], .int .i64 1]
    ((w.alloc (.cells #[.int .i64 1, .int .i64 2, .int .i64 3] 3)).alloc (.cells #[.slice (some ⟨w.heap.size, 0, none⟩) 3 3] 31)) (LV [] 0 1 w) := by
  have h1 := RI.lit w [1, 2, 3] 3 w.heap.size rfl rfl (by omega)
  have h3 := RL.lit (w := w.alloc (intsO [1, 2, 3])) (rs := [⟨some ⟨w.heap.size, 0, none⟩, 3, 3, [1, 2, 3]⟩]) (n := 1) (s := w.heap.size + 1) rfl rfl (by simp) (by omega) rfl
    (by intro r hr; simp only [List.mem_cons, List.not_mem_nil, or_false] at hr; subst hr; exact h1)
  have h4 := vivify_any 3 _ 1 1 [[1, 2, 3]] 1 _ h3 (by decide)
  refine Calls.mono h4 ?_
  rintro e w' ⟨A, c, he, hr, hb⟩
  have e1 : vivL 3 [[1, 2, 3]] 1 = [] := by decide
  have e2 : vivE 3 [[1, 2, 3]] 1 = 1 := by decide
  rw [e1] at he hr
  rw [e2] at he
  exact ⟨A, c, he, hr, (((Below.refl _ _).alloc (Nat.le_refl _) _).alloc (by simp) _).trans (hb.mono (by simp; omega))⟩

theorem l_s (w : World) : Calls Try.prog 19 #[.agg #[.int .i64 2, .slice (some ⟨w.heap.size + 1 + 1 + 1, 0, none⟩) 3 3]]
    ((((w.alloc (.cells #[.int .i64 1, .int .i64 2] 3)).alloc (.cells #[.int .i64 1] 3)).alloc (.cells #[.int .i64 2, .int .i64 1] 3)).alloc (.cells #[.slice (some ⟨w.heap.size, 0, none⟩) 2 2, .slice (some ⟨w.heap.size + 1, 0, none⟩) 1 1, .slice (some ⟨w.heap.size + 1 + 1, 0, none⟩) 2 2] 31)) (LS 2 [[1]] 1 w) := by
  have h1 := ((RI.lit w [1, 2] 2 w.heap.size rfl rfl (by omega)).alloc (intsO [1])).alloc (intsO [2, 1])
  have h2 := (RI.lit (w.alloc (intsO [1, 2])) [1] 1 (w.heap.size + 1) rfl (by simp) (by omega)).alloc (intsO [2, 1])
  have h2' := RI.lit ((w.alloc (intsO [1, 2])).alloc (intsO [1])) [2, 1] 2 (w.heap.size + 1 + 1) rfl (by simp) (by omega)
  have h3 := RL.lit (w := ((w.alloc (intsO [1, 2])).alloc (intsO [1])).alloc (intsO [2, 1])) (rs := [⟨some ⟨w.heap.size, 0, none⟩, 2, 2, [1, 2]⟩, ⟨some ⟨w.heap.size + 1, 0, none⟩, 1, 1, [1]⟩, ⟨some ⟨w.heap.size + 1 + 1, 0, none⟩, 2, 2, [2, 1]⟩]) (n := 3) (s := w.heap.size + 1 + 1 + 1) rfl rfl (by simp) (by omega) rfl
    (by intro r hr; simp only [List.mem_cons, List.not_mem_nil, or_false] at hr; rcases hr with rfl | rfl | rfl <;> first | exact h1 | exact h2 | exact h2')
  have h4 := subsume_any 2 _ 3 3 [[1, 2], [1], [2, 1]] _ h3 (by omega)
  refine Calls.mono h4 ?_
  rintro e w' ⟨A, c, he, hr, hb⟩
  have e1 : checkE 2 [[1, 2], [1], [2, 1]] = 0 := by decide
  have e2 : subL [[1, 2], [1], [2, 1]] = [[1]] := by decide
  rw [e1] at he hr
  rw [if_pos rfl, e2] at hr
  rw [if_pos rfl, if_pos rfl, e2] at he
  exact ⟨A, c, he, hr, ((alloc3_below w _ _ _).alloc (by simp; omega) _).trans (hb.mono (by simp; omega))⟩

def nilR : Row := ⟨none, 0, 0, []⟩
def exL : List Lrn := [⟨nilR, 5, 1⟩, ⟨nilR, 2, 0⟩, ⟨nilR, 5, 1⟩, ⟨nilR, 3, 0⟩]
/-- what Reduce hands back in the example -/
def LR (w : World) (e : Ending) (w' : World) : Prop :=
  ∃ b off c, e = .returned (.slice (some ⟨b, off, none⟩) 2 c) ∧ b < w'.heap.size ∧ w'.cell? ⟨b, off + 1, none⟩ = some (.int .i64 2) ∧ w'.cell? ⟨b, off + 3 + 1, none⟩ = some (.int .i64 5) ∧ Below w.heap.size w w'
theorem l_r (w : World) (s : Nat) (hs' : s = w.heap.size) : Calls Try.prog 13 #[.slice (some ⟨s, 0, none⟩) 4 4, .int .i64 1] (w.alloc (.cells #[.slice none 0 0, .int .i64 5, .int .i64 1, .slice none 0 0, .int .i64 2, .int .i64 0, .slice none 0 0, .int .i64 5, .int .i64 1, .slice none 0 0, .int .i64 3, .int .i64 0] 44)) (LR w) := by
  subst hs'
  have hb : (w.alloc (.cells #[.slice none 0 0, .int .i64 5, .int .i64 1, .slice none 0 0, .int .i64 2, .int .i64 0, .slice none 0 0, .int .i64 5, .int .i64 1, .slice none 0 0, .int .i64 3, .int .i64 0] 44)).heap[w.heap.size]? = _ := World.alloc_heap_new w _
  have hs : w.heap.size < (w.alloc (.cells #[.slice none 0 0, .int .i64 5, .int .i64 1, .slice none 0 0, .int .i64 2, .int .i64 0, .slice none 0 0, .int .i64 5, .int .i64 1, .slice none 0 0, .int .i64 3, .int .i64 0] 44)).heap.size := by simp
  have hw : Below w.heap.size w (w.alloc (.cells #[.slice none 0 0, .int .i64 5, .int .i64 1, .slice none 0 0, .int .i64 2, .int .i64 0, .slice none 0 0, .int .i64 5, .int .i64 1, .slice none 0 0, .int .i64 3, .int .i64 0] 44)) := (Below.refl _ _).alloc (Nat.le_refl _) _
  generalize w.alloc (.cells #[.slice none 0 0, .int .i64 5, .int .i64 1, .slice none 0 0, .int .i64 2, .int .i64 0, .slice none 0 0, .int .i64 5, .int .i64 1, .slice none 0 0, .int .i64 3, .int .i64 0] 44) = W at hb hs hw ⊢
  have hre : RE W (some ⟨w.heap.size, 0, none⟩) 4 4 exL := by
    refine ⟨rfl, by omega, by omega, by unfold maxLen; omega, fun _ => ⟨w.heap.size, 0, rfl, hs, fun j hj => ?_⟩⟩
    match j, hj with
    | 0, _ => exact ⟨by simp [World.cell?, hb, exL, lrn, rowV, nilR], by simp [World.cell?, hb, exL, lrn], by simp [World.cell?, hb, exL, lrn], RI.nil _ _ _ (Nat.zero_le _)⟩
    | 1, _ => exact ⟨by simp [World.cell?, hb, exL, lrn, rowV, nilR], by simp [World.cell?, hb, exL, lrn], by simp [World.cell?, hb, exL, lrn], RI.nil _ _ _ (Nat.zero_le _)⟩
    | 2, _ => exact ⟨by simp [World.cell?, hb, exL, lrn, rowV, nilR], by simp [World.cell?, hb, exL, lrn], by simp [World.cell?, hb, exL, lrn], RI.nil _ _ _ (Nat.zero_le _)⟩
    | 3, _ => exact ⟨by simp [World.cell?, hb, exL, lrn, rowV, nilR], by simp [World.cell?, hb, exL, lrn], by simp [World.cell?, hb, exL, lrn], RI.nil _ _ _ (Nat.zero_le _)⟩
  refine (reduce_any _ 4 4 exL 1 W hre (by omega)).mono ?_
  rintro e w' ⟨A, c, he, hr, hb'⟩
  have e1 : (redL exL 1).length = 2 := by decide
  have e2 : (lrn (redL exL 1) 0).lv = 2 := by decide
  have e3 : (lrn (redL exL 1) 1).lv = 5 := by decide
  rw [e1] at he hr
  obtain ⟨b, off, rfl, hlt, hc⟩ := hr.cells (by omega)
  have c0 := (hc 0 (by omega)).2.1
  have c1 := (hc 1 (by omega)).2.1
  rw [e2] at c0
  rw [e3] at c1
  exact ⟨b, off, c, he, hlt, by simpa using c0, by simpa using c1, hw.trans (hb'.mono (by omega))⟩

set_option maxRecDepth 100000 in
set_option maxHeartbeats 4000000 in
theorem live_any (w : World) : Calls Try.prog 11 #[] w fun e w' => e = .returned (.bool true) ∧ Below w.heap.size w w' := by
  go_enter Try.func11, Try.ntmps11
  go_wp2_with fail
  refine (l_v1 _).mono ?_
  rintro e w1 ⟨A1, c1, rfl, hr1, hb1⟩
  have HR1 := Lib.hid hr1
  have HB1 := Lib.hid hb1
  clear hr1 hb1
  go_wp2_with fail
  refine (l_v2 _).mono ?_
  rintro e w2 ⟨A2, c2, rfl, hr2, hb2⟩
  have HR1' := Lib.hid (HR1.out.below hb2)
  have HR2 := Lib.hid hr2
  have HB2 := Lib.hid (HB1.out.trans (hb2.mono HB1.out.size))
  clear hr2 hb2 HR1 HB1
  go_wp2_with fail
  refine (l_v3 _).mono ?_
  rintro e w3 ⟨A3, c3, rfl, hr3, hb3⟩
  have HR1 := Lib.hid (HR1'.out.below hb3)
  have HR2' := Lib.hid (HR2.out.below hb3)
  have HB3 := Lib.hid (HB2.out.trans (hb3.mono HB2.out.size))
  clear hr3 hb3 HR1' HR2 HB2
  go_wp2_with fail
  refine (l_s _).mono ?_
  rintro e w4 ⟨A4, c4, rfl, hr4, hb4⟩
  have HR1' := Lib.hid (HR1.out.below hb4)
  have HR2 := Lib.hid (HR2'.out.below hb4)
  have HR4 := Lib.hid hr4
  have HB4 := Lib.hid (HB3.out.trans (hb4.mono HB3.out.size))
  clear hr4 hb4 HR1 HR2' HB3
  go_wp2_with fail
  refine (l_r _ _ (by simp)).mono ?_
  rintro e w5 ⟨b5, off5, c5, rfl, hlt5, k1, k2, hb5⟩
  have hb5' := ((Below.refl _ w4).alloc (Nat.le_refl _) _).trans (hb5.mono (by simp))
  have TW := Lib.hid ((Two.new w4 (.int .i64 2) (.slice A4 1 c4)).below hb5)
  have tw1 := TW.out.c1
  have HR1 := Lib.hid (HR1'.out.below hb5')
  have HR2' := Lib.hid (HR2.out.below hb5')
  have HR4' := Lib.hid (HR4.out.below hb5')
  have HB5 := Lib.hid (HB4.out.trans (hb5'.mono HB4.out.size))
  clear hb5 hb5' HR1' HR2 HR4 HB4
  have K1 := Lib.hid k1
  have K2 := Lib.hid k2
  clear tw1 k1 k2
  go_wp2_with fail
  refine (ints_val true A1 3 c1 [1, 2, 3] _ 3 3 [1, 2, 3] _ (HR1.out.alloc _) (RI.lit w5 [1, 2, 3] 3 w5.heap.size rfl rfl (by omega)) (by decide)).mono ?_
  rintro e w6 ⟨rfl, hb6⟩
  have HB6 := Lib.hid (((Below.refl _ w5).alloc (Nat.le_refl _) _).trans (hb6.mono (by simp)))
  clear hb6
  go_wp2_with fail
  refine (ints_val true A2 2 c2 [1, 2] _ 2 2 [1, 2] _ ((HR2'.out.below HB6.out).alloc _) (RI.lit w6 [1, 2] 2 w6.heap.size rfl rfl (by omega)) (by decide)).mono ?_
  rintro e w7 ⟨rfl, hb7⟩
  have HB7 := Lib.hid (HB6.out.trans ((((Below.refl _ w6).alloc (Nat.le_refl _) _).trans (hb7.mono (by simp))).mono HB6.out.size))
  have tw1 := (TW.out.below HB7.out).c1
  clear hb7
  go_wp2_with fail
  have hR := RL.lit (w := w7.alloc (intsO [1])) (rs := [⟨some ⟨w7.heap.size, 0, none⟩, 1, 1, [1]⟩]) (n := 1) (s := w7.heap.size + 1) rfl rfl (by simp) (by omega) rfl
    (by intro r hr; simp only [List.mem_cons, List.not_mem_nil, or_false] at hr; subst hr; exact RI.lit w7 [1] 1 w7.heap.size rfl rfl (by omega))
  refine (lists_val true A4 1 c4 [[1]] _ 1 1 [[1]] _ (((HR4'.out.below HB7.out).alloc _).alloc _) hR (by decide)).mono ?_
  clear hR
  rintro e w8 ⟨rfl, hb8⟩
  have HB8 := Lib.hid (HB7.out.trans (((((Below.refl _ w7).alloc (Nat.le_refl _) _).alloc (by simp) _).trans (hb8.mono (by simp; omega))).mono HB7.out.size))
  have k1 := (HB8.out.cell (p := ⟨b5, off5 + 1, none⟩) hlt5).trans K1.out
  have k2 := (HB8.out.cell (p := ⟨b5, off5 + 3 + 1, none⟩) hlt5).trans K2.out
  clear hb8 tw1
  go_wp2
  go_ret
  exact ⟨rfl, HB5.out.trans (HB8.out.mono HB5.out.size)⟩

end Go.Proofs.Ytalcnkoidmoibaa

namespace Go.Proofs.Ytalcnkoidmoibaa
open Go.RowKit Go.Shelf
set_option linter.unusedVariables false
set_option linter.unusedSimpArgs false

theorem max_abs {x : Int} (h0 : -65536 ≤ x) (h1 : x ≤ 65536) : max x (-x) = absI x := by unfold absI; split <;> omega

set_option maxHeartbeats 1000000 in
theorem ahead14_any (a b : Int) (w : World) (a0 : -65536 ≤ a) (a1 : a ≤ 65536) (b0 : -65536 ≤ b) (b1 : b ≤ 65536) :
    Calls Try.prog 70 #[.int .i64 a, .int .i64 b] w fun e w' => e = .returned (.bool (litLt a b)) ∧ w = w' := by
  have n1 := lit_neg' a0 a1
  have n2 := lit_neg' b0 b1
  have m1 := max_abs a0 a1
  have m2 := max_abs b0 b1
  have hL : litLt a b = (decide (absI a < absI b) || (decide (absI a = absI b) && decide (b < a))) := rfl
  have HL := Lib.hid hL
  clear hL
  by_cases h1 : absI a < absI b
  · go_enter Try.func70, Try.ntmps70
    go_wp2
    go_ret
    exact ⟨ret_bool (by rw [HL.out]; simp [h1]), rfl⟩
  · by_cases h2 : absI a = absI b
    · have h2' : (absI a == absI b) = true := by simpa using h2
      have H2 := Lib.hid h2
      clear h2
      go_enter Try.func70, Try.ntmps70
      go_wp2
      go_ret
      exact ⟨ret_bool (by rw [HL.out]; simp [h1, H2.out]), rfl⟩
    · have h2' : (absI a == absI b) = false := by simpa using h2
      have H2 := Lib.hid h2
      clear h2
      go_enter Try.func70, Try.ntmps70
      go_wp2
      go_ret
      exact ⟨ret_bool (by rw [HL.out]; simp [h1, H2.out]), rfl⟩

theorem ahead14_val (r : Bool) (a b : Int) (w : World) (a0 : -65536 ≤ a) (a1 : a ≤ 65536) (b0 : -65536 ≤ b) (b1 : b ≤ 65536) (hr : litLt a b = r) :
    Calls Try.prog 70 #[.int .i64 a, .int .i64 b] w fun e w' => e = .returned (.bool r) ∧ w = w' := by
  have := ahead14_any a b w a0 a1 b0 b1
  rw [hr] at this; exact this
theorem has_val (r : Bool) (A : Option Addr) (n c : Nat) (zs : List Int) (x : Int) (w : World) (h : RI w A n c zs) (hr : hasB zs x = r) :
    Calls Try.prog 42 #[.slice A n c, .int .i64 x] w fun e w' => e = .returned (.bool r) ∧ w = w' := by
  have := has_any A n c zs x w h
  rw [hr] at this; exact this

theorem insR_at {x : Int} : ∀ (l : List Int) (k : Nat), k ≤ l.length → (∀ j, j < k → litLt (elt l j) x = true) → (k < l.length → litLt (elt l k) x = false) → insR x l = l.take k ++ x :: l.drop k
  | [], k, hk, _, _ => by
    have : k = 0 := by simpa using hk
    subst this; rfl
  | y :: l, 0, _, _, h2 => by
    have := h2 (by simp)
    rw [insR, if_neg (by have e : elt (y :: l) 0 = y := rfl; rw [e] at this; rw [this]; simp)]
    rfl
  | y :: l, k + 1, hk, h1, h2 => by
    have h0 : litLt y x = true := h1 0 (by omega)
    rw [insR, if_pos h0, insR_at l k (by simpa using hk) (fun j hj => h1 (j + 1) (by omega)) (fun h => h2 (by simpa using h))]
    rfl

theorem RI.take {w : World} {A : Option Addr} {n c : Nat} {zs : List Int} (h : RI w A n c zs) {k : Nat} (hk : k ≤ n) : RI w A k c (zs.take k) := by
  have hb := h.big
  have hc := h.cap
  refine ⟨by simp [h.len]; omega, by omega, by omega, h.cmax, fun h0 => ?_⟩
  obtain ⟨b, off, rfl, hlt, hcs⟩ := h.cells (by omega)
  refine ⟨b, off, rfl, hlt, fun j hj => ?_⟩
  rw [hcs j (by omega)]
  unfold elt
  simp [List.getD_eq_getElem?_getD, List.getElem?_take, hj]
theorem RI.cut {w : World} {A : Option Addr} {n c : Nat} {zs : List Int} (h : RI w A n c zs) {k : Nat} (hk : k ≤ n) : RI w (Option.map (fun x => x.add k) A) (n - k) (c - k) (zs.drop k) := by
  have hl := h.len
  have hc := h.cap
  have hb := h.big
  have hm := h.cmax
  refine ⟨by simp [hl], by omega, by omega, by omega, fun h0 => ?_⟩
  obtain ⟨b, off, rfl, hlt, hcs⟩ := h.cells (by omega)
  refine ⟨b, off + k, by rw [Option.map_some, Addr.add_lit], hlt, fun j hj => ?_⟩
  have := hcs (k + j) (by omega)
  rw [show off + (k + j) = off + k + j by omega] at this
  rw [this]
  simp [elt, List.getD_eq_getElem?_getD]

theorem RI.zero {w : World} {A : Option Addr} {m c : Nat} {zs : List Int} (hm : m = 0) (hz : zs.length = 0) (hc : c ≤ maxLen) : RI w A m c zs := by
  subst hm
  rw [List.eq_nil_of_length_eq_zero hz]
  exact RI.nil w A c hc

/-- what the reference's Norm leaves -/
def NormR (zs : List Int) (w : World) (e : Ending) (w' : World) : Prop :=
  ∃ A c b, e = .returned (.tuple #[.slice A (normP zs).length c, .bool b]) ∧ RI w' A (normP zs).length c (normP zs) ∧ Below w.heap.size w w'

/-- the loop of Norm -/
structure Nh (w W : World) (zs : List Int) (i : Nat) (O : Option Addr) (L co : Nat) (out : List Int) : Prop where
  eq : normP (zs.take i) = out
  len : out.length = L
  ri : RI W O L co out
  below : Below w.heap.size w W

theorem wpList_append_to {w wr : World} {ops : Array Oper} {rest : List Oper} {o : Oper} {a : Act} {Q : Exit → Act → World → Prop} (hgd : o.guard = none) (s x : Operand)
    (ho : o.op = .call { callee := .builtin .append, args := #[s, x], argTypes := #[31, 31] }) (hb : Below wr.heap.size wr w) (v : Value) (n : Nat) (xs : List Int) (hs : a.eval s = v) (hown : w.ownsRow wr.heap.size 3 1 v n (xs.map (Value.int .i64)))
    (A : Option Addr) (m c : Nat) (zs : List Int) (hx : a.eval x = .slice A m c) (hr : RI w A m c zs) (hbytes : (n + m) * 8 ≤ 140737488355328) (k : Nat) (hk : n + m = k) (ys : List Int) (hy : xs ++ zs = ys)
    (h : ∀ A' c' w', w'.ownsRow wr.heap.size 3 1 (.slice A' k c') k (ys.map (Value.int .i64)) → Below wr.heap.size wr w' → wpList Try.prog ops Q rest (a.put o.dst (.slice A' k c')) w') :
    wpList Try.prog ops Q (o :: rest) a w := by
  subst hk hy
  refine wpList_append_ri hgd s x ho wr.heap.size v n xs hs hown A m c zs hx hr hbytes hb.size ?_
  intro v' w' ⟨h1, h2, h3⟩
  obtain ⟨A', c', rfl⟩ := own_form h1
  exact h A' c' w' h1 (hb.grown h2 hb.size (fun g hg => (own_lt hown hg).1))

set_option maxRecDepth 100000 in
set_option maxHeartbeats 4000000 in
theorem normR_any (A : Option Addr) (n c : Nat) (zs : List Int) (w : World) (h : RI w A n c zs) (hn : n ≤ 1000000) :
    Calls Try.prog 39 #[.slice A n c] w (NormR zs w) := by
  have H := Lib.hid h
  clear h
  go_enter Try.func39, Try.ntmps39
  go_wp2
  go_loopw [4, 5, 6] (fun s4 s5 s6 W => ∃ (i : Nat) (O : Option Addr) (L co : Nat) (out : List Int) (bo : Bool), i ≤ n ∧ s6 = .int .i64 i ∧ s4 = .slice O L co ∧ s5 = .bool bo ∧ Nh w W zs i O L co out) (fun _ _ i _ => n - (intOf i).toNat)
  case atStart => exact ⟨0, none, 0, 0, [], false, Nat.zero_le _, rfl, rfl, rfl, rfl, rfl, RI.nil _ _ _ (Nat.zero_le _), Below.refl _ _⟩
  case round =>
    obtain ⟨i, O, L, co, out, bo, hi, rfl, rfl, rfl, hnh⟩ := hrel
    have HN := Lib.hid hnh
    have hLi : L ≤ i := by
      have := normP_len (zs.take i); rw [hnh.eq, hnh.len, List.length_take] at this; omega
    clear hnh
    by_cases hlt : i < n
    · obtain ⟨b, off, rfl, hbl, hc⟩ := (H.out.below HN.out.below).cells (by omega)
      have hci := hc i hlt
      clear hc
      have hl : i < zs.length := by rw [H.out.len]; exact hlt
      have hsn : normP (zs.take (i + 1)) = normStep out (elt zs i) := by rw [take_snoc zs i hl, normP_snoc, HN.out.eq]
      generalize elt zs i = x at hci hsn
      clear hl
      cases his : isB x 65536
      · have E : Hid (normP (zs.take (i + 1)) = out) := Lib.hid (by rw [hsn]; unfold normStep; rw [his]; simp)
        have HIS := Lib.hid his
        clear hsn his
        go_wp2_with (go_at_call 69; refine (is_val false x 65536 _ (by omega) (by omega) HIS.out).mono ?_; rintro e w' ⟨rfl, rfl⟩)
        go_roundw
        case rel => exact ⟨i + 1, O, L, co, out, bo, by omega, by go_num, rfl, rfl, E.out, HN.out.len, HN.out.ri, HN.out.below⟩
        case measure => simp [intOf]; omega
      · cases hha : hasB out x
        · have hxb := isB_iff.1 his
          have E : Hid (normP (zs.take (i + 1)) = insR x out) := Lib.hid (by rw [hsn]; unfold normStep; rw [his, hha]; simp)
          have HIS := Lib.hid his
          have HHA := Lib.hid hha
          have hneg := lit_neg' hxb.2.1 hxb.2.2
          clear hsn his hha
          have hol : Okl out := by rw [← HN.out.eq]; exact normP_okl _
          have HOL := Lib.hid hol
          have HXB := Lib.hid hxb
          have hLn : L ≤ 1000000 := by omega
          clear hol hxb
          obtain ⟨r, hr⟩ : ∃ r, hasB out (-x) = r := ⟨_, rfl⟩
          have HR := Lib.hid hr
          clear hr
          cases bo
          all_goals
            go_wp2_with (first
              | (go_at_call 69; refine (is_val true x 65536 _ (by omega) (by omega) HIS.out).mono ?_; rintro e w' ⟨rfl, rfl⟩)
              | (go_at_call 42; ((with_reducible refine (has_val r O L co out (-x) _ HN.out.ri HR.out).mono ?_)); rintro e w' ⟨rfl, rfl⟩)
              | (go_at_call 42; refine (has_val false O L co out x _ HN.out.ri HHA.out).mono ?_; rintro e w' ⟨rfl, rfl⟩))
            go_loopw [7] (fun s7 W => ∃ t : Nat, t ≤ L ∧ s7 = .int .i64 t ∧ (∀ j, j < t → litLt (elt out j) x = true) ∧ Below wr.heap.size wr W) (fun t _ => L - (intOf t).toNat)
            case atStart => exact ⟨0, Nat.zero_le _, rfl, fun j hj => absurd hj (by omega), Below.refl _ _⟩
            case round =>
              obtain ⟨t, ht, rfl, hall, hbt⟩ := hrel
              have HALL := Lib.hid hall
              have HBT := Lib.hid hbt
              clear hall hbt
              have hci2 := (HBT.out.cell (p := ⟨b, off + i, none⟩) hbl).trans hci
              have hblt := Nat.lt_of_lt_of_le hbl HBT.out.size
              have htc : t ≤ co := by have := HN.out.ri.cap; omega
              by_cases hat : t < L
              · obtain ⟨b4, off4, rfl, hbl4, hc4⟩ := (HN.out.ri.below HBT.out).cells (by omega)
                have hct := hc4 t hat
                have hk4 : t ≤ L := by omega
                clear hc4
                have hto : t < out.length := by rw [HN.out.len]; exact hat
                have hxt := HOL.out.at hto
                have g1 := fun u : Gr wr => u.cell (p := ⟨b, off + i, none⟩) hblt hci2
                have g2 := fun u : Gr wr => u.cell (p := ⟨b4, off4 + t, none⟩) hbl4 hct
                have k1 : (i : Int) < (n : Int) := by omega
                have k2 : (t : Int) < (L : Int) := by omega
                have HXT := Lib.hid hxt
                have HTO := Lib.hid hto
                clear hxt hto
                cases hll : litLt (elt out t) x
                · have HLL := Lib.hid hll
                  have HI : Hid (insR x out = out.take t ++ x :: out.drop t) := Lib.hid (insR_at out t (by rw [HN.out.len]; omega) HALL.out (fun _ => hll))
                  have HT := Lib.hid ((HN.out.ri.below HBT.out).take hk4)
                  have hd := (HN.out.ri.below HBT.out).cut hk4
                  rw [Option.map_some, Addr.add_lit] at hd
                  have HD := Lib.hid hd
                  have hne : ¬ co = t := by have := HN.out.ri.cap; omega
                  clear hll hd
                  go_wp2_with fail
                  refine wp_region_grow (by kernel_rfl) (by kernel_rfl) ?_
                  repeat (go_big_quiet_step ((go_at_call 70; exact Gr.same _ (ahead14_val false _ _ _ HXT.out.2.1 HXT.out.2.2 HXB.out.2.1 HXB.out.2.2 HLL.out))))
                  refine wpQuiet_nil ?_
                  rintro w5 ⟨⟨_, hb5⟩, rfl⟩
                  have HB5 := Lib.hid (HBT.out.trans (hb5.mono HBT.out.size))
                  have HT5 := Lib.hid (HT.out.below hb5)
                  have HD5 := Lib.hid (HD.out.below hb5)
                  have hci5 := (hb5.cell (p := ⟨b, off + i, none⟩) hblt).trans hci2
                  have hbl5 := Nat.lt_of_lt_of_le hblt hb5.size
                  clear hb5 g1 g2
                  go_wp2_with (first
                    | (at_builtin; refine wpList_append_to (wr := w5) rfl (.tmp 56) (.tmp 59) rfl (Below.refl _ _) (.slice none 0 0) 0 [] rfl (World.ownsRow_nil _ _ _ _) (some ⟨b4, off4, none⟩) t co (out.take t) rfl HT5.out (by omega) t (by omega) (out.take t) rfl ?_; intro A8 c8 w8 ho8 hb8; have HO8 := Lib.hid ho8; have HB8 := Lib.hid hb8; have hci8 := (hb8.cell (p := ⟨b, off + i, none⟩) hbl5).trans hci5; clear ho8 hb8)
                    | (at_builtin; refine wpList_append_to (wr := w5) rfl (.tmp 61) (.tmp 66) rfl (HB8.out.alloc HB8.out.size _) (.slice A8 t c8) t (out.take t) rfl (HO8.out.alloc _) (some ⟨w8.heap.size, 0, none⟩) 1 1 [x] rfl (RI.lit w8 [x] 1 _ rfl rfl (by omega)) (by omega) (t + 1) rfl (out.take t ++ [x]) rfl ?_; intro A9 c9 w9 ho9 hb9; have HO9 := Lib.hid ho9; have HB9 := Lib.hid hb9; clear ho9 hb9)
                    | (at_builtin; refine wpList_append_to (wr := w5) rfl (.tmp 68) (.tmp 71) rfl HB9.out (.slice A9 (t + 1) c9) (t + 1) (out.take t ++ [x]) rfl HO9.out _ _ _ (out.drop t) rfl (by first | exact HD5.out.below HB9.out | exact RI.zero (by omega) (by rw [List.length_drop, HN.out.len]; omega) (by unfold maxLen; omega)) (by omega) (L + 1) (by omega) (insR x out) (by rw [HI.out, List.append_assoc]; rfl) ?_; intro A10 c10 w10 ho10 hb10; have HO10 := Lib.hid ho10; have HB10 := Lib.hid hb10; clear ho10 hb10))
                  all_goals go_roundw
                  all_goals first
                    | exact ⟨i + 1, A10, _, c10, insR x out, _, by omega, by go_num, rfl, rfl, E.out, by rw [HI.out, List.length_append, List.length_cons, List.length_take, List.length_drop, HN.out.len]; omega, RI.of_own HO10.out (by omega), HN.out.below.trans ((HB5.out.trans (HB10.out.mono HB5.out.size)).mono HN.out.below.size)⟩
                    | (simp [intOf]; omega)
                · have HLL := Lib.hid hll
                  clear hll
                  go_wp2_with fail
                  refine wp_region_grow (by kernel_rfl) (by kernel_rfl) ?_
                  repeat (go_big_quiet_step ((go_at_call 70; exact Gr.same _ (ahead14_val true _ _ _ HXT.out.2.1 HXT.out.2.2 HXB.out.2.1 HXB.out.2.2 HLL.out))))
                  refine wpQuiet_nil ?_
                  rintro w5 ⟨⟨_, hb5⟩, rfl⟩
                  have HB5 := Lib.hid hb5
                  clear hb5
                  go_wp2_with fail
                  go_roundw
                  case rel =>
                    refine ⟨t + 1, by omega, by go_num, fun j hj => ?_, HBT.out.trans (HB5.out.mono HBT.out.size)⟩
                    rcases Nat.lt_or_ge j t with h1 | h1
                    · exact HALL.out j h1
                    · obtain rfl : j = t := by omega
                      exact HLL.out
                  case measure => simp [intOf]; omega
              · obtain rfl : t = L := by omega
                have HI : Hid (insR x out = out.take t ++ x :: out.drop t) := Lib.hid (insR_at out t (by rw [HN.out.len]; omega) HALL.out (fun h => absurd h (by rw [HN.out.len]; omega)))
                have HT := Lib.hid ((HN.out.ri.below HBT.out).take (Nat.le_refl t))
                have HD := Lib.hid ((HN.out.ri.below HBT.out).cut (Nat.le_refl t))
                have hcm := HN.out.ri.cmax
                unfold maxLen at hcm
                have kL : ¬ (t : Int) < (t : Int) := by omega
                have k1 : (i : Int) < (n : Int) := by omega
                go_wp2_with fail
                refine wp_region_grow (by kernel_rfl) (by kernel_rfl) ?_
                repeat (go_big_quiet_step (fail))
                refine wpQuiet_nil ?_
                rintro w5 ⟨⟨_, hb5⟩, rfl⟩
                have HB5 := Lib.hid (HBT.out.trans (hb5.mono HBT.out.size))
                have HT5 := Lib.hid (HT.out.below hb5)
                have HD5 := Lib.hid (HD.out.below hb5)
                have hci5 := (hb5.cell (p := ⟨b, off + i, none⟩) hblt).trans hci2
                have hbl5 := Nat.lt_of_lt_of_le hblt hb5.size
                clear hb5 kL
                go_wp2_with (first
                  | (at_builtin; refine wpList_append_to (wr := w5) rfl (.tmp 56) (.tmp 59) rfl (Below.refl _ _) (.slice none 0 0) 0 [] rfl (World.ownsRow_nil _ _ _ _) O t co (out.take t) rfl HT5.out (by omega) t (by omega) (out.take t) rfl ?_; intro A8 c8 w8 ho8 hb8; have HO8 := Lib.hid ho8; have HB8 := Lib.hid hb8; have hci8 := (hb8.cell (p := ⟨b, off + i, none⟩) hbl5).trans hci5; clear ho8 hb8)
                  | (at_builtin; refine wpList_append_to (wr := w5) rfl (.tmp 61) (.tmp 66) rfl (HB8.out.alloc HB8.out.size _) (.slice A8 t c8) t (out.take t) rfl (HO8.out.alloc _) (some ⟨w8.heap.size, 0, none⟩) 1 1 [x] rfl (RI.lit w8 [x] 1 _ rfl rfl (by omega)) (by omega) (t + 1) rfl (out.take t ++ [x]) rfl ?_; intro A9 c9 w9 ho9 hb9; have HO9 := Lib.hid ho9; have HB9 := Lib.hid hb9; clear ho9 hb9)
                  | (at_builtin; refine wpList_append_to (wr := w5) rfl (.tmp 68) (.tmp 71) rfl HB9.out (.slice A9 (t + 1) c9) (t + 1) (out.take t ++ [x]) rfl HO9.out _ _ _ (out.drop t) rfl (by first | exact HD5.out.below HB9.out | exact RI.zero (by omega) (by rw [List.length_drop, HN.out.len]; omega) (by unfold maxLen; omega)) (by omega) (t + 1) (by omega) (insR x out) (by rw [HI.out, List.append_assoc]; rfl) ?_; intro A10 c10 w10 ho10 hb10; have HO10 := Lib.hid ho10; have HB10 := Lib.hid hb10; clear ho10 hb10))
                all_goals go_roundw
                all_goals first
                  | exact ⟨i + 1, A10, _, c10, insR x out, _, by omega, by go_num, rfl, rfl, E.out, by rw [HI.out, List.length_append, List.length_cons, List.length_take, List.length_drop, HN.out.len]; omega, RI.of_own HO10.out (by omega), HN.out.below.trans ((HB5.out.trans (HB10.out.mono HB5.out.size)).mono HN.out.below.size)⟩
                  | (simp [intOf]; omega)
        · have E : Hid (normP (zs.take (i + 1)) = out) := Lib.hid (by rw [hsn]; unfold normStep; rw [hha]; simp)
          have HIS := Lib.hid his
          have HHA := Lib.hid hha
          clear hsn his hha
          go_wp2_with (first
            | (go_at_call 69; refine (is_val true x 65536 _ (by omega) (by omega) HIS.out).mono ?_; rintro e w' ⟨rfl, rfl⟩)
            | (go_at_call 42; refine (has_val true O L co out x _ HN.out.ri HHA.out).mono ?_; rintro e w' ⟨rfl, rfl⟩))
          go_roundw
          case rel => exact ⟨i + 1, O, L, co, out, bo, by omega, by go_num, rfl, rfl, E.out, HN.out.len, HN.out.ri, HN.out.below⟩
          case measure => simp [intOf]; omega
    · obtain rfl : i = n := by omega
      have e1 : normP zs = out := by have := HN.out.eq; rwa [List.take_of_length_le (by rw [H.out.len]; omega)] at this
      have E1 := Lib.hid e1
      clear e1
      go_wp2
      go_ret2
      refine ⟨O, co, bo, ?_, ?_, HN.out.below⟩
      · rw [E1.out, HN.out.len]; rfl
      · rw [E1.out, HN.out.len]; exact HN.out.ri

end Go.Proofs.Ytalcnkoidmoibaa
