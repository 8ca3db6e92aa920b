/-
  The sanity check 'live' returns true. No condition.
-/
import Derived.Test.YtalcnkoidmoibaaR2
namespace Go.Proofs.Ytalcnkoidmoibaa
open Go.RowKit Go.Shelf
set_option linter.unusedVariables false
set_option linter.unusedSimpArgs false

def intsO (zs : List Int) : Obj := .cells ((zs.map (Value.int .i64)).toArray) 3
theorem RI.lit (w : World) (zs : List Int) (n s : Nat) (hn : zs.length = n) (hs : s = w.heap.size) (h : n ≤ 1000) : RI (w.alloc (intsO zs)) (some ⟨s, 0, none⟩) n n zs := by
  subst hs
  refine ⟨hn, Nat.le_refl _, by omega, by unfold maxLen; omega, fun h0 => ⟨w.heap.size, 0, rfl, by simp, fun j hj => ?_⟩⟩
  have hb : (w.alloc (intsO zs)).heap[w.heap.size]? = some (intsO zs) := World.alloc_heap_new w _
  generalize w.alloc (intsO zs) = W at hb
  have : ((zs.map (Value.int .i64)).toArray)[j]? = some (.int .i64 (elt zs j)) := by
    rw [List.getElem?_toArray, List.getElem?_map, List.getElem?_eq_getElem (by omega : j < zs.length), elt_lt (by omega)]
    rfl
  unfold intsO at hb
  simp [World.cell?, hb, this]
theorem RL.lit {w : World} {W : World} {rs : List Row} {n s : Nat} {ls : List (List Int)} (hls : rs.map (·.zs) = ls) (hn : rs.length = n) (hs : s = w.heap.size) (h : n ≤ 1000) (hW : W = w.alloc (.cells ((rs.map rowV).toArray) 31)) (hi : ∀ r ∈ rs, RI w r.A r.n r.c r.zs) : RL W (some ⟨s, 0, none⟩) n n ls := by
  subst hs hW hls
  refine ⟨by simpa using hn, Nat.le_refl _, by omega, by unfold maxLen; omega, fun h0 => ⟨w.heap.size, 0, rfl, by simp, fun j hj => ?_⟩⟩
  have hj' : j < rs.length := by omega
  have hri := (hi _ (List.getElem_mem hj')).alloc (.cells ((rs.map rowV).toArray) 31)
  have hb : (w.alloc (.cells ((rs.map rowV).toArray) 31)).heap[w.heap.size]? = some (.cells ((rs.map rowV).toArray) 31) := World.alloc_heap_new w _
  generalize w.alloc (.cells ((rs.map rowV).toArray) 31) = W at hb hri
  have : ((rs.map rowV).toArray)[j]? = some (rowV rs[j]) := by
    rw [List.getElem?_toArray, List.getElem?_map, List.getElem?_eq_getElem hj']
    rfl
  refine ⟨rs[j].A, rs[j].n, rs[j].c, ?_, ?_⟩
  · have h1 : W.cell? ⟨w.heap.size, 0 + j, none⟩ = ((rs.map rowV).toArray)[0 + j]? := by
      unfold World.cell?
      simp only [hb]
      rfl
    rw [h1, Nat.zero_add, this]
    rfl
  · rw [ell_lt (by simpa using hj')]
    simpa using hri

def LV (zs : List Int) (n : Nat) (e' : Int) (w : World) (e : Ending) (w' : World) : Prop :=
  ∃ A c, e = .returned (.tuple #[.slice A n c, .int .i64 e']) ∧ RI w' A n c zs ∧ Below w.heap.size w w'
def LS (x : Int) (ls : List (List Int)) (n : Nat) (w : World) (e : Ending) (w' : World) : Prop :=
  ∃ A c, e = .returned (.tuple #[.agg #[.int .i64 x, .slice A n c], .int .i64 0]) ∧ RL w' A n c ls ∧ Below w.heap.size w w'

theorem alloc3_below (w : World) (o o' o'' : Obj) : Below w.heap.size w (((w.alloc o).alloc o').alloc o'') := (((Below.refl _ _).alloc (Nat.le_refl _) _).alloc (by simp) _).alloc (by simp; omega) _

theorem l_v1 (w : World) : Calls Try.prog 16 #[.agg #[.int .i64 3, .slice (some ⟨w.heap.size + 1 + 1, 0, none⟩) 2 2], .int .i64 0]
    (((w.alloc (.cells #[.int .i64 1, .int .i64 2, .int .i64 3] 3)).alloc (.cells #[.int .i64 (-1), .int .i64 2] 3)).alloc (.cells #[.slice (some ⟨w.heap.size, 0, none⟩) 3 3, .slice (some ⟨w.heap.size + 1, 0, none⟩) 2 2] 31)) (LV [1, 2, 3] 3 0 w) := by
  have h1 := (RI.lit w [1, 2, 3] 3 w.heap.size rfl rfl (by omega)).alloc (intsO [-1, 2])
  have h2 := RI.lit (w.alloc (intsO [1, 2, 3])) [-1, 2] 2 (w.heap.size + 1) rfl (by simp) (by omega)
  have h3 := RL.lit (w := (w.alloc (intsO [1, 2, 3])).alloc (intsO [-1, 2])) (rs := [⟨some ⟨w.heap.size, 0, none⟩, 3, 3, [1, 2, 3]⟩, ⟨some ⟨w.heap.size + 1, 0, none⟩, 2, 2, [-1, 2]⟩]) (n := 2) (s := w.heap.size + 1 + 1) rfl rfl (by simp) (by omega) rfl
    (by intro r hr; simp only [List.mem_cons, List.not_mem_nil, or_false] at hr; rcases hr with rfl | rfl <;> first | exact h1 | exact h2)
  have h4 := vivify_any 3 _ 2 2 [[1, 2, 3], [-1, 2]] 0 _ h3 (by decide)
  refine Calls.mono h4 ?_
  rintro e w' ⟨A, c, he, hr, hb⟩
  have e1 : vivL 3 [[1, 2, 3], [-1, 2]] 0 = [1, 2, 3] := by decide
  have e2 : vivE 3 [[1, 2, 3], [-1, 2]] 0 = 0 := by decide
  rw [e1] at he hr
  rw [e2] at he
  exact ⟨A, c, he, hr, (alloc3_below w _ _ _).trans (hb.mono (by simp; omega))⟩

theorem l_v2 (w : World) : Calls Try.prog 16 #[.agg #[.int .i64 3, .slice (some ⟨w.heap.size + 1 + 1, 0, none⟩) 2 2], .int .i64 0]
    (((w.alloc (.cells #[.int .i64 1, .int .i64 2, .int .i64 3] 3)).alloc (.cells #[.int .i64 1, .int .i64 2] 3)).alloc (.cells #[.slice (some ⟨w.heap.size, 0, none⟩) 3 3, .slice (some ⟨w.heap.size + 1, 0, none⟩) 2 2] 31)) (LV [1, 2] 2 0 w) := by
  have h1 := (RI.lit w [1, 2, 3] 3 w.heap.size rfl rfl (by omega)).alloc (intsO [1, 2])
  have h2 := RI.lit (w.alloc (intsO [1, 2, 3])) [1, 2] 2 (w.heap.size + 1) rfl (by simp) (by omega)
  have h3 := RL.lit (w := (w.alloc (intsO [1, 2, 3])).alloc (intsO [1, 2])) (rs := [⟨some ⟨w.heap.size, 0, none⟩, 3, 3, [1, 2, 3]⟩, ⟨some ⟨w.heap.size + 1, 0, none⟩, 2, 2, [1, 2]⟩]) (n := 2) (s := w.heap.size + 1 + 1) rfl rfl (by simp) (by omega) rfl
    (by intro r hr; simp only [List.mem_cons, List.not_mem_nil, or_false] at hr; rcases hr with rfl | rfl <;> first | exact h1 | exact h2)
  have h4 := vivify_any 3 _ 2 2 [[1, 2, 3], [1, 2]] 0 _ h3 (by decide)
  refine Calls.mono h4 ?_
  rintro e w' ⟨A, c, he, hr, hb⟩
  have e1 : vivL 3 [[1, 2, 3], [1, 2]] 0 = [1, 2] := by decide
  have e2 : vivE 3 [[1, 2, 3], [1, 2]] 0 = 0 := by decide
  rw [e1] at he hr
  rw [e2] at he
  exact ⟨A, c, he, hr, (alloc3_below w _ _ _).trans (hb.mono (by simp; omega))⟩

theorem l_v3 (w : World) : Calls Try.prog 16 #[.agg #[.int .i64 3, .slice (some ⟨w.heap.size + 1, 0, none⟩) 1 1], .int .i64 1]
    ((w.alloc (.cells #[.int .i64 1, .int .i64 2, .int .i64 3] 3)).alloc (.cells #[.slice (some ⟨w.heap.size, 0, none⟩) 3 3] 31)) (LV [] 0 1 w) := by
  have h1 := RI.lit w [1, 2, 3] 3 w.heap.size rfl rfl (by omega)
  have h3 := RL.lit (w := w.alloc (intsO [1, 2, 3])) (rs := [⟨some ⟨w.heap.size, 0, none⟩, 3, 3, [1, 2, 3]⟩]) (n := 1) (s := w.heap.size + 1) rfl rfl (by simp) (by omega) rfl
    (by intro r hr; simp only [List.mem_cons, List.not_mem_nil, or_false] at hr; subst hr; exact h1)
  have h4 := vivify_any 3 _ 1 1 [[1, 2, 3]] 1 _ h3 (by decide)
  refine Calls.mono h4 ?_
  rintro e w' ⟨A, c, he, hr, hb⟩
  have e1 : vivL 3 [[1, 2, 3]] 1 = [] := by decide
  have e2 : vivE 3 [[1, 2, 3]] 1 = 1 := by decide
  rw [e1] at he hr
  rw [e2] at he
  exact ⟨A, c, he, hr, (((Below.refl _ _).alloc (Nat.le_refl _) _).alloc (by simp) _).trans (hb.mono (by simp; omega))⟩

theorem l_s (w : World) : Calls Try.prog 19 #[.agg #[.int .i64 2, .slice (some ⟨w.heap.size + 1 + 1 + 1, 0, none⟩) 3 3]]
    ((((w.alloc (.cells #[.int .i64 1, .int .i64 2] 3)).alloc (.cells #[.int .i64 1] 3)).alloc (.cells #[.int .i64 2, .int .i64 1] 3)).alloc (.cells #[.slice (some ⟨w.heap.size, 0, none⟩) 2 2, .slice (some ⟨w.heap.size + 1, 0, none⟩) 1 1, .slice (some ⟨w.heap.size + 1 + 1, 0, none⟩) 2 2] 31)) (LS 2 [[1]] 1 w) := by
  have h1 := ((RI.lit w [1, 2] 2 w.heap.size rfl rfl (by omega)).alloc (intsO [1])).alloc (intsO [2, 1])
  have h2 := (RI.lit (w.alloc (intsO [1, 2])) [1] 1 (w.heap.size + 1) rfl (by simp) (by omega)).alloc (intsO [2, 1])
  have h2' := RI.lit ((w.alloc (intsO [1, 2])).alloc (intsO [1])) [2, 1] 2 (w.heap.size + 1 + 1) rfl (by simp) (by omega)
  have h3 := RL.lit (w := ((w.alloc (intsO [1, 2])).alloc (intsO [1])).alloc (intsO [2, 1])) (rs := [⟨some ⟨w.heap.size, 0, none⟩, 2, 2, [1, 2]⟩, ⟨some ⟨w.heap.size + 1, 0, none⟩, 1, 1, [1]⟩, ⟨some ⟨w.heap.size + 1 + 1, 0, none⟩, 2, 2, [2, 1]⟩]) (n := 3) (s := w.heap.size + 1 + 1 + 1) rfl rfl (by simp) (by omega) rfl
    (by intro r hr; simp only [List.mem_cons, List.not_mem_nil, or_false] at hr; rcases hr with rfl | rfl | rfl <;> first | exact h1 | exact h2 | exact h2')
  have h4 := subsume_any 2 _ 3 3 [[1, 2], [1], [2, 1]] _ h3 (by omega)
  refine Calls.mono h4 ?_
  rintro e w' ⟨A, c, he, hr, hb⟩
  have e1 : checkE 2 [[1, 2], [1], [2, 1]] = 0 := by decide
  have e2 : subL [[1, 2], [1], [2, 1]] = [[1]] := by decide
  rw [e1] at he hr
  rw [if_pos rfl, e2] at hr
  rw [if_pos rfl, if_pos rfl, e2] at he
  exact ⟨A, c, he, hr, ((alloc3_below w _ _ _).alloc (by simp; omega) _).trans (hb.mono (by simp; omega))⟩

def nilR : Row := ⟨none, 0, 0, []⟩
def exL : List Lrn := [⟨nilR, 5, 1⟩, ⟨nilR, 2, 0⟩, ⟨nilR, 5, 1⟩, ⟨nilR, 3, 0⟩]
/-- what Reduce hands back in the example -/
def LR (w : World) (e : Ending) (w' : World) : Prop :=
  ∃ b off c, e = .returned (.slice (some ⟨b, off, none⟩) 2 c) ∧ b < w'.heap.size ∧ w'.cell? ⟨b, off + 1, none⟩ = some (.int .i64 2) ∧ w'.cell? ⟨b, off + 3 + 1, none⟩ = some (.int .i64 5) ∧ Below w.heap.size w w'
theorem l_r (w : World) (s : Nat) (hs' : s = w.heap.size) : Calls Try.prog 13 #[.slice (some ⟨s, 0, none⟩) 4 4, .int .i64 1] (w.alloc (.cells #[.slice none 0 0, .int .i64 5, .int .i64 1, .slice none 0 0, .int .i64 2, .int .i64 0, .slice none 0 0, .int .i64 5, .int .i64 1, .slice none 0 0, .int .i64 3, .int .i64 0] 44)) (LR w) := by
  subst hs'
  have hb : (w.alloc (.cells #[.slice none 0 0, .int .i64 5, .int .i64 1, .slice none 0 0, .int .i64 2, .int .i64 0, .slice none 0 0, .int .i64 5, .int .i64 1, .slice none 0 0, .int .i64 3, .int .i64 0] 44)).heap[w.heap.size]? = _ := World.alloc_heap_new w _
  have hs : w.heap.size < (w.alloc (.cells #[.slice none 0 0, .int .i64 5, .int .i64 1, .slice none 0 0, .int .i64 2, .int .i64 0, .slice none 0 0, .int .i64 5, .int .i64 1, .slice none 0 0, .int .i64 3, .int .i64 0] 44)).heap.size := by simp
  have hw : Below w.heap.size w (w.alloc (.cells #[.slice none 0 0, .int .i64 5, .int .i64 1, .slice none 0 0, .int .i64 2, .int .i64 0, .slice none 0 0, .int .i64 5, .int .i64 1, .slice none 0 0, .int .i64 3, .int .i64 0] 44)) := (Below.refl _ _).alloc (Nat.le_refl _) _
  generalize w.alloc (.cells #[.slice none 0 0, .int .i64 5, .int .i64 1, .slice none 0 0, .int .i64 2, .int .i64 0, .slice none 0 0, .int .i64 5, .int .i64 1, .slice none 0 0, .int .i64 3, .int .i64 0] 44) = W at hb hs hw ⊢
  have hre : RE W (some ⟨w.heap.size, 0, none⟩) 4 4 exL := by
    refine ⟨rfl, by omega, by omega, by unfold maxLen; omega, fun _ => ⟨w.heap.size, 0, rfl, hs, fun j hj => ?_⟩⟩
    match j, hj with
    | 0, _ => exact ⟨by simp [World.cell?, hb, exL, lrn, rowV, nilR], by simp [World.cell?, hb, exL, lrn], by simp [World.cell?, hb, exL, lrn], RI.nil _ _ _ (Nat.zero_le _)⟩
    | 1, _ => exact ⟨by simp [World.cell?, hb, exL, lrn, rowV, nilR], by simp [World.cell?, hb, exL, lrn], by simp [World.cell?, hb, exL, lrn], RI.nil _ _ _ (Nat.zero_le _)⟩
    | 2, _ => exact ⟨by simp [World.cell?, hb, exL, lrn, rowV, nilR], by simp [World.cell?, hb, exL, lrn], by simp [World.cell?, hb, exL, lrn], RI.nil _ _ _ (Nat.zero_le _)⟩
    | 3, _ => exact ⟨by simp [World.cell?, hb, exL, lrn, rowV, nilR], by simp [World.cell?, hb, exL, lrn], by simp [World.cell?, hb, exL, lrn], RI.nil _ _ _ (Nat.zero_le _)⟩
  refine (reduce_any _ 4 4 exL 1 W hre (by omega)).mono ?_
  rintro e w' ⟨A, c, he, hr, hb'⟩
  have e1 : (redL exL 1).length = 2 := by decide
  have e2 : (lrn (redL exL 1) 0).lv = 2 := by decide
  have e3 : (lrn (redL exL 1) 1).lv = 5 := by decide
  rw [e1] at he hr
  obtain ⟨b, off, rfl, hlt, hc⟩ := hr.cells (by omega)
  have c0 := (hc 0 (by omega)).2.1
  have c1 := (hc 1 (by omega)).2.1
  rw [e2] at c0
  rw [e3] at c1
  exact ⟨b, off, c, he, hlt, by simpa using c0, by simpa using c1, hw.trans (hb'.mono (by omega))⟩

set_option maxRecDepth 100000 in
set_option maxHeartbeats 4000000 in
theorem live_any (w : World) : Calls Try.prog 11 #[] w fun e w' => e = .returned (.bool true) ∧ Below w.heap.size w w' := by
  go_enter Try.func11, Try.ntmps11
  go_wp2_with fail
  refine (l_v1 _).mono ?_
  rintro e w1 ⟨A1, c1, rfl, hr1, hb1⟩
  have HR1 := Lib.hid hr1
  have HB1 := Lib.hid hb1
  clear hr1 hb1
  go_wp2_with fail
  refine (l_v2 _).mono ?_
  rintro e w2 ⟨A2, c2, rfl, hr2, hb2⟩
  have HR1' := Lib.hid (HR1.out.below hb2)
  have HR2 := Lib.hid hr2
  have HB2 := Lib.hid (HB1.out.trans (hb2.mono HB1.out.size))
  clear hr2 hb2 HR1 HB1
  go_wp2_with fail
  refine (l_v3 _).mono ?_
  rintro e w3 ⟨A3, c3, rfl, hr3, hb3⟩
  have HR1 := Lib.hid (HR1'.out.below hb3)
  have HR2' := Lib.hid (HR2.out.below hb3)
  have HB3 := Lib.hid (HB2.out.trans (hb3.mono HB2.out.size))
  clear hr3 hb3 HR1' HR2 HB2
  go_wp2_with fail
  refine (l_s _).mono ?_
  rintro e w4 ⟨A4, c4, rfl, hr4, hb4⟩
  have HR1' := Lib.hid (HR1.out.below hb4)
  have HR2 := Lib.hid (HR2'.out.below hb4)
  have HR4 := Lib.hid hr4
  have HB4 := Lib.hid (HB3.out.trans (hb4.mono HB3.out.size))
  clear hr4 hb4 HR1 HR2' HB3
  go_wp2_with fail
  refine (l_r _ _ (by simp)).mono ?_
  rintro e w5 ⟨b5, off5, c5, rfl, hlt5, k1, k2, hb5⟩
  have hb5' := ((Below.refl _ w4).alloc (Nat.le_refl _) _).trans (hb5.mono (by simp))
  have TW := Lib.hid ((Two.new w4 (.int .i64 2) (.slice A4 1 c4)).below hb5)
  have tw1 := TW.out.c1
  have HR1 := Lib.hid (HR1'.out.below hb5')
  have HR2' := Lib.hid (HR2.out.below hb5')
  have HR4' := Lib.hid (HR4.out.below hb5')
  have HB5 := Lib.hid (HB4.out.trans (hb5'.mono HB4.out.size))
  clear hb5 hb5' HR1' HR2 HR4 HB4
  have K1 := Lib.hid k1
  have K2 := Lib.hid k2
  clear tw1 k1 k2
  go_wp2_with fail
  refine (ints_val true A1 3 c1 [1, 2, 3] _ 3 3 [1, 2, 3] _ (HR1.out.alloc _) (RI.lit w5 [1, 2, 3] 3 w5.heap.size rfl rfl (by omega)) (by decide)).mono ?_
  rintro e w6 ⟨rfl, hb6⟩
  have HB6 := Lib.hid (((Below.refl _ w5).alloc (Nat.le_refl _) _).trans (hb6.mono (by simp)))
  clear hb6
  go_wp2_with fail
  refine (ints_val true A2 2 c2 [1, 2] _ 2 2 [1, 2] _ ((HR2'.out.below HB6.out).alloc _) (RI.lit w6 [1, 2] 2 w6.heap.size rfl rfl (by omega)) (by decide)).mono ?_
  rintro e w7 ⟨rfl, hb7⟩
  have HB7 := Lib.hid (HB6.out.trans ((((Below.refl _ w6).alloc (Nat.le_refl _) _).trans (hb7.mono (by simp))).mono HB6.out.size))
  have tw1 := (TW.out.below HB7.out).c1
  clear hb7
  go_wp2_with fail
  have hR := RL.lit (w := w7.alloc (intsO [1])) (rs := [⟨some ⟨w7.heap.size, 0, none⟩, 1, 1, [1]⟩]) (n := 1) (s := w7.heap.size + 1) rfl rfl (by simp) (by omega) rfl
    (by intro r hr; simp only [List.mem_cons, List.not_mem_nil, or_false] at hr; subst hr; exact RI.lit w7 [1] 1 w7.heap.size rfl rfl (by omega))
  refine (lists_val true A4 1 c4 [[1]] _ 1 1 [[1]] _ (((HR4'.out.below HB7.out).alloc _).alloc _) hR (by decide)).mono ?_
  clear hR
  rintro e w8 ⟨rfl, hb8⟩
  have HB8 := Lib.hid (HB7.out.trans (((((Below.refl _ w7).alloc (Nat.le_refl _) _).alloc (by simp) _).trans (hb8.mono (by simp; omega))).mono HB7.out.size))
  have k1 := (HB8.out.cell (p := ⟨b5, off5 + 1, none⟩) hlt5).trans K1.out
  have k2 := (HB8.out.cell (p := ⟨b5, off5 + 3 + 1, none⟩) hlt5).trans K2.out
  clear hb8 tw1
  go_wp2
  go_ret
  exact ⟨rfl, HB5.out.trans (HB8.out.mono HB5.out.size)⟩

end Go.Proofs.Ytalcnkoidmoibaa
