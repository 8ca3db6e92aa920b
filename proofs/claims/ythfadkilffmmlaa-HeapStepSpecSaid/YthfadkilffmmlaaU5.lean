/-
  The reference's Decay, Pop and Push. No condition.
-/
import Derived.Test.YthfadkilffmmlaaU4
import Derived.Deep.RegionHeld3
namespace Go.Proofs.Ythfadkilffmmlaa
open Go.RowKit
set_option linter.unusedVariables false
set_option linter.unusedSimpArgs false

theorem RI.lt {w : World} {A : Option Addr} {n c : Nat} {zs : List Int} (h : RI w A n c zs) (hn : 0 < n) : ∀ b off, A = some ⟨b, off, none⟩ → b < w.heap.size := fun b off e => by
  obtain ⟨b', off', e', hlt, _⟩ := h.cells hn
  rw [e] at e'
  simp only [Option.some.injEq, Addr.mk.injEq] at e'
  omega
/-- three cells of a block that did not lie in w are written: what lay in w reads as before -/
theorem RI.keepNew {w w' : World} {R : Nat} {A : Option Addr} {n c : Nat} {zs : List Int} {v0 v1 v2 : Value} (h : RI w A n c zs) (hb : Below w.heap.size w w') (hR : w.heap.size ≤ R) :
    RI (((w'.setCell ⟨R, 0, none⟩ v0).setCell ⟨R, 1, none⟩ v1).setCell ⟨R, 2, none⟩ v2) A n c zs :=
  h.below (((hb.setCell (by simpa using hR) _).setCell (by simpa using hR) _).setCell (by simpa using hR) _)

section
variable (A : Option Addr) (n c : Nat) (act : List Int) (A' : Option Addr) (n' c' : Nat) (l : List Int) (y : Int) (w : World)

/-- the blocks that the reference's functions begin with -/
theorem two_boxes {w1 : World} (v0 v1 v2 : Value) (hb : Below ((w.alloc (.cells #[v0, v1, v2] 24)).alloc (.cells #[.slice none 0 0, .slice none 0 0, .int .i64 0] 24)).heap.size ((w.alloc (.cells #[v0, v1, v2] 24)).alloc (.cells #[.slice none 0 0, .slice none 0 0, .int .i64 0] 24)) w1) :
    Box w1 w.heap.size v0 v1 v2 ∧ Box w1 (w.heap.size + 1) (.slice none 0 0) (.slice none 0 0) (.int .i64 0) ∧ Below w.heap.size w w1 ∧ w.heap.size + 1 < w1.heap.size := by
  refine ⟨?_, ?_, ?_, ?_⟩
  · exact (hb.block w.heap.size (by simp; omega)).trans ((Below.heap_alloc _ _ _ (by simp)).trans (heap_alloc_new _ _))
  · refine (hb.block (w.heap.size + 1) (by simp)).trans ?_
    have e := heap_alloc_new (w.alloc (.cells #[v0, v1, v2] 24)) (.cells #[.slice none 0 0, .slice none 0 0, .int .i64 0] 24)
    simpa using e
  · exact (((Below.refl _ _).alloc (Nat.le_refl _) _).alloc (by simp) _).trans (hb.mono (by simp; omega))
  · have := hb.size; simp at this; omega

set_option maxHeartbeats 2000000 in
theorem rdecay_bad (h : RI w A n c act) (h' : RI w A' n' c' l) (hk : checkB act l y = false) :
    Calls Try.prog 22 #[.agg #[.slice A n c, .slice A' n' c', .int .i64 y]] w fun e w' => e = .returned (.tuple #[zeroH, .int .i64 1]) ∧ Below w.heap.size w w' := by
  have H := Lib.hid h
  have H' := Lib.hid h'
  have HK := Lib.hid hk
  clear h h' hk
  go_enter Try.func22, Try.ntmps22
  go_wp2_with fail
  refine (rcheck_any A n c act A' n' c' l y _ ((H.out.alloc _).alloc _) ((H'.out.alloc _).alloc _)).mono ?_
  rintro e w1 ⟨rfl, hb⟩
  rw [HK.out, show errB false = 1 from rfl]
  obtain ⟨b1, b2, b3, b4⟩ := two_boxes w _ _ _ hb
  have BR := Lib.hid b2
  have HB := Lib.hid b3
  clear b1 b2 b3 hb
  have s0 := BR.out.c0; have s1 := BR.out.c1; have s2 := BR.out.c2
  have f0 := BR.out.f 0; have f1 := BR.out.f 1; have f2 := BR.out.f 2
  go_wp2_with fail
  refine bodyPost_ret (v := .tuple #[zeroH, .int .i64 1]) (by simp [results, Try.results22, go_sem, s0, s1, s2]) rfl ⟨rfl, ?_⟩
  exact ((HB.out.setCell (by simp) _).setCell (by simp) _).setCell (by simp) _

set_option maxHeartbeats 4000000 in
theorem rdecay_ok (h : RI w A n c act) (h' : RI w A' n' c' l) (hk : Valid act l y) (hN : l.length ≤ 1000000) (hM : act.length ≤ 1000000) :
    Calls Try.prog 22 #[.agg #[.slice A n c, .slice A' n' c', .int .i64 y]] w (ScOk (sclA act (y + (y / 20 + 1))) l (sclY act (y + (y / 20 + 1))) w) := by
  obtain rfl : act.length = n := h.len
  obtain rfl : l.length = n' := h'.len
  have H := Lib.hid h
  have H' := Lib.hid h'
  have HV := Lib.hid hk
  have ry1 := hk.by1
  have ry2 := hk.by2
  have hpos := hk.pos
  have ey : y + y / 20 + 1 = y + (y / 20 + 1) := by omega
  have EY := Lib.hid ey
  clear h h' hk ey
  go_enter Try.func22, Try.ntmps22
  go_wp2_with fail
  refine (rcheck_any A _ c act A' _ c' l y _ ((H.out.alloc _).alloc _) ((H'.out.alloc _).alloc _)).mono ?_
  rintro e w1 ⟨rfl, hb⟩
  rw [(valid_iff _ _ _).2 HV.out, show errB true = 0 from rfl]
  obtain ⟨b1, b2, b3, b4⟩ := two_boxes w _ _ _ hb
  have BH := Lib.hid b1
  have BR := Lib.hid b2
  have HB := Lib.hid b3
  clear b1 b2 b3 hb
  have p0 := BH.out.c0; have p1 := BH.out.c1; have p2 := BH.out.c2
  go_wp2_with fail
  generalize hbg : bigB act (y + (y / 20 + 1)) = bg
  have HBG := Lib.hid hbg
  clear hbg
  cases bg
  · refine (rscaled_small A act.length c act A' _ c' (y + y / 20 + 1) _ (H.out.below HB.out) hpos (by rw [EY.out]; exact HBG.out)).mono ?_
    rintro e w2 ⟨rfl, hb⟩
    replace BR := Lib.hid (BR.out.below hb)
    replace HB := Lib.hid (HB.out.trans (hb.mono HB.out.size))
    clear hb p0 p1 p2
    have s0 := BR.out.c0; have s1 := BR.out.c1; have s2 := BR.out.c2
    have f0 := BR.out.f 0; have f1 := BR.out.f 1; have f2 := BR.out.f 2
    go_wp2_with fail
    refine bodyPost_ret (v := .tuple #[.agg #[.slice A act.length c, .slice A' l.length c', .int .i64 (y + y / 20 + 1)], .int .i64 0]) (by simp [results, Try.results22, go_sem, s0, s1, s2]) rfl ?_
    have e1 : sclA act (y + (y / 20 + 1)) = act := by simp [sclA, HBG.out]
    have e2 : sclY act (y + (y / 20 + 1)) = y + y / 20 + 1 := by simp [sclY, HBG.out]; omega
    rw [e1, e2]
    exact ⟨A, c, A', c', l, rfl, H.out.keepNew HB.out (by omega), H'.out.keepNew HB.out (by omega), List.Perm.refl _, sorted_of_valid HV.out, ((HB.out.setCell (by simp) _).setCell (by simp) _).setCell (by simp) _⟩
  · refine (rscaled_big A act.length c act A' _ c' l (y + y / 20 + 1) _ (H.out.below HB.out) (H'.out.below HB.out) hpos (by rw [EY.out]; exact HBG.out) HV.out.mid (by omega) (by omega) HV.out.dom hN hM).mono ?_
    rintro e w2 ⟨E, d, E', d', l2, rfl, r1, r2, hp, hs, hf1, hf2, hb⟩
    have dl : (down act).length = act.length := down_len act
    have el2 : l2.length = l.length := hp.length_eq
    have R1 := Lib.hid r1; have R2 := Lib.hid r2; have P2 := Lib.hid hp; have S2 := Lib.hid hs
    have F1 := Lib.hid hf1; have F2 := Lib.hid hf2
    have hsz := HB.out.size
    replace BR := Lib.hid (BR.out.below hb)
    replace HB := Lib.hid (HB.out.trans (hb.mono HB.out.size))
    clear hb p0 p1 p2 r1 r2 hp hs hf1 hf2
    have s0 := BR.out.c0; have s1 := BR.out.c1; have s2 := BR.out.c2
    have f0 := BR.out.f 0; have f1 := BR.out.f 1; have f2 := BR.out.f 2
    have DL := Lib.hid dl
    have EL := Lib.hid el2
    clear dl el2
    go_wp2_with fail
    refine bodyPost_ret (v := .tuple #[.agg #[.slice E (down act).length d, .slice E' l.length d', .int .i64 (max 1 ((y + y / 20 + 1) / 1024))], .int .i64 0]) (by simp [results, Try.results22, go_sem, s0, s1, s2]) rfl ?_
    have e1 : sclA act (y + (y / 20 + 1)) = down act := by simp [sclA, HBG.out]
    have e2 : sclY act (y + (y / 20 + 1)) = max 1 ((y + y / 20 + 1) / 1024) := by simp only [sclY, HBG.out, if_true]; rw [EY.out]; omega
    rw [e1, e2]
    refine ⟨E, d, E', d', l2, by rw [EL.out], ?_, ?_, P2.out, by rw [EL.out]; exact S2.out, ((HB.out.setCell (by simp) _).setCell (by simp) _).setCell (by simp) _⟩
    · exact R1.out.keep3 fun b off e => by have := F1.out b off e; omega
    · rw [EL.out]; exact R2.out.keep3 fun b off e => by have := F2.out b off e; omega

set_option maxHeartbeats 2000000 in
theorem rpop_bad (h : RI w A n c act) (h' : RI w A' n' c' l) (hk : checkB act l y = false) :
    Calls Try.prog 24 #[.agg #[.slice A n c, .slice A' n' c', .int .i64 y]] w fun e w' => e = .returned (.tuple #[zeroH, .int .i64 0, .int .i64 1]) ∧ Below w.heap.size w w' := by
  have H := Lib.hid h
  have H' := Lib.hid h'
  have HK := Lib.hid hk
  clear h h' hk
  go_enter Try.func24, Try.ntmps24
  go_wp2_with fail
  refine (rcheck_any A n c act A' n' c' l y _ ((H.out.alloc _).alloc _) ((H'.out.alloc _).alloc _)).mono ?_
  rintro e w1 ⟨rfl, hb⟩
  rw [HK.out, show errB false = 1 from rfl]
  obtain ⟨b1, b2, b3, b4⟩ := two_boxes w _ _ _ hb
  have BR := Lib.hid b2
  have HB := Lib.hid b3
  clear b1 b2 b3 hb
  have s0 := BR.out.c0; have s1 := BR.out.c1; have s2 := BR.out.c2
  have f0 := BR.out.f 0; have f1 := BR.out.f 1; have f2 := BR.out.f 2
  go_wp2_with fail
  refine bodyPost_ret (v := .tuple #[zeroH, .int .i64 0, .int .i64 1]) (by simp [results, Try.results24, go_sem, s0, s1, s2]) rfl ⟨rfl, ?_⟩
  exact ((HB.out.setCell (by simp) _).setCell (by simp) _).setCell (by simp) _

set_option maxHeartbeats 2000000 in
theorem rpop_none (h : RI w A n c act) (h' : RI w A' n' c' l) (hk : checkB act l y = true) (hl : l.length = 0) :
    Calls Try.prog 24 #[.agg #[.slice A n c, .slice A' n' c', .int .i64 y]] w fun e w' => e = .returned (.tuple #[zeroH, .int .i64 0, .int .i64 270]) ∧ Below w.heap.size w w' := by
  have hn0 : n' = 0 := by have := h'.len; omega
  subst hn0
  have H := Lib.hid h
  have H' := Lib.hid h'
  have HK := Lib.hid hk
  clear h h' hk hl
  go_enter Try.func24, Try.ntmps24
  go_wp2_with fail
  refine (rcheck_any A n c act A' 0 c' l y _ ((H.out.alloc _).alloc _) ((H'.out.alloc _).alloc _)).mono ?_
  rintro e w1 ⟨rfl, hb⟩
  rw [HK.out, show errB true = 0 from rfl]
  obtain ⟨b1, b2, b3, b4⟩ := two_boxes w _ _ _ hb
  have BH := Lib.hid b1
  have BR := Lib.hid b2
  have HB := Lib.hid b3
  clear b1 b2 b3 hb
  have p0 := BH.out.c0; have p1 := BH.out.c1; have p2 := BH.out.c2
  have s0 := BR.out.c0; have s1 := BR.out.c1; have s2 := BR.out.c2
  have f0 := BR.out.f 0; have f1 := BR.out.f 1; have f2 := BR.out.f 2
  go_wp2_with fail
  refine bodyPost_ret (v := .tuple #[zeroH, .int .i64 0, .int .i64 270]) (by simp [results, Try.results24, go_sem, s0, s1, s2]) rfl ⟨rfl, ?_⟩
  exact ((HB.out.setCell (by simp) _).setCell (by simp) _).setCell (by simp) _

set_option maxHeartbeats 4000000 in
theorem rpop_ok (h : RI w A n c act) (h' : RI w A' n' c' l) (hk : checkB act l y = true) (hl : 0 < l.length) :
    Calls Try.prog 24 #[.agg #[.slice A n c, .slice A' n' c', .int .i64 y]] w (PopOk act l y w) := by
  obtain rfl : act.length = n := h.len
  obtain rfl : l.length = n' := h'.len
  obtain ⟨b, off, rfl, hbl, hc⟩ := h'.cells hl
  have hc0 := hc 0 hl
  simp only [Nat.add_zero] at hc0
  have hcap := h'.cap
  have hz : (0 : Int) < (l.length : Int) := by omega
  have hz1 : (1 : Int) ≤ (l.length : Int) := by omega
  have hze : ((l.length : Int) == 0) = false := beq_eq_false_iff_ne.2 (by omega)
  have H := Lib.hid h
  have H' := Lib.hid h'
  have HK := Lib.hid hk
  have HC0 := Lib.hid hc0
  have hcut := Lib.hid (fun (w2 : World) (hb : Below w.heap.size w w2) => (h'.below hb).cut1 hl)
  clear h h' hk hc hc0
  go_enter Try.func24, Try.ntmps24
  go_wp2_with fail
  refine (rcheck_any A _ c act _ _ c' l y _ ((H.out.alloc _).alloc _) ((H'.out.alloc _).alloc _)).mono ?_
  rintro e w1 ⟨rfl, hb⟩
  rw [HK.out, show errB true = 0 from rfl]
  obtain ⟨b1, b2, b3, b4⟩ := two_boxes w _ _ _ hb
  have BH := Lib.hid b1
  have BR := Lib.hid b2
  have HB := Lib.hid b3
  have hcw := (b3.cell (p := ⟨b, off, none⟩) hbl).trans HC0.out
  clear b1 b2 b3 hb
  have p0 := BH.out.c0; have p1 := BH.out.c1; have p2 := BH.out.c2
  have s0 := BR.out.c0; have s1 := BR.out.c1; have s2 := BR.out.c2
  have f0 := BR.out.f 0; have f1 := BR.out.f 1; have f2 := BR.out.f 2
  have hne : b ≠ w.heap.size + 1 := by omega
  by_cases hc1 : c' = 1
  · subst hc1
    go_wp2_with fail
    go_region
    all_goals
      go_wp2_with fail
      refine bodyPost_ret (v := .tuple #[.agg #[.slice A act.length c, .slice (some ⟨b, off, none⟩) (l.length - 1) 0, .int .i64 y], .int .i64 (elt l 0), .int .i64 0]) (by simp [results, Try.results24, go_sem, s0, s1, s2] <;> omega) rfl ?_
      refine ⟨A, c, _, _, rfl, (H.out.keepNew HB.out (by omega)).drew, ?_, (((HB.out.setCell (by simp) _).setCell (by simp) _).setCell (by simp) _).drew⟩
      have := hcut.out _ ((((HB.out.setCell (p := ⟨w.heap.size + 1, 0, none⟩) (by simp) (.slice A act.length c)).setCell (p := ⟨w.heap.size + 1, 1, none⟩) (by simp) (.slice (some ⟨b, off, none⟩) 0 0)).setCell (p := ⟨w.heap.size + 1, 2, none⟩) (by simp) (.int .i64 y)).drew)
      simp only [if_true, Nat.sub_self] at this
      exact this
  · go_wp2_with fail
    go_region
    all_goals
      go_wp2_with fail
      refine bodyPost_ret (v := .tuple #[.agg #[.slice A act.length c, .slice (some ⟨b, off + 1, none⟩) (l.length - 1) (c' - 1), .int .i64 y], .int .i64 (elt l 0), .int .i64 0]) (by simp [results, Try.results24, go_sem, s0, s1, s2]) rfl ?_
      refine ⟨A, c, _, _, rfl, (H.out.keepNew HB.out (by omega)).drew, ?_, (((HB.out.setCell (by simp) _).setCell (by simp) _).setCell (by simp) _).drew⟩
      have := hcut.out _ ((((HB.out.setCell (p := ⟨w.heap.size + 1, 0, none⟩) (by simp) (.slice A act.length c)).setCell (p := ⟨w.heap.size + 1, 1, none⟩) (by simp) (.slice (some ⟨b, off + 1, none⟩) (l.length - 1) (c' - 1))).setCell (p := ⟨w.heap.size + 1, 2, none⟩) (by simp) (.int .i64 y)).drew)
      rw [if_neg hc1] at this
      exact this
end

end Go.Proofs.Ythfadkilffmmlaa
