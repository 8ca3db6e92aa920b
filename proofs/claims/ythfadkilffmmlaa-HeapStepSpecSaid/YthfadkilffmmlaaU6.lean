/-
  The reference's Push. No condition.
-/
import Derived.Test.YthfadkilffmmlaaU5
namespace Go.Proofs.Ythfadkilffmmlaa
open Go.RowKit
set_option linter.unusedVariables false
set_option linter.unusedSimpArgs false

theorem undrew {w w3 : World} (h : Below w.drew.heap.size w.drew w3) : Below w.heap.size w w3 := ⟨h.os, h.tape, h.output, h.size, h.block⟩
theorem Valid.high {act l : List Int} {y v : Int} (hv : Valid act l y) {i : Nat} (h : i < l.length → ¬ ltO act (elt l i) v) : ∀ k, i ≤ k → k < l.length → ¬ ltO act (elt l k) v := fun k hk hl => by
  by_cases e : k = i
  · subst e; exact h hl
  · exact leO_trans (h (by omega)) (ltO_asymm (hv.sorted i k (by omega) hl))

section
variable (A : Option Addr) (n c : Nat) (act : List Int) (A' : Option Addr) (n' c' : Nat) (l : List Int) (y : Int) (w : World)

set_option maxHeartbeats 2000000 in
theorem rpush_bad (v : Int) (h : RI w A n c act) (h' : RI w A' n' c' l) (hk : checkB act l y = false) :
    Calls Try.prog 26 #[.agg #[.slice A n c, .slice A' n' c', .int .i64 y], .int .i64 v] w fun e w' => e = .returned (.tuple #[zeroH, .int .i64 1]) ∧ Below w.heap.size w w' := by
  have H := Lib.hid h
  have H' := Lib.hid h'
  have HK := Lib.hid hk
  clear h h' hk
  go_enter Try.func26, Try.ntmps26
  go_wp2_with fail
  refine (rcheck_any A n c act A' n' c' l y _ ((H.out.alloc _).alloc _) ((H'.out.alloc _).alloc _)).mono ?_
  rintro e w1 ⟨rfl, hb⟩
  rw [HK.out, show errB false = 1 from rfl]
  obtain ⟨b1, b2, b3, b4⟩ := two_boxes w _ _ _ hb
  have BR := Lib.hid b2
  have HB := Lib.hid b3
  clear b1 b2 b3 hb
  have s0 := BR.out.c0; have s1 := BR.out.c1; have s2 := BR.out.c2
  have f0 := BR.out.f 0; have f1 := BR.out.f 1; have f2 := BR.out.f 2
  go_wp2_with fail
  refine bodyPost_ret (v := .tuple #[zeroH, .int .i64 1]) (by simp [results, Try.results26, go_sem, s0, s1, s2]) rfl ⟨rfl, ?_⟩
  exact ((HB.out.setCell (by simp) _).setCell (by simp) _).setCell (by simp) _

set_option maxHeartbeats 2000000 in
theorem rpush_unknown (v : Int) (h : RI w A n c act) (h' : RI w A' n' c' l) (hk : checkB act l y = true) (hv : knownB n v = false) :
    Calls Try.prog 26 #[.agg #[.slice A n c, .slice A' n' c', .int .i64 y], .int .i64 v] w fun e w' => e = .returned (.tuple #[zeroH, .int .i64 1]) ∧ Below w.heap.size w w' := by
  have H := Lib.hid h
  have H' := Lib.hid h'
  have HK := Lib.hid hk
  have HKN := Lib.hid hv
  clear h h' hk hv
  go_enter Try.func26, Try.ntmps26
  go_wp2_with fail
  refine (rcheck_any A n c act A' n' c' l y _ ((H.out.alloc _).alloc _) ((H'.out.alloc _).alloc _)).mono ?_
  rintro e w1 ⟨rfl, hb⟩
  rw [HK.out, show errB true = 0 from rfl]
  obtain ⟨b1, b2, b3, b4⟩ := two_boxes w _ _ _ hb
  have BH := Lib.hid b1
  have BR := Lib.hid b2
  have HB := Lib.hid b3
  clear b1 b2 b3 hb
  have p0 := BH.out.c0; have p1 := BH.out.c1; have p2 := BH.out.c2
  go_wp2_with fail
  refine (variable_val false A n c A' n' c' y v _ HKN.out).mono ?_
  rintro e w2 ⟨rfl, hb⟩
  replace BR := Lib.hid (BR.out.below hb)
  replace HB := Lib.hid (HB.out.trans (hb.mono HB.out.size))
  clear hb p0 p1 p2
  have s0 := BR.out.c0; have s1 := BR.out.c1; have s2 := BR.out.c2
  have f0 := BR.out.f 0; have f1 := BR.out.f 1; have f2 := BR.out.f 2
  go_wp2_with fail
  refine bodyPost_ret (v := .tuple #[zeroH, .int .i64 1]) (by simp [results, Try.results26, go_sem, s0, s1, s2]) rfl ⟨rfl, ?_⟩
  exact ((HB.out.setCell (by simp) _).setCell (by simp) _).setCell (by simp) _

set_option maxHeartbeats 2000000 in
theorem rpush_in (v : Int) (h : RI w A n c act) (h' : RI w A' n' c' l) (hk : checkB act l y = true) (hv : knownB n v = true) (hm : hasB l v = true) :
    Calls Try.prog 26 #[.agg #[.slice A n c, .slice A' n' c', .int .i64 y], .int .i64 v] w fun e w' => e = .returned (.tuple #[zeroH, .int .i64 270]) ∧ Below w.heap.size w w' := by
  have H := Lib.hid h
  have H' := Lib.hid h'
  have HK := Lib.hid hk
  have HKN := Lib.hid hv
  have HM := Lib.hid hm
  clear h h' hk hv hm
  go_enter Try.func26, Try.ntmps26
  go_wp2_with fail
  refine (rcheck_any A n c act A' n' c' l y _ ((H.out.alloc _).alloc _) ((H'.out.alloc _).alloc _)).mono ?_
  rintro e w1 ⟨rfl, hb⟩
  rw [HK.out, show errB true = 0 from rfl]
  obtain ⟨b1, b2, b3, b4⟩ := two_boxes w _ _ _ hb
  have BH := Lib.hid b1
  have BR := Lib.hid b2
  have HB := Lib.hid b3
  clear b1 b2 b3 hb
  have p0 := BH.out.c0; have p1 := BH.out.c1; have p2 := BH.out.c2
  go_wp2_with fail
  refine (variable_val true A n c A' n' c' y v _ HKN.out).mono ?_
  rintro e w2 ⟨rfl, hb⟩
  replace BR := Lib.hid (BR.out.below hb)
  replace BH := Lib.hid (BH.out.below hb)
  replace HB := Lib.hid (HB.out.trans (hb.mono HB.out.size))
  clear hb p0 p1 p2
  have p0 := BH.out.c0; have p1 := BH.out.c1; have p2 := BH.out.c2
  go_wp2_with fail
  refine (in_any _ _ _ l v _ (H'.out.below HB.out)).mono ?_
  rintro e w3 ⟨rfl, rfl⟩
  rw [HM.out]
  have s0 := BR.out.c0; have s1 := BR.out.c1; have s2 := BR.out.c2
  have f0 := BR.out.f 0; have f1 := BR.out.f 1; have f2 := BR.out.f 2
  go_wp2_with fail
  refine bodyPost_ret (v := .tuple #[zeroH, .int .i64 270]) (by simp [results, Try.results26, go_sem, s0, s1, s2]) rfl ⟨rfl, ?_⟩
  exact ((HB.out.setCell (by simp) _).setCell (by simp) _).setCell (by simp) _

set_option maxHeartbeats 4000000 in
theorem rpush_ok (v : Int) (h : RI w A n c act) (h' : RI w A' n' c' l) (hk : Valid act l y) (hv : 0 < v ∧ v < act.length) (hm : v ∉ l) (hlen : l.length ≤ 1000000) :
    Calls Try.prog 26 #[.agg #[.slice A n c, .slice A' n' c', .int .i64 y], .int .i64 v] w (PushOk act l v y w) := by
  obtain rfl : act.length = n := h.len
  obtain rfl : l.length = n' := h'.len
  have hpos := hk.pos
  have HKN : Hid (knownB act.length v = true) := knownB_iff.2 hv
  have HM : Hid (hasB l v = false) := by
    show hasB l v = false
    cases hh : hasB l v
    · rfl
    · exact absurd (hasB_iff.1 hh) hm
  have H := Lib.hid h
  have H' := Lib.hid h'
  have HV := Lib.hid hk
  have FA := Lib.hid (h.lt hpos)
  clear h h' hk hm
  go_enter Try.func26, Try.ntmps26
  go_wp2_with fail
  refine (rcheck_any A _ c act A' _ c' l y _ ((H.out.alloc _).alloc _) ((H'.out.alloc _).alloc _)).mono ?_
  rintro e w1 ⟨rfl, hb⟩
  rw [(valid_iff _ _ _).2 HV.out, show errB true = 0 from rfl]
  obtain ⟨b1, b2, b3, b4⟩ := two_boxes w _ _ _ hb
  have BH := Lib.hid b1
  have BR := Lib.hid b2
  have HB := Lib.hid b3
  clear b1 b2 b3 hb
  have p0 := BH.out.c0; have p1 := BH.out.c1; have p2 := BH.out.c2
  go_wp2_with fail
  refine (variable_val true A _ c A' _ c' y v _ HKN.out).mono ?_
  rintro e w2 ⟨rfl, hb⟩
  replace BR := Lib.hid (BR.out.below hb)
  replace BH := Lib.hid (BH.out.below hb)
  replace HB := Lib.hid (HB.out.trans (hb.mono HB.out.size))
  clear hb p0 p1 p2
  have p0 := BH.out.c0; have p1 := BH.out.c1; have p2 := BH.out.c2
  go_wp2_with fail
  refine (in_any _ _ _ l v _ (H'.out.below HB.out)).mono ?_
  rintro e w3 ⟨rfl, rfl⟩
  rw [HM.out]
  have hs0 : w.heap.size < w2.heap.size := lt_of_block BH.out
  have hs1 : w.heap.size + 1 < w2.heap.size := lt_of_block BR.out
  go_wp2_with fail
  go_region_held3 (fun w' => w'.cell? ⟨w.heap.size, 0, none⟩ = some (.slice A act.length c) ∧ w'.cell? ⟨w.heap.size, 1, none⟩ = some (.slice A' l.length c') ∧ w'.cell? ⟨w.heap.size, 2, none⟩ = some (.int .i64 y)) (first | exact ⟨p0, p1, p2⟩ | exact ⟨r0, r1, r2⟩ | (refine ⟨?_, ?_, ?_⟩ <;> (rw [World.cell?_setCell_other _ _ _ _ (by simp), World.cell?_setCell_other _ _ _ _ (by simp), World.cell?_setCell_other _ _ _ _ (by simp)]; assumption)))
    (first | (go_at_call 37; refine (put_any A act.length c act _ _ _ y A' l.length c' l v _ ?_ ?_ HV.out.dom ⟨Int.le_of_lt hv.1, hv.2⟩ hlen).mono ?_; exact (H.out.below HB.out).drew; exact (H'.out.below HB.out).drew; rintro e w3 ⟨i, hi, hlo, hhi, A3, c3, rfl, r3, fr3, hb3⟩; replace hb3 := undrew hb3; have BH3 := Lib.hid (BH.out.below hb3); have BR3 := Lib.hid (BR.out.below hb3); have r0 := BH3.out.c0; have r1 := BH3.out.c1; have r2 := BH3.out.c2; have s0 := BR3.out.c0; have s1 := BR3.out.c1; have s2 := BR3.out.c2; have f0 := BR3.out.f 0; have f1 := BR3.out.f 1; have f2 := BR3.out.f 2))
  go_wp2_with fail
  refine bodyPost_ret (v := .tuple #[.agg #[.slice A act.length c, .slice A3 (insAt l i v).length c3, .int .i64 y], .int .i64 0]) (by simp [results, Try.results26, go_sem, s0, s1, s2]) rfl ?_
  have HB3 := HB.out.trans (hb3.mono HB.out.size)
  refine ⟨i, hi, hlo, HV.out.high hhi, A, c, A3, c3, rfl, H.out.keepNew HB3 (by omega), r3.keep3 fun b off e => ?_, ((HB3.setCell (by simp) _).setCell (by simp) _).setCell (by simp) _⟩
  have := fr3 b off e
  have e2 : w2.drew.heap.size = w2.heap.size := rfl
  omega
end

end Go.Proofs.Ythfadkilffmmlaa
