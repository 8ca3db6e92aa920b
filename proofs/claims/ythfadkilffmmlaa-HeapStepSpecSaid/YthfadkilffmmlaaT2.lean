/-
  The walk of chalklinelaw21.HeapBumpLocal: it returns true. No condition.
-/
import Derived.Test.YthfadkilffmmlaaT1
import Derived.Test.YthfadkilffmmlaaS8
import Derived.Test.YthfadkilffmmlaaC3
import Derived.Test.YthfadkilffmmlaaPush0
namespace Go.Proofs.Ythfadkilffmmlaa
open Go.RowKit
set_option linter.unusedVariables false
set_option linter.unusedSimpArgs false

/-- what Bump leaves of a valid heap -/
def BumpV (act l : List Int) (y : Int) (v : Nat) (w : World) (e : Ending) (w' : World) : Prop :=
  ∃ (E : Option Addr) (d : Nat) (E' : Option Addr) (d' : Nat) (act2 l2 : List Int) (y2 : Int), e = .returned (.tuple #[.agg #[.slice E act.length d, .slice E' l.length d', .int .i64 y2], .int .i64 0]) ∧
    RI w' E act.length d act2 ∧ RI w' E' l.length d' l2 ∧ Valid act2 l2 y2 ∧ l2.Perm l ∧ (1099511627776 < elt act v + y → y2 ≤ y) ∧
    (elt act v + y ≤ 1099511627776 → act2 = act.set v (elt act v + y) ∧ y2 = y ∧ others l2 v = others l v) ∧ Below w.heap.size w w'
def DecayV (act l : List Int) (y : Int) (w : World) (e : Ending) (w' : World) : Prop :=
  ∃ (E : Option Addr) (d : Nat) (E' : Option Addr) (d' : Nat) (act2 l2 : List Int) (y2 : Int), e = .returned (.tuple #[.agg #[.slice E act.length d, .slice E' l.length d', .int .i64 y2], .int .i64 0]) ∧
    RI w' E act.length d act2 ∧ RI w' E' l.length d' l2 ∧ Valid act2 l2 y2 ∧ l2.Perm l ∧ (1099511627776 < y + (y / 20 + 1) → y2 ≤ y) ∧
    (y + (y / 20 + 1) ≤ 1099511627776 → act2 = act ∧ y2 = y + (y / 20 + 1)) ∧ Below w.heap.size w w'

section
variable (A : Option Addr) (n c : Nat) (act : List Int) (A' : Option Addr) (n' c' : Nat) (l : List Int) (y : Int) (w : World)
theorem bump_v (v : Nat) (h : RI w A n c act) (h' : RI w A' n' c' l) (hk : Valid act l y) (hv : 0 < v ∧ v < act.length) (hN : l.length ≤ 1000000) :
    Calls Try.prog 19 #[.agg #[.slice A n c, .slice A' n' c', .int .i64 y], .int .i64 v] w (BumpV act l y v w) := by
  refine (bump_ok A n c act A' n' c' l y w 1000000 sort_all v h h' hk hv hN).mono ?_
  rintro e w' ⟨E, d, E', d', l2, rfl, r1, r2, hp, hs, hb⟩
  have el : (sclA (act.set v (elt act v + y)) y).length = act.length := by rw [sclA_len]; simp
  have el2 : l2.length = l.length := hp.length_eq
  have hval := bump_valid hk hv.1 hv.2 hp hs
  rw [el] at r1
  rw [el2] at r2
  refine ⟨E, d, E', d', _, l2, _, by rw [el, el2], r1, r2, hval, hp, fun hg => bump_great hk hv.2 hg, fun hg => ?_, hb⟩
  have hbg := bump_small hk hv.2 hg
  have e1 : sclA (act.set v (elt act v + y)) y = act.set v (elt act v + y) := by simp [sclA, hbg]
  refine ⟨e1, by simp [sclY, hbg], ?_⟩
  rw [e1] at hs
  exact others_same hk hv.2 hp hs
theorem decay_v (h : RI w A n c act) (h' : RI w A' n' c' l) (hk : Valid act l y) (hN : l.length ≤ 1000000) :
    Calls Try.prog 21 #[.agg #[.slice A n c, .slice A' n' c', .int .i64 y]] w (DecayV act l y w) := by
  refine (decay_ok A n c act A' n' c' l y w 1000000 sort_all h h' hk hN).mono ?_
  rintro e w' ⟨E, d, E', d', l2, rfl, r1, r2, hp, hs, hb⟩
  have el : (sclA act (y + (y / 20 + 1))).length = act.length := by rw [sclA_len]
  have el2 : l2.length = l.length := hp.length_eq
  have hval := decay_valid hk hp hs
  rw [el] at r1
  rw [el2] at r2
  refine ⟨E, d, E', d', _, l2, _, by rw [el, el2], r1, r2, hval, hp, fun hg => decay_great hk hg, fun hg => ?_, hb⟩
  have hbg := decay_small hk hg
  exact ⟨by simp [sclA, hbg], by simp [sclY, hbg]⟩
end

theorem others_step {l2 r : List Int} {v x : Int} {k : Nat} (h : others (l2.drop k) v = x :: r) : k < l2.length ∧ (elt l2 k = v → others (l2.drop (k + 1)) v = x :: r) ∧ (elt l2 k ≠ v → elt l2 k = x ∧ others (l2.drop (k + 1)) v = r) := by
  have hk : k < l2.length := by
    rcases Nat.lt_or_ge k l2.length with h1 | h1
    · exact h1
    · rw [List.drop_of_length_le h1] at h; simp [others] at h
  rw [drop_cons hk, others_cons] at h
  refine ⟨hk, fun e => by rwa [if_pos e] at h, fun e => ?_⟩
  rw [if_neg e] at h
  injection h with h1 h2
  exact ⟨h1, h2⟩
theorem others_at {l : List Int} {v : Int} {i : Nat} (h : i < l.length) : others (l.drop i) v = if elt l i = v then others (l.drop (i + 1)) v else elt l i :: others (l.drop (i + 1)) v := by
  rw [drop_cons h, others_cons]

section
variable (A : Option Addr) (n c : Nat) (act : List Int) (A' : Option Addr) (n' c' : Nat) (l : List Int) (y : Int) (w : World)

set_option maxRecDepth 100000 in
set_option maxHeartbeats 2000000 in
theorem bumpL_few (a1 : Int) (hf : fewB n n' = false) :
    Calls Try.prog 7 #[.agg #[.slice A n c, .slice A' n' c', .int .i64 y], .int .i64 a1] w fun e w' => e = .returned (.bool true) ∧ Below w.heap.size w w' := by
  have HF := Lib.hid hf
  clear hf
  go_enter Try.func7, Try.ntmps7
  go_wp2_with fail
  refine (live_any _).mono ?_
  rintro e w1 ⟨rfl, hb⟩
  have BH := Lib.hid ((Box.new w (.slice A n c) (.slice A' n' c') (.int .i64 y)).below hb)
  have HB := Lib.hid ((stepA w _).trans (hb.mono (by simp)))
  have q0 := BH.out.c0; have q1 := BH.out.c1; have q2 := BH.out.c2
  clear hb
  go_wp2_with fail
  refine (few_any _ _ _ _ _ _ _ _).mono ?_
  rintro e w2 ⟨rfl, hb⟩
  rw [HF.out]
  clear q0 q1 q2
  go_wp2_with fail
  go_ret
  exact ⟨rfl, HB.out.trans (hb.mono HB.out.size)⟩

set_option maxRecDepth 100000 in
set_option maxHeartbeats 2000000 in
theorem bumpL_bad (a1 : Int) (hf : fewB n n' = true) (hbad : ∀ w' : World, Below w.heap.size w w' → Calls Try.prog 19 #[.agg #[.slice A n c, .slice A' n' c', .int .i64 y], .int .i64 a1] w' fun e w'' => e = .returned (.tuple #[zeroH, .int .i64 1]) ∧ Below w'.heap.size w' w'') :
    Calls Try.prog 7 #[.agg #[.slice A n c, .slice A' n' c', .int .i64 y], .int .i64 a1] w fun e w' => e = .returned (.bool true) ∧ Below w.heap.size w w' := by
  have HF := Lib.hid hf
  have HK := Lib.hid hbad
  clear hf hbad
  go_enter Try.func7, Try.ntmps7
  go_wp2_with fail
  refine (live_any _).mono ?_
  rintro e w1 ⟨rfl, hb⟩
  have BH := Lib.hid ((Box.new w (.slice A n c) (.slice A' n' c') (.int .i64 y)).below hb)
  have HB := Lib.hid ((stepA w _).trans (hb.mono (by simp)))
  have q0 := BH.out.c0; have q1 := BH.out.c1; have q2 := BH.out.c2
  clear hb
  go_wp2_with fail
  refine (few_any _ _ _ _ _ _ _ _).mono ?_
  rintro e w2 ⟨rfl, hb⟩
  rw [HF.out]
  replace BH := Lib.hid (BH.out.below hb)
  replace HB := Lib.hid (HB.out.trans (hb.mono HB.out.size))
  clear q0 q1 q2 hb
  have q0 := BH.out.c0; have q1 := BH.out.c1; have q2 := BH.out.c2
  go_wp2_with fail
  refine (HK.out _ HB.out).mono ?_
  rintro e w3 ⟨rfl, hb⟩
  clear q0 q1 q2
  go_wp2_with fail
  go_ret
  exact ⟨rfl, belowA (HB.out.trans (hb.mono HB.out.size)) _⟩

set_option maxRecDepth 100000 in
set_option maxHeartbeats 8000000 in
theorem bumpL_ok (v : Nat) (hf : fewB n n' = true) (h : RI w A n c act) (h' : RI w A' n' c' l) (hk : Valid act l y) (hv : 0 < v ∧ v < act.length) :
    Calls Try.prog 7 #[.agg #[.slice A n c, .slice A' n' c', .int .i64 y], .int .i64 v] w fun e w' => e = .returned (.bool true) ∧ Below w.heap.size w w' := by
  have hn := h.small
  have hn' := h'.small
  obtain rfl : act.length = n := h.len
  obtain rfl : l.length = n' := h'.len
  obtain ⟨hv0, hv1⟩ := hv
  have hl60 : l.length ≤ 60 := by have : act.length ≤ 60 ∧ l.length ≤ 60 := by simpa [fewB] using hf
                                  omega
  have HF := Lib.hid hf
  have HV := Lib.hid hk
  have H := Lib.hid h
  have H' := Lib.hid h'
  clear hf hk h h'
  go_enter Try.func7, Try.ntmps7
  go_wp2_with fail
  refine (live_any _).mono ?_
  rintro e w1 ⟨rfl, hb⟩
  have BH := Lib.hid ((Box.new w (.slice A act.length c) (.slice A' l.length c') (.int .i64 y)).below hb)
  have HB := Lib.hid ((stepA w _).trans (hb.mono (by simp)))
  have q0 := BH.out.c0; have q1 := BH.out.c1; have q2 := BH.out.c2
  clear hb
  go_wp2_with fail
  refine (few_any _ _ _ _ _ _ _ _).mono ?_
  rintro e w2 ⟨rfl, hb⟩
  rw [HF.out]
  replace BH := Lib.hid (BH.out.below hb)
  replace HB := Lib.hid (HB.out.trans (hb.mono HB.out.size))
  clear q0 q1 q2 hb
  have q0 := BH.out.c0; have q1 := BH.out.c1; have q2 := BH.out.c2
  go_wp2_with fail
  refine (bump_v A _ c act A' _ c' l y _ v (H.out.below HB.out) (H'.out.below HB.out) HV.out ⟨hv0, hv1⟩ (by omega)).mono ?_
  rintro e w3 ⟨E, d, E', d', act2, l2, y2, rfl, rE, rE', hval, hp, hgr, hsm, hb⟩
  have sA := stepA w3 (.cells #[.slice E act.length d, .slice E' l.length d', .int .i64 y2] 24)
  have BX := Lib.hid (Box.new w3 (.slice E act.length d) (.slice E' l.length d') (.int .i64 y2))
  replace BH := Lib.hid ((BH.out.below hb).below sA)
  replace HB := Lib.hid (belowA (HB.out.trans (hb.mono HB.out.size)) (.cells #[.slice E act.length d, .slice E' l.length d', .int .i64 y2] 24))
  have RE := Lib.hid (rE.below sA)
  have RE' := Lib.hid (rE'.below sA)
  have HV2 := Lib.hid hval
  have HP := Lib.hid hp
  have HGR := Lib.hid hgr
  have HSM := Lib.hid hsm
  obtain ⟨W, hW⟩ : ∃ W, w3.alloc (.cells #[.slice E act.length d, .slice E' l.length d', .int .i64 y2] 24) = W := ⟨_, rfl⟩
  rw [hW] at BX BH HB RE RE'
  clear q0 q1 q2 rE rE' hval hp hgr hsm hb sA
  have hs0 : w.heap.size < W.heap.size := lt_of_block BH.out
  have hs3 : w3.heap.size < W.heap.size := lt_of_block BX.out
  have p0 := BH.out.c0; have p1 := BH.out.c1; have p2 := BH.out.c2
  have q0 := BX.out.c0; have q1 := BX.out.c1; have q2 := BX.out.c2
  have HA := Lib.hid (H.out.below HB.out)
  have HA' := Lib.hid (H'.out.below HB.out)
  generalize hhas : hasB l v = hs
  have HHAS := Lib.hid hhas
  have HHAS2 : Hid (hasB l2 v = hs) := by
    show hasB l2 v = hs
    rw [← HHAS.out, Bool.eq_iff_iff, hasB_iff, hasB_iff]; exact HP.out.mem_iff
  clear hhas
  have hxx : (hs != hs) = false := by simp
  have hll : ((l.length : Int) != (l.length : Int)) = false := by simp
  have haa : ((act.length : Int) != (act.length : Int)) = false := by simp
  have er : errB (checkB act2 l2 y2) = 0 := by rw [(valid_iff _ _ _).2 HV2.out]; rfl
  have ER := Lib.hid er
  clear er
  go_wp2_with fail
  refine wp_region_grow (by kernel_rfl) (by kernel_rfl) ?_
  have g0 := fun u : Gr W => u.cell (p := ⟨w.heap.size, 0, none⟩) hs0 p0
  have g1 := fun u : Gr W => u.cell (p := ⟨w.heap.size, 1, none⟩) hs0 p1
  have g2 := fun u : Gr W => u.cell (p := ⟨w.heap.size, 2, none⟩) hs0 p2
  have g3 := fun u : Gr W => u.cell (p := ⟨w3.heap.size, 0, none⟩) hs3 q0
  have g4 := fun u : Gr W => u.cell (p := ⟨w3.heap.size, 1, none⟩) hs3 q1
  have g5 := fun u : Gr W => u.cell (p := ⟨w3.heap.size, 2, none⟩) hs3 q2
  repeat (go_big_quiet_step (first
    | (go_at_call 14; exact Gr.call _ ((heapCheck_any _ _ _ act2 _ _ _ l2 _ _ (RE.out.below (Gr.ok _)) (RE'.out.below (Gr.ok _))).mono fun e w' h => ⟨h.1.trans (by rw [ER.out]), h.2⟩))
    | (go_at_call_of 27 (Value.slice E' l.length d'); exact Gr.same _ ((has_any _ _ _ l2 _ _ (RE'.out.below (Gr.ok _))).mono fun e w' h => ⟨h.1.trans (by rw [HHAS2.out]), h.2⟩))
    | (go_at_call_of 27 (Value.slice A' l.length c'); exact Gr.same _ ((has_any _ _ _ l _ _ (HA'.out.below (Gr.ok _))).mono fun e w' h => ⟨h.1.trans (by rw [HHAS.out]), h.2⟩))))
  refine wpQuiet_nil ?_
  intro W2 hb2; replace hb2 := Gr.out hb2
  replace BH := Lib.hid (BH.out.below hb2)
  replace BX := Lib.hid (BX.out.below hb2)
  replace RE := Lib.hid (RE.out.below hb2)
  replace RE' := Lib.hid (RE'.out.below hb2)
  replace HA := Lib.hid (HA.out.below hb2)
  replace HA' := Lib.hid (HA'.out.below hb2)
  replace HB := Lib.hid (HB.out.trans (hb2.mono HB.out.size))
  clear g0 g1 g2 g3 g4 g5 p0 p1 p2 q0 q1 q2 hs0 hs3 hxx hll haa ER HHAS HHAS2 hb2 hW
  have hs0 : w.heap.size < W2.heap.size := lt_of_block BH.out
  have hs3 : w3.heap.size < W2.heap.size := lt_of_block BX.out
  have p0 := BH.out.c0; have p1 := BH.out.c1; have p2 := BH.out.c2
  have q0 := BX.out.c0; have q1 := BX.out.c1; have q2 := BX.out.c2
  obtain ⟨ba, oa, rfl, hba, hca⟩ := HA.out.cells (by omega)
  obtain ⟨be, oe, rfl, hbe, hce⟩ := RE.out.cells (by omega)
  have HCA := Lib.hid hca
  have HCE := Lib.hid hce
  clear hca hce
  have rv := HV.out.rng v hv1
  have ry1 := HV.out.by1
  have ry2 := HV.out.by2
  have lv : (v : Int) < (act.length : Int) := by omega
  have hcv := HCA.out v hv1
  have hw : IntKind.i64.wrap (elt act v + y) = elt act v + y := by rw [IntKind.wrap_i64]; omega
  by_cases hbig : 1099511627776 < elt act v + y
  · have hle := HGR.out hbig
    have hbd : decide (1099511627776 < elt act v + y) = true := decide_eq_true hbig
    go_wp2_with fail
    refine wp_region_grow (by kernel_rfl) (by kernel_rfl) ?_
    have g0 := fun u : Gr W2 => u.cell (p := ⟨w.heap.size, 0, none⟩) hs0 p0
    have g2 := fun u : Gr W2 => u.cell (p := ⟨w.heap.size, 2, none⟩) hs0 p2
    have g3 := fun u : Gr W2 => u.cell (p := ⟨ba, oa + v, none⟩) hba hcv
    repeat (go_big_quiet_step (fail))
    refine wpQuiet_nil ?_
    intro W3 hb3; replace hb3 := Gr.out hb3
    replace BH := Lib.hid (BH.out.below hb3)
    replace BX := Lib.hid (BX.out.below hb3)
    clear g0 g2 g3 p0 p1 p2 q0 q1 q2 hcv
    have p2 := BH.out.c2
    have q2 := BX.out.c2
    go_wp2_with fail
    go_ret
    exact ⟨rfl, HB.out.trans (hb3.mono HB.out.size)⟩
  · obtain ⟨ha2, hy2, hoth⟩ := HSM.out (by omega)
    have hbd : decide (1099511627776 < elt act v + y) = false := decide_eq_false hbig
    have HA2 := Lib.hid ha2
    have HY2 := Lib.hid hy2
    have HO := Lib.hid hoth
    clear ha2 hy2 hoth HGR HSM
    go_wp2_with fail
    refine wp_region_grow (by kernel_rfl) (by kernel_rfl) ?_
    have g0 := fun u : Gr W2 => u.cell (p := ⟨w.heap.size, 0, none⟩) hs0 p0
    have g2 := fun u : Gr W2 => u.cell (p := ⟨w.heap.size, 2, none⟩) hs0 p2
    have g3 := fun u : Gr W2 => u.cell (p := ⟨ba, oa + v, none⟩) hba hcv
    repeat (go_big_quiet_step (fail))
    refine wpQuiet_nil ?_
    intro W3 hb3; replace hb3 := Gr.out hb3
    clear g0 g2 g3 p0 p1 p2 q0 q1 q2 hcv
    go_wp2_with fail
    go_loopw [7, 8] (fun s7 s8 wr => ∃ k i : Nat, s7 = .int .i64 k ∧ s8 = .int .i64 i ∧ i ≤ l.length ∧ k ≤ l.length ∧ others (l2.drop k) v = others (l.drop i) v ∧ Below W2.heap.size W2 wr) (fun _ s _ => l.length - (intOf s).toNat)
    case atStart => exact ⟨0, 0, rfl, rfl, Nat.zero_le _, Nat.zero_le _, HO.out, hb3⟩
    case round =>
      clear hb3
      obtain ⟨k, i, rfl, rfl, hi, hkl, hoth, hb3⟩ := hrel
      have KO := Lib.hid hoth
      have BHr := Lib.hid (BH.out.below hb3)
      have BXr := Lib.hid (BX.out.below hb3)
      have REr := Lib.hid (RE'.out.below hb3)
      have HAr := Lib.hid (HA'.out.below hb3)
      have HB3 := Lib.hid hb3
      clear hoth hb3
      have t0 : w.heap.size < wr.heap.size := lt_of_block BHr.out
      have t3 : w3.heap.size < wr.heap.size := lt_of_block BXr.out
      have p0 := BHr.out.c0; have p1 := BHr.out.c1; have p2 := BHr.out.c2
      have q0 := BXr.out.c0; have q1 := BXr.out.c1; have q2 := BXr.out.c2
      by_cases hlt : i < l.length
      · obtain ⟨bl, ol, rfl, hbl, hcl⟩ := HAr.out.cells (by omega)
        have hci := hcl i hlt
        have lii : (i : Int) < (l.length : Int) := by omega
        clear hcl
        by_cases hiv : elt l i = v
        · have hivd : (elt l i == (v : Int)) = true := by rw [beq_iff_eq]; exact hiv
          have KO2 : Hid (others (l2.drop k) v = others (l.drop (i + 1)) v) := by
            have := KO.out; rw [others_at hlt, if_pos hiv] at this; exact this
          clear hiv
          go_wp2_with fail
          go_roundw
          case rel => exact ⟨k, i + 1, rfl, by go_num, by omega, hkl, KO2.out, HB3.out⟩
          case measure => simp [intOf]; omega
        · have hivd : (elt l i == (v : Int)) = false := beq_eq_false_iff_ne.2 hiv
          have KO2 : Hid (others (l2.drop k) v = elt l i :: others (l.drop (i + 1)) v) := by
            have := KO.out; rw [others_at hlt, if_neg hiv] at this; exact this
          obtain ⟨hk2, s1, s2⟩ := others_step KO2.out
          have el2 := HP.out.length_eq
          obtain ⟨bx, ox, rfl, hbx, hcx⟩ := REr.out.cells (by omega)
          have hck := hcx k (by omega)
          have lk : (k : Int) < (l.length : Int) := by omega
          have HCX := Lib.hid hcx
          have S1 := Lib.hid s1
          have S2 := Lib.hid s2
          have HIV := Lib.hid hiv
          have HE2 := Lib.hid el2
          clear hcx s1 s2 hiv el2
          by_cases hkv : elt l2 k = v
          · have hkvd : (elt l2 k == (v : Int)) = true := by rw [beq_iff_eq]; exact hkv
            obtain ⟨hk3, s3, s4⟩ := others_step (S1.out hkv)
            have hne : elt l2 (k + 1) ≠ v := fun e => by
              have := HV2.out.inj (p := k + 1) (q := k) hk3 hk2 (by rw [e, hkv])
              omega
            obtain ⟨s5, s6⟩ := s4 hne
            have hck1 := HCX.out (k + 1) (by have := HE2.out; omega)
            have lk1 : (k : Int) + 1 < (l.length : Int) := by have := HE2.out; omega
            have hk1l : k + 1 < l.length := by have := HE2.out; omega
            rw [s5] at hck1
            have hxx : (elt l i != elt l i) = false := by simp
            have KO6 := Lib.hid s6
            have hw1 : IntKind.i64.wrap ((k : Int) + 1) = (k : Int) + 1 := by rw [IntKind.wrap_i64]; omega
            have hw2 : (0 : Int) ≤ (k : Int) + 1 := by omega
            have hw3 : ((k : Int) + 1).toNat = k + 1 := by omega
            have hlt5 : decide ((l.length : Int) ≤ (k : Int) + 1) = false := decide_eq_false (by omega)
            clear s3 s4 s5 s6 hne hkv hk3
            go_wp2_with fail
            refine wp_region_grow (by kernel_rfl) (by kernel_rfl) ?_
            have g1 := fun u : Gr wr => u.cell (p := ⟨w.heap.size, 1, none⟩) t0 p1
            have g4 := fun u : Gr wr => u.cell (p := ⟨w3.heap.size, 1, none⟩) t3 q1
            have g5 := fun u : Gr wr => u.cell (p := ⟨bl, ol + i, none⟩) hbl hci
            have g6 := fun u : Gr wr => u.cell (p := ⟨bx, ox + (k + 1), none⟩) hbx hck1
            repeat (go_big_quiet_step (fail))
            refine wpQuiet_nil ?_
            intro W4 hb4; replace hb4 := Gr.out hb4
            clear g1 g4 g5 g6 hw1 hw3
            go_wp2_with fail
            go_roundw
            case rel => exact ⟨k + 1 + 1, i + 1, by go_num, by go_num, by omega, by omega, KO6.out, HB3.out.trans (hb4.mono HB3.out.size)⟩
            case measure => simp [intOf]; omega
          · have hkvd : (elt l2 k == (v : Int)) = false := beq_eq_false_iff_ne.2 hkv
            obtain ⟨s5, s6⟩ := S2.out hkv
            rw [s5] at hck hkvd
            have hxx : (elt l i != elt l i) = false := by simp
            have KO6 := Lib.hid s6
            have hlt5 : decide ((l.length : Int) ≤ (k : Int)) = false := decide_eq_false (by omega)
            have hlt6 : decide (l.length ≤ k) = false := decide_eq_false (by have := HE2.out; omega)
            clear s5 s6 hkv
            go_wp2_with fail
            refine wp_region_grow (by kernel_rfl) (by kernel_rfl) ?_
            have g1 := fun u : Gr wr => u.cell (p := ⟨w.heap.size, 1, none⟩) t0 p1
            have g4 := fun u : Gr wr => u.cell (p := ⟨w3.heap.size, 1, none⟩) t3 q1
            have g5 := fun u : Gr wr => u.cell (p := ⟨bl, ol + i, none⟩) hbl hci
            have g6 := fun u : Gr wr => u.cell (p := ⟨bx, ox + k, none⟩) hbx hck
            repeat (go_big_quiet_step (fail))
            refine wpQuiet_nil ?_
            intro W4 hb4; replace hb4 := Gr.out hb4
            clear g1 g4 g5 g6
            go_wp2_with fail
            go_roundw
            case rel => exact ⟨k + 1, i + 1, by go_num, by go_num, by omega, by omega, KO6.out, HB3.out.trans (hb4.mono HB3.out.size)⟩
            case measure => simp [intOf]; omega
      · go_wp2_with fail
        go_loopw [9] (fun s9 wr => ∃ j : Nat, s9 = .int .i64 j ∧ 1 ≤ j ∧ j ≤ act.length ∧ Below W2.heap.size W2 wr) (fun s _ => act.length - (intOf s).toNat)
        case atStart => exact ⟨1, rfl, Nat.le_refl _, by omega, HB3.out⟩
        case round =>
          clear HB3 BHr BXr REr HAr t0 t3 p0 p1 p2 q0 q1 q2
          obtain ⟨j, rfl, hj1, hj2, hb3⟩ := hrel
          have BHr := Lib.hid (BH.out.below hb3)
          have BXr := Lib.hid (BX.out.below hb3)
          have HB3 := Lib.hid hb3
          have t0 : w.heap.size < wr.heap.size := lt_of_block BHr.out
          have t3 : w3.heap.size < wr.heap.size := lt_of_block BXr.out
          have p0 := BHr.out.c0; have p2 := BHr.out.c2
          have q0 := BXr.out.c0; have q2 := BXr.out.c2
          have hba2 : ba < wr.heap.size := Nat.lt_of_lt_of_le hba hb3.size
          have hbe2 : be < wr.heap.size := Nat.lt_of_lt_of_le hbe hb3.size
          by_cases hja : j < act.length
          · have lj : (j : Int) < (act.length : Int) := by omega
            have hcj := (hb3.cell (p := ⟨ba, oa + j, none⟩) hba).trans (HCA.out j hja)
            have hcj2 := (hb3.cell (p := ⟨be, oe + j, none⟩) hbe).trans (HCE.out j hja)
            clear hb3
            by_cases hjv : j = v
            · have hjd : ((j : Int) != (v : Int)) = false := by subst hjv; simp
              clear hjv
              go_wp2_with fail
              refine wp_region_grow (by kernel_rfl) (by kernel_rfl) ?_
              repeat (go_big_quiet_step (fail))
              refine wpQuiet_nil ?_
              intro W4 hb4; replace hb4 := Gr.out hb4
              go_wp2_with fail
              go_roundw
              case rel => exact ⟨j + 1, by go_num, by omega, by omega, HB3.out.trans (hb4.mono HB3.out.size)⟩
              case measure => simp [intOf]; omega
            · have hjd : ((j : Int) != (v : Int)) = true := by rw [bne_iff_ne]; omega
              rw [HA2.out, elt_set _ _ _ _ hv1, if_neg (fun e => hjv e.symm)] at hcj2
              have hxx : (elt act j != elt act j) = false := by simp
              clear hjv
              go_wp2_with fail
              refine wp_region_grow (by kernel_rfl) (by kernel_rfl) ?_
              have g1 := fun u : Gr wr => u.cell (p := ⟨w.heap.size, 0, none⟩) t0 p0
              have g4 := fun u : Gr wr => u.cell (p := ⟨w3.heap.size, 0, none⟩) t3 q0
              have g5 := fun u : Gr wr => u.cell (p := ⟨ba, oa + j, none⟩) hba2 hcj
              have g6 := fun u : Gr wr => u.cell (p := ⟨be, oe + j, none⟩) hbe2 hcj2
              repeat (go_big_quiet_step (fail))
              refine wpQuiet_nil ?_
              intro W4 hb4; replace hb4 := Gr.out hb4
              clear g1 g4 g5 g6
              go_wp2_with fail
              go_roundw
              case rel => exact ⟨j + 1, by go_num, by omega, by omega, HB3.out.trans (hb4.mono HB3.out.size)⟩
              case measure => simp [intOf]; omega
          · have hcj := (hb3.cell (p := ⟨ba, oa + v, none⟩) hba).trans (HCA.out v hv1)
            have hcj2 := (hb3.cell (p := ⟨be, oe + v, none⟩) hbe).trans (HCE.out v hv1)
            rw [HA2.out, elt_set _ _ _ _ hv1, if_pos rfl] at hcj2
            rw [HY2.out] at q2
            have hxx : ((elt act v + y) == (elt act v + y)) = true := by simp
            have hyy : (y == y) = true := by simp
            clear hb3
            go_wp2_with fail
            refine wp_region_grow (by kernel_rfl) (by kernel_rfl) ?_
            have g1 := fun u : Gr wr => u.cell (p := ⟨w.heap.size, 0, none⟩) t0 p0
            have g2 := fun u : Gr wr => u.cell (p := ⟨w.heap.size, 2, none⟩) t0 p2
            have g3 := fun u : Gr wr => u.cell (p := ⟨w3.heap.size, 2, none⟩) t3 q2
            have g4 := fun u : Gr wr => u.cell (p := ⟨w3.heap.size, 0, none⟩) t3 q0
            have g5 := fun u : Gr wr => u.cell (p := ⟨ba, oa + v, none⟩) hba2 hcj
            have g6 := fun u : Gr wr => u.cell (p := ⟨be, oe + v, none⟩) hbe2 hcj2
            repeat (go_big_quiet_step (fail))
            refine wpQuiet_nil ?_
            intro W4 hb4; replace hb4 := Gr.out hb4
            clear g1 g2 g3 g4 g5 g6
            go_wp2_with fail
            go_ret
            exact ⟨rfl, HB.out.trans ((HB3.out.trans (hb4.mono HB3.out.size)).mono HB.out.size)⟩
theorem bumpL_any (a1 : Int) (h : n * 8 ≤ 140737488355328 → RI w A n c act) (h' : n' * 8 ≤ 140737488355328 → RI w A' n' c' l) :
    Calls Try.prog 7 #[.agg #[.slice A n c, .slice A' n' c', .int .i64 y], .int .i64 a1] w fun e w' => e = .returned (.bool true) ∧ Below w.heap.size w w' := by
  cases hf : fewB n n'
  · exact bumpL_few A n c A' n' c' y w a1 hf
  · have hle : n ≤ 60 ∧ n' ≤ 60 := by simpa [fewB] using hf
    have h1 := h (by omega)
    have h2 := h' (by omega)
    cases hk : checkB act l y
    · exact bumpL_bad A n c A' n' c' y w a1 hf fun w' hb => bump_bad A n c act A' n' c' l y w' a1 (h1.below hb) (h2.below hb) hk
    · cases hv : knownB act.length a1
      · exact bumpL_bad A n c A' n' c' y w a1 hf fun w' hb => bump_unknown A n c act A' n' c' l y w' a1 (h1.below hb) (h2.below hb) hk hv
      · have hv2 := knownB_iff.1 hv
        obtain ⟨v, rfl⟩ := Int.eq_ofNat_of_zero_le (show 0 ≤ a1 by omega)
        exact bumpL_ok A n c act A' n' c' l y w v hf h1 h2 ((valid_iff _ _ _).1 hk) ⟨by omega, by omega⟩
end

end Go.Proofs.Ythfadkilffmmlaa
