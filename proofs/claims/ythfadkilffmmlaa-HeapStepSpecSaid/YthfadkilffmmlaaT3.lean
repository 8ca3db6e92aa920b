/-
  The walk of chalklinelaw21.HeapDecayGrows: it returns true. No condition.
-/
import Derived.Test.YthfadkilffmmlaaT2
namespace Go.Proofs.Ythfadkilffmmlaa
open Go.RowKit
set_option linter.unusedVariables false
set_option linter.unusedSimpArgs false

set_option maxHeartbeats 1000000 in
theorem sameSet_perm (A : Option Addr) (n c : Nat) (zs : List Int) (A' : Option Addr) (c' : Nat) (zs' : List Int) (w : World) (h : RI w A n c zs) (h' : RI w A' n c' zs') (hp : zs.Perm zs') :
    Calls Try.prog 29 #[.slice A n c, .slice A' n c'] w fun e w' => e = .returned (.bool true) ∧ w = w' := by
  have hn := h.small
  have H := Lib.hid h
  have H' := Lib.hid h'
  have HP := Lib.hid hp
  have hnn : ((n : Int) == (n : Int)) = true := by simp
  clear h h' hp
  go_enter Try.func29, Try.ntmps29
  go_wp2_with fail
  go_loop [5] (fun i => ∃ k : Nat, k ≤ n ∧ i = .int .i64 k) (fun i => n - (intOf i).toNat)
  case atStart => exact ⟨0, Nat.zero_le _, rfl⟩
  case round =>
    obtain ⟨k, hk, rfl⟩ := hrel
    by_cases hlt : k < n
    · obtain ⟨b, off, rfl, hb, hc⟩ := H.out.cells (by omega)
      have hck := hc k hlt
      clear hc
      have hm : hasB zs' (elt zs k) = true := by
        rw [hasB_iff, ← HP.out.mem_iff, elt_lt (by rw [H.out.len]; exact hlt)]
        exact List.getElem_mem _
      have HM := Lib.hid hm
      clear hm
      go_wp2_with (go_at_call 27; refine (has_any _ _ _ zs' _ _ H'.out).mono ?_; rintro e w' ⟨rfl, rfl⟩; rw [HM.out])
      go_round
      case rel => exact ⟨k + 1, by omega, by go_num⟩
      case measure => simp [intOf]; omega
    · go_wp2_with fail
      go_ret
      exact ⟨rfl, rfl⟩

theorem Gr.quiet {P : Program} {f : FuncId} {args : Array Value} {w : World} {v : Value} (u : Gr w) (h : Calls P f args u.val fun e w' => e = .returned v ∧ ∃ q, w' = u.val.drewN q) :
    Calls P f args u.val fun e w' => e = .returned v ∧ ∃ u' : Gr w, w' = u'.val :=
  h.mono fun _ w' ⟨he, q, hq⟩ => ⟨he, ⟨w', by rw [hq]; exact belowDN u.ok q⟩, rfl⟩

theorem ints_same (A : Option Addr) (n c : Nat) (zs : List Int) (A' : Option Addr) (n' c' : Nat) (zs' : List Int) (w : World) (h : RI w A n c zs) (h' : RI w A' n' c' zs') (he : zs = zs') :
    Calls Try.prog 28 #[.slice A n c, .slice A' n' c'] w fun e w' => e = .returned (.bool true) ∧ ∃ q, w' = w.drewN q :=
  (ints_any A n c zs A' n' c' zs' w h h').mono fun e w' hh => ⟨hh.1.trans (by rw [he]; simp [sameB]), hh.2⟩

section
variable (A : Option Addr) (n c : Nat) (act : List Int) (A' : Option Addr) (n' c' : Nat) (l : List Int) (y : Int) (w : World)

set_option maxRecDepth 100000 in
set_option maxHeartbeats 2000000 in
theorem decG_few (a1 : Int) (hf : fewB n n' = false) :
    Calls Try.prog 8 #[.agg #[.slice A n c, .slice A' n' c', .int .i64 y], .int .i64 a1] w fun e w' => e = .returned (.bool true) ∧ Below w.heap.size w w' := by
  have HF := Lib.hid hf
  clear hf
  go_enter Try.func8, Try.ntmps8
  go_wp2_with fail
  refine (live_any _).mono ?_
  rintro e w1 ⟨rfl, hb⟩
  have BH := Lib.hid ((Box.new w (.slice A n c) (.slice A' n' c') (.int .i64 y)).below hb)
  have HB := Lib.hid ((stepA w _).trans (hb.mono (by simp)))
  have q0 := BH.out.c0; have q1 := BH.out.c1; have q2 := BH.out.c2
  clear hb
  go_wp2_with fail
  refine (few_any _ _ _ _ _ _ _ _).mono ?_
  rintro e w2 ⟨rfl, hb⟩
  rw [HF.out]
  clear q0 q1 q2
  go_wp2_with fail
  go_ret
  exact ⟨rfl, HB.out.trans (hb.mono HB.out.size)⟩

set_option maxRecDepth 100000 in
set_option maxHeartbeats 2000000 in
theorem decG_bad (a1 : Int) (hf : fewB n n' = true) (h : RI w A n c act) (h' : RI w A' n' c' l) (hk : checkB act l y = false) :
    Calls Try.prog 8 #[.agg #[.slice A n c, .slice A' n' c', .int .i64 y], .int .i64 a1] w fun e w' => e = .returned (.bool true) ∧ Below w.heap.size w w' := by
  have HF := Lib.hid hf
  have HK := Lib.hid hk
  have H := Lib.hid h
  have H' := Lib.hid h'
  clear hf hk h h'
  go_enter Try.func8, Try.ntmps8
  go_wp2_with fail
  refine (live_any _).mono ?_
  rintro e w1 ⟨rfl, hb⟩
  have BH := Lib.hid ((Box.new w (.slice A n c) (.slice A' n' c') (.int .i64 y)).below hb)
  have HB := Lib.hid ((stepA w _).trans (hb.mono (by simp)))
  have q0 := BH.out.c0; have q1 := BH.out.c1; have q2 := BH.out.c2
  clear hb
  go_wp2_with fail
  refine (few_any _ _ _ _ _ _ _ _).mono ?_
  rintro e w2 ⟨rfl, hb⟩
  rw [HF.out]
  replace BH := Lib.hid (BH.out.below hb)
  replace HB := Lib.hid (HB.out.trans (hb.mono HB.out.size))
  clear q0 q1 q2 hb
  have q0 := BH.out.c0; have q1 := BH.out.c1; have q2 := BH.out.c2
  go_wp2_with fail
  refine (decay_bad A n c act A' n' c' l y _ (H.out.below HB.out) (H'.out.below HB.out) HK.out).mono ?_
  rintro e w3 ⟨rfl, hb⟩
  clear q0 q1 q2
  go_wp2_with fail
  go_ret
  exact ⟨rfl, belowA (HB.out.trans (hb.mono HB.out.size)) _⟩

set_option maxRecDepth 100000 in
set_option maxHeartbeats 8000000 in
theorem decG_unk (a1 : Int) (hf : fewB n n' = true) (h : RI w A n c act) (h' : RI w A' n' c' l) (hk : Valid act l y) (hv : knownB act.length a1 = false) :
    Calls Try.prog 8 #[.agg #[.slice A n c, .slice A' n' c', .int .i64 y], .int .i64 a1] w fun e w' => e = .returned (.bool true) ∧ Below w.heap.size w w' := by
  have HKN := Lib.hid hv
  clear hv
  have hn := h.small
  have hn' := h'.small
  obtain rfl : act.length = n := h.len
  obtain rfl : l.length = n' := h'.len
  have hl60 : l.length ≤ 60 := by have : act.length ≤ 60 ∧ l.length ≤ 60 := by simpa [fewB] using hf
                                  omega
  have HF := Lib.hid hf
  have HV := Lib.hid hk
  have H := Lib.hid h
  have H' := Lib.hid h'
  have ry1 := hk.by1
  have ry2 := hk.by2
  clear hf hk h h'
  go_enter Try.func8, Try.ntmps8
  go_wp2_with fail
  refine (live_any _).mono ?_
  rintro e w1 ⟨rfl, hb⟩
  have BH := Lib.hid ((Box.new w (.slice A act.length c) (.slice A' l.length c') (.int .i64 y)).below hb)
  have HB := Lib.hid ((stepA w _).trans (hb.mono (by simp)))
  have q0 := BH.out.c0; have q1 := BH.out.c1; have q2 := BH.out.c2
  clear hb
  go_wp2_with fail
  refine (few_any _ _ _ _ _ _ _ _).mono ?_
  rintro e w2 ⟨rfl, hb⟩
  rw [HF.out]
  replace BH := Lib.hid (BH.out.below hb)
  replace HB := Lib.hid (HB.out.trans (hb.mono HB.out.size))
  clear q0 q1 q2 hb
  have q0 := BH.out.c0; have q1 := BH.out.c1; have q2 := BH.out.c2
  go_wp2_with fail
  refine (decay_v A _ c act A' _ c' l y _ (H.out.below HB.out) (H'.out.below HB.out) HV.out (by omega)).mono ?_
  rintro e w3 ⟨E, d, E', d', act2, l2, y2, rfl, rE, rE', hval, hp, hgr, hsm, hb⟩
  have sA := stepA w3 (.cells #[.slice E act.length d, .slice E' l.length d', .int .i64 y2] 24)
  have BX := Lib.hid (Box.new w3 (.slice E act.length d) (.slice E' l.length d') (.int .i64 y2))
  replace BH := Lib.hid ((BH.out.below hb).below sA)
  replace HB := Lib.hid (belowA (HB.out.trans (hb.mono HB.out.size)) (.cells #[.slice E act.length d, .slice E' l.length d', .int .i64 y2] 24))
  have RE := Lib.hid (rE.below sA)
  have RE' := Lib.hid (rE'.below sA)
  have HV2 := Lib.hid hval
  have HP := Lib.hid hp
  have HGR := Lib.hid hgr
  have HSM := Lib.hid hsm
  have hEA : Hid (act2.length = act.length) := rE.len
  have hEL : Hid (l2.length = l.length) := rE'.len
  obtain ⟨W, hW⟩ : ∃ W, w3.alloc (.cells #[.slice E act.length d, .slice E' l.length d', .int .i64 y2] 24) = W := ⟨_, rfl⟩
  rw [hW] at BX BH HB RE RE'
  clear q0 q1 q2 rE rE' hval hp hgr hsm hb sA
  have p0 := BH.out.c0; have p1 := BH.out.c1; have p2 := BH.out.c2
  have hs0 : w.heap.size < W.heap.size := lt_of_block BH.out
  have hs3 : w3.heap.size < W.heap.size := lt_of_block BX.out
  have HS0 := Lib.hid hs0
  have HS3 := Lib.hid hs3
  go_wp2_with fail
  refine (bump_unknown A _ c act A' _ c' l y _ a1 (H.out.below HB.out) (H'.out.below HB.out) ((valid_iff _ _ _).2 HV.out) HKN.out).mono ?_
  rintro e w4 ⟨rfl, hb⟩
  have sA := stepA w4 (.cells #[.slice none 0 0, .slice none 0 0, .int .i64 0] 24)
  replace BH := Lib.hid ((BH.out.below hb).below sA)
  replace BX := Lib.hid ((BX.out.below hb).below sA)
  replace RE := Lib.hid ((RE.out.below hb).below sA)
  replace RE' := Lib.hid ((RE'.out.below hb).below sA)
  replace HB := Lib.hid (belowA (HB.out.trans (hb.mono HB.out.size)) (.cells #[.slice none 0 0, .slice none 0 0, .int .i64 0] 24))
  have hw4 := hb.size
  clear hb sA
  clear p0 p1 p2 hs0 hs3
  have x0 := BX.out.c0; have x1 := BX.out.c1; have x2 := BX.out.c2
  have hs3 : w3.heap.size < w4.heap.size := Nat.lt_of_lt_of_le HS3.out hw4
  go_wp2_with fail
  refine (bump_unknown E _ d act2 E' _ d' l2 y2 _ a1 RE.out RE'.out ((valid_iff _ _ _).2 HV2.out) (by rw [hEA.out]; exact HKN.out)).mono ?_
  rintro e w5 ⟨rfl, hb⟩
  have sA := stepA w5 (.cells #[.slice none 0 0, .slice none 0 0, .int .i64 0] 24)
  replace BH := Lib.hid ((BH.out.below hb).below sA)
  replace BX := Lib.hid ((BX.out.below hb).below sA)
  replace RE := Lib.hid ((RE.out.below hb).below sA)
  replace RE' := Lib.hid ((RE'.out.below hb).below sA)
  replace HB := Lib.hid (belowA (HB.out.trans (hb.mono HB.out.size)) (.cells #[.slice none 0 0, .slice none 0 0, .int .i64 0] 24))
  have hw5 := hb.size
  clear hb sA
  clear x0 x1 x2 hs3
  have x0 := BX.out.c0; have x1 := BX.out.c1; have x2 := BX.out.c2
  have p0 := BH.out.c0; have p1 := BH.out.c1; have p2 := BH.out.c2
  have hw6 : W.heap.size + 1 ≤ w5.heap.size := by simp at hw5; omega
  have hs0 : w.heap.size < w5.heap.size := by have := HS0.out; omega
  have hs3 : w3.heap.size < w5.heap.size := by have := HS3.out; omega
  have er : errB (checkB act2 l2 y2) = 0 := by rw [(valid_iff _ _ _).2 HV2.out]; rfl
  have ER := Lib.hid er
  have haa : ((act.length : Int) != (act.length : Int)) = false := by simp
  clear er
  go_wp2_with fail
  refine (heapCheck_any _ _ _ act2 _ _ _ l2 _ _ RE.out RE'.out).mono ?_
  rintro e w6 ⟨rfl, hb⟩
  rw [ER.out]
  replace BH := Lib.hid (BH.out.below hb)
  replace BX := Lib.hid (BX.out.below hb)
  replace RE := Lib.hid (RE.out.below hb)
  replace RE' := Lib.hid (RE'.out.below hb)
  replace HB := Lib.hid (HB.out.trans (hb.mono HB.out.size))
  clear x0 x1 x2 p0 p1 p2 hs0 hs3 hb
  have p0 := BH.out.c0; have p1 := BH.out.c1; have p2 := BH.out.c2
  have x0 := BX.out.c0; have x1 := BX.out.c1; have x2 := BX.out.c2
  have HA := Lib.hid (H.out.below HB.out)
  have HA' := Lib.hid (H'.out.below HB.out)
  have hs0 : w.heap.size < w6.heap.size := lt_of_block BH.out
  have hs3 : w3.heap.size < w6.heap.size := lt_of_block BX.out
  have hwm : IntKind.i64.wrap (y + y / 20) = y + y / 20 := by rw [IntKind.wrap_i64]; omega
  have hwm2 : IntKind.i64.wrap (y + y / 20 + 1) = y + y / 20 + 1 := by rw [IntKind.wrap_i64]; omega
  clear hwm hwm2
  go_wp2_with fail
  refine (sameSet_perm _ _ _ l2 _ _ l _ RE'.out HA'.out HP.out).mono ?_
  rintro e w7 ⟨rfl, rfl⟩
  by_cases hbig : 1099511627776 < y + y / 20 + 1
  · have hle := HGR.out (by omega)
    go_wp2_with fail
    go_ret
    exact ⟨rfl, HB.out⟩
  · have hy2 := (HSM.out (by omega)).2
    have hye : (y2 == y + y / 20 + 1) = true := by rw [beq_iff_eq]; omega
    clear hy2
    go_wp2_with fail
    go_ret
    exact ⟨rfl, HB.out⟩

set_option maxRecDepth 100000 in
set_option maxHeartbeats 8000000 in
theorem decG_ok (v : Nat) (hf : fewB n n' = true) (h : RI w A n c act) (h' : RI w A' n' c' l) (hk : Valid act l y) (hv : 0 < v ∧ v < act.length) :
    Calls Try.prog 8 #[.agg #[.slice A n c, .slice A' n' c', .int .i64 y], .int .i64 v] w fun e w' => e = .returned (.bool true) ∧ Below w.heap.size w w' := by
  obtain ⟨hv0, hv1⟩ := hv
  have hn := h.small
  have hn' := h'.small
  obtain rfl : act.length = n := h.len
  obtain rfl : l.length = n' := h'.len
  have hl60 : l.length ≤ 60 := by have : act.length ≤ 60 ∧ l.length ≤ 60 := by simpa [fewB] using hf
                                  omega
  have HF := Lib.hid hf
  have HV := Lib.hid hk
  have H := Lib.hid h
  have H' := Lib.hid h'
  have ry1 := hk.by1
  have ry2 := hk.by2
  clear hf hk h h'
  go_enter Try.func8, Try.ntmps8
  go_wp2_with fail
  refine (live_any _).mono ?_
  rintro e w1 ⟨rfl, hb⟩
  have BH := Lib.hid ((Box.new w (.slice A act.length c) (.slice A' l.length c') (.int .i64 y)).below hb)
  have HB := Lib.hid ((stepA w _).trans (hb.mono (by simp)))
  have q0 := BH.out.c0; have q1 := BH.out.c1; have q2 := BH.out.c2
  clear hb
  go_wp2_with fail
  refine (few_any _ _ _ _ _ _ _ _).mono ?_
  rintro e w2 ⟨rfl, hb⟩
  rw [HF.out]
  replace BH := Lib.hid (BH.out.below hb)
  replace HB := Lib.hid (HB.out.trans (hb.mono HB.out.size))
  clear q0 q1 q2 hb
  have q0 := BH.out.c0; have q1 := BH.out.c1; have q2 := BH.out.c2
  go_wp2_with fail
  refine (decay_v A _ c act A' _ c' l y _ (H.out.below HB.out) (H'.out.below HB.out) HV.out (by omega)).mono ?_
  rintro e w3 ⟨E, d, E', d', act2, l2, y2, rfl, rE, rE', hval, hp, hgr, hsm, hb⟩
  have sA := stepA w3 (.cells #[.slice E act.length d, .slice E' l.length d', .int .i64 y2] 24)
  have BX := Lib.hid (Box.new w3 (.slice E act.length d) (.slice E' l.length d') (.int .i64 y2))
  replace BH := Lib.hid ((BH.out.below hb).below sA)
  replace HB := Lib.hid (belowA (HB.out.trans (hb.mono HB.out.size)) (.cells #[.slice E act.length d, .slice E' l.length d', .int .i64 y2] 24))
  have RE := Lib.hid (rE.below sA)
  have RE' := Lib.hid (rE'.below sA)
  have HV2 := Lib.hid hval
  have HP := Lib.hid hp
  have HGR := Lib.hid hgr
  have HSM := Lib.hid hsm
  have hEA : Hid (act2.length = act.length) := rE.len
  have hEL : Hid (l2.length = l.length) := rE'.len
  obtain ⟨W, hW⟩ : ∃ W, w3.alloc (.cells #[.slice E act.length d, .slice E' l.length d', .int .i64 y2] 24) = W := ⟨_, rfl⟩
  rw [hW] at BX BH HB RE RE'
  clear q0 q1 q2 rE rE' hval hp hgr hsm hb sA
  have p0 := BH.out.c0; have p1 := BH.out.c1; have p2 := BH.out.c2
  have hs0 : w.heap.size < W.heap.size := lt_of_block BH.out
  have hs3 : w3.heap.size < W.heap.size := lt_of_block BX.out
  go_wp2_with fail
  refine (bump_v A _ c act A' _ c' l y _ v (H.out.below HB.out) (H'.out.below HB.out) HV.out ⟨hv0, hv1⟩ (by omega)).mono ?_
  rintro e w4 ⟨F, f, F', f', act3, l3, y3, rfl, rF, rF', hval3, hp3, hgr3, hsm3, hb⟩
  have sA := stepA w4 (.cells #[.slice F act.length f, .slice F' l.length f', .int .i64 y3] 24)
  replace BH := Lib.hid ((BH.out.below hb).below sA)
  replace BX := Lib.hid ((BX.out.below hb).below sA)
  replace RE := Lib.hid ((RE.out.below hb).below sA)
  replace RE' := Lib.hid ((RE'.out.below hb).below sA)
  replace HB := Lib.hid (belowA (HB.out.trans (hb.mono HB.out.size)) (.cells #[.slice F act.length f, .slice F' l.length f', .int .i64 y3] 24))
  have BA := Lib.hid (Box.new w4 (.slice F act.length f) (.slice F' l.length f') (.int .i64 y3))
  have RF := Lib.hid (rF.below sA)
  have HSM3 := Lib.hid hsm3
  obtain ⟨Wa, hWa⟩ : ∃ Wa, w4.alloc (.cells #[.slice F act.length f, .slice F' l.length f', .int .i64 y3] 24) = Wa := ⟨_, rfl⟩
  rw [hWa] at BH BX RE RE' HB BA RF
  clear hb sA
  clear p0 p1 p2 hs0 hs3 rF rF' hval3 hp3 hgr3 hsm3
  have x0 := BX.out.c0; have x1 := BX.out.c1; have x2 := BX.out.c2
  have hs3 : w3.heap.size < Wa.heap.size := lt_of_block BX.out
  go_wp2_with fail
  refine (bump_v E _ d act2 E' _ d' l2 y2 _ v RE.out RE'.out HV2.out ⟨hv0, by rw [hEA.out]; exact hv1⟩ (by rw [hEL.out]; omega)).mono ?_
  rintro e w5 ⟨G, g, G', g', act4, l4, y4, rfl, rG, rG', hval4, hp4, hgr4, hsm4, hb⟩
  rw [hEA.out] at rG
  rw [hEA.out, hEL.out]
  have sA := stepA w5 (.cells #[.slice G act.length g, .slice G' l.length g', .int .i64 y4] 24)
  replace BH := Lib.hid ((BH.out.below hb).below sA)
  replace BX := Lib.hid ((BX.out.below hb).below sA)
  replace RE := Lib.hid ((RE.out.below hb).below sA)
  replace RE' := Lib.hid ((RE'.out.below hb).below sA)
  replace BA := Lib.hid ((BA.out.below hb).below sA)
  replace RF := Lib.hid ((RF.out.below hb).below sA)
  replace HB := Lib.hid (belowA (HB.out.trans (hb.mono HB.out.size)) (.cells #[.slice G act.length g, .slice G' l.length g', .int .i64 y4] 24))
  have BB := Lib.hid (Box.new w5 (.slice G act.length g) (.slice G' l.length g') (.int .i64 y4))
  have RG := Lib.hid (rG.below sA)
  have HSM4 := Lib.hid hsm4
  obtain ⟨Wb, hWb⟩ : ∃ Wb, w5.alloc (.cells #[.slice G act.length g, .slice G' l.length g', .int .i64 y4] 24) = Wb := ⟨_, rfl⟩
  rw [hWb] at BH BX RE RE' HB BA RF BB RG
  clear hb sA
  clear x0 x1 x2 hs3 rG rG' hval4 hp4 hgr4 hsm4
  have x0 := BX.out.c0; have x1 := BX.out.c1; have x2 := BX.out.c2
  have p0 := BH.out.c0; have p1 := BH.out.c1; have p2 := BH.out.c2
  have hs0 : w.heap.size < Wb.heap.size := lt_of_block BH.out
  have hs3 : w3.heap.size < Wb.heap.size := lt_of_block BX.out
  have er : errB (checkB act2 l2 y2) = 0 := by rw [(valid_iff _ _ _).2 HV2.out]; rfl
  have ER := Lib.hid er
  have haa : ((act.length : Int) != (act.length : Int)) = false := by simp
  clear er
  go_wp2_with fail
  refine (heapCheck_any _ _ _ act2 _ _ _ l2 _ _ RE.out RE'.out).mono ?_
  rintro e w6 ⟨rfl, hb⟩
  rw [ER.out]
  replace BH := Lib.hid (BH.out.below hb)
  replace BX := Lib.hid (BX.out.below hb)
  replace RE := Lib.hid (RE.out.below hb)
  replace RE' := Lib.hid (RE'.out.below hb)
  replace BA := Lib.hid (BA.out.below hb)
  replace RF := Lib.hid (RF.out.below hb)
  replace BB := Lib.hid (BB.out.below hb)
  replace RG := Lib.hid (RG.out.below hb)
  replace HB := Lib.hid (HB.out.trans (hb.mono HB.out.size))
  clear x0 x1 x2 p0 p1 p2 hs0 hs3 hb
  have p0 := BH.out.c0; have p1 := BH.out.c1; have p2 := BH.out.c2
  have x0 := BX.out.c0; have x1 := BX.out.c1; have x2 := BX.out.c2
  have HA := Lib.hid (H.out.below HB.out)
  have HA' := Lib.hid (H'.out.below HB.out)
  have hs0 : w.heap.size < w6.heap.size := lt_of_block BH.out
  have hs3 : w3.heap.size < w6.heap.size := lt_of_block BX.out
  have hwm : IntKind.i64.wrap (y + y / 20) = y + y / 20 := by rw [IntKind.wrap_i64]; omega
  have hwm2 : IntKind.i64.wrap (y + y / 20 + 1) = y + y / 20 + 1 := by rw [IntKind.wrap_i64]; omega
  clear hwm hwm2
  go_wp2_with fail
  refine (sameSet_perm _ _ _ l2 _ _ l _ RE'.out HA'.out HP.out).mono ?_
  rintro e w7 ⟨rfl, rfl⟩
  by_cases hbig : 1099511627776 < y + y / 20 + 1
  · have hle := HGR.out (by omega)
    go_wp2_with fail
    go_ret
    exact ⟨rfl, HB.out⟩
  · obtain ⟨hac, hy2⟩ := HSM.out (by omega)
    have hye : (y2 == y + y / 20 + 1) = true := by rw [beq_iff_eq]; omega
    have HAC := Lib.hid hac
    have HY2 := Lib.hid hy2
    clear hac hy2
    obtain ⟨ba, oa, rfl, hba, hca⟩ := HA.out.cells (by omega)
    have hcv := hca v hv1
    have lv : (v : Int) < (act.length : Int) := by omega
    have rv := HV.out.rng v hv1
    clear hca
    by_cases hmx : 1099511627776 < elt act v + (y + y / 20 + 1)
    · go_wp2_with fail
      go_ret
      exact ⟨rfl, HB.out⟩
    · have e3 := (HSM3.out (by omega)).1
      have e4 := (HSM4.out (by rw [HAC.out, HY2.out]; omega)).1
      obtain ⟨bf, of, rfl, hbf, hcf⟩ := RF.out.cells (by omega)
      obtain ⟨bg, og, rfl, hbg, hcg⟩ := RG.out.cells (by omega)
      have hfv := hcf v hv1
      have hgv := hcg v hv1
      rw [e3, elt_set _ _ _ _ hv1, if_pos rfl] at hfv
      rw [e4, elt_set _ _ _ _ (by rw [hEA.out]; exact hv1), if_pos rfl, HAC.out, HY2.out] at hgv
      have hgt : decide (elt act v + y < elt act v + (y + (y / 20 + 1))) = true := decide_eq_true (by omega)
      have hgt2 : y < y + (y / 20 + 1) := by omega
      have b0 := BB.out.c0
      have a0 := BA.out.c0
      have hs4 : w4.heap.size < w6.heap.size := lt_of_block BA.out
      have hs5 : w5.heap.size < w6.heap.size := lt_of_block BB.out
      clear hcf hcg e3 e4
      go_wp2_with fail
      refine wp_region_grow (by kernel_rfl) (by kernel_rfl) ?_
      have g0 := fun u : Gr w6 => u.cell (p := ⟨w.heap.size, 0, none⟩) hs0 p0
      have g1 := fun u : Gr w6 => u.cell (p := ⟨w3.heap.size, 0, none⟩) hs3 x0
      have g2 := fun u : Gr w6 => u.cell (p := ⟨w3.heap.size, 2, none⟩) hs3 x2
      have g3 := fun u : Gr w6 => u.cell (p := ⟨w4.heap.size, 0, none⟩) hs4 a0
      have g4 := fun u : Gr w6 => u.cell (p := ⟨w5.heap.size, 0, none⟩) hs5 b0
      have g5 := fun u : Gr w6 => u.cell (p := ⟨bf, of + v, none⟩) hbf hfv
      have g6 := fun u : Gr w6 => u.cell (p := ⟨bg, og + v, none⟩) hbg hgv
      repeat (go_big_quiet_step ((go_at_call 28; exact Gr.quiet _ (ints_same _ _ _ act2 _ _ _ act _ (RE.out.below (Gr.ok _)) (HA.out.below (Gr.ok _)) HAC.out))))
      refine wpQuiet_nil ?_
      intro w8 hb8; replace hb8 := Gr.out hb8
      clear g0 g1 g2 g3 g4 g5 g6
      go_wp2_with fail
      go_ret
      exact ⟨rfl, HB.out.trans (hb8.mono HB.out.size)⟩
theorem decG_any (a1 : Int) (h : n * 8 ≤ 140737488355328 → RI w A n c act) (h' : n' * 8 ≤ 140737488355328 → RI w A' n' c' l) :
    Calls Try.prog 8 #[.agg #[.slice A n c, .slice A' n' c', .int .i64 y], .int .i64 a1] w fun e w' => e = .returned (.bool true) ∧ Below w.heap.size w w' := by
  cases hf : fewB n n'
  · exact decG_few A n c A' n' c' y w a1 hf
  · have hle : n ≤ 60 ∧ n' ≤ 60 := by simpa [fewB] using hf
    have h1 := h (by omega)
    have h2 := h' (by omega)
    cases hk : checkB act l y
    · exact decG_bad A n c act A' n' c' l y w a1 hf h1 h2 hk
    · cases hv : knownB act.length a1
      · exact decG_unk A n c act A' n' c' l y w a1 hf h1 h2 ((valid_iff _ _ _).1 hk) hv
      · have hv2 := knownB_iff.1 hv
        obtain ⟨v, rfl⟩ := Int.eq_ofNat_of_zero_le (show 0 ≤ a1 by omega)
        exact decG_ok A n c act A' n' c' l y w v hf h1 h2 ((valid_iff _ _ _).1 hk) ⟨by omega, by omega⟩
end

end Go.Proofs.Ythfadkilffmmlaa
