/-
  The walk of chalklinelaw21.HeapPushRestores: it returns true. No condition.
-/
import Derived.Test.YthfadkilffmmlaaPush0
import Derived.Test.YthfadkilffmmlaaR1
namespace Go.Proofs.Ythfadkilffmmlaa
open Go.RowKit
set_option linter.unusedVariables false
set_option linter.unusedSimpArgs false

theorem own_drewN {w : World} {base : Nat} {e : TypeId} {size : Nat} {v : Value} {n : Nat} {xs : List Value} (h : w.ownsRow base e size v n xs) (q : Nat) : (w.drewN q).ownsRow base e size v n xs := h

/-- what an append beside a new one-cell block leaves of the rest -/
theorem grown_below {w w1 : World} {o : Obj} {row : Option Nat} (hg : (w.alloc o).grownBy w1 row) : w.grownBy w1 row :=
  ⟨hg.os, hg.tape, hg.output, Nat.le_trans (by simp) hg.size, fun k hk hne => (hg.block k (by simp; omega) hne).trans (Below.heap_alloc _ _ _ hk)⟩

theorem Box.grown {w w' : World} {b : Nat} {v0 v1 v2 : Value} {row : Option Nat} (h : Box w b v0 v1 v2) (hg : w.grownBy w' row) (hne : row ≠ some b) : Box w' b v0 v1 v2 := (hg.block b (lt_of_block h) (fun e => hne e.symm)).trans h
theorem Box.f {w : World} {b : Nat} {v0 v1 v2 : Value} (h : Box w b v0 v1 v2) (i : Nat) : w.frozen? ⟨b, i, none⟩ = false := by unfold Box at h; simp [World.frozen?, h]

section
variable (A : Option Addr) (n c : Nat) (act : List Int) (A' : Option Addr) (n' c' : Nat) (l : List Int) (y : Int) (w : World)

set_option maxRecDepth 100000 in
set_option maxHeartbeats 2000000 in
theorem pushR_few (a1 : Int) (tn : Bool) (hf : fewB n n' = false) :
    Calls Try.prog 6 #[.agg #[.slice A n c, .slice A' n' c', .int .i64 y], .int .i64 a1, .bool tn] w fun e w' => e = .returned (.bool true) ∧ Below w.heap.size w w' := by
  have HF := Lib.hid hf
  clear hf
  go_enter Try.func6, Try.ntmps6
  go_wp2_with fail
  refine (live_any _).mono ?_
  rintro e w1 ⟨rfl, hb⟩
  have BH := Lib.hid ((Box.new w (.slice A n c) (.slice A' n' c') (.int .i64 y)).below hb)
  have HB := Lib.hid ((stepA w _).trans (hb.mono (by simp)))
  have q0 := BH.out.c0; have q1 := BH.out.c1; have q2 := BH.out.c2
  clear hb
  go_wp2_with fail
  refine (few_any _ _ _ _ _ _ _ _).mono ?_
  rintro e w2 ⟨rfl, hb⟩
  rw [HF.out]
  clear q0 q1 q2
  go_wp2_with fail
  go_ret
  exact ⟨rfl, HB.out.trans (hb.mono HB.out.size)⟩

set_option maxRecDepth 100000 in
set_option maxHeartbeats 2000000 in
theorem pushR_bad (a1 : Int) (tn : Bool) (hf : fewB n n' = true) (h : RI w A n c act) (h' : RI w A' n' c' l) (hk : checkB act l y = false) :
    Calls Try.prog 6 #[.agg #[.slice A n c, .slice A' n' c', .int .i64 y], .int .i64 a1, .bool tn] w fun e w' => e = .returned (.bool true) ∧ Below w.heap.size w w' := by
  have HF := Lib.hid hf
  have HK := Lib.hid hk
  have H := Lib.hid h
  have H' := Lib.hid h'
  clear hf hk h h'
  go_enter Try.func6, Try.ntmps6
  go_wp2_with fail
  refine (live_any _).mono ?_
  rintro e w1 ⟨rfl, hb⟩
  have BH := Lib.hid ((Box.new w (.slice A n c) (.slice A' n' c') (.int .i64 y)).below hb)
  have HB := Lib.hid ((stepA w _).trans (hb.mono (by simp)))
  have q0 := BH.out.c0; have q1 := BH.out.c1; have q2 := BH.out.c2
  clear hb
  go_wp2_with fail
  refine (few_any _ _ _ _ _ _ _ _).mono ?_
  rintro e w2 ⟨rfl, hb⟩
  rw [HF.out]
  replace BH := Lib.hid (BH.out.below hb)
  replace HB := Lib.hid (HB.out.trans (hb.mono HB.out.size))
  clear q0 q1 q2 hb
  have q0 := BH.out.c0; have q1 := BH.out.c1; have q2 := BH.out.c2
  go_wp2_with fail
  refine (heapCheck_any A n c act A' n' c' l y _ (H.out.below HB.out) (H'.out.below HB.out)).mono ?_
  rintro e w3 ⟨rfl, hb⟩
  rw [HK.out, show errB false = 1 from rfl]
  clear q0 q1 q2
  go_wp2_with fail
  go_ret
  exact ⟨rfl, HB.out.trans (hb.mono HB.out.size)⟩

set_option maxRecDepth 100000 in
set_option maxHeartbeats 8000000 in
theorem pushR_ok (a1 : Int) (tn : Bool) (hf : fewB n n' = true) (h : RI w A n c act) (h' : RI w A' n' c' l) (hk : Valid act l y) :
    Calls Try.prog 6 #[.agg #[.slice A n c, .slice A' n' c', .int .i64 y], .int .i64 a1, .bool tn] w fun e w' => e = .returned (.bool true) ∧ Below w.heap.size w w' := by
  obtain ⟨i0, hi, hz0, hz1, hz2⟩ := info_parts infoInt
  have hl60 : l.length ≤ 60 := by have : n ≤ 60 ∧ n' ≤ 60 := by simpa [fewB] using hf
                                  have := h'.len; omega
  obtain ⟨r, hr1, hr2⟩ := mask a1
  obtain ⟨m, hm⟩ : ∃ m : Nat, (r : Int) % ((l.length : Int) + 1) = (m : Int) := ⟨((r : Int) % ((l.length : Int) + 1)).toNat, (Int.toNat_of_nonneg (Int.emod_nonneg _ (by omega))).symm⟩
  have hml : m ≤ l.length := by have := Int.emod_lt_of_pos (r : Int) (show (0 : Int) < (l.length : Int) + 1 by omega); omega
  have hn := h.small
  have hn' := h'.small
  obtain rfl : act.length = n := h.len
  obtain rfl : l.length = n' := h'.len
  have HF := Lib.hid hf
  have HV := Lib.hid hk
  have H := Lib.hid h
  have H' := Lib.hid h'
  clear hf hk h h'
  go_enter Try.func6, Try.ntmps6
  go_wp2_with fail
  refine (live_any _).mono ?_
  rintro e w1 ⟨rfl, hb⟩
  have BH := Lib.hid ((Box.new w (.slice A act.length c) (.slice A' l.length c') (.int .i64 y)).below hb)
  have HB := Lib.hid ((stepA w _).trans (hb.mono (by simp)))
  have q0 := BH.out.c0; have q1 := BH.out.c1; have q2 := BH.out.c2
  clear hb
  go_wp2_with fail
  refine (few_any _ _ _ _ _ _ _ _).mono ?_
  rintro e w2 ⟨rfl, hb⟩
  rw [HF.out]
  replace BH := Lib.hid (BH.out.below hb)
  replace HB := Lib.hid (HB.out.trans (hb.mono HB.out.size))
  clear q0 q1 q2 hb
  have q0 := BH.out.c0; have q1 := BH.out.c1; have q2 := BH.out.c2
  go_wp2_with fail
  refine (heapCheck_any A _ c act A' _ c' l y _ (H.out.below HB.out) (H'.out.below HB.out)).mono ?_
  rintro e w3 ⟨rfl, hb⟩
  rw [(valid_iff _ _ _).2 HV.out, show errB true = 0 from rfl]
  replace BH := Lib.hid (BH.out.below hb)
  replace HB := Lib.hid (HB.out.trans (hb.mono HB.out.size))
  clear q0 q1 q2 hb
  have q0 := BH.out.c0; have q1 := BH.out.c1; have q2 := BH.out.c2
  go_wp2_with fail
  have hHX : w.heap.size < w3.heap.size := lt_of_block BH.out
  clear q0 q1 q2
  rw [hm]
  clear hm hr2
  go_loopw [9, 10] (fun s9 s10 wr => ∃ (k : Nat) (O : Option Addr) (co : Nat) (E : Option Addr) (d : Nat) (E' : Option Addr) (d' : Nat), k ≤ m ∧ s10 = .int .i64 k ∧ s9 = .slice O k co ∧
      wr.ownsRow (w3.heap.size + 1) 3 1 (.slice O k co) k ((l.take k).map (Value.int .i64)) ∧
      Box wr w3.heap.size (.slice E act.length d) (.slice E' (l.length - k) d') (.int .i64 y) ∧ RI wr E act.length d act ∧ RI wr E' (l.length - k) d' (l.drop k) ∧
      Box wr w.heap.size (.slice A act.length c) (.slice A' l.length c') (.int .i64 y) ∧ Below w.heap.size w wr) (fun _ i _ => m - (intOf i).toNat)
  case atStart =>
    exact ⟨0, none, 0, A, c, A', c', Nat.zero_le _, rfl, rfl, World.ownsRow_nil _ _ _ _, Box.new w3 _ _ _, (H.out.below HB.out).alloc _, (H'.out.below HB.out).alloc _, BH.out.below (stepA _ _), belowA HB.out _⟩
  case round =>
    obtain ⟨k, O, co, E, d, E', d', hk, rfl, rfl, hO, bX, rE, rE', bH, hbr⟩ := hrel
    have BX := Lib.hid bX
    have RE := Lib.hid rE
    have RE' := Lib.hid rE'
    have BH2 := Lib.hid bH
    have HB2 := Lib.hid hbr
    have HO := Lib.hid hO
    clear bX rE rE' bH hbr hO
    have p0 := BX.out.c0; have p1 := BX.out.c1; have p2 := BX.out.c2
    by_cases hlt : k < m
    · have hVk := HV.out.drop k
      have hdl : 0 < (l.drop k).length := by simp; omega
      go_wp2_with fail
      refine (pop_fr E act.length d act E' (l.length - k) d' (l.drop k) y _ RE.out RE'.out ((valid_iff _ _ _).2 hVk) hdl).mono ?_
      rintro e w4 ⟨F, f, F', f', rfl, rF, rF', hb4, fr1, fr2⟩
      have e1 : (l.drop k).length - 1 = l.length - (k + 1) := by simp; omega
      have e2 : (l.drop k).tail = l.drop (k + 1) := by simp
      have e3 : elt (l.drop k) 0 = elt l k := by rw [elt_drop, Nat.add_zero]
      rw [e1, e2] at rF'
      rw [e1, e3]
      have hwr3 : w3.heap.size < wr.heap.size := lt_of_block BX.out
      have HFX : Hid ((∀ b off, F = some ⟨b, off, none⟩ → wr.heap.size ≤ b) ∧ (∀ b off, F' = some ⟨b, off, none⟩ → wr.heap.size ≤ b)) := ⟨fr1, fr2⟩
      have RF := Lib.hid rF
      have RF' := Lib.hid rF'
      have HOLT := Lib.hid (fun g hg => (own_lt HO.out (g := g) hg).2)
      replace BX := Lib.hid (BX.out.below hb4)
      replace BH2 := Lib.hid (BH2.out.below hb4)
      replace HB2 := Lib.hid (HB2.out.trans (hb4.mono HB2.out.size))
      replace HO := Lib.hid (own_below HO.out hb4)
      have hsz4 := hb4.size
      clear e1 e2 e3 rF rF' p0 p1 p2 hb4 hVk hdl fr1 fr2
      -- the world with y's box
      obtain ⟨W, hW⟩ : ∃ W, w4.alloc (.cells #[.slice F act.length f, .slice F' (l.length - (k + 1)) f', .int .i64 y] 24) = W := ⟨_, rfl⟩
      have sA := stepA w4 (.cells #[.slice F act.length f, .slice F' (l.length - (k + 1)) f', .int .i64 y] 24)
      have bY := Box.new w4 (.slice F act.length f) (.slice F' (l.length - (k + 1)) f') (.int .i64 y)
      have hWs : W.heap.size = w4.heap.size + 1 := by rw [← hW]; simp
      rw [hW] at sA bY
      have BY := Lib.hid bY
      replace BX := Lib.hid (BX.out.below sA)
      replace BH2 := Lib.hid (BH2.out.below sA)
      replace HB2 := Lib.hid (HB2.out.trans (sA.mono HB2.out.size))
      replace RF := Lib.hid (RF.out.below sA)
      replace RF' := Lib.hid (RF'.out.below sA)
      replace HO := Lib.hid (own_below HO.out sA)
      clear sA bY
      have hXY : w3.heap.size ≠ w4.heap.size := by omega
      have hXH : w3.heap.size ≠ w.heap.size := by omega
      have hown := HO.out
      have hWs2 : w3.heap.size + 1 ≤ W.heap.size := by omega
      have HWS := Lib.hid hWs
      clear hWs
      go_wp2_with (at_builtin; refine wpList_append_own_at _ rfl _ _ 22 rfl (w3.heap.size + 1) 3 i0 (.int .i64 0) 1 8 Try.underlying22 hi hz0 hz1 hz2 rfl (by decide) _ _ _ rfl (hown.alloc _) ⟨W.heap.size, 0, none⟩ 1 1 [.int .i64 (elt l k)] rfl rfl (cell_one_new _ _ _) (by simp [Value.oneCell']) (by unfold maxLen; omega) (by omega) (by simp; omega) ?_; intro v' w5 hown' hgrow hnil hloc; obtain ⟨g', cap', rfl⟩ := own_succ hown'; have hrw : ∀ g, (Value.slice O k co).ownBlock = some g → w3.heap.size + 1 ≤ g := (fun g hg => (own_lt hown hg).1); have SG := Lib.hid (grown_below hgrow); have BY5 := Lib.hid (BY.out.grown SG.out (fun e => by have := HOLT.out _ e; omega)); have BX5 := Lib.hid (BX.out.grown SG.out (fun e => by have := hrw _ e; omega)); have y0 := BY5.out.c0; have y1 := BY5.out.c1; have y2 := BY5.out.c2; have x0 := BX5.out.c0; have x1 := BX5.out.c1; have x2 := BX5.out.c2; have g0 := BX5.out.f 0; have g1 := BX5.out.f 1; have g2 := BX5.out.f 2; clear hown)
      have hO5 := SG.out
      have hne : ∀ b, wr.heap.size ≤ b → (Value.slice O k co).ownBlock ≠ some b := fun b hb e => by have := HOLT.out _ e; omega
      go_roundw
      case rel =>
        refine ⟨k + 1, some ⟨g', 0, none⟩, cap', F, f, F', f', by omega, by go_num, rfl, ?_, set012 BX5.out, ?_, ?_, ?_, ?_⟩
        · rw [take_snoc l k (by omega), List.map_append]
          exact ownsRow_setCell_below (ownsRow_setCell_below (ownsRow_setCell_below hown' (by simp) _) (by simp) _) (by simp) _
        · exact (RF.out.below' hO5 (fun b off e => hne b (HFX.out.1 b off e))).keep3 (fun b off e => by have := HFX.out.1 b off e; omega)
        · exact (RF'.out.below' hO5 (fun b off e => hne b (HFX.out.2 b off e))).keep3 (fun b off e => by have := HFX.out.2 b off e; omega)
        · exact (Below.heap_setCell _ _ _ _ (by simpa using hXH.symm)).trans ((Below.heap_setCell _ _ _ _ (by simpa using hXH.symm)).trans ((Below.heap_setCell _ _ _ _ (by simpa using hXH.symm)).trans (BH2.out.grown hO5 (fun e => by have := hrw _ e; omega))))
        · have hb5 := HB2.out.grown hO5 HB2.out.size (fun g hg => by have := hrw g hg; omega)
          exact ((hb5.setCell (by simp; omega) _).setCell (by simp; omega) _).setCell (by simp; omega) _
      case measure => simp [intOf]; omega
    · have hkm : k = m := by omega
      subst hkm
      have RO := Lib.hid (RI.of_own (zs := l.take k) HO.out (by omega))
      have HOX := Lib.hid (fun b off (e : O = some ⟨b, off, none⟩) => (own_lt HO.out (g := b) (by rw [e]; rfl)).1)
      have hX1 := lt_of_block BX.out
      clear p0 p1 p2
      go_wp2_with fail
      go_loopw [14, 15] (fun s14 _ wq => ∃ (i : Nat) (M : List Int) (F : Option Addr) (f : Nat) (F' : Option Addr) (f' : Nat), i ≤ k ∧ s14 = .int .i64 i ∧ Valid act M y ∧ M.Perm (l.drop k ++ pushed l k tn i) ∧
          Box wq w3.heap.size (.slice F act.length f) (.slice F' M.length f') (.int .i64 y) ∧ RI wq F act.length f act ∧ RI wq F' M.length f' M ∧ RI wq O k co (l.take k) ∧
          Box wq w.heap.size (.slice A act.length c) (.slice A' l.length c') (.int .i64 y) ∧ Below w.heap.size w wq) (fun i _ _ => k - (intOf i).toNat)
      case atStart =>
        have e1 : (l.drop k).length = l.length - k := by simp
        exact ⟨0, l.drop k, E, d, E', d', Nat.zero_le _, rfl, HV.out.drop k, by simp [pushed], by rw [e1]; exact BX.out, RE.out, by rw [e1]; exact RE'.out, RO.out, BH2.out, HB2.out⟩
      case round =>
        obtain ⟨i, M, F, f, F', f', hik, rfl, hVM, hPM, bX, rF, rF', rO, bH, hbq⟩ := hrel
        have BXq := Lib.hid bX
        have RF := Lib.hid rF
        have RF' := Lib.hid rF'
        have ROq := Lib.hid rO
        have BHq := Lib.hid bH
        have HBq := Lib.hid hbq
        have HVM := Lib.hid hVM
        have HPM := Lib.hid hPM
        clear bX rF rF' rO bH hbq hVM hPM
        have p0 := BXq.out.c0; have p1 := BXq.out.c1; have p2 := BXq.out.c2
        by_cases hlt2 : i < k
        · obtain ⟨ob, ooff, rfl, hob, hoc⟩ := ROq.out.cells (by omega)
          have hai : at_ k tn i < k := by unfold at_; split <;> omega
          have hoe : ∀ j, j < k → elt (l.take k) j = elt l j := fun j hj => by simp [elt, List.getD_eq_getElem?_getD, hj]
          have hkn := HV.out.known (at_ k tn i) (by omega)
          have hnm := not_yet HV.out hml hlt2 HPM.out
          have hlM := perm_len HPM.out
          have HLM := Lib.hid (show M.length ≤ 1000000 by omega)
          have HKN := Lib.hid hkn
          have HNM := Lib.hid hnm
          have hci := hoc i hlt2
          rw [hoe i hlt2] at hci
          clear hlM hkn hnm
          have hik3 : (i : Int) < k := by omega
          cases tn
          · have ea : at_ k false i = i := rfl
            rw [ea] at HKN HNM hai
            clear hoc hoe ea
            go_wp2_with fail
            refine (push_fr F act.length f act F' M.length f' M y _ (elt l i) RF.out RF'.out HVM.out HKN.out HNM.out HLM.out).mono ?_
            rintro e w7 ⟨j, hj, hlo, hhi, G, g, G', g', rfl, rG, rG', hb7, fr1, fr2⟩
            have HVN := Lib.hid (HVM.out.ins hj hlo hhi HKN.out HNM.out)
            have HPN := Lib.hid (push_perm (i := j) (v := elt l i) HPM.out)
            generalize insAt M j (elt l i) = M2 at HVN HPN rG' ⊢
            have hXq : w3.heap.size < wr.heap.size := lt_of_block BXq.out
            have HFG : Hid ((∀ b off, G = some ⟨b, off, none⟩ → wr.heap.size ≤ b) ∧ (∀ b off, G' = some ⟨b, off, none⟩ → wr.heap.size ≤ b)) := ⟨fr1, fr2⟩
            have RG := Lib.hid rG
            have RG' := Lib.hid rG'
            have BX7 := Lib.hid (BXq.out.below hb7)
            have BH7 := Lib.hid (BHq.out.below hb7)
            have HB7 := Lib.hid (HBq.out.trans (hb7.mono HBq.out.size))
            have RO7 := Lib.hid (ROq.out.below hb7)
            have hX7 : w3.heap.size < w7.heap.size := lt_of_block BX7.out
            clear rG rG' fr1 fr2 p0 p1 p2 hlo hhi hb7 hci
            have p0 := BX7.out.c0; have p1 := BX7.out.c1; have p2 := BX7.out.c2
            have g0 := BX7.out.f 0; have g1 := BX7.out.f 1; have g2 := BX7.out.f 2
            have hXH : w3.heap.size ≠ w.heap.size := by omega
            go_wp2_with fail
            go_roundw
            case rel =>
              refine ⟨i + 1, M2, G, g, G', g', by omega, by go_num, HVN.out, by rw [pushed_succ, ← List.append_assoc]; exact HPN.out, ?_, ?_, ?_, ?_, ?_, ?_⟩
              · exact (set012 BX7.out).below (stepA _ _)
              · exact (RG.out.keep3 (fun b off e => by have := HFG.out.1 b off e; omega)).alloc _
              · exact (RG'.out.keep3 (fun b off e => by have := HFG.out.2 b off e; omega)).alloc _
              · exact (RO7.out.keep3 (fun b off e => by have := HOX.out b off e; omega)).alloc _
              · exact Box.below ((Below.heap_setCell _ _ _ _ (by simpa using hXH.symm)).trans ((Below.heap_setCell _ _ _ _ (by simpa using hXH.symm)).trans ((Below.heap_setCell _ _ _ _ (by simpa using hXH.symm)).trans BH7.out))) (stepA _ _)
              · exact belowA (((HB7.out.setCell (by simp; omega) _).setCell (by simp; omega) _).setCell (by simp; omega) _) _
            case measure => simp [intOf]; omega
          · have ea : at_ k true i = k - 1 - i := rfl
            rw [ea] at HKN HNM hai
            have hcr := hoc (k - 1 - i) (by omega)
            rw [hoe _ (by omega)] at hcr
            have hkr : (k : Int) - 1 - i < k := by omega
            have hkr0 : (0 : Int) ≤ (k : Int) - 1 - i := by omega
            have hct : ((k : Int) - 1 - (i : Int)).toNat = k - 1 - i := by omega
            clear hoc hoe ea
            go_wp2_with fail
            refine (push_fr F act.length f act F' M.length f' M y _ (elt l (k - 1 - i)) RF.out RF'.out HVM.out HKN.out HNM.out HLM.out).mono ?_
            rintro e w7 ⟨j, hj, hlo, hhi, G, g, G', g', rfl, rG, rG', hb7, fr1, fr2⟩
            have HVN := Lib.hid (HVM.out.ins hj hlo hhi HKN.out HNM.out)
            have HPN := Lib.hid (push_perm (i := j) (v := elt l (k - 1 - i)) HPM.out)
            generalize insAt M j (elt l (k - 1 - i)) = M2 at HVN HPN rG' ⊢
            have hXq : w3.heap.size < wr.heap.size := lt_of_block BXq.out
            have HFG : Hid ((∀ b off, G = some ⟨b, off, none⟩ → wr.heap.size ≤ b) ∧ (∀ b off, G' = some ⟨b, off, none⟩ → wr.heap.size ≤ b)) := ⟨fr1, fr2⟩
            have RG := Lib.hid rG
            have RG' := Lib.hid rG'
            have BX7 := Lib.hid (BXq.out.below hb7)
            have BH7 := Lib.hid (BHq.out.below hb7)
            have HB7 := Lib.hid (HBq.out.trans (hb7.mono HBq.out.size))
            have RO7 := Lib.hid (ROq.out.below hb7)
            have hX7 : w3.heap.size < w7.heap.size := lt_of_block BX7.out
            clear rG rG' fr1 fr2 p0 p1 p2 hlo hhi hb7 hci
            have p0 := BX7.out.c0; have p1 := BX7.out.c1; have p2 := BX7.out.c2
            have g0 := BX7.out.f 0; have g1 := BX7.out.f 1; have g2 := BX7.out.f 2
            have hXH : w3.heap.size ≠ w.heap.size := by omega
            go_wp2_with fail
            go_roundw
            case rel =>
              refine ⟨i + 1, M2, G, g, G', g', by omega, by go_num, HVN.out, by rw [pushed_succ, ← List.append_assoc]; exact HPN.out, ?_, ?_, ?_, ?_, ?_, ?_⟩
              · exact (set012 BX7.out).below (stepA _ _)
              · exact (RG.out.keep3 (fun b off e => by have := HFG.out.1 b off e; omega)).alloc _
              · exact (RG'.out.keep3 (fun b off e => by have := HFG.out.2 b off e; omega)).alloc _
              · exact (RO7.out.keep3 (fun b off e => by have := HOX.out b off e; omega)).alloc _
              · exact Box.below ((Below.heap_setCell _ _ _ _ (by simpa using hXH.symm)).trans ((Below.heap_setCell _ _ _ _ (by simpa using hXH.symm)).trans ((Below.heap_setCell _ _ _ _ (by simpa using hXH.symm)).trans BH7.out))) (stepA _ _)
              · exact belowA (((HB7.out.setCell (by simp; omega) _).setCell (by simp; omega) _).setCell (by simp; omega) _) _
            case measure => simp [intOf]; omega
        · have hik2 : i = k := by omega
          subst hik2
          have hMl := restored HV.out HVM.out hml HPM.out
          subst hMl
          have q0 := BHq.out.c0; have q1 := BHq.out.c1; have q2 := BHq.out.c2
          go_wp2_with fail
          refine (same_any F _ f act F' _ f' M y A _ c act A' _ c' M y _ RF.out RF'.out (H.out.below HBq.out) (H'.out.below HBq.out)).mono ?_
          rintro e w7 ⟨rfl, hb7⟩
          go_wp2_with fail
          go_ret
          exact ⟨ret_bool (by simp [sameH, sameB]), HBq.out.trans (hb7.mono HBq.out.size)⟩
theorem pushR_any (a1 : Int) (tn : Bool) (h : n * 8 ≤ 140737488355328 → RI w A n c act) (h' : n' * 8 ≤ 140737488355328 → RI w A' n' c' l) :
    Calls Try.prog 6 #[.agg #[.slice A n c, .slice A' n' c', .int .i64 y], .int .i64 a1, .bool tn] w fun e w' => e = .returned (.bool true) ∧ Below w.heap.size w w' := by
  cases hf : fewB n n'
  · exact pushR_few A n c A' n' c' y w a1 tn hf
  · have hle : n ≤ 60 ∧ n' ≤ 60 := by simpa [fewB] using hf
    have h1 := h (by omega)
    have h2 := h' (by omega)
    cases hk : checkB act l y
    · exact pushR_bad A n c act A' n' c' l y w a1 tn hf h1 h2 hk
    · exact pushR_ok A n c act A' n' c' l y w a1 tn hf h1 h2 ((valid_iff _ _ _).1 hk)
end

end Go.Proofs.Ythfadkilffmmlaa
