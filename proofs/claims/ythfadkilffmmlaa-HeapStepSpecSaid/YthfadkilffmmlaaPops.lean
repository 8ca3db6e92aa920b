/-
  The walk of chalklinelaw21.HeapPopSorted: it returns true. No condition.
-/
import Derived.Test.YthfadkilffmmlaaW20
import Derived.Deep.QuietTactic
import Derived.BigQuiet
namespace Go.Proofs.Ythfadkilffmmlaa
open Go.RowKit
set_option linter.unusedVariables false
set_option linter.unusedSimpArgs false

theorem elt_drop (l : List Int) (k i : Nat) : elt (l.drop k) i = elt l (k + i) := by simp [elt, List.getD_eq_getElem?_getD]
theorem Valid.drop {act l : List Int} {y : Int} (h : Valid act l y) (k : Nat) : Valid act (l.drop k) y :=
  ⟨h.pos, h.few, h.zero, h.rng, h.by1, h.by2, fun i hi => by rw [elt_drop]; exact h.known _ (by simp at hi; omega), fun i h0 hi => by
    rw [elt_drop, elt_drop, show k + (i - 1) = k + i - 1 by omega]; exact h.link _ (by omega) (by simp at hi; omega)⟩
def lastI (l : List Int) (k : Nat) : Int := if k = 0 then 0 else elt l (k - 1)
theorem Valid.not_again {act l : List Int} {y : Int} (h : Valid act l y) {k : Nat} (hk : k < l.length) : hasB (l.drop (k + 1)) (elt l k) = false := by
  cases hh : hasB (l.drop (k + 1)) (elt l k)
  · rfl
  · rw [hasB_iff] at hh
    obtain ⟨j, hj, e⟩ := List.getElem_of_mem hh
    rw [← elt_lt hj, elt_drop] at e
    have := h.sorted k (k + 1 + j) (by omega) (by simp at hj; omega)
    rw [e] at this
    exact absurd this (ltO_irrefl _ _)

theorem belowDN {w w' : World} (h : Below w.heap.size w w') (q : Nat) : Below w.heap.size w (w'.drewN q) := ⟨h.os, h.tape, h.output, h.size, h.block⟩
theorem set012 {w : World} {B : Nat} {x0 x1 x2 v0 v1 v2 : Value} (h : Box w B x0 x1 x2) : Box (((w.setCell ⟨B, 0, none⟩ v0).setCell ⟨B, 1, none⟩ v1).setCell ⟨B, 2, none⟩ v2) B v0 v1 v2 := by
  unfold Box at *
  simp [World.setCell, Array.getElem?_modify, h]

section
variable (A : Option Addr) (n c : Nat) (act : List Int) (A' : Option Addr) (n' c' : Nat) (l : List Int) (y : Int) (w : World)

set_option maxRecDepth 100000 in
set_option maxHeartbeats 2000000 in
theorem pops_few (hf : fewB n n' = false) :
    Calls Try.prog 5 #[.agg #[.slice A n c, .slice A' n' c', .int .i64 y]] w fun e w' => e = .returned (.bool true) ∧ Below w.heap.size w w' := by
  have HF := Lib.hid hf
  clear hf
  go_enter Try.func5, Try.ntmps5
  go_wp2_with fail
  refine (live_any _).mono ?_
  rintro e w1 ⟨rfl, hb⟩
  have BH := Lib.hid ((Box.new w (.slice A n c) (.slice A' n' c') (.int .i64 y)).below hb)
  have HB := Lib.hid ((stepA w _).trans (hb.mono (by simp)))
  have q0 := BH.out.c0; have q1 := BH.out.c1; have q2 := BH.out.c2
  clear hb
  go_wp2_with fail
  refine (few_any _ _ _ _ _ _ _ _).mono ?_
  rintro e w2 ⟨rfl, hb⟩
  rw [HF.out]
  clear q0 q1 q2
  go_wp2_with fail
  go_ret
  exact ⟨rfl, HB.out.trans (hb.mono HB.out.size)⟩

set_option maxRecDepth 100000 in
set_option maxHeartbeats 2000000 in
theorem pops_bad (hf : fewB n n' = true) (h : RI w A n c act) (h' : RI w A' n' c' l) (hk : checkB act l y = false) :
    Calls Try.prog 5 #[.agg #[.slice A n c, .slice A' n' c', .int .i64 y]] w fun e w' => e = .returned (.bool true) ∧ Below w.heap.size w w' := by
  have HF := Lib.hid hf
  have HK := Lib.hid hk
  have H := Lib.hid h
  have H' := Lib.hid h'
  clear hf hk h h'
  go_enter Try.func5, Try.ntmps5
  go_wp2_with fail
  refine (live_any _).mono ?_
  rintro e w1 ⟨rfl, hb⟩
  have BH := Lib.hid ((Box.new w (.slice A n c) (.slice A' n' c') (.int .i64 y)).below hb)
  have HB := Lib.hid ((stepA w _).trans (hb.mono (by simp)))
  have q0 := BH.out.c0; have q1 := BH.out.c1; have q2 := BH.out.c2
  clear hb
  go_wp2_with fail
  refine (few_any _ _ _ _ _ _ _ _).mono ?_
  rintro e w2 ⟨rfl, hb⟩
  rw [HF.out]
  replace BH := Lib.hid (BH.out.below hb)
  replace HB := Lib.hid (HB.out.trans (hb.mono HB.out.size))
  clear q0 q1 q2 hb
  have q0 := BH.out.c0; have q1 := BH.out.c1; have q2 := BH.out.c2
  go_wp2_with fail
  refine (heapCheck_any A n c act A' n' c' l y _ (H.out.below HB.out) (H'.out.below HB.out)).mono ?_
  rintro e w3 ⟨rfl, hb⟩
  rw [HK.out, show errB false = 1 from rfl]
  clear q0 q1 q2
  go_wp2_with fail
  go_ret
  exact ⟨rfl, HB.out.trans (hb.mono HB.out.size)⟩

set_option maxRecDepth 100000 in
set_option maxHeartbeats 8000000 in
theorem pops_ok (hf : fewB n n' = true) (h : RI w A n c act) (h' : RI w A' n' c' l) (hk : Valid act l y) :
    Calls Try.prog 5 #[.agg #[.slice A n c, .slice A' n' c', .int .i64 y]] w fun e w' => e = .returned (.bool true) ∧ Below w.heap.size w w' := by
  have hn := h.small
  have hn' := h'.small
  obtain rfl : act.length = n := h.len
  obtain rfl : l.length = n' := h'.len
  have HF := Lib.hid hf
  have HV := Lib.hid hk
  have H := Lib.hid h
  have H' := Lib.hid h'
  clear hf hk h h'
  go_enter Try.func5, Try.ntmps5
  go_wp2_with fail
  refine (live_any _).mono ?_
  rintro e w1 ⟨rfl, hb⟩
  have BH := Lib.hid ((Box.new w (.slice A act.length c) (.slice A' l.length c') (.int .i64 y)).below hb)
  have HB := Lib.hid ((stepA w _).trans (hb.mono (by simp)))
  have q0 := BH.out.c0; have q1 := BH.out.c1; have q2 := BH.out.c2
  clear hb
  go_wp2_with fail
  refine (few_any _ _ _ _ _ _ _ _).mono ?_
  rintro e w2 ⟨rfl, hb⟩
  rw [HF.out]
  replace BH := Lib.hid (BH.out.below hb)
  replace HB := Lib.hid (HB.out.trans (hb.mono HB.out.size))
  clear q0 q1 q2 hb
  have q0 := BH.out.c0; have q1 := BH.out.c1; have q2 := BH.out.c2
  go_wp2_with fail
  refine (heapCheck_any A _ c act A' _ c' l y _ (H.out.below HB.out) (H'.out.below HB.out)).mono ?_
  rintro e w3 ⟨rfl, hb⟩
  rw [(valid_iff _ _ _).2 HV.out, show errB true = 0 from rfl]
  replace BH := Lib.hid (BH.out.below hb)
  replace HB := Lib.hid (HB.out.trans (hb.mono HB.out.size))
  clear q0 q1 q2 hb
  have q0 := BH.out.c0; have q1 := BH.out.c1; have q2 := BH.out.c2
  go_wp2_with fail
  have hHX : w.heap.size < w3.heap.size := lt_of_block BH.out
  clear q0 q1 q2
  go_loopw [4, 5] (fun s4 s5 wr => ∃ (k : Nat) (E : Option Addr) (d : Nat) (E' : Option Addr) (d' : Nat), k ≤ l.length ∧ s5 = .int .i64 k ∧ s4 = .int .i64 (lastI l k) ∧
      Box wr w3.heap.size (.slice E act.length d) (.slice E' (l.length - k) d') (.int .i64 y) ∧ RI wr E act.length d act ∧ RI wr E' (l.length - k) d' (l.drop k) ∧
      Box wr w.heap.size (.slice A act.length c) (.slice A' l.length c') (.int .i64 y) ∧ Below w.heap.size w wr) (fun _ i _ => l.length - (intOf i).toNat)
  case atStart =>
    refine ⟨0, A, c, A', c', Nat.zero_le _, rfl, rfl, Box.new w3 _ _ _, (H.out.below HB.out).alloc _, (H'.out.below HB.out).alloc _, BH.out.below (stepA _ _), belowA HB.out _⟩
  case round =>
    obtain ⟨k, E, d, E', d', hk, rfl, rfl, bX, rE, rE', bH, hbr⟩ := hrel
    have BX := Lib.hid bX
    have RE := Lib.hid rE
    have RE' := Lib.hid rE'
    have BH2 := Lib.hid bH
    have HB2 := Lib.hid hbr
    clear bX rE rE' bH hbr
    have p0 := BX.out.c0; have p1 := BX.out.c1; have p2 := BX.out.c2
    have q1 := BH2.out.c1
    by_cases hlt : k < l.length
    · have hVk := HV.out.drop k
      have hdl : 0 < (l.drop k).length := by simp; omega
      have hkn := HV.out.known k hlt
      obtain ⟨hkn1, hkn2⟩ := hkn
      go_wp2_with fail
      refine (pop_fr E act.length d act E' (l.length - k) d' (l.drop k) y _ RE.out RE'.out ((valid_iff _ _ _).2 hVk) hdl).mono ?_
      rintro e w4 ⟨F, f, F', f', rfl, rF, rF', hb4, fr1, fr2⟩
      have hwr3 : w3.heap.size < wr.heap.size := lt_of_block BX.out
      have HFX : Hid ((∀ b off, F = some ⟨b, off, none⟩ → b ≠ w3.heap.size) ∧ (∀ b off, F' = some ⟨b, off, none⟩ → b ≠ w3.heap.size)) := ⟨fun b off e => by have := fr1 b off e; omega, fun b off e => by have := fr2 b off e; omega⟩
      clear fr1 fr2 hwr3
      have e1 : (l.drop k).length - 1 = l.length - (k + 1) := by simp; omega
      have e2 : (l.drop k).tail = l.drop (k + 1) := by simp
      have e3 : elt (l.drop k) 0 = elt l k := by rw [elt_drop, Nat.add_zero]
      rw [e1, e2] at rF'
      rw [e1, e3]
      have RF := Lib.hid rF
      have RF' := Lib.hid rF'
      replace BX := Lib.hid (BX.out.below hb4)
      replace BH2 := Lib.hid (BH2.out.below hb4)
      replace HB2 := Lib.hid (HB2.out.trans (hb4.mono HB2.out.size))
      clear e1 e2 e3 rF rF' p0 p1 p2 q1 hb4 hVk hdl
      have p0 := BX.out.c0; have p1 := BX.out.c1; have p2 := BX.out.c2
      have q0 := BH2.out.c0; have q1 := BH2.out.c1
      have hlX : w3.heap.size < w4.heap.size := lt_of_block BX.out
      have hlH : w.heap.size < w4.heap.size := lt_of_block BH2.out
      have t1 : ¬ elt l k < 1 := by omega
      have t2 : ¬ (act.length : Int) ≤ elt l k := by omega
      have t3 : (((l.length - (k + 1) : Nat) : Int) != ((l.length - k : Nat) : Int) - 1) = false := by rw [bne_eq_false_iff_eq]; omega
      go_wp2_with fail
      refine (has_any A' _ c' l _ _ ((H'.out.below HB2.out).alloc _)).mono ?_
      rintro e w5 ⟨rfl, rfl⟩
      rw [show hasB l (elt l k) = true from hasB_of_at hlt (by simp)]
      go_wp2_with fail
      refine (has_any F' _ f' (l.drop (k + 1)) _ _ (RF'.out.alloc _)).mono ?_
      rintro e w5 ⟨rfl, rfl⟩
      rw [HV.out.not_again hlt]
      obtain ⟨W, hW⟩ : ∃ W, w4.alloc (.cells #[.slice F act.length f, .slice F' (l.length - (k + 1)) f', .int .i64 y] 24) = W := ⟨_, rfl⟩
      have sA := stepA w4 (.cells #[.slice F act.length f, .slice F' (l.length - (k + 1)) f', .int .i64 y] 24)
      have bY := Box.new w4 (.slice F act.length f) (.slice F' (l.length - (k + 1)) f') (.int .i64 y)
      rw [hW] at sA bY ⊢
      have BY := Lib.hid bY
      replace BX := Lib.hid (BX.out.below sA)
      replace BH2 := Lib.hid (BH2.out.below sA)
      replace HB2 := Lib.hid (HB2.out.trans (sA.mono HB2.out.size))
      replace RF := Lib.hid (RF.out.below sA)
      replace RF' := Lib.hid (RF'.out.below sA)
      have hXY : w3.heap.size ≠ w4.heap.size := by omega
      have hXH : w3.heap.size ≠ w.heap.size := by omega
      clear p0 p1 p2 q0 q1 sA bY hW t1 t2 t3
      have q0 := BH2.out.c0
      have a0 := BY.out.c0; have a1 := BY.out.c1; have a2 := BY.out.c2
      have x0 := BX.out.c0; have x1 := BX.out.c1; have x2 := BX.out.c2
      have g0 : W.frozen? ⟨w3.heap.size, 0, none⟩ = false := by have := BX.out; unfold Box at this; simp [World.frozen?, this]
      have g1 : W.frozen? ⟨w3.heap.size, 1, none⟩ = false := by have := BX.out; unfold Box at this; simp [World.frozen?, this]
      have g2 : W.frozen? ⟨w3.heap.size, 2, none⟩ = false := by have := BX.out; unfold Box at this; simp [World.frozen?, this]
      obtain ⟨ga, goff, rfl, hga, hgc⟩ := (H.out.below HB2.out).cells HV.out.pos
      obtain ⟨v, hv⟩ := Int.eq_ofNat_of_zero_le (show 0 ≤ elt l k by omega)
      rw [hv] at hkn2
      have hvlt : v < act.length := by omega
      have hcv := hgc v hvlt
      have HLK := Lib.hid hv
      rw [hv]
      have fin : ∀ q : Nat, (∃ (k_1 : Nat) (E : Option Addr) (d : Nat) (E' : Option Addr) (d' : Nat), k_1 ≤ l.length ∧ Value.int .i64 ((k : Int) + 1) = .int .i64 k_1 ∧ Value.int .i64 (v : Int) = .int .i64 (lastI l k_1) ∧
          Box (((((W.setCell ⟨w3.heap.size, 0, none⟩ (.slice F act.length f)).setCell ⟨w3.heap.size, 1, none⟩ (.slice F' (l.length - (k + 1)) f')).setCell ⟨w3.heap.size, 2, none⟩ (.int .i64 y))).drewN q) w3.heap.size (.slice E act.length d) (.slice E' (l.length - k_1) d') (.int .i64 y) ∧
          RI (((((W.setCell ⟨w3.heap.size, 0, none⟩ (.slice F act.length f)).setCell ⟨w3.heap.size, 1, none⟩ (.slice F' (l.length - (k + 1)) f')).setCell ⟨w3.heap.size, 2, none⟩ (.int .i64 y))).drewN q) E act.length d act ∧
          RI (((((W.setCell ⟨w3.heap.size, 0, none⟩ (.slice F act.length f)).setCell ⟨w3.heap.size, 1, none⟩ (.slice F' (l.length - (k + 1)) f')).setCell ⟨w3.heap.size, 2, none⟩ (.int .i64 y))).drewN q) E' (l.length - k_1) d' (l.drop k_1) ∧
          Box (((((W.setCell ⟨w3.heap.size, 0, none⟩ (.slice F act.length f)).setCell ⟨w3.heap.size, 1, none⟩ (.slice F' (l.length - (k + 1)) f')).setCell ⟨w3.heap.size, 2, none⟩ (.int .i64 y))).drewN q) w.heap.size (.slice (some ⟨ga, goff, none⟩) act.length c) (.slice A' l.length c') (.int .i64 y) ∧
          Below w.heap.size w (((((W.setCell ⟨w3.heap.size, 0, none⟩ (.slice F act.length f)).setCell ⟨w3.heap.size, 1, none⟩ (.slice F' (l.length - (k + 1)) f')).setCell ⟨w3.heap.size, 2, none⟩ (.int .i64 y))).drewN q)) := by
        intro q
        have hdq : ∀ W : World, Below W.heap.size W (W.drewN q) := fun W => ⟨rfl, rfl, rfl, Nat.le_refl _, fun _ _ => rfl⟩
        refine ⟨k + 1, F, f, F', f', by omega, by go_num, by rw [lastI, if_neg (by omega), Nat.add_sub_cancel, HLK.out], ?_, ?_, ?_, ?_, ?_⟩
        · exact Box.below (set012 BX.out) (hdq _)
        · exact (RF.out.keep3 (fun b off e => HFX.out.1 b off e)).below (hdq _)
        · exact (RF'.out.keep3 (fun b off e => HFX.out.2 b off e)).below (hdq _)
        · exact Box.below ((Below.heap_setCell _ _ _ _ (by simpa using hXH.symm)).trans ((Below.heap_setCell _ _ _ _ (by simpa using hXH.symm)).trans ((Below.heap_setCell _ _ _ _ (by simpa using hXH.symm)).trans BH2.out))) (hdq _)
        · exact ((((HB2.out.setCell (by simp; omega) _).setCell (by simp; omega) _).setCell (by simp; omega) _)).trans ((hdq _).mono (by have := HB2.out.size; simp [World.setCell]; omega))
      have FIN := Lib.hid fin
      clear fin
      by_cases hk0 : k = 0
      · have hk0d : decide (0 < k) = false := decide_eq_false (by omega)
        have hk0e : decide ((0 : Int) < (k : Int)) = false := decide_eq_false (by omega)
        have HK0 := Lib.hid hk0
        clear hk0
        go_wp2_with fail
        go_quiet (fail)
        go_wp2_with fail
        go_roundw
        case rel => exact FIN.out _
        case measure => simp [intOf]; omega
      · have hk1 : (0 : Int) < k := by omega
        have hk1n : 0 < k := by omega
        have hk1b : decide (0 < k) = true := decide_eq_true hk1n
        have hk1c : decide ((0 : Int) < (k : Int)) = true := decide_eq_true hk1
        have hlk := HV.out.link k (by omega) hlt
        have hkp := HV.out.known (k - 1) (by omega)
        rw [ltO_iff, HLK.out, Int.toNat_natCast] at hlk
        obtain ⟨u, hu⟩ := Int.eq_ofNat_of_zero_le (show 0 ≤ elt l (k - 1) by omega)
        rw [hu, Int.toNat_natCast] at hlk
        rw [hu] at hkp
        have hult : u < act.length := by omega
        have hcu := hgc u hult
        have hlast : lastI l k = u := by rw [lastI, if_neg hk0, hu]
        rw [hlast]
        have hul : (u : Int) < act.length := by omega
        have hvl : (v : Int) < act.length := by omega
        clear hlast hu hkp hgc hk0
        generalize elt act u = X at hcu hlk
        generalize elt act v = Y at hcv hlk
        by_cases hXY2 : Y < X
        · have t1 : decide (X < Y) = false := decide_eq_false (by omega)
          have t2 : (X == Y) = false := beq_eq_false_iff_ne.2 (by omega)
          clear hlk
          go_wp2_with fail
          go_quiet (fail)
          go_wp2_with fail
          go_roundw
          case rel => exact FIN.out _
          case measure => simp [intOf]; omega
        · have hE : Y = X := by omega
          have huv : (u : Int) < v := by omega
          have t1 : decide (X < Y) = false := decide_eq_false (by omega)
          have t2 : (X == Y) = true := beq_iff_eq.2 hE.symm
          have t3 : decide ((v : Int) ≤ (u : Int)) = false := decide_eq_false (by omega)
          have t4 : decide (v ≤ u) = false := decide_eq_false (by omega)
          clear hlk hE
          go_wp2_with fail
          go_quiet (fail)
          go_wp2_with fail
          go_roundw
          case rel => exact FIN.out _
          case measure => simp [intOf]; omega
    · have hkl : k = l.length := by omega
      subst hkl
      have hdn : l.drop l.length = [] := List.drop_length
      rw [hdn] at RE'
      rw [Nat.sub_self] at p1 RE' BX
      clear hdn
      go_wp2_with fail
      refine (pop_none E act.length d act E' 0 d' [] y _ RE.out RE'.out ((valid_iff _ _ _).2 (by have := HV.out.drop l.length; rwa [List.drop_length] at this)) rfl).mono ?_
      rintro e w4 ⟨rfl, hb4⟩
      replace BX := Lib.hid (BX.out.below hb4)
      replace BH2 := Lib.hid (BH2.out.below hb4)
      have hbz := HB2.out.trans (hb4.mono HB2.out.size)
      have RE4 := Lib.hid (RE.out.below hb4)
      have RH4 := Lib.hid (H.out.below hbz)
      have HB4 := Lib.hid hbz
      clear p0 p1 p2 q1 hb4 hbz
      have p0 := BX.out.c0; have p2 := BX.out.c2
      have q0 := BH2.out.c0; have q2 := BH2.out.c2
      have hlX : w3.heap.size < w4.heap.size := lt_of_block BX.out
      have hlH : w.heap.size < w4.heap.size := lt_of_block BH2.out
      go_wp2_with fail
      refine (ints_any E _ d act A _ c act _ (RE4.out.alloc _) (RH4.out.alloc _)).mono ?_
      rintro e w5 ⟨rfl, q, rfl⟩
      rw [show sameB act act = true from sameB_iff.2 rfl]
      go_wp2_with fail
      go_ret
      exact ⟨ret_bool (by simp), belowDN (belowA HB4.out _) q⟩
end

theorem pops_any (A : Option Addr) (n c : Nat) (act : List Int) (A' : Option Addr) (n' c' : Nat) (l : List Int) (y : Int) (w : World) (h : n * 8 ≤ 140737488355328 → RI w A n c act) (h' : n' * 8 ≤ 140737488355328 → RI w A' n' c' l) :
    Calls Try.prog 5 #[.agg #[.slice A n c, .slice A' n' c', .int .i64 y]] w fun e w' => e = .returned (.bool true) ∧ Below w.heap.size w w' := by
  cases hf : fewB n n'
  · exact pops_few A n c A' n' c' y w hf
  · have hle : n ≤ 60 ∧ n' ≤ 60 := by simpa [fewB] using hf
    have h1 := h (by omega)
    have h2 := h' (by omega)
    cases hk : checkB act l y
    · exact pops_bad A n c act A' n' c' l y w hf h1 h2 hk
    · exact pops_ok A n c act A' n' c' l y w hf h1 h2 ((valid_iff _ _ _).1 hk)

end Go.Proofs.Ythfadkilffmmlaa
