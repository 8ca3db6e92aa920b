/-
  Contracts of the library's partitions over the order of the queue. No condition.
-/
import Derived.Test.YthfadkilffmmlaaS5
import Derived.Deep.DeepCutAuto
import Derived.Deep.CutBlock
namespace Go.Proofs.Ythfadkilffmmlaa
open Go.RowKit
set_option linter.unusedVariables false
set_option linter.unusedSimpArgs false
set_option linter.unusedSectionVars false

structure PInv (act : List Int) (a b i j : Nat) (zs : List Int) : Prop where
  i1 : a + 1 ≤ i
  ij : i ≤ j + 1
  jb : j < b
  aj : a ≤ j
  left : ∀ k, a < k → k < i → ltO act (elt zs k) (elt zs a)
  right : ∀ k, j < k → k < b → ¬ ltO act (elt zs k) (elt zs a)
section
variable {act : List Int} {a b i j : Nat} {zs : List Int}
theorem PInv.start (h : a < b) : PInv act a b (a + 1) (b - 1) zs := ⟨Nat.le_refl _, by omega, by omega, by omega, fun k h1 h2 => by omega, fun k h1 h2 => by omega⟩
theorem PInv.stepI (h : PInv act a b i j zs) (hij : i ≤ j) (hl : ltO act (elt zs i) (elt zs a)) : PInv act a b (i + 1) j zs := by
  refine ⟨by have := h.i1; omega, by omega, h.jb, h.aj, fun k h1 h2 => ?_, h.right⟩
  by_cases e : k = i
  · subst e; exact hl
  · exact h.left k h1 (by omega)
theorem PInv.stepJ (h : PInv act a b i j zs) (hij : i ≤ j) (hn : ¬ ltO act (elt zs j) (elt zs a)) : PInv act a b i (j - 1) zs := by
  have := h.i1
  refine ⟨h.i1, by omega, by have := h.jb; omega, by omega, h.left, fun k h1 h2 => ?_⟩
  by_cases e : k = j
  · subst e; exact hn
  · exact h.right k (by omega) h2
theorem PInv.swap (h : PInv act a b i j zs) (hij : i ≤ j) (hn : ¬ ltO act (elt zs i) (elt zs a)) (hl : ltO act (elt zs j) (elt zs a)) (hb : b ≤ zs.length) : PInv act a b (i + 1) (j - 1) (swp zs i j) := by
  have h1 := h.i1
  have h2 := h.jb
  have hne : i ≠ j := fun e => by subst e; exact hn hl
  have E : ∀ k, elt (swp zs i j) k = if j = k then elt zs i else if i = k then elt zs j else elt zs k := fun k => elt_swp _ _ _ _ (by omega) (by omega)
  have Ea : elt (swp zs i j) a = elt zs a := by rw [E, if_neg (by omega), if_neg (by omega)]
  refine ⟨by omega, by omega, by omega, by omega, fun k k1 k2 => ?_, fun k k1 k2 => ?_⟩
  · rw [Ea, E, if_neg (by omega)]
    by_cases e : i = k
    · rw [if_pos e]; exact hl
    · rw [if_neg e]; exact h.left k k1 (by omega)
  · rw [Ea, E]
    by_cases e : j = k
    · rw [if_pos e]; exact hn
    · rw [if_neg e, if_neg (by omega)]; exact h.right k (by omega) k2
theorem PInv.done (h : PInv act a b i j zs) (hij : j < i) (hb : b ≤ zs.length) : Part act a b j (swp zs j a) := by
  have h1 := h.i1
  have h2 := h.jb
  have h3 := h.aj
  have h4 := h.ij
  have E : ∀ k, elt (swp zs j a) k = if a = k then elt zs j else if j = k then elt zs a else elt zs k := fun k => elt_swp _ _ _ _ (by omega) (by omega)
  have Ej : elt (swp zs j a) j = elt zs a := by
    rw [E]
    by_cases e : a = j
    · rw [if_pos e, e]
    · rw [if_neg e, if_pos rfl]
  refine ⟨h3, h2, fun k k1 k2 => ?_, fun k k1 k2 => ?_⟩
  · rw [Ej, E]
    by_cases e : a = k
    · rw [if_pos e]; exact h.left j (by omega) (by omega)
    · rw [if_neg e, if_neg (by omega)]; exact h.left k (by omega) (by omega)
  · rw [Ej, E, if_neg (by omega), if_neg (by omega)]; exact h.right k k1 k2
end

structure EInv (act : List Int) (a b i j : Nat) (zs : List Int) : Prop where
  i1 : a + 1 ≤ i
  ij : i ≤ j + 1
  jb : j < b
  aj : a ≤ j
  left : ∀ k, a < k → k < i → ¬ ltO act (elt zs a) (elt zs k)
  right : ∀ k, j < k → k < b → ltO act (elt zs a) (elt zs k)
section
variable {act : List Int} {a b i j : Nat} {zs : List Int}
theorem EInv.start (h : a < b) : EInv act a b (a + 1) (b - 1) zs := ⟨Nat.le_refl _, by omega, by omega, by omega, fun k h1 h2 => by omega, fun k h1 h2 => by omega⟩
theorem EInv.stepI (h : EInv act a b i j zs) (hij : i ≤ j) (hl : ¬ ltO act (elt zs a) (elt zs i)) : EInv act a b (i + 1) j zs := by
  refine ⟨by have := h.i1; omega, by omega, h.jb, h.aj, fun k h1 h2 => ?_, h.right⟩
  by_cases e : k = i
  · subst e; exact hl
  · exact h.left k h1 (by omega)
theorem EInv.stepJ (h : EInv act a b i j zs) (hij : i ≤ j) (hn : ltO act (elt zs a) (elt zs j)) : EInv act a b i (j - 1) zs := by
  have := h.i1
  refine ⟨h.i1, by omega, by have := h.jb; omega, by omega, h.left, fun k h1 h2 => ?_⟩
  by_cases e : k = j
  · subst e; exact hn
  · exact h.right k (by omega) h2
theorem EInv.swap (h : EInv act a b i j zs) (hij : i ≤ j) (hn : ltO act (elt zs a) (elt zs i)) (hl : ¬ ltO act (elt zs a) (elt zs j)) (hb : b ≤ zs.length) : EInv act a b (i + 1) (j - 1) (swp zs i j) := by
  have h1 := h.i1
  have h2 := h.jb
  have hne : i ≠ j := fun e => by subst e; exact hl hn
  have E : ∀ k, elt (swp zs i j) k = if j = k then elt zs i else if i = k then elt zs j else elt zs k := fun k => elt_swp _ _ _ _ (by omega) (by omega)
  have Ea : elt (swp zs i j) a = elt zs a := by rw [E, if_neg (by omega), if_neg (by omega)]
  refine ⟨by omega, by omega, by omega, by omega, fun k k1 k2 => ?_, fun k k1 k2 => ?_⟩
  · rw [Ea, E, if_neg (by omega)]
    by_cases e : i = k
    · rw [if_pos e]; exact hl
    · rw [if_neg e]; exact h.left k k1 (by omega)
  · rw [Ea, E]
    by_cases e : j = k
    · rw [if_pos e]; exact hn
    · rw [if_neg e, if_neg (by omega)]; exact h.right k (by omega) k2
theorem EInv.done (h : EInv act a b i j zs) (hij : j < i) : PartEq act a b i (elt zs a) zs := by
  have h1 := h.i1
  have h2 := h.jb
  have h4 := h.ij
  refine ⟨by omega, by omega, fun k k1 k2 => ?_, fun k k1 k2 => h.right k (by omega) k2⟩
  by_cases e : k = a
  · subst e; exact ltO_irrefl _ _
  · exact h.left k (by omega) k2
theorem EInv.pivot (h : EInv act a b i j zs) (hb : b ≤ zs.length) : elt (swp zs i j) a = elt zs a ∨ ¬ i ≤ j := by
  have h1 := h.i1
  have h2 := h.jb
  by_cases hij : i ≤ j
  · left; rw [elt_swp _ _ _ _ (by omega) (by omega), if_neg (by omega), if_neg (by omega)]
  · right; exact hij
end

/-- what the partition leaves -/
def Parted (act : List Int) (W0 : World) (g : Nat) (rest : List Value) (zs : List Int) (a b : Nat) (e : Ending) (W : World) : Prop :=
  ∃ (zs' : List Int) (m : Nat) (t : Bool), e = .returned (.tuple #[.int .i64 m, .bool t]) ∧ Srt W0 g rest zs' W ∧ Seg a b zs zs' ∧ Part act a b m zs'
def PartedEq (act : List Int) (W0 : World) (g : Nat) (rest : List Value) (zs : List Int) (a b : Nat) (p : Int) (e : Ending) (W : World) : Prop :=
  ∃ (zs' : List Int) (m : Nat), e = .returned (.int .i64 m) ∧ Srt W0 g rest zs' W ∧ Seg a b zs zs' ∧ PartEq act a b m p zs'

set_option maxRecDepth 100000 in
set_option maxHeartbeats 8000000 in
theorem partition_any (W0 : World) (g B : Nat) (act : List Int) (C : Cx W0 g B act) (rest : List Value) (zs0 : List Int) (hd : Dom act.length zs0) (n c0 a b pv : Nat) (W : World) (hS : Srt W0 g rest zs0 W) (hn : zs0.length = n) (hbig : n ≤ 1000000) (hab : a ≤ pv) (hpb : pv < b) (hbn : b ≤ n) :
    Calls Try.prog 65 #[.slice (some ⟨g, 0, none⟩) n c0, .int .i64 a, .int .i64 b, .int .i64 pv, fvO B] W (Parted act W0 g rest zs0 a b) := by
  have i1 : a < zs0.length := by omega
  have i2 : pv < zs0.length := by omega
  have SEG0 : Hid (Seg a b zs0 (swp zs0 a pv)) := Seg.swp _ (by omega) (by omega) (by omega)
  have PIV : Hid (elt (swp zs0 a pv) a = elt zs0 pv) := by
    show elt (swp zs0 a pv) a = elt zs0 pv
    rw [elt_swp _ _ _ _ i1 i2]
    by_cases e : pv = a
    · rw [if_pos e, e]
    · rw [if_neg e, if_pos rfl]
  obtain ⟨J0, hJ0⟩ : ∃ J0, J0 = b - 1 := ⟨_, rfl⟩
  have eJ : (b : Int) - 1 = (J0 : Int) := by omega
  have HJ0 := Lib.hid hJ0
  have I1 := Lib.hid i1; have I2 := Lib.hid i2; have HS := Lib.hid hS
  have HC := Lib.hid C
  have HD := Lib.hid hd
  have HN := Lib.hid hn
  have l1 : (a : Int) < n := by omega
  have l2 : (pv : Int) < n := by omega
  clear hn i1 i2 hS C hd hJ0
  go_enter Try.func65, Try.ntmps65
  go_upto_region 1 with fail
  go_cut [] (fun wx => Srt W0 g rest (swp zs0 a pv) wx)
  case first =>
    have c1 := HS.out.cell I1.out
    have c2 := HS.out.cell I2.out
    have f1 : W.frozen? ⟨g, a, none⟩ = false := HS.out.frozen _
    have f2 : W.frozen? ⟨g, pv, none⟩ = false := HS.out.frozen _
    by_cases e : a = pv
    · subst e
      go_region
      go_wp2_with fail
      go_meet
      exact (HS.out.swp I1.out I2.out).drew
    · have n1 : a ≠ pv := e
      have n2 : pv ≠ a := fun e2 => e e2.symm
      go_region
      go_wp2_with fail
      go_meet
      exact (HS.out.swp I1.out I2.out).drew
  case rest =>
    have S0 := Lib.hid hcut
    clear hcut
    obtain ⟨ys, hys⟩ : ∃ ys, ys = swp zs0 a pv := ⟨_, rfl⟩
    rw [← hys] at S0 SEG0 PIV
    have hyl : Hid (ys.length = n) := by have := SEG0.out.len; rw [HN.out] at this; exact this
    have DY := Lib.hid (HD.out.seg SEG0.out)
    clear hys
    go_upto_block 0 with fail
    go_cut [12] (fun s wx => ∃ i : Nat, s = .int .i64 i ∧ PInv act a b i J0 ys ∧ Srt W0 g rest ys wx ∧ (J0 < i ∨ ¬ ltO act (elt ys i) (elt ys a)))
    case first =>
      go_wp2_with fail
      go_loopw [12] (fun s wr => ∃ i : Nat, s = .int .i64 i ∧ PInv act a b i J0 ys ∧ Srt W0 g rest ys wr) (fun s _ => b + 1 - (intOf s).toNat)
      case atStart => exact ⟨a + 1, by go_num, by rw [HJ0.out]; exact PInv.start (by omega), S0.out⟩
      case round =>
        obtain ⟨i, rfl, hinv, hsr⟩ := hrel
        have z1 := hinv.i1
        have z2 := hinv.ij
        have z3 := hinv.jb
        have z4 := hinv.aj
        have KI := Lib.hid hinv
        have KS := Lib.hid hsr
        clear hinv hsr
        by_cases hij : i ≤ J0
        · have t1 : (i : Int) ≤ (J0 : Int) := by omega
          have lx : (i : Int) < n := by omega
          have ly : (a : Int) < n := by omega
          have ix : i < ys.length := by rw [hyl.out]; omega
          have iy : a < ys.length := by rw [hyl.out]; omega
          have IX := Lib.hid ix; have IY := Lib.hid iy
          clear ix iy
          have q1 := fun u : Gr wr => u.srt KS.out IX.out
          have q2 := fun u : Gr wr => u.srt KS.out IY.out
          generalize ho : ordI act (elt ys i) (elt ys a) = o
          have HO := Lib.hid ho
          clear ho
          by_cases hs : o < 0
          · have hsd : decide (o < 0) = true := decide_eq_true hs
            go_wp2_with fail
            refine wp_region_grow (by kernel_rfl) (by kernel_rfl) ?_
            repeat (go_big_quiet_step (((go_at_call 41; exact HC.out.gr KS.out _ (DY.out.at_ IX.out) (DY.out.at_ IY.out) HO.out))))
            refine wpQuiet_nil ?_
            intro w2 hb2; replace hb2 := Gr.out hb2
            have S2 := Lib.hid (KS.out.below hb2)
            clear q1 q2 hb2
            go_wp2_with fail
            go_roundw
            case rel => exact ⟨i + 1, by go_num, KI.out.stepI hij (show ordI act _ _ < 0 by rw [HO.out]; exact hs), S2.out⟩
            case measure => simp [intOf]; omega
          · have hsd : decide (o < 0) = false := decide_eq_false hs
            go_wp2_with fail
            refine wp_region_grow (by kernel_rfl) (by kernel_rfl) ?_
            repeat (go_big_quiet_step (((go_at_call 41; exact HC.out.gr KS.out _ (DY.out.at_ IX.out) (DY.out.at_ IY.out) HO.out))))
            refine wpQuiet_nil ?_
            intro w2 hb2; replace hb2 := Gr.out hb2
            have S2 := Lib.hid (KS.out.below hb2)
            clear q1 q2 hb2
            go_wp2_with fail
            go_meet
            exact ⟨i, rfl, KI.out, S2.out, .inr (show ¬ ordI act _ _ < 0 by rw [HO.out]; omega)⟩
        · have t1 : ¬ (i : Int) ≤ (J0 : Int) := by omega
          have t2 : decide ((i : Int) ≤ (J0 : Int)) = false := decide_eq_false t1
          go_wp2_with fail
          refine wp_region_grow (by kernel_rfl) (by kernel_rfl) ?_
          repeat (go_big_quiet_step (fail))
          refine wpQuiet_nil ?_
          intro w2 hb2; replace hb2 := Gr.out hb2
          have S2 := Lib.hid (KS.out.below hb2)
          clear hb2
          go_wp2_with fail
          go_meet
          exact ⟨i, rfl, KI.out, S2.out, .inl (by omega)⟩
    case rest =>
      obtain ⟨i, rfl, hinv, hsr, hex⟩ := hcut
      have S1 := Lib.hid hsr
      have KA := Lib.hid hinv
      have EX := Lib.hid hex
      clear hinv hsr hex
      go_upto_block 2 with fail
      go_cut [13] (fun s wx => ∃ j : Nat, s = .int .i64 j ∧ PInv act a b i j ys ∧ Srt W0 g rest ys wx ∧ (j < i ∨ ltO act (elt ys j) (elt ys a)))
      case first =>
        go_wp2_with fail
        go_loopw [13] (fun s wr => ∃ j : Nat, s = .int .i64 j ∧ PInv act a b i j ys ∧ Srt W0 g rest ys wr) (fun s _ => (intOf s).toNat)
        case atStart => exact ⟨J0, rfl, KA.out, S1.out⟩
        case round =>
          obtain ⟨j, rfl, hinv, hsr⟩ := hrel
          have z1 := hinv.i1
          have z2 := hinv.ij
          have z3 := hinv.jb
          have z4 := hinv.aj
          have KI := Lib.hid hinv
          have KS := Lib.hid hsr
          clear hinv hsr
          by_cases hij : i ≤ j
          · have t1 : (i : Int) ≤ (j : Int) := by omega
            have lx : (j : Int) < n := by omega
            have ly : (a : Int) < n := by omega
            have ix : j < ys.length := by rw [hyl.out]; omega
            have iy : a < ys.length := by rw [hyl.out]; omega
            have IX := Lib.hid ix; have IY := Lib.hid iy
            clear ix iy
            have q1 := fun u : Gr wr => u.srt KS.out IX.out
            have q2 := fun u : Gr wr => u.srt KS.out IY.out
            generalize ho : ordI act (elt ys j) (elt ys a) = o
            have HO := Lib.hid ho
            clear ho
            by_cases hs : o < 0
            · have hsd : decide (o < 0) = true := decide_eq_true hs
              go_wp2_with fail
              refine wp_region_grow (by kernel_rfl) (by kernel_rfl) ?_
              repeat (go_big_quiet_step (((go_at_call 41; exact HC.out.gr KS.out _ (DY.out.at_ IX.out) (DY.out.at_ IY.out) HO.out))))
              refine wpQuiet_nil ?_
              intro w2 hb2; replace hb2 := Gr.out hb2
              have S2 := Lib.hid (KS.out.below hb2)
              clear q1 q2 hb2
              go_wp2_with fail
              go_meet
              exact ⟨j, rfl, KI.out, S2.out, .inr (show ordI act _ _ < 0 by rw [HO.out]; exact hs)⟩
            · have hsd : decide (o < 0) = false := decide_eq_false hs
              go_wp2_with fail
              refine wp_region_grow (by kernel_rfl) (by kernel_rfl) ?_
              repeat (go_big_quiet_step (((go_at_call 41; exact HC.out.gr KS.out _ (DY.out.at_ IX.out) (DY.out.at_ IY.out) HO.out))))
              refine wpQuiet_nil ?_
              intro w2 hb2; replace hb2 := Gr.out hb2
              have S2 := Lib.hid (KS.out.below hb2)
              clear q1 q2 hb2
              go_wp2_with fail
              go_roundw
              case rel => exact ⟨j - 1, congrArg (Value.int .i64) (by omega), KI.out.stepJ hij (show ¬ ordI act _ _ < 0 by rw [HO.out]; omega), S2.out⟩
              case measure => simp [intOf]; omega
          · have t1 : ¬ (i : Int) ≤ (j : Int) := by omega
            have t2 : decide ((i : Int) ≤ (j : Int)) = false := decide_eq_false t1
            go_wp2_with fail
            refine wp_region_grow (by kernel_rfl) (by kernel_rfl) ?_
            repeat (go_big_quiet_step (fail))
            refine wpQuiet_nil ?_
            intro w2 hb2; replace hb2 := Gr.out hb2
            have S2 := Lib.hid (KS.out.below hb2)
            clear hb2
            go_wp2_with fail
            go_meet
            exact ⟨j, rfl, KI.out, S2.out, .inl (by omega)⟩
      case rest =>
        obtain ⟨j, rfl, hinv, hsr, hey⟩ := hcut
        have z1 := hinv.i1
        have z2 := hinv.ij
        have z3 := hinv.jb
        have z4 := hinv.aj
        have KI := Lib.hid hinv
        have KS := Lib.hid hsr
        have EY := Lib.hid hey
        clear hinv hsr hey KA S1
        by_cases hji : j < i
        · have t1 : (j : Int) < (i : Int) := by omega
          have ij : j < ys.length := by rw [hyl.out]; omega
          have ia : a < ys.length := by rw [hyl.out]; omega
          have IJ := Lib.hid ij; have IA := Lib.hid ia
          have lj : (j : Int) < n := by omega
          have c1 := KS.out.cell IJ.out
          have c2 := KS.out.cell IA.out
          have f1 : wc.frozen? ⟨g, j, none⟩ = false := KS.out.frozen _
          have f2 : wc.frozen? ⟨g, a, none⟩ = false := KS.out.frozen _
          clear ij ia
          by_cases e : j = a
          · subst e
            go_wp2_with fail
            go_region
            go_wp2_with fail
            go_ret2
            exact ⟨swp ys j j, j, true, rfl, (KS.out.swp IJ.out IJ.out).drew, SEG0.out.trans (Seg.swp _ (by omega) (by omega) (by rw [hyl.out]; omega)), KI.out.done (by omega) (by rw [hyl.out]; omega)⟩
          · have n2 : a ≠ j := fun e2 => e e2.symm
            go_wp2_with fail
            go_region
            go_wp2_with fail
            go_ret2
            exact ⟨swp ys j a, j, true, rfl, (KS.out.swp IJ.out IA.out).drew, SEG0.out.trans (Seg.swp _ (by omega) (by omega) (by rw [hyl.out]; omega)), KI.out.done (by omega) (by rw [hyl.out]; omega)⟩
        · have t1 : ¬ (j : Int) < (i : Int) := by omega
          have hJ0 : j ≤ J0 := by have := HJ0.out; omega
          have nlt : ¬ ltO act (elt ys i) (elt ys a) := EX.out.resolve_left (by omega)
          have ltj : ltO act (elt ys j) (elt ys a) := EY.out.resolve_left hji
          have hne : i ≠ j := fun e => by subst e; exact nlt ltj
          have KSW := Lib.hid (KI.out.swap (by omega) nlt ltj (by rw [hyl.out]; omega))
          have SEG1 : Hid (Seg a b zs0 (swp ys i j)) := SEG0.out.trans (Seg.swp _ (by omega) (by omega) (by rw [hyl.out]; omega))
          have ii : i < ys.length := by rw [hyl.out]; omega
          have ij : j < ys.length := by rw [hyl.out]; omega
          have II := Lib.hid ii; have IJ := Lib.hid ij
          have li : (i : Int) < n := by omega
          have lj : (j : Int) < n := by omega
          clear nlt ltj ii ij EX EY
          have c1 := KS.out.cell II.out
          have c2 := KS.out.cell IJ.out
          have f1 : wc.frozen? ⟨g, i, none⟩ = false := KS.out.frozen _
          have f2 : wc.frozen? ⟨g, j, none⟩ = false := KS.out.frozen _
          have n2 : j ≠ i := fun e => hne e.symm
          go_wp2_with fail
          go_region
          go_wp2_with fail
          go_loopw [12, 13] (fun s t wr => ∃ (i j : Nat) (ys : List Int), s = .int .i64 i ∧ t = .int .i64 j ∧ PInv act a b i j ys ∧ Srt W0 g rest ys wr ∧ Seg a b zs0 ys) (fun _ t _ => (intOf t).toNat)
          case atStart => exact ⟨i + 1, j - 1, swp ys i j, by go_num, congrArg (Value.int .i64) (by omega), KSW.out, (KS.out.swp II.out IJ.out).drew, SEG1.out⟩
          case round =>
            clear KSW SEG1 II IJ li lj c1 c2 f1 f2 n2 hne t1 hji KI KS z1 z2 z3 z4 hyl DY SEG0 hJ0 PIV S0
            obtain ⟨i0, j0, ys, rfl, rfl, hinv, hsr, hseg⟩ := hrel
            have S1 := Lib.hid hsr
            have KA := Lib.hid hinv
            have SEG0 := Lib.hid hseg
            have hyl : Hid (ys.length = n) := by have := hseg.len; rw [HN.out] at this; exact this
            have DY := Lib.hid (HD.out.seg SEG0.out)
            have b1 := hinv.i1
            have b2 := hinv.ij
            have b3 := hinv.jb
            have b4 := hinv.aj
            clear hinv hsr hseg
            obtain ⟨wo, hwo⟩ : ∃ wo : World, wo = wr := ⟨_, rfl⟩
            subst hwo
            go_upto_block 6 with fail
            go_cut [12] (fun s wx => ∃ i : Nat, s = .int .i64 i ∧ PInv act a b i j0 ys ∧ Srt W0 g rest ys wx ∧ (j0 < i ∨ ¬ ltO act (elt ys i) (elt ys a)))
            case first =>
              go_wp2_with fail
              go_loopw [12] (fun s wr => ∃ i : Nat, s = .int .i64 i ∧ PInv act a b i j0 ys ∧ Srt W0 g rest ys wr) (fun s _ => b + 1 - (intOf s).toNat)
              case atStart => exact ⟨i0, rfl, KA.out, S1.out⟩
              case round =>
                obtain ⟨i, rfl, hinv, hsr⟩ := hrel
                have z1 := hinv.i1
                have z2 := hinv.ij
                have z3 := hinv.jb
                have z4 := hinv.aj
                have KI := Lib.hid hinv
                have KS := Lib.hid hsr
                clear hinv hsr
                by_cases hij : i ≤ j0
                · have t1 : (i : Int) ≤ (j0 : Int) := by omega
                  have lx : (i : Int) < n := by omega
                  have ly : (a : Int) < n := by omega
                  have ix : i < ys.length := by rw [hyl.out]; omega
                  have iy : a < ys.length := by rw [hyl.out]; omega
                  have IX := Lib.hid ix; have IY := Lib.hid iy
                  clear ix iy
                  have q1 := fun u : Gr wr => u.srt KS.out IX.out
                  have q2 := fun u : Gr wr => u.srt KS.out IY.out
                  generalize ho : ordI act (elt ys i) (elt ys a) = o
                  have HO := Lib.hid ho
                  clear ho
                  by_cases hs : o < 0
                  · have hsd : decide (o < 0) = true := decide_eq_true hs
                    go_wp2_with fail
                    refine wp_region_grow (by kernel_rfl) (by kernel_rfl) ?_
                    repeat (go_big_quiet_step (((go_at_call 41; exact HC.out.gr KS.out _ (DY.out.at_ IX.out) (DY.out.at_ IY.out) HO.out))))
                    refine wpQuiet_nil ?_
                    intro w2 hb2; replace hb2 := Gr.out hb2
                    have S2 := Lib.hid (KS.out.below hb2)
                    clear q1 q2 hb2
                    go_wp2_with fail
                    go_roundw
                    case rel => exact ⟨i + 1, by go_num, KI.out.stepI hij (show ordI act _ _ < 0 by rw [HO.out]; exact hs), S2.out⟩
                    case measure => simp [intOf]; omega
                  · have hsd : decide (o < 0) = false := decide_eq_false hs
                    go_wp2_with fail
                    refine wp_region_grow (by kernel_rfl) (by kernel_rfl) ?_
                    repeat (go_big_quiet_step (((go_at_call 41; exact HC.out.gr KS.out _ (DY.out.at_ IX.out) (DY.out.at_ IY.out) HO.out))))
                    refine wpQuiet_nil ?_
                    intro w2 hb2; replace hb2 := Gr.out hb2
                    have S2 := Lib.hid (KS.out.below hb2)
                    clear q1 q2 hb2
                    go_wp2_with fail
                    go_meet
                    exact ⟨i, rfl, KI.out, S2.out, .inr (show ¬ ordI act _ _ < 0 by rw [HO.out]; omega)⟩
                · have t1 : ¬ (i : Int) ≤ (j0 : Int) := by omega
                  have t2 : decide ((i : Int) ≤ (j0 : Int)) = false := decide_eq_false t1
                  go_wp2_with fail
                  refine wp_region_grow (by kernel_rfl) (by kernel_rfl) ?_
                  repeat (go_big_quiet_step (fail))
                  refine wpQuiet_nil ?_
                  intro w2 hb2; replace hb2 := Gr.out hb2
                  have S2 := Lib.hid (KS.out.below hb2)
                  clear hb2
                  go_wp2_with fail
                  go_meet
                  exact ⟨i, rfl, KI.out, S2.out, .inl (by omega)⟩
            case rest =>
              obtain ⟨i, rfl, hinv, hsr, hex⟩ := hcut
              clear KA S1
              have S1 := Lib.hid hsr
              have KA := Lib.hid hinv
              have EX := Lib.hid hex
              clear hinv hsr hex
              go_upto_block 8 with fail
              go_cut [13] (fun s wx => ∃ j : Nat, s = .int .i64 j ∧ j ≤ j0 ∧ PInv act a b i j ys ∧ Srt W0 g rest ys wx ∧ (j < i ∨ ltO act (elt ys j) (elt ys a)))
              case first =>
                go_wp2_with fail
                go_loopw [13] (fun s wr => ∃ j : Nat, s = .int .i64 j ∧ j ≤ j0 ∧ PInv act a b i j ys ∧ Srt W0 g rest ys wr) (fun s _ => (intOf s).toNat)
                case atStart => exact ⟨j0, rfl, Nat.le_refl _, KA.out, S1.out⟩
                case round =>
                  obtain ⟨j, rfl, hjj, hinv, hsr⟩ := hrel
                  have z1 := hinv.i1
                  have z2 := hinv.ij
                  have z3 := hinv.jb
                  have z4 := hinv.aj
                  have KI := Lib.hid hinv
                  have KS := Lib.hid hsr
                  clear hinv hsr
                  by_cases hij : i ≤ j
                  · have t1 : (i : Int) ≤ (j : Int) := by omega
                    have lx : (j : Int) < n := by omega
                    have ly : (a : Int) < n := by omega
                    have ix : j < ys.length := by rw [hyl.out]; omega
                    have iy : a < ys.length := by rw [hyl.out]; omega
                    have IX := Lib.hid ix; have IY := Lib.hid iy
                    clear ix iy
                    have q1 := fun u : Gr wr => u.srt KS.out IX.out
                    have q2 := fun u : Gr wr => u.srt KS.out IY.out
                    generalize ho : ordI act (elt ys j) (elt ys a) = o
                    have HO := Lib.hid ho
                    clear ho
                    by_cases hs : o < 0
                    · have hsd : decide (o < 0) = true := decide_eq_true hs
                      go_wp2_with fail
                      refine wp_region_grow (by kernel_rfl) (by kernel_rfl) ?_
                      repeat (go_big_quiet_step (((go_at_call 41; exact HC.out.gr KS.out _ (DY.out.at_ IX.out) (DY.out.at_ IY.out) HO.out))))
                      refine wpQuiet_nil ?_
                      intro w2 hb2; replace hb2 := Gr.out hb2
                      have S2 := Lib.hid (KS.out.below hb2)
                      clear q1 q2 hb2
                      go_wp2_with fail
                      go_meet
                      exact ⟨j, rfl, hjj, KI.out, S2.out, .inr (show ordI act _ _ < 0 by rw [HO.out]; exact hs)⟩
                    · have hsd : decide (o < 0) = false := decide_eq_false hs
                      go_wp2_with fail
                      refine wp_region_grow (by kernel_rfl) (by kernel_rfl) ?_
                      repeat (go_big_quiet_step (((go_at_call 41; exact HC.out.gr KS.out _ (DY.out.at_ IX.out) (DY.out.at_ IY.out) HO.out))))
                      refine wpQuiet_nil ?_
                      intro w2 hb2; replace hb2 := Gr.out hb2
                      have S2 := Lib.hid (KS.out.below hb2)
                      clear q1 q2 hb2
                      go_wp2_with fail
                      go_roundw
                      case rel => exact ⟨j - 1, congrArg (Value.int .i64) (by omega), by omega, KI.out.stepJ hij (show ¬ ordI act _ _ < 0 by rw [HO.out]; omega), S2.out⟩
                      case measure => simp [intOf]; omega
                  · have t1 : ¬ (i : Int) ≤ (j : Int) := by omega
                    have t2 : decide ((i : Int) ≤ (j : Int)) = false := decide_eq_false t1
                    go_wp2_with fail
                    refine wp_region_grow (by kernel_rfl) (by kernel_rfl) ?_
                    repeat (go_big_quiet_step (fail))
                    refine wpQuiet_nil ?_
                    intro w2 hb2; replace hb2 := Gr.out hb2
                    have S2 := Lib.hid (KS.out.below hb2)
                    clear hb2
                    go_wp2_with fail
                    go_meet
                    exact ⟨j, rfl, hjj, KI.out, S2.out, .inl (by omega)⟩
              case rest =>
                obtain ⟨j, rfl, hjj, hinv, hsr, hey⟩ := hcut
                have z1 := hinv.i1
                have z2 := hinv.ij
                have z3 := hinv.jb
                have z4 := hinv.aj
                have KI := Lib.hid hinv
                have KS := Lib.hid hsr
                have EY := Lib.hid hey
                clear hinv hsr hey KA S1
                by_cases hji : j < i
                · have t1 : (j : Int) < (i : Int) := by omega
                  have ij : j < ys.length := by rw [hyl.out]; omega
                  have ia : a < ys.length := by rw [hyl.out]; omega
                  have IJ := Lib.hid ij; have IA := Lib.hid ia
                  have lj : (j : Int) < n := by omega
                  have c1 := KS.out.cell IJ.out
                  have c2 := KS.out.cell IA.out
                  have f1 : wc.frozen? ⟨g, j, none⟩ = false := KS.out.frozen _
                  have f2 : wc.frozen? ⟨g, a, none⟩ = false := KS.out.frozen _
                  clear ij ia
                  by_cases e : j = a
                  · subst e
                    go_wp2_with fail
                    go_region
                    go_wp2_with fail
                    go_ret2
                    exact ⟨swp ys j j, j, false, rfl, (KS.out.swp IJ.out IJ.out).drew, SEG0.out.trans (Seg.swp _ (by omega) (by omega) (by rw [hyl.out]; omega)), KI.out.done (by omega) (by rw [hyl.out]; omega)⟩
                  · have n2 : a ≠ j := fun e2 => e e2.symm
                    go_wp2_with fail
                    go_region
                    go_wp2_with fail
                    go_ret2
                    exact ⟨swp ys j a, j, false, rfl, (KS.out.swp IJ.out IA.out).drew, SEG0.out.trans (Seg.swp _ (by omega) (by omega) (by rw [hyl.out]; omega)), KI.out.done (by omega) (by rw [hyl.out]; omega)⟩
                · have t1 : ¬ (j : Int) < (i : Int) := by omega
                  have nlt : ¬ ltO act (elt ys i) (elt ys a) := EX.out.resolve_left (by omega)
                  have ltj : ltO act (elt ys j) (elt ys a) := EY.out.resolve_left hji
                  have hne : i ≠ j := fun e => by subst e; exact nlt ltj
                  have KSW := Lib.hid (KI.out.swap (by omega) nlt ltj (by rw [hyl.out]; omega))
                  have SEG1 : Hid (Seg a b zs0 (swp ys i j)) := SEG0.out.trans (Seg.swp _ (by omega) (by omega) (by rw [hyl.out]; omega))
                  have ii : i < ys.length := by rw [hyl.out]; omega
                  have ij : j < ys.length := by rw [hyl.out]; omega
                  have II := Lib.hid ii; have IJ := Lib.hid ij
                  have li : (i : Int) < n := by omega
                  have lj : (j : Int) < n := by omega
                  clear nlt ltj ii ij EX EY
                  have c1 := KS.out.cell II.out
                  have c2 := KS.out.cell IJ.out
                  have f1 : wc.frozen? ⟨g, i, none⟩ = false := KS.out.frozen _
                  have f2 : wc.frozen? ⟨g, j, none⟩ = false := KS.out.frozen _
                  have n2 : j ≠ i := fun e => hne e.symm
                  go_wp2_with fail
                  go_region
                  go_wp2_with fail
                  go_roundw
                  case rel => exact ⟨i + 1, j - 1, swp ys i j, by go_num, congrArg (Value.int .i64) (by omega), KSW.out, (KS.out.swp II.out IJ.out).drew, SEG1.out⟩
                  case measure => simp [intOf]; omega

set_option maxRecDepth 100000 in
set_option maxHeartbeats 8000000 in
theorem partitionEq_any (W0 : World) (g B : Nat) (act : List Int) (C : Cx W0 g B act) (rest : List Value) (zs0 : List Int) (hd : Dom act.length zs0) (n c0 a b pv : Nat) (W : World) (hS : Srt W0 g rest zs0 W) (hn : zs0.length = n) (hbig : n ≤ 1000000) (hab : a ≤ pv) (hpb : pv < b) (hbn : b ≤ n) :
    Calls Try.prog 64 #[.slice (some ⟨g, 0, none⟩) n c0, .int .i64 a, .int .i64 b, .int .i64 pv, fvO B] W (PartedEq act W0 g rest zs0 a b (elt zs0 pv)) := by
  have i1 : a < zs0.length := by omega
  have i2 : pv < zs0.length := by omega
  have SEG0 : Hid (Seg a b zs0 (swp zs0 a pv)) := Seg.swp _ (by omega) (by omega) (by omega)
  have PIV : Hid (elt (swp zs0 a pv) a = elt zs0 pv) := by
    show elt (swp zs0 a pv) a = elt zs0 pv
    rw [elt_swp _ _ _ _ i1 i2]
    by_cases e : pv = a
    · rw [if_pos e, e]
    · rw [if_neg e, if_pos rfl]
  obtain ⟨J0, hJ0⟩ : ∃ J0, J0 = b - 1 := ⟨_, rfl⟩
  have eJ : (b : Int) - 1 = (J0 : Int) := by omega
  have HJ0 := Lib.hid hJ0
  have I1 := Lib.hid i1; have I2 := Lib.hid i2; have HS := Lib.hid hS
  have HC := Lib.hid C
  have HD := Lib.hid hd
  have HN := Lib.hid hn
  have l1 : (a : Int) < n := by omega
  have l2 : (pv : Int) < n := by omega
  clear hn i1 i2 hS C hd hJ0
  go_enter Try.func64, Try.ntmps64
  go_upto_region 1 with fail
  go_cut [] (fun wx => Srt W0 g rest (swp zs0 a pv) wx)
  case first =>
    have c1 := HS.out.cell I1.out
    have c2 := HS.out.cell I2.out
    have f1 : W.frozen? ⟨g, a, none⟩ = false := HS.out.frozen _
    have f2 : W.frozen? ⟨g, pv, none⟩ = false := HS.out.frozen _
    by_cases e : a = pv
    · subst e
      go_region
      go_wp2_with fail
      go_meet
      exact (HS.out.swp I1.out I2.out).drew
    · have n1 : a ≠ pv := e
      have n2 : pv ≠ a := fun e2 => e e2.symm
      go_region
      go_wp2_with fail
      go_meet
      exact (HS.out.swp I1.out I2.out).drew
  case rest =>
    have S0 := Lib.hid hcut
    clear hcut
    obtain ⟨ys, hys⟩ : ∃ ys, ys = swp zs0 a pv := ⟨_, rfl⟩
    rw [← hys] at S0 SEG0 PIV
    have hyl : Hid (ys.length = n) := by have := SEG0.out.len; rw [HN.out] at this; exact this
    have DY := Lib.hid (HD.out.seg SEG0.out)
    clear hys
    go_wp2_with fail
    go_loopw [11, 12] (fun s t wr => ∃ (i j : Nat) (ys : List Int), s = .int .i64 i ∧ t = .int .i64 j ∧ EInv act a b i j ys ∧ Srt W0 g rest ys wr ∧ Seg a b zs0 ys ∧ elt ys a = elt zs0 pv) (fun _ t _ => (intOf t).toNat)
    case atStart => exact ⟨a + 1, J0, ys, by go_num, rfl, by rw [HJ0.out]; exact EInv.start (by omega), S0.out, SEG0.out, PIV.out⟩
    case round =>
      clear hyl DY SEG0 PIV S0
      obtain ⟨i0, j0, ys, rfl, rfl, hinv, hsr, hseg, hpiv⟩ := hrel
      have S1 := Lib.hid hsr
      have KA := Lib.hid hinv
      have SEG0 := Lib.hid hseg
      have PIV := Lib.hid hpiv
      have hyl : Hid (ys.length = n) := by have := hseg.len; rw [HN.out] at this; exact this
      have DY := Lib.hid (HD.out.seg SEG0.out)
      have b1 := hinv.i1
      have b2 := hinv.ij
      have b3 := hinv.jb
      have b4 := hinv.aj
      clear hinv hsr hseg hpiv
      obtain ⟨wo, hwo⟩ : ∃ wo : World, wo = wr := ⟨_, rfl⟩
      subst hwo
      go_upto_block 2 with fail
      go_cut [11] (fun s wx => ∃ i : Nat, s = .int .i64 i ∧ EInv act a b i j0 ys ∧ Srt W0 g rest ys wx ∧ (j0 < i ∨ ltO act (elt ys a) (elt ys i)))
      case first =>
        go_wp2_with fail
        go_loopw [11] (fun s wr => ∃ i : Nat, s = .int .i64 i ∧ EInv act a b i j0 ys ∧ Srt W0 g rest ys wr) (fun s _ => b + 1 - (intOf s).toNat)
        case atStart => exact ⟨i0, rfl, KA.out, S1.out⟩
        case round =>
          obtain ⟨i, rfl, hinv, hsr⟩ := hrel
          have z1 := hinv.i1
          have z2 := hinv.ij
          have z3 := hinv.jb
          have z4 := hinv.aj
          have KI := Lib.hid hinv
          have KS := Lib.hid hsr
          clear hinv hsr
          by_cases hij : i ≤ j0
          · have t1 : (i : Int) ≤ (j0 : Int) := by omega
            have lx : (a : Int) < n := by omega
            have ly : (i : Int) < n := by omega
            have ix : a < ys.length := by rw [hyl.out]; omega
            have iy : i < ys.length := by rw [hyl.out]; omega
            have IX := Lib.hid ix; have IY := Lib.hid iy
            clear ix iy
            have q1 := fun u : Gr wr => u.srt KS.out IX.out
            have q2 := fun u : Gr wr => u.srt KS.out IY.out
            generalize ho : ordI act (elt ys a) (elt ys i) = o
            have HO := Lib.hid ho
            clear ho
            by_cases hs : o < 0
            · have hsd : decide (o < 0) = true := decide_eq_true hs
              go_wp2_with fail
              refine wp_region_grow (by kernel_rfl) (by kernel_rfl) ?_
              repeat (go_big_quiet_step (((go_at_call 41; exact HC.out.gr KS.out _ (DY.out.at_ IX.out) (DY.out.at_ IY.out) HO.out))))
              refine wpQuiet_nil ?_
              intro w2 hb2; replace hb2 := Gr.out hb2
              have S2 := Lib.hid (KS.out.below hb2)
              clear q1 q2 hb2
              go_wp2_with fail
              go_meet
              exact ⟨i, rfl, KI.out, S2.out, .inr (show ordI act _ _ < 0 by rw [HO.out]; exact hs)⟩
            · have hsd : decide (o < 0) = false := decide_eq_false hs
              go_wp2_with fail
              refine wp_region_grow (by kernel_rfl) (by kernel_rfl) ?_
              repeat (go_big_quiet_step (((go_at_call 41; exact HC.out.gr KS.out _ (DY.out.at_ IX.out) (DY.out.at_ IY.out) HO.out))))
              refine wpQuiet_nil ?_
              intro w2 hb2; replace hb2 := Gr.out hb2
              have S2 := Lib.hid (KS.out.below hb2)
              clear q1 q2 hb2
              go_wp2_with fail
              go_roundw
              case rel => exact ⟨i + 1, by go_num, KI.out.stepI hij (show ¬ ordI act _ _ < 0 by rw [HO.out]; omega), S2.out⟩
              case measure => simp [intOf]; omega
          · have t1 : ¬ (i : Int) ≤ (j0 : Int) := by omega
            have t2 : decide ((i : Int) ≤ (j0 : Int)) = false := decide_eq_false t1
            go_wp2_with fail
            refine wp_region_grow (by kernel_rfl) (by kernel_rfl) ?_
            repeat (go_big_quiet_step (fail))
            refine wpQuiet_nil ?_
            intro w2 hb2; replace hb2 := Gr.out hb2
            have S2 := Lib.hid (KS.out.below hb2)
            clear hb2
            go_wp2_with fail
            go_meet
            exact ⟨i, rfl, KI.out, S2.out, .inl (by omega)⟩
      case rest =>
        obtain ⟨i, rfl, hinv, hsr, hex⟩ := hcut
        clear KA S1
        have S1 := Lib.hid hsr
        have KA := Lib.hid hinv
        have EX := Lib.hid hex
        clear hinv hsr hex
        go_upto_block 4 with fail
        go_cut [12] (fun s wx => ∃ j : Nat, s = .int .i64 j ∧ j ≤ j0 ∧ EInv act a b i j ys ∧ Srt W0 g rest ys wx ∧ (j < i ∨ ¬ ltO act (elt ys a) (elt ys j)))
        case first =>
          go_wp2_with fail
          go_loopw [12] (fun s wr => ∃ j : Nat, s = .int .i64 j ∧ j ≤ j0 ∧ EInv act a b i j ys ∧ Srt W0 g rest ys wr) (fun s _ => (intOf s).toNat)
          case atStart => exact ⟨j0, rfl, Nat.le_refl _, KA.out, S1.out⟩
          case round =>
            obtain ⟨j, rfl, hjj, hinv, hsr⟩ := hrel
            have z1 := hinv.i1
            have z2 := hinv.ij
            have z3 := hinv.jb
            have z4 := hinv.aj
            have KI := Lib.hid hinv
            have KS := Lib.hid hsr
            clear hinv hsr
            by_cases hij : i ≤ j
            · have t1 : (i : Int) ≤ (j : Int) := by omega
              have lx : (a : Int) < n := by omega
              have ly : (j : Int) < n := by omega
              have ix : a < ys.length := by rw [hyl.out]; omega
              have iy : j < ys.length := by rw [hyl.out]; omega
              have IX := Lib.hid ix; have IY := Lib.hid iy
              clear ix iy
              have q1 := fun u : Gr wr => u.srt KS.out IX.out
              have q2 := fun u : Gr wr => u.srt KS.out IY.out
              generalize ho : ordI act (elt ys a) (elt ys j) = o
              have HO := Lib.hid ho
              clear ho
              by_cases hs : o < 0
              · have hsd : decide (o < 0) = true := decide_eq_true hs
                go_wp2_with fail
                refine wp_region_grow (by kernel_rfl) (by kernel_rfl) ?_
                repeat (go_big_quiet_step (((go_at_call 41; exact HC.out.gr KS.out _ (DY.out.at_ IX.out) (DY.out.at_ IY.out) HO.out))))
                refine wpQuiet_nil ?_
                intro w2 hb2; replace hb2 := Gr.out hb2
                have S2 := Lib.hid (KS.out.below hb2)
                clear q1 q2 hb2
                go_wp2_with fail
                go_roundw
                case rel => exact ⟨j - 1, congrArg (Value.int .i64) (by omega), by omega, KI.out.stepJ hij (show ordI act _ _ < 0 by rw [HO.out]; exact hs), S2.out⟩
                case measure => simp [intOf]; omega
              · have hsd : decide (o < 0) = false := decide_eq_false hs
                go_wp2_with fail
                refine wp_region_grow (by kernel_rfl) (by kernel_rfl) ?_
                repeat (go_big_quiet_step (((go_at_call 41; exact HC.out.gr KS.out _ (DY.out.at_ IX.out) (DY.out.at_ IY.out) HO.out))))
                refine wpQuiet_nil ?_
                intro w2 hb2; replace hb2 := Gr.out hb2
                have S2 := Lib.hid (KS.out.below hb2)
                clear q1 q2 hb2
                go_wp2_with fail
                go_meet
                exact ⟨j, rfl, hjj, KI.out, S2.out, .inr (show ¬ ordI act _ _ < 0 by rw [HO.out]; omega)⟩
            · have t1 : ¬ (i : Int) ≤ (j : Int) := by omega
              have t2 : decide ((i : Int) ≤ (j : Int)) = false := decide_eq_false t1
              go_wp2_with fail
              refine wp_region_grow (by kernel_rfl) (by kernel_rfl) ?_
              repeat (go_big_quiet_step (fail))
              refine wpQuiet_nil ?_
              intro w2 hb2; replace hb2 := Gr.out hb2
              have S2 := Lib.hid (KS.out.below hb2)
              clear hb2
              go_wp2_with fail
              go_meet
              exact ⟨j, rfl, hjj, KI.out, S2.out, .inl (by omega)⟩
        case rest =>
          obtain ⟨j, rfl, hjj, hinv, hsr, hey⟩ := hcut
          have z1 := hinv.i1
          have z2 := hinv.ij
          have z3 := hinv.jb
          have z4 := hinv.aj
          have KI := Lib.hid hinv
          have KS := Lib.hid hsr
          have EY := Lib.hid hey
          clear hinv hsr hey KA S1
          by_cases hji : j < i
          · have t1 : (j : Int) < (i : Int) := by omega
            go_wp2_with fail
            go_ret
            exact ⟨ys, i, rfl, KS.out, SEG0.out, by rw [← PIV.out]; exact KI.out.done hji⟩
          · have t1 : ¬ (j : Int) < (i : Int) := by omega
            have nlt : ltO act (elt ys a) (elt ys i) := EX.out.resolve_left (by omega)
            have ltj : ¬ ltO act (elt ys a) (elt ys j) := EY.out.resolve_left hji
            have hne : i ≠ j := fun e => by subst e; exact ltj nlt
            have KSW := Lib.hid (KI.out.swap (by omega) nlt ltj (by rw [hyl.out]; omega))
            have SEG1 : Hid (Seg a b zs0 (swp ys i j)) := SEG0.out.trans (Seg.swp _ (by omega) (by omega) (by rw [hyl.out]; omega))
            have PIV1 : Hid (elt (swp ys i j) a = elt zs0 pv) := by
              show elt (swp ys i j) a = elt zs0 pv
              rw [(KI.out.pivot (by rw [hyl.out]; omega)).resolve_right (by omega)]; exact PIV.out
            have ii : i < ys.length := by rw [hyl.out]; omega
            have ij : j < ys.length := by rw [hyl.out]; omega
            have II := Lib.hid ii; have IJ := Lib.hid ij
            have li : (i : Int) < n := by omega
            have lj : (j : Int) < n := by omega
            clear nlt ltj ii ij EX EY
            have c1 := KS.out.cell II.out
            have c2 := KS.out.cell IJ.out
            have f1 : wc.frozen? ⟨g, i, none⟩ = false := KS.out.frozen _
            have f2 : wc.frozen? ⟨g, j, none⟩ = false := KS.out.frozen _
            have n2 : j ≠ i := fun e => hne e.symm
            go_wp2_with fail
            go_region
            go_wp2_with fail
            go_roundw
            case rel => exact ⟨i + 1, j - 1, swp ys i j, by go_num, congrArg (Value.int .i64) (by omega), KSW.out, (KS.out.swp II.out IJ.out).drew, SEG1.out, PIV1.out⟩
            case measure => simp [intOf]; omega

end Go.Proofs.Ythfadkilffmmlaa
