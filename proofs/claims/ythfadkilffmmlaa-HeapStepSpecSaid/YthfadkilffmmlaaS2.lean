/-
  Contracts of the library's siftDown and heapSort over the order of the queue. No condition.
-/
import Derived.Test.YthfadkilffmmlaaS1
import Derived.Test.YthfadkilffmmlaaGrow
namespace Go.Proofs.Ythfadkilffmmlaa
open Go.RowKit
set_option linter.unusedVariables false
set_option linter.unusedSimpArgs false

theorem Gr.srt {W0 W : World} {g : Nat} {rest : List Value} {zs : List Int} (h : Srt W0 g rest zs W) {j : Nat} (hj : j < zs.length) (u : Gr W) : u.val.cell? ⟨g, j, none⟩ = some (.int .i64 (elt zs j)) := (h.below u.ok).cell hj
theorem Cx.gr {W0 W : World} {g B : Nat} {act : List Int} (C : Cx W0 g B act) {rest : List Value} {zs : List Int} (h : Srt W0 g rest zs W) (u : Gr W) {x y : Int} (hx : 0 ≤ x ∧ x < act.length) (hy : 0 ≤ y ∧ y < act.length) {o : Int} (ho : ordI act x y = o) :
    Calls Try.prog 41 #[.pointer (some ⟨B, 0, none⟩), .int .i64 x, .int .i64 y] u.val fun e w' => e = .returned (.int .i64 o) ∧ ∃ u' : Gr W, w' = u'.val :=
  Gr.call u ((C.cmp (h.below u.ok).grown hx hy).mono fun e w' hh => ⟨hh.1.trans (by rw [ho]), hh.2⟩)

theorem wr64 (x : Nat) (h : x ≤ 9223372036854775807) : IntKind.i64.wrap (x : Int) = x := by rw [IntKind.wrap_i64]; omega

def SiftsTo (act : List Int) (f lo hi : Nat) (W0 : World) (g : Nat) (rest : List Value) (zs : List Int) (e : Ending) (W : World) : Prop :=
  ∃ zs', e = .returned (.tuple #[]) ∧ Srt W0 g rest zs' W ∧ Seg f (f + hi) zs zs' ∧ HeapAt act f lo hi zs'

set_option maxHeartbeats 4000000 in
theorem sift_any (W0 : World) (g B : Nat) (act : List Int) (C : Cx W0 g B act) (rest : List Value) (zs0 : List Int) (hd : Dom act.length zs0) (n c0 lo hi f : Nat) (W : World) (hS : Srt W0 g rest zs0 W) (hn : zs0.length = n) (hbig : n ≤ 1000000) (hfn : f + hi ≤ n) (hlo : lo ≤ n)
    (hh : HeapAt act f (lo + 1) hi zs0) :
    Calls Try.prog 69 #[.slice (some ⟨g, 0, none⟩) n c0, .int .i64 lo, .int .i64 hi, .int .i64 f, fvO B] W (SiftsTo act f lo hi W0 g rest zs0) := by
  have HC := Lib.hid C
  have HD := Lib.hid hd
  have HS := Lib.hid hS
  have HN := Lib.hid hn
  have HH := Lib.hid hh
  clear C hd hS hn hh
  go_enter Try.func69, Try.ntmps69
  go_wp2_with fail
  go_loopw [10, 11] (fun s10 _ wr => ∃ (r : Nat) (ys : List Int), s10 = .int .i64 r ∧ lo ≤ r ∧ r ≤ n ∧ Srt W0 g rest ys wr ∧ Seg f (f + hi) zs0 ys ∧ Sift act f lo hi r ys) (fun s10 _ _ => n + 1 - (intOf s10).toNat)
  case atStart => exact ⟨lo, zs0, rfl, Nat.le_refl _, hlo, HS.out, Seg.refl _ _ _, Sift.start HH.out⟩
  case round =>
    obtain ⟨r, ys, rfl, hr1, hr2, hS, hG, hI⟩ := hrel
    have K1 := Lib.hid hS
    have K2 := Lib.hid hG
    have K3 := Lib.hid hI
    have hyl : Hid (ys.length = n) := by have := hG.len; rw [HN.out] at this; exact this
    clear hS hG hI
    by_cases hch : hi ≤ 2 * r + 1
    · have h1 : (hi : Int) ≤ 2 * (r : Int) + 1 := by omega
      go_wp2_with fail
      go_end0
      exact ⟨ys, rfl, K1.out, K2.out, K3.out.leaf hch⟩
    · have h1 : ¬ (hi : Int) ≤ 2 * (r : Int) + 1 := by omega
      obtain ⟨c, hc⟩ : ∃ c, c = 2 * r + 1 := ⟨_, rfl⟩
      obtain ⟨d, hdd⟩ : ∃ d, d = 2 * r + 2 := ⟨_, rfl⟩
      obtain ⟨x, hx⟩ : ∃ x, x = f + c := ⟨_, rfl⟩
      obtain ⟨z, hz⟩ : ∃ z, z = f + d := ⟨_, rfl⟩
      obtain ⟨v, hv⟩ : ∃ v, v = f + r := ⟨_, rfl⟩
      have e1 : 2 * (r : Int) + 1 = (c : Int) := by omega
      have e2 : (f : Int) + (c : Int) = (x : Int) := by omega
      have e3 : (c : Int) + 1 = (d : Int) := by omega
      have e4 : (x : Int) + 1 = (z : Int) := by omega
      have e5 : (f : Int) + (r : Int) = (v : Int) := by omega
      have e6 : (f : Int) + (d : Int) = (z : Int) := by omega
      have k1 := wr64 c (by omega)
      have k2 := wr64 d (by omega)
      have k3 := wr64 x (by omega)
      have k4 := wr64 z (by omega)
      have k5 := wr64 v (by omega)
      have l1 : (x : Int) < n := by omega
      have l2 : (v : Int) < n := by omega
      have hyd := HD.out.seg K2.out
      by_cases hd2 : d < hi
      · have t1 : (d : Int) < hi := by omega
        have l3 : (z : Int) < n := by omega
        have HX := Lib.hid hx; have HZ := Lib.hid hz; have HV := Lib.hid hv; have HCc := Lib.hid hc; have HDd := Lib.hid hdd
        have i1 : x < ys.length := by rw [hyl.out]; omega
        have i2 : z < ys.length := by rw [hyl.out]; omega
        have i3 : v < ys.length := by rw [hyl.out]; omega
        have A1 := Lib.hid (hyd.at_ i1)
        have A2 := Lib.hid (hyd.at_ i2)
        have A3 := Lib.hid (hyd.at_ i3)
        have I1 := Lib.hid i1; have I2 := Lib.hid i2; have I3 := Lib.hid i3
        clear hc hdd hx hz hv hyd i1 i2 i3
        generalize ho : ordI act (elt ys x) (elt ys z) = o
        have HO := Lib.hid ho
        clear ho
        have q1 := fun u : Gr wr => u.srt K1.out I1.out
        have q2 := fun u : Gr wr => u.srt K1.out I2.out
        go_wp2_with fail
        refine wp_region_grow (by kernel_rfl) (by kernel_rfl) ?_
        repeat (go_big_quiet_step ((go_at_call 41; exact HC.out.gr K1.out _ A1.out A2.out HO.out)))
        refine wpQuiet_nil ?_
        intro w2 hb2; replace hb2 := Gr.out hb2
        have S2 := Lib.hid (K1.out.below hb2)
        clear q1 q2 hb2
        by_cases hb : o < 0
        · have hlt : ltO act (elt ys x) (elt ys z) := by show ordI act _ _ < 0; rw [HO.out]; exact hb
          have HLT := Lib.hid hlt
          clear hlt
          generalize ho2 : ordI act (elt ys v) (elt ys z) = o2
          have HO2 := Lib.hid ho2
          clear ho2
          by_cases hs : o2 < 0
          · have hsd : decide (o2 < 0) = true := decide_eq_true hs
            have hse : decide (0 ≤ o2) = false := decide_eq_false (by omega)
            have q3 := fun u : Gr w2 => u.srt S2.out I3.out
            have q4 := fun u : Gr w2 => u.srt S2.out I2.out
            go_wp2_with fail
            refine wp_region_grow (by kernel_rfl) (by kernel_rfl) ?_
            repeat (go_big_quiet_step ((go_at_call 41; exact HC.out.gr S2.out _ A3.out A2.out HO2.out)))
            refine wpQuiet_nil ?_
            intro w3 hb3; replace hb3 := Gr.out hb3
            have S3 := Lib.hid (S2.out.below hb3)
            clear q3 q4 hb3
            have GT : Hid (Great act f hi r d ys) := by rw [HDd.out]; exact Great.second (by have := HDd.out; omega) (by have := HLT.out; rw [HX.out, HZ.out, HCc.out, HDd.out] at this; exact this)
            have c1 := S3.out.cell I3.out
            have c2 := S3.out.cell I2.out
            have f1 : w3.frozen? ⟨g, v, none⟩ = false := S3.out.frozen _
            have f2 : w3.frozen? ⟨g, z, none⟩ = false := S3.out.frozen _
            have n1 : v ≠ z := by have := HZ.out; have := HV.out; have := HCc.out; have := HDd.out; omega
            have n2 : z ≠ v := fun e => n1 e.symm
            go_wp2_with fail
            go_region
            go_wp2_with fail
            go_roundw
            case rel =>
              refine ⟨d, swp ys v z, rfl, by have := HCc.out; have := HDd.out; omega, by have := HCc.out; have := HDd.out; omega, (S3.out.swp I3.out I2.out).drew, K2.out.trans (Seg.swp _ (by have := HV.out; omega) (by have := HZ.out; have := HCc.out; have := HDd.out; omega) (by rw [hyl.out]; omega)), ?_⟩
              rw [HV.out, HZ.out]
              refine K3.out.step GT.out ?_ hr1 (by rw [hyl.out]; omega)
              rw [← HV.out, ← HZ.out]
              show ordI act _ _ < 0
              rw [HO2.out]; exact hs
            case measure => have := HCc.out; have := HDd.out; simp [intOf]; omega
          · have hsd : decide (o2 < 0) = false := decide_eq_false hs
            have hse : decide (0 ≤ o2) = true := decide_eq_true (by omega)
            have q3 := fun u : Gr w2 => u.srt S2.out I3.out
            have q4 := fun u : Gr w2 => u.srt S2.out I2.out
            go_wp2_with fail
            refine wp_region_grow (by kernel_rfl) (by kernel_rfl) ?_
            repeat (go_big_quiet_step ((go_at_call 41; exact HC.out.gr S2.out _ A3.out A2.out HO2.out)))
            refine wpQuiet_nil ?_
            intro w3 hb3; replace hb3 := Gr.out hb3
            have S3 := Lib.hid (S2.out.below hb3)
            clear q3 q4 hb3
            have GT : Hid (Great act f hi r d ys) := by rw [HDd.out]; exact Great.second (by have := HDd.out; omega) (by have := HLT.out; rw [HX.out, HZ.out, HCc.out, HDd.out] at this; exact this)
            go_wp2_with fail
            (try simp only [Exit.inBlock, Exit.then])
            refine bodyPost_ret (results_none rfl _ _ _) rfl ?_
            refine ⟨ys, rfl, S3.out, K2.out, K3.out.stop GT.out ?_⟩
            rw [← HV.out, ← HZ.out]
            show ¬ ordI act _ _ < 0
            rw [HO2.out]; omega
        · have hlt : ¬ ltO act (elt ys x) (elt ys z) := by show ¬ ordI act _ _ < 0; rw [HO.out]; exact hb
          have HLT := Lib.hid hlt
          clear hlt
          generalize ho2 : ordI act (elt ys v) (elt ys x) = o2
          have HO2 := Lib.hid ho2
          clear ho2
          by_cases hs : o2 < 0
          · have hsd : decide (o2 < 0) = true := decide_eq_true hs
            have hse : decide (0 ≤ o2) = false := decide_eq_false (by omega)
            have q3 := fun u : Gr w2 => u.srt S2.out I3.out
            have q4 := fun u : Gr w2 => u.srt S2.out I1.out
            go_wp2_with fail
            refine wp_region_grow (by kernel_rfl) (by kernel_rfl) ?_
            repeat (go_big_quiet_step ((go_at_call 41; exact HC.out.gr S2.out _ A3.out A1.out HO2.out)))
            refine wpQuiet_nil ?_
            intro w3 hb3; replace hb3 := Gr.out hb3
            have S3 := Lib.hid (S2.out.below hb3)
            clear q3 q4 hb3
            have GT : Hid (Great act f hi r c ys) := by rw [HCc.out]; exact Great.first (by omega) (by have := HLT.out; rw [HX.out, HZ.out, HCc.out, HDd.out] at this; exact this)
            have c1 := S3.out.cell I3.out
            have c2 := S3.out.cell I1.out
            have f1 : w3.frozen? ⟨g, v, none⟩ = false := S3.out.frozen _
            have f2 : w3.frozen? ⟨g, x, none⟩ = false := S3.out.frozen _
            have n1 : v ≠ x := by have := HX.out; have := HV.out; have := HCc.out; have := HDd.out; omega
            have n2 : x ≠ v := fun e => n1 e.symm
            go_wp2_with fail
            go_region
            go_wp2_with fail
            go_roundw
            case rel =>
              refine ⟨c, swp ys v x, rfl, by have := HCc.out; have := HDd.out; omega, by have := HCc.out; have := HDd.out; omega, (S3.out.swp I3.out I1.out).drew, K2.out.trans (Seg.swp _ (by have := HV.out; omega) (by have := HX.out; have := HCc.out; have := HDd.out; omega) (by rw [hyl.out]; omega)), ?_⟩
              rw [HV.out, HX.out]
              refine K3.out.step GT.out ?_ hr1 (by rw [hyl.out]; omega)
              rw [← HV.out, ← HX.out]
              show ordI act _ _ < 0
              rw [HO2.out]; exact hs
            case measure => have := HCc.out; have := HDd.out; simp [intOf]; omega
          · have hsd : decide (o2 < 0) = false := decide_eq_false hs
            have hse : decide (0 ≤ o2) = true := decide_eq_true (by omega)
            have q3 := fun u : Gr w2 => u.srt S2.out I3.out
            have q4 := fun u : Gr w2 => u.srt S2.out I1.out
            go_wp2_with fail
            refine wp_region_grow (by kernel_rfl) (by kernel_rfl) ?_
            repeat (go_big_quiet_step ((go_at_call 41; exact HC.out.gr S2.out _ A3.out A1.out HO2.out)))
            refine wpQuiet_nil ?_
            intro w3 hb3; replace hb3 := Gr.out hb3
            have S3 := Lib.hid (S2.out.below hb3)
            clear q3 q4 hb3
            have GT : Hid (Great act f hi r c ys) := by rw [HCc.out]; exact Great.first (by omega) (by have := HLT.out; rw [HX.out, HZ.out, HCc.out, HDd.out] at this; exact this)
            go_wp2_with fail
            (try simp only [Exit.inBlock, Exit.then])
            refine bodyPost_ret (results_none rfl _ _ _) rfl ?_
            refine ⟨ys, rfl, S3.out, K2.out, K3.out.stop GT.out ?_⟩
            rw [← HV.out, ← HX.out]
            show ¬ ordI act _ _ < 0
            rw [HO2.out]; omega
      · have t1 : ¬ (d : Int) < hi := by omega
        have t2 : decide ((d : Int) < hi) = false := decide_eq_false t1
        have HX := Lib.hid hx; have HZ := Lib.hid hz; have HV := Lib.hid hv; have HCc := Lib.hid hc; have HDd := Lib.hid hdd
        have i1 : x < ys.length := by rw [hyl.out]; omega
        have i3 : v < ys.length := by rw [hyl.out]; omega
        have A1 := Lib.hid (hyd.at_ i1)
        have A3 := Lib.hid (hyd.at_ i3)
        have I1 := Lib.hid i1; have I3 := Lib.hid i3
        clear hc hdd hx hz hv hyd i1 i3
        go_wp2_with fail
        refine wp_region_grow (by kernel_rfl) (by kernel_rfl) ?_
        repeat (go_big_quiet_step (fail))
        refine wpQuiet_nil ?_
        intro w2 hb2; replace hb2 := Gr.out hb2
        have S2 := Lib.hid (K1.out.below hb2)
        clear hb2
        generalize ho2 : ordI act (elt ys v) (elt ys x) = o2
        have HO2 := Lib.hid ho2
        clear ho2
        by_cases hs : o2 < 0
        · have hsd : decide (o2 < 0) = true := decide_eq_true hs
          have hse : decide (0 ≤ o2) = false := decide_eq_false (by omega)
          have q3 := fun u : Gr w2 => u.srt S2.out I3.out
          have q4 := fun u : Gr w2 => u.srt S2.out I1.out
          go_wp2_with fail
          refine wp_region_grow (by kernel_rfl) (by kernel_rfl) ?_
          repeat (go_big_quiet_step ((go_at_call 41; exact HC.out.gr S2.out _ A3.out A1.out HO2.out)))
          refine wpQuiet_nil ?_
          intro w3 hb3; replace hb3 := Gr.out hb3
          have S3 := Lib.hid (S2.out.below hb3)
          clear q3 q4 hb3
          have GT : Hid (Great act f hi r c ys) := by rw [HCc.out]; exact Great.one (by omega) (by have := HDd.out; omega)
          have c1 := S3.out.cell I3.out
          have c2 := S3.out.cell I1.out
          have f1 : w3.frozen? ⟨g, v, none⟩ = false := S3.out.frozen _
          have f2 : w3.frozen? ⟨g, x, none⟩ = false := S3.out.frozen _
          have n1 : v ≠ x := by have := HX.out; have := HV.out; have := HCc.out; have := HDd.out; omega
          have n2 : x ≠ v := fun e => n1 e.symm
          go_wp2_with fail
          go_region
          go_wp2_with fail
          go_roundw
          case rel =>
            refine ⟨c, swp ys v x, rfl, by have := HCc.out; have := HDd.out; omega, by have := HCc.out; have := HDd.out; omega, (S3.out.swp I3.out I1.out).drew, K2.out.trans (Seg.swp _ (by have := HV.out; omega) (by have := HX.out; have := HCc.out; have := HDd.out; omega) (by rw [hyl.out]; omega)), ?_⟩
            rw [HV.out, HX.out]
            refine K3.out.step GT.out ?_ hr1 (by rw [hyl.out]; omega)
            rw [← HV.out, ← HX.out]
            show ordI act _ _ < 0
            rw [HO2.out]; exact hs
          case measure => have := HCc.out; have := HDd.out; simp [intOf]; omega
        · have hsd : decide (o2 < 0) = false := decide_eq_false hs
          have hse : decide (0 ≤ o2) = true := decide_eq_true (by omega)
          have q3 := fun u : Gr w2 => u.srt S2.out I3.out
          have q4 := fun u : Gr w2 => u.srt S2.out I1.out
          go_wp2_with fail
          refine wp_region_grow (by kernel_rfl) (by kernel_rfl) ?_
          repeat (go_big_quiet_step ((go_at_call 41; exact HC.out.gr S2.out _ A3.out A1.out HO2.out)))
          refine wpQuiet_nil ?_
          intro w3 hb3; replace hb3 := Gr.out hb3
          have S3 := Lib.hid (S2.out.below hb3)
          clear q3 q4 hb3
          have GT : Hid (Great act f hi r c ys) := by rw [HCc.out]; exact Great.one (by omega) (by have := HDd.out; omega)
          go_wp2_with fail
          (try simp only [Exit.inBlock, Exit.then])
          refine bodyPost_ret (results_none rfl _ _ _) rfl ?_
          refine ⟨ys, rfl, S3.out, K2.out, K3.out.stop GT.out ?_⟩
          rw [← HV.out, ← HX.out]
          show ¬ ordI act _ _ < 0
          rw [HO2.out]; omega

end Go.Proofs.Ythfadkilffmmlaa
