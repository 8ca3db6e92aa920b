/-
  The reference's unlike. No condition.
-/
import Derived.Test.YtenpenelikpeeaaF1
namespace Go.Proofs.Ytenpenelikpeeaa
open Go.RowKit Go.Shelf
set_option linter.unusedVariables false
set_option linter.unusedSimpArgs false

/-- the variable of a literal, as int64 has it -/
def vW (y : Int) : Int := max y (wrap64 (-y))
theorem vW_in {y : Int} (h0 : -65536 ≤ y) (h1 : y ≤ 65536) : vW y = absI y := by unfold vW; rw [lit_neg' h0 h1]; unfold absI; split <;> omega
theorem vW_out {y : Int} (h0 : -9223372036854775808 ≤ y) (h1 : y ≤ 9223372036854775807) (h : y < -65536 ∨ 65536 < y) : vW y < 1 ∨ 65536 < vW y := by
  unfold vW wrap64; omega
theorem wfI_bd {y : Int} (h : wfI y = true) : -9223372036854775808 ≤ y ∧ y ≤ 9223372036854775807 := by
  have a : IntKind.i64.min = -9223372036854775808 := by decide
  have b : IntKind.i64.max = 9223372036854775807 := by decide
  unfold wfI Lit.wf at h; simp [a, b] at h; omega
theorem vW_isB {x y : Int} (hx : x ≤ 65536) (hw : wfI y = true) : isB y x = true ↔ 1 ≤ vW y ∧ vW y ≤ x := by
  obtain ⟨h0, h1⟩ := wfI_bd hw
  rw [isB_iff]
  by_cases hin : -65536 ≤ y ∧ y ≤ 65536
  · rw [vW_in hin.1 hin.2]; unfold absI; split <;> omega
  · have := vW_out h0 h1 (by omega)
    constructor
    · intro h; omega
    · intro h; omega

set_option maxHeartbeats 400000 in
theorem var20_w (y : Int) (w : World) : Calls Try.prog 76 #[.int .i64 y] w fun e w' => e = .returned (.int .i64 (vW y)) ∧ w = w' := by
  go_enter Try.func76, Try.ntmps76
  go_wp2
  go_ret
  exact ⟨rfl, rfl⟩
theorem var20_wv (r y : Int) (w : World) (h : vW y = r) : Calls Try.prog 76 #[.int .i64 y] w fun e w' => e = .returned (.int .i64 r) ∧ w = w' := by
  have := var20_w y w
  rw [h] at this; exact this
set_option maxHeartbeats 400000 in
theorem variable_w (y : Int) (w : World) : Calls Try.prog 46 #[.int .i64 y] w fun e w' => e = .returned (.int .i64 (vW y)) ∧ w = w' := by
  go_enter Try.func46, Try.ntmps46
  go_wp2
  go_ret
  exact ⟨rfl, rfl⟩

set_option maxRecDepth 100000 in
set_option maxHeartbeats 4000000 in
theorem unlike_val (rr : Bool) (A : Option Addr) (n c : Nat) (l : List Int) (x : Int) (w : World) (h : RI w A n c l) (hw : Wfl l) (h0 : 0 ≤ x) (h1 : x ≤ 65536) (hrr : unlB x l = rr) :
    Calls Try.prog 51 #[.slice A n c, .int .i64 x] w fun e w' => e = .returned (.bool rr) ∧ Below w.heap.size w w' := by
  have hn := h.small
  have hcap := h.cap
  have hcm := h.cmax
  unfold maxLen at hcm
  have H := Lib.hid h
  have HW := Lib.hid hw
  have HRR := Lib.hid hrr
  clear h hw hrr
  go_enter Try.func51, Try.ntmps51
  go_wp2
  go_loopw [5] (fun s5 W => ∃ k : Nat, k ≤ n ∧ s5 = .int .i64 k ∧ unlTo x l k = true ∧ Below w.heap.size w W) (fun s5 _ => n - (intOf s5).toNat)
  case atStart => exact ⟨0, Nat.zero_le _, rfl, rfl, Below.refl _ _⟩
  case round =>
    obtain ⟨k, hk, rfl, hun, hb⟩ := hrel
    have HU := Lib.hid hun
    have HB := Lib.hid hb
    clear hun hb
    by_cases hlt : k < n
    · have HR := Lib.hid (H.out.below HB.out)
      have hl : k < l.length := by rw [H.out.len]; exact hlt
      have hwy : wfI (elt l k) = true := HW.out _ (elt_mem hl)
      have HT := Lib.hid ((HR.out).take (k := k) (by omega))
      obtain ⟨b, off, rfl, hb, hc⟩ := HR.out.cells (by omega)
      have hck := hc k hlt
      have E1 : Hid (unlTo x l (k + 1) = unl x (l.take k) (elt l k)) := Lib.hid (by rw [unlTo_succ, HU.out, Bool.true_and])
      have E2 : Hid (unl x (l.take k) (elt l k) = false → unlB x l = false) := Lib.hid (fun e => unlB_no hl e)
      have hvi := vW_isB (x := x) h1 hwy
      clear hc hl
      obtain ⟨y, hy⟩ : ∃ y, elt l k = y := ⟨_, rfl⟩
      obtain ⟨pre, hpre⟩ : ∃ pre, l.take k = pre := ⟨_, rfl⟩
      rw [hy] at hck E1 E2 hvi hwy
      rw [hpre] at HT E1 E2
      clear hy hpre
      have d0 : (0 : Int) ≤ (k : Int) := by omega
      have d1 : (k : Int) < (n : Int) := by omega
      have d2 : (k : Int) ≤ (c : Int) := by omega
      have d3 : decide (k < n) = true := by simpa using hlt
      go_upto_region 4 with fail
      have g0 := fun u : Gr wr => u.cell (p := ⟨b, off + k, none⟩) hb hck
      obtain ⟨v, hv⟩ : ∃ v, vW y = v := ⟨_, rfl⟩
      have HV := Lib.hid hv
      rw [hv] at hvi
      clear hv
      cases hib : isB y x with
      | false =>
        have hno : v < 1 ∨ x < v := by
          rcases Int.lt_or_le v 1 with h2 | h2
          · exact Or.inl h2
          · rcases Int.lt_or_le x v with h3 | h3
            · exact Or.inr h3
            · rw [hvi.2 ⟨by omega, by omega⟩] at hib; cases hib
        have E3 := Lib.hid (E2.out (by unfold unl; rw [hib]; rfl))
        clear hvi hib
        by_cases hv1 : v < 1
        · clear hno
          refine wp_region_grow (by kernel_rfl) (by kernel_rfl) ?_
          repeat (go_big_quiet_step ((go_at_call 76; exact Gr.same _ (var20_wv v y _ HV.out))))
          refine wpQuiet_nil ?_
          rintro w7 ⟨⟨_, hb7⟩, rfl⟩
          have HB7 := Lib.hid (HB.out.trans (hb7.mono HB.out.size))
          clear hb7 g0
          go_wp2_with fail
          go_ret
          exact ⟨ret_bool (by rw [← HRR.out, E3.out]), HB7.out⟩
        · have hv2 : x < v := by omega
          have hv3 : ¬ v < 1 := hv1
          have hv4 : decide (v < 1) = false := by simpa using hv1
          clear hno
          refine wp_region_grow (by kernel_rfl) (by kernel_rfl) ?_
          repeat (go_big_quiet_step ((go_at_call 76; exact Gr.same _ (var20_wv v y _ HV.out))))
          refine wpQuiet_nil ?_
          rintro w7 ⟨⟨_, hb7⟩, rfl⟩
          have HB7 := Lib.hid (HB.out.trans (hb7.mono HB.out.size))
          clear hb7 g0
          go_wp2_with fail
          go_ret
          exact ⟨ret_bool (by rw [← HRR.out, E3.out]), HB7.out⟩
      | true =>
        obtain ⟨hv1, hv2⟩ := hvi.1 hib
        have hbb := isB_iff.1 hib
        have hneg := lit_neg' (x := y) (by omega) (by omega)
        have ww : IntKind.i64.wrap (-y) = -y := IntWalk.i64_in _ (by omega)
        have hv3 : ¬ v < 1 := by omega
        have hv4 : decide (v < 1) = false := by simpa using hv1
        have hv5 : decide (x < v) = false := by simpa using hv2
        clear hbb hvi
        cases h2 : hasB pre y with
        | true =>
          have E3 := Lib.hid (E2.out (by unfold unl; rw [hib, h2]; rfl))
          have Z2 := Lib.hid h2
          clear hib h2
          refine wp_region_grow (by kernel_rfl) (by kernel_rfl) ?_
          repeat (go_big_quiet_step ((first | (go_at_call 76; exact Gr.same _ (var20_wv v y _ HV.out)) | (go_at_call 74; exact Gr.same _ (has20_val true (some ⟨b, off, none⟩) k c pre y _ (HT.out.below (Gr.ok _)) Z2.out)))))
          refine wpQuiet_nil ?_
          rintro w7 ⟨⟨_, hb7⟩, rfl⟩
          have HB7 := Lib.hid (HB.out.trans (hb7.mono HB.out.size))
          clear hb7 g0
          go_wp2_with fail
          go_ret
          exact ⟨ret_bool (by rw [← HRR.out, E3.out]), HB7.out⟩
        | false =>
          have Z2 := Lib.hid h2
          cases h3 : hasB pre (-y) with
          | true =>
            have E3 := Lib.hid (E2.out (by unfold unl; rw [hib, h2, h3]; rfl))
            have Z3 := Lib.hid h3
            clear hib h2 h3
            refine wp_region_grow (by kernel_rfl) (by kernel_rfl) ?_
            repeat (go_big_quiet_step ((first | (go_at_call 76; exact Gr.same _ (var20_wv v y _ HV.out)) | (go_at_call 74; exact Gr.same _ (has20_val _ (some ⟨b, off, none⟩) k c pre _ _ (HT.out.below (Gr.ok _)) (by first | exact Z2.out | exact Z3.out))))))
            refine wpQuiet_nil ?_
            rintro w7 ⟨⟨_, hb7⟩, rfl⟩
            have HB7 := Lib.hid (HB.out.trans (hb7.mono HB.out.size))
            clear hb7 g0
            go_wp2_with fail
            go_ret
            exact ⟨ret_bool (by rw [← HRR.out, E3.out]), HB7.out⟩
          | false =>
            have E3 : Hid (unlTo x l (k + 1) = true) := Lib.hid (by rw [E1.out]; unfold unl; rw [hib, h2, h3]; rfl)
            have Z3 := Lib.hid h3
            clear hib h2 h3
            refine wp_region_grow (by kernel_rfl) (by kernel_rfl) ?_
            repeat (go_big_quiet_step ((first | (go_at_call 76; exact Gr.same _ (var20_wv v y _ HV.out)) | (go_at_call 74; exact Gr.same _ (has20_val false (some ⟨b, off, none⟩) k c pre _ _ (HT.out.below (Gr.ok _)) (by first | exact Z2.out | exact Z3.out))))))
            refine wpQuiet_nil ?_
            rintro w7 ⟨⟨_, hb7⟩, rfl⟩
            have HB7 := Lib.hid (HB.out.trans (hb7.mono HB.out.size))
            clear hb7 g0 ww
            go_wp2_with fail
            go_roundw
            case rel => exact ⟨k + 1, by omega, by go_num, E3.out, HB7.out⟩
            case measure => simp [intOf]; omega
    · obtain rfl : k = n := by omega
      have E : Hid (unlB x l = true) := Lib.hid (by unfold unlB; rw [H.out.len]; exact HU.out)
      go_wp2_with fail
      go_ret
      exact ⟨ret_bool (by rw [← HRR.out, E.out]), HB.out⟩

end Go.Proofs.Ytenpenelikpeeaa
