/-
  The reference functions goes and Subsume. No condition.
-/
import Derived.Test.YtalcnkoidmoibaaE1
namespace Go.Proofs.Ytalcnkoidmoibaa
open Go.RowKit Go.Shelf
set_option linter.unusedVariables false
set_option linter.unusedSimpArgs false

theorem subR_val (r : Bool) (A : Option Addr) (n c : Nat) (zs : List Int) (A' : Option Addr) (n' c' : Nat) (zs' : List Int) (w : World) (h : RI w A n c zs) (h' : RI w A' n' c' zs') (hr : subB zs zs' = r) :
    Calls Try.prog 74 #[.slice A n c, .slice A' n' c'] w fun e w' => e = .returned (.bool r) ∧ Below w.heap.size w w' :=
  (subsumesR_any A n c zs A' n' c' zs' w h h').mono fun _ _ h => by rw [hr] at h; exact ⟨h.1, by rw [← h.2]; exact Below.refl _ _⟩

theorem goes_at {ls : List (List Int)} {i j : Nat} (hj : j < ls.length) (h : goB ls i j = true) : goesB ls i = true := by
  unfold goesB
  exact goesTo_mono (j := j + 1) (by omega) (by rw [goesTo_succ, h, Bool.or_true])

set_option maxHeartbeats 2000000 in
theorem goes_any (A : Option Addr) (n c : Nat) (ls : List (List Int)) (i : Nat) (w : World) (h : RL w A n c ls) (hi : i < n) :
    Calls Try.prog 46 #[.slice A n c, .int .i64 i] w fun e w' => e = .returned (.bool (goesB ls i)) ∧ Below w.heap.size w w' := by
  have hn := h.small
  have H := Lib.hid h
  clear h
  go_enter Try.func46, Try.ntmps46
  go_wp2
  go_loopw [5] (fun s W => ∃ k : Nat, k ≤ n ∧ s = .int .i64 k ∧ goesTo ls i k = false ∧ Below w.heap.size w W) (fun i _ => n - (intOf i).toNat)
  case atStart => exact ⟨0, Nat.zero_le _, rfl, rfl, Below.refl _ _⟩
  case round =>
    obtain ⟨k, hk, rfl, hno, hbl⟩ := hrel
    have HN := Lib.hid hno
    have HB := Lib.hid hbl
    clear hno hbl
    by_cases hlt : k < n
    · obtain ⟨b, off, rfl, hb, hc⟩ := (H.out.below HB.out).cells (by omega)
      obtain ⟨a1, n1, c1, hck, hr1⟩ := hc k hlt
      obtain ⟨a2, n2, c2, hci, hr2⟩ := hc i hi
      clear hc
      have hl1 : (k : Int) < (n : Int) := by omega
      have hl2 : (i : Int) < (n : Int) := by omega
      have R1 := Lib.hid hr1
      have R2 := Lib.hid hr2
      clear hr1 hr2
      have gk := fun u : Gr wr => u.cell (p := ⟨b, off + k, none⟩) hb hck
      have gi := fun u : Gr wr => u.cell (p := ⟨b, off + i, none⟩) hb hci
      clear hck hci
      have hsu := goesTo_succ ls i k
      rw [HN.out, Bool.false_or] at hsu
      have hat := @goes_at ls i k (by rw [H.out.len]; exact hlt)
      have hgo : goB ls i k = (((k : Int) != (i : Int)) && subB (ell ls k) (ell ls i) && (decide ((k : Int) < (i : Int)) || !(subB (ell ls i) (ell ls k)))) := rfl
      by_cases hki : k = i
      · have hne : ((k : Int) != (i : Int)) = false := by rw [hki]; simp
        have E : Hid (goesTo ls i (k + 1) = false) := Lib.hid (by rw [hsu, hgo, hne]; rfl)
        clear hsu hat hgo hki
        go_wp2_with fail
        refine wp_region_grow (by kernel_rfl) (by kernel_rfl) ?_
        repeat (go_big_quiet_step (fail))
        refine wpQuiet_nil ?_
        rintro _ ⟨⟨w2, hb2⟩, rfl⟩
        go_wp2_with fail
        go_roundw
        case rel => exact ⟨k + 1, by omega, by go_num, E.out, HB.out.trans (hb2.mono HB.out.size)⟩
        case measure => simp [intOf]; omega
      · have hne : ((k : Int) != (i : Int)) = true := by rw [bne_iff_ne]; omega
        generalize ho : subB (ell ls k) (ell ls i) = o
        rw [hne, ho] at hgo
        have HO := Lib.hid ho
        clear ho
        cases o
        · have E : Hid (goesTo ls i (k + 1) = false) := Lib.hid (by rw [hsu, hgo]; rfl)
          clear hsu hat hgo
          go_wp2_with fail
          refine wp_region_grow (by kernel_rfl) (by kernel_rfl) ?_
          repeat (go_big_quiet_step ((go_at_call 74; exact Gr.call _ (subR_val false _ _ _ _ _ _ _ _ _ (R1.out.below (Gr.ok _)) (R2.out.below (Gr.ok _)) HO.out))))
          refine wpQuiet_nil ?_
          rintro _ ⟨⟨w2, hb2⟩, rfl⟩
          go_wp2_with fail
          go_roundw
          case rel => exact ⟨k + 1, by omega, by go_num, E.out, HB.out.trans (hb2.mono HB.out.size)⟩
          case measure => simp [intOf]; omega
        · by_cases hlti : k < i
          · have hdl : decide ((k : Int) < (i : Int)) = true := by simpa using hlti
            have E : Hid (goesB ls i = true) := Lib.hid (hat (by rw [hgo, hdl]; rfl))
            clear hsu hat hgo
            go_wp2_with fail
            refine wp_region_grow (by kernel_rfl) (by kernel_rfl) ?_
            repeat (go_big_quiet_step ((go_at_call 74; exact Gr.call _ (subR_val true _ _ _ _ _ _ _ _ _ (R1.out.below (Gr.ok _)) (R2.out.below (Gr.ok _)) HO.out))))
            refine wpQuiet_nil ?_
            rintro _ ⟨⟨w2, hb2⟩, rfl⟩
            go_wp2_with fail
            go_ret
            exact ⟨ret_bool E.out.symm, HB.out.trans (hb2.mono HB.out.size)⟩
          · have hdl : decide ((k : Int) < (i : Int)) = false := by simpa using hlti
            generalize ho2 : subB (ell ls i) (ell ls k) = o2
            rw [hdl, ho2] at hgo
            have HO2 := Lib.hid ho2
            clear ho2
            cases o2
            · have E : Hid (goesB ls i = true) := Lib.hid (hat (by rw [hgo]; rfl))
              clear hsu hat hgo
              go_wp2_with fail
              refine wp_region_grow (by kernel_rfl) (by kernel_rfl) ?_
              repeat (go_big_quiet_step ((go_at_call 74; first | exact Gr.call _ (subR_val true _ _ _ _ _ _ _ _ _ (R1.out.below (Gr.ok _)) (R2.out.below (Gr.ok _)) HO.out) | exact Gr.call _ (subR_val false _ _ _ _ _ _ _ _ _ (R2.out.below (Gr.ok _)) (R1.out.below (Gr.ok _)) HO2.out))))
              refine wpQuiet_nil ?_
              rintro _ ⟨⟨w2, hb2⟩, rfl⟩
              go_wp2_with fail
              go_ret
              exact ⟨ret_bool E.out.symm, HB.out.trans (hb2.mono HB.out.size)⟩
            · have E : Hid (goesTo ls i (k + 1) = false) := Lib.hid (by rw [hsu, hgo]; rfl)
              clear hsu hat hgo
              go_wp2_with fail
              refine wp_region_grow (by kernel_rfl) (by kernel_rfl) ?_
              repeat (go_big_quiet_step ((go_at_call 74; first | exact Gr.call _ (subR_val true _ _ _ _ _ _ _ _ _ (R1.out.below (Gr.ok _)) (R2.out.below (Gr.ok _)) HO.out) | exact Gr.call _ (subR_val true _ _ _ _ _ _ _ _ _ (R2.out.below (Gr.ok _)) (R1.out.below (Gr.ok _)) HO2.out))))
              refine wpQuiet_nil ?_
              rintro _ ⟨⟨w2, hb2⟩, rfl⟩
              go_wp2_with fail
              go_roundw
              case rel => exact ⟨k + 1, by omega, by go_num, E.out, HB.out.trans (hb2.mono HB.out.size)⟩
              case measure => simp [intOf]; omega
    · have hf : goesB ls i = false := by
        have := HN.out
        unfold goesB
        rw [H.out.len, ← show k = n by omega]; exact this
      have HF := Lib.hid hf
      clear hf
      go_wp2
      go_ret
      exact ⟨ret_bool HF.out.symm, HB.out⟩

theorem goes_val (r : Bool) (A : Option Addr) (n c : Nat) (ls : List (List Int)) (i : Nat) (w : World) (h : RL w A n c ls) (hi : i < n) (hr : goesB ls i = r) :
    Calls Try.prog 46 #[.slice A n c, .int .i64 i] w fun e w' => e = .returned (.bool r) ∧ Below w.heap.size w w' := by
  have := goes_any A n c ls i w h hi
  rw [hr] at this
  exact this

end Go.Proofs.Ytalcnkoidmoibaa
