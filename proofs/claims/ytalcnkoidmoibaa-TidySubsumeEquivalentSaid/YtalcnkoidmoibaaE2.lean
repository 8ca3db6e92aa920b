/-
  The reference's comparison of lists of learnt clauses. No condition.
-/
import Derived.Test.YtalcnkoidmoibaaE1
namespace Go.Proofs.Ytalcnkoidmoibaa
open Go.RowKit Go.Shelf
set_option linter.unusedVariables false
set_option linter.unusedSimpArgs false

def eqv (e e' : Lrn) : Bool := (e.lv == e'.lv) && (e.act == e'.act) && sameB e.r.zs e'.r.zs
theorem eqv_refl (e : Lrn) : eqv e e = true := by simp [eqv, sameB]
def sameTo (a b : List Lrn) (k : Nat) : Bool := (List.range k).all fun i => eqv (lrn a i) (lrn b i)
def sameEs (a b : List Lrn) : Bool := decide (a.length = b.length) && sameTo a b a.length
theorem sameEs_refl (a : List Lrn) : sameEs a a = true := by simp [sameEs, sameTo, eqv_refl]
theorem sameTo_succ (a b : List Lrn) (k : Nat) : sameTo a b (k + 1) = (sameTo a b k && eqv (lrn a k) (lrn b k)) := by simp [sameTo, List.range_succ]
theorem sameEs_at {a b : List Lrn} {k : Nat} (hk : k < a.length) (h : eqv (lrn a k) (lrn b k) = false) : sameEs a b = false := by
  unfold sameEs
  have : sameTo a b a.length = false := by
    rw [← Bool.not_eq_true]
    intro ht
    have := List.all_eq_true.1 ht k (List.mem_range.2 hk)
    rw [h] at this; cases this
  rw [this, Bool.and_false]
theorem sameEs_len {a b : List Lrn} (h : a.length ≠ b.length) : sameEs a b = false := by simp [sameEs, h]
theorem sameEs_full {a b : List Lrn} {k n : Nat} (ha : a.length = n) (hb : b.length = n) (hk : k = n) (h : sameTo a b k = true) : sameEs a b = true := by
  unfold sameEs; rw [ha, hb, ← hk, h]; simp

set_option maxHeartbeats 4000000 in
theorem sameE_any (A : Option Addr) (n c : Nat) (a : List Lrn) (A' : Option Addr) (n' c' : Nat) (a' : List Lrn) (w : World) (h : RE w A n c a) (h' : RE w A' n' c' a') :
    Calls Try.prog 12 #[.slice A n c, .slice A' n' c'] w fun e w' => e = .returned (.bool (sameEs a a')) ∧ Below w.heap.size w w' := by
  have hn := h.small
  have hn' := h'.small
  have H := Lib.hid h
  have H' := Lib.hid h'
  clear h h'
  by_cases hne : n = n'
  · subst hne
    go_enter Try.func12, Try.ntmps12
    go_wp2
    go_loopw [5] (fun i W => ∃ k : Nat, k ≤ n ∧ i = .int .i64 k ∧ sameTo a a' k = true ∧ Below w.heap.size w W) (fun i _ => n - (intOf i).toNat)
    case atStart => exact ⟨0, Nat.zero_le _, rfl, rfl, Below.refl _ _⟩
    case round =>
      obtain ⟨k, hk, rfl, hno, hbl⟩ := hrel
      have HN := Lib.hid hno
      have HB := Lib.hid hbl
      clear hno hbl
      by_cases hlt : k < n
      · obtain ⟨b, off, rfl, hb, hc⟩ := (H.out.below HB.out).cells (by omega)
        obtain ⟨x0, x1, x2, hr1⟩ := hc k hlt
        clear hc
        obtain ⟨b', off', rfl, hb', hc'⟩ := (H'.out.below HB.out).cells (by omega)
        obtain ⟨y0, y1, y2, hr2⟩ := hc' k hlt
        clear hc'
        have hl1 : (k : Int) < (n : Int) := by omega
        have hka : k < a.length := by rw [H.out.len]; exact hlt
        have hsu := sameTo_succ a a' k
        have hat := @sameEs_at a a' k hka
        rcases hE : lrn a k with ⟨⟨A1, n1, c1, z1⟩, lv, act⟩
        rcases hE' : lrn a' k with ⟨⟨A2, n2, c2, z2⟩, lv', act'⟩
        rw [hE] at x0 x1 x2 hr1 hsu hat
        rw [hE'] at y0 y1 y2 hr2 hsu hat
        simp only [rowV] at x0 x1 x2 y0 y1 y2 hr1 hr2
        rw [HN.out, Bool.true_and] at hsu
        have HSU := Lib.hid hsu
        have HAT := Lib.hid hat
        have R1 := Lib.hid hr1
        have R2 := Lib.hid hr2
        clear hr1 hr2 hE hE' hsu hat hka
        have g0 := fun u : Gr wr => u.cell (p := ⟨b, off + k * 3, none⟩) hb x0
        have g1 := fun u : Gr wr => u.cell (p := ⟨b, off + k * 3 + 1, none⟩) hb x1
        have g2 := fun u : Gr wr => u.cell (p := ⟨b, off + k * 3 + 2, none⟩) hb x2
        have g0' := fun u : Gr wr => u.cell (p := ⟨b', off' + k * 3, none⟩) hb' y0
        have g1' := fun u : Gr wr => u.cell (p := ⟨b', off' + k * 3 + 1, none⟩) hb' y1
        have g2' := fun u : Gr wr => u.cell (p := ⟨b', off' + k * 3 + 2, none⟩) hb' y2
        clear x0 x1 x2 y0 y1 y2
        by_cases hlv : lv = lv'
        · have hlv' : (lv != lv') = false := by simpa using hlv
          have HLV := Lib.hid hlv
          clear hlv
          by_cases hac : act = act'
          · have hac' : (act != act') = false := by simpa using hac
            have HAC := Lib.hid hac
            clear hac
            generalize ho : sameB z1 z2 = o
            have HO := Lib.hid ho
            clear ho
            cases o
            · have E : Hid (sameEs a a' = false) := Lib.hid (HAT.out (by simp [eqv, HO.out]))
              go_wp2_with fail
              refine wp_region_grow (by kernel_rfl) (by kernel_rfl) ?_
              repeat (go_big_quiet_step ((go_at_call 18; exact Gr.call _ (ints_val false _ _ _ _ _ _ _ _ _ (R1.out.below (Gr.ok _)) (R2.out.below (Gr.ok _)) HO.out))))
              refine wpQuiet_nil ?_
              rintro _ ⟨⟨w2, hb2⟩, rfl⟩
              go_wp2_with fail
              go_ret
              exact ⟨ret_bool E.out.symm, HB.out.trans (hb2.mono HB.out.size)⟩
            · have E : Hid (sameTo a a' (k + 1) = true) := Lib.hid (by rw [HSU.out]; simp [eqv, HO.out, HLV.out, HAC.out])
              go_wp2_with fail
              refine wp_region_grow (by kernel_rfl) (by kernel_rfl) ?_
              repeat (go_big_quiet_step ((go_at_call 18; exact Gr.call _ (ints_val true _ _ _ _ _ _ _ _ _ (R1.out.below (Gr.ok _)) (R2.out.below (Gr.ok _)) HO.out))))
              refine wpQuiet_nil ?_
              rintro _ ⟨⟨w2, hb2⟩, rfl⟩
              go_wp2_with fail
              go_roundw
              case rel => exact ⟨k + 1, by omega, by go_num, E.out, HB.out.trans (hb2.mono HB.out.size)⟩
              case measure => simp [intOf]; omega
          · have hac' : (act != act') = true := by simpa using hac
            have E : Hid (sameEs a a' = false) := Lib.hid (HAT.out (by simp [eqv, hac]))
            clear hac
            go_wp2_with fail
            refine wp_region_grow (by kernel_rfl) (by kernel_rfl) ?_
            repeat (go_big_quiet_step (fail))
            refine wpQuiet_nil ?_
            rintro _ ⟨⟨w2, hb2⟩, rfl⟩
            go_wp2_with fail
            go_ret
            exact ⟨ret_bool E.out.symm, HB.out.trans (hb2.mono HB.out.size)⟩
        · have hlv' : (lv != lv') = true := by simpa using hlv
          have E : Hid (sameEs a a' = false) := Lib.hid (HAT.out (by simp [eqv, hlv]))
          clear hlv
          go_wp2_with fail
          refine wp_region_grow (by kernel_rfl) (by kernel_rfl) ?_
          repeat (go_big_quiet_step (fail))
          refine wpQuiet_nil ?_
          rintro _ ⟨⟨w2, hb2⟩, rfl⟩
          go_wp2_with fail
          go_ret
          exact ⟨ret_bool E.out.symm, HB.out.trans (hb2.mono HB.out.size)⟩
      · go_wp2
        go_ret
        exact ⟨ret_bool (sameEs_full H.out.len H'.out.len (by omega) HN.out).symm, HB.out⟩
  · have hb : ((n : Int) != (n' : Int)) = true := by rw [bne_iff_ne]; omega
    go_enter Try.func12, Try.ntmps12
    go_wp2
    go_ret
    exact ⟨ret_bool (sameEs_len (by rw [H.out.len, H'.out.len]; exact hne)).symm, Below.refl _ _⟩

end Go.Proofs.Ytalcnkoidmoibaa
