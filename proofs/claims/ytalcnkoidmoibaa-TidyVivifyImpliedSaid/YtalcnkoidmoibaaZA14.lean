/-
  The reference's comparison of lists of learnt clauses. No condition.
  The law TidyReduceSpec, walked. No condition.
  The reference functions goes and Subsume. No condition.
  The reference's Subsume. No condition.
  The law TidySubsumeSpec, walked. No condition.
  The law TidyVivifyShrinks, walked. No condition.
-/
import Derived.Test.YtalcnkoidmoibaaZA13
import Derived.Test.YtalcnkoidmoibaaZA11
import Derived.Test.YtalcnkoidmoibaaZA9
import Derived.Test.YtalcnkoidmoibaaZA12

namespace Go.Proofs.Ytalcnkoidmoibaa
open Go.RowKit Go.Shelf
set_option linter.unusedVariables false
set_option linter.unusedSimpArgs false

def eqv (e e' : Lrn) : Bool := (e.lv == e'.lv) && (e.act == e'.act) && sameB e.r.zs e'.r.zs
theorem eqv_refl (e : Lrn) : eqv e e = true := by simp [eqv, sameB]
def sameTo (a b : List Lrn) (k : Nat) : Bool := (List.range k).all fun i => eqv (lrn a i) (lrn b i)
def sameEs (a b : List Lrn) : Bool := decide (a.length = b.length) && sameTo a b a.length
theorem sameEs_refl (a : List Lrn) : sameEs a a = true := by simp [sameEs, sameTo, eqv_refl]
theorem sameTo_succ (a b : List Lrn) (k : Nat) : sameTo a b (k + 1) = (sameTo a b k && eqv (lrn a k) (lrn b k)) := by simp [sameTo, List.range_succ]
theorem sameEs_at {a b : List Lrn} {k : Nat} (hk : k < a.length) (h : eqv (lrn a k) (lrn b k) = false) : sameEs a b = false := by
  unfold sameEs
  have : sameTo a b a.length = false := by
    rw [← Bool.not_eq_true]
    intro ht
    have := List.all_eq_true.1 ht k (List.mem_range.2 hk)
    rw [h] at this; cases this
  rw [this, Bool.and_false]
theorem sameEs_len {a b : List Lrn} (h : a.length ≠ b.length) : sameEs a b = false := by simp [sameEs, h]
theorem sameEs_full {a b : List Lrn} {k n : Nat} (ha : a.length = n) (hb : b.length = n) (hk : k = n) (h : sameTo a b k = true) : sameEs a b = true := by
  unfold sameEs; rw [ha, hb, ← hk, h]; simp

set_option maxHeartbeats 4000000 in
theorem sameE_any (A : Option Addr) (n c : Nat) (a : List Lrn) (A' : Option Addr) (n' c' : Nat) (a' : List Lrn) (w : World) (h : RE w A n c a) (h' : RE w A' n' c' a') :
    Calls Try.prog 12 #[.slice A n c, .slice A' n' c'] w fun e w' => e = .returned (.bool (sameEs a a')) ∧ Below w.heap.size w w' := by
  have hn := h.small
  have hn' := h'.small
  have H := Lib.hid h
  have H' := Lib.hid h'
  clear h h'
  by_cases hne : n = n'
  · subst hne
    go_enter Try.func12, Try.ntmps12
    go_wp2
    go_loopw [5] (fun i W => ∃ k : Nat, k ≤ n ∧ i = .int .i64 k ∧ sameTo a a' k = true ∧ Below w.heap.size w W) (fun i _ => n - (intOf i).toNat)
    case atStart => exact ⟨0, Nat.zero_le _, rfl, rfl, Below.refl _ _⟩
    case round =>
      obtain ⟨k, hk, rfl, hno, hbl⟩ := hrel
      have HN := Lib.hid hno
      have HB := Lib.hid hbl
      clear hno hbl
      by_cases hlt : k < n
      · obtain ⟨b, off, rfl, hb, hc⟩ := (H.out.below HB.out).cells (by omega)
        obtain ⟨x0, x1, x2, hr1⟩ := hc k hlt
        clear hc
        obtain ⟨b', off', rfl, hb', hc'⟩ := (H'.out.below HB.out).cells (by omega)
        obtain ⟨y0, y1, y2, hr2⟩ := hc' k hlt
        clear hc'
        have hl1 : (k : Int) < (n : Int) := by omega
        have hka : k < a.length := by rw [H.out.len]; exact hlt
        have hsu := sameTo_succ a a' k
        have hat := @sameEs_at a a' k hka
        rcases hE : lrn a k with ⟨⟨A1, n1, c1, z1⟩, lv, act⟩
        rcases hE' : lrn a' k with ⟨⟨A2, n2, c2, z2⟩, lv', act'⟩
        rw [hE] at x0 x1 x2 hr1 hsu hat
        rw [hE'] at y0 y1 y2 hr2 hsu hat
        simp only [rowV] at x0 x1 x2 y0 y1 y2 hr1 hr2
        rw [HN.out, Bool.true_and] at hsu
        have HSU := Lib.hid hsu
        have HAT := Lib.hid hat
        have R1 := Lib.hid hr1
        have R2 := Lib.hid hr2
        clear hr1 hr2 hE hE' hsu hat hka
        have g0 := fun u : Gr wr => u.cell (p := ⟨b, off + k * 3, none⟩) hb x0
        have g1 := fun u : Gr wr => u.cell (p := ⟨b, off + k * 3 + 1, none⟩) hb x1
        have g2 := fun u : Gr wr => u.cell (p := ⟨b, off + k * 3 + 2, none⟩) hb x2
        have g0' := fun u : Gr wr => u.cell (p := ⟨b', off' + k * 3, none⟩) hb' y0
        have g1' := fun u : Gr wr => u.cell (p := ⟨b', off' + k * 3 + 1, none⟩) hb' y1
        have g2' := fun u : Gr wr => u.cell (p := ⟨b', off' + k * 3 + 2, none⟩) hb' y2
        clear x0 x1 x2 y0 y1 y2
        by_cases hlv : lv = lv'
        · have hlv' : (lv != lv') = false := by simpa using hlv
          have HLV := Lib.hid hlv
          clear hlv
          by_cases hac : act = act'
          · have hac' : (act != act') = false := by simpa using hac
            have HAC := Lib.hid hac
            clear hac
            generalize ho : sameB z1 z2 = o
            have HO := Lib.hid ho
            clear ho
            cases o
            · have E : Hid (sameEs a a' = false) := Lib.hid (HAT.out (by simp [eqv, HO.out]))
              go_wp2_with fail
              refine wp_region_grow (by kernel_rfl) (by kernel_rfl) ?_
              repeat (go_big_quiet_step ((go_at_call 18; exact Gr.call _ (ints_val false _ _ _ _ _ _ _ _ _ (R1.out.below (Gr.ok _)) (R2.out.below (Gr.ok _)) HO.out))))
              refine wpQuiet_nil ?_
              rintro _ ⟨⟨w2, hb2⟩, rfl⟩
              go_wp2_with fail
              go_ret
              exact ⟨ret_bool E.out.symm, HB.out.trans (hb2.mono HB.out.size)⟩
            · have E : Hid (sameTo a a' (k + 1) = true) := Lib.hid (by rw [HSU.out]; simp [eqv, HO.out, HLV.out, HAC.out])
              go_wp2_with fail
              refine wp_region_grow (by kernel_rfl) (by kernel_rfl) ?_
              repeat (go_big_quiet_step ((go_at_call 18; exact Gr.call _ (ints_val true _ _ _ _ _ _ _ _ _ (R1.out.below (Gr.ok _)) (R2.out.below (Gr.ok _)) HO.out))))
              refine wpQuiet_nil ?_
              rintro _ ⟨⟨w2, hb2⟩, rfl⟩
              go_wp2_with fail
              go_roundw
              case rel => exact ⟨k + 1, by omega, by go_num, E.out, HB.out.trans (hb2.mono HB.out.size)⟩
              case measure => simp [intOf]; omega
          · have hac' : (act != act') = true := by simpa using hac
            have E : Hid (sameEs a a' = false) := Lib.hid (HAT.out (by simp [eqv, hac]))
            clear hac
            go_wp2_with fail
            refine wp_region_grow (by kernel_rfl) (by kernel_rfl) ?_
            repeat (go_big_quiet_step (fail))
            refine wpQuiet_nil ?_
            rintro _ ⟨⟨w2, hb2⟩, rfl⟩
            go_wp2_with fail
            go_ret
            exact ⟨ret_bool E.out.symm, HB.out.trans (hb2.mono HB.out.size)⟩
        · have hlv' : (lv != lv') = true := by simpa using hlv
          have E : Hid (sameEs a a' = false) := Lib.hid (HAT.out (by simp [eqv, hlv]))
          clear hlv
          go_wp2_with fail
          refine wp_region_grow (by kernel_rfl) (by kernel_rfl) ?_
          repeat (go_big_quiet_step (fail))
          refine wpQuiet_nil ?_
          rintro _ ⟨⟨w2, hb2⟩, rfl⟩
          go_wp2_with fail
          go_ret
          exact ⟨ret_bool E.out.symm, HB.out.trans (hb2.mono HB.out.size)⟩
      · go_wp2
        go_ret
        exact ⟨ret_bool (sameEs_full H.out.len H'.out.len (by omega) HN.out).symm, HB.out⟩
  · have hb : ((n : Int) != (n' : Int)) = true := by rw [bne_iff_ne]; omega
    go_enter Try.func12, Try.ntmps12
    go_wp2
    go_ret
    exact ⟨ret_bool (sameEs_len (by rw [H.out.len, H'.out.len]; exact hne)).symm, Below.refl _ _⟩

end Go.Proofs.Ytalcnkoidmoibaa

namespace Go.Proofs.Ytalcnkoidmoibaa
open Go.RowKit Go.Shelf
set_option linter.unusedVariables false
set_option linter.unusedSimpArgs false

def Truly (w : World) (e : Ending) (w' : World) : Prop := e = .returned (.bool true) ∧ Below w.heap.size w w'

set_option maxHeartbeats 1000000 in
theorem reduceSpec_any (A : Option Addr) (n c : Nat) (es : List Lrn) (keep : Int) (w : World) (h : RE w A n c es) :
    Calls Try.prog 3 #[.slice A n c, .int .i64 keep] w (Truly w) := by
  have H := Lib.hid h
  have hn := h.small
  clear h
  by_cases h100 : 100 < n
  · go_enter Try.func3, Try.ntmps3
    go_wp2_with (go_at_call 11; refine (live_any _).mono ?_; rintro e w1 ⟨rfl, hb1⟩)
    go_ret
    exact ⟨rfl, hb1⟩
  · go_enter Try.func3, Try.ntmps3
    go_wp2_with (first
      | (go_at_call 11; refine (live_any _).mono ?_; rintro e w1 ⟨rfl, hb1⟩; have HB1 := Lib.hid hb1; clear hb1)
      | (go_at_call 13; refine (reduce_any A n c es keep _ (H.out.below HB1.out) (by omega)).mono ?_; rintro e w2 ⟨A2, c2, rfl, hr2, hb2⟩; have HR2 := Lib.hid hr2; have HB2 := Lib.hid (HB1.out.trans (hb2.mono HB1.out.size)); clear hr2 hb2)
      | (go_at_call 14; refine (reduceR_any A n c es keep _ (H.out.below HB2.out) (by omega)).mono ?_; rintro e w3 ⟨A3, c3, rfl, hr3, hb3⟩; have HR3 := Lib.hid hr3; have HR2' := Lib.hid (HR2.out.below hb3); have HB3 := Lib.hid (HB2.out.trans (hb3.mono HB2.out.size)); clear hr3 hb3)
      | (go_at_call 12; refine (sameE_any _ _ _ _ _ _ _ _ _ HR2'.out HR3.out).mono ?_; rw [sameEs_refl]; rintro e w4 ⟨rfl, hb4⟩; have HB4 := Lib.hid (HB3.out.trans (hb4.mono HB3.out.size)); clear hb4))
    go_ret
    exact ⟨rfl, HB4.out⟩

end Go.Proofs.Ytalcnkoidmoibaa

namespace Go.Proofs.Ytalcnkoidmoibaa
open Go.RowKit Go.Shelf
set_option linter.unusedVariables false
set_option linter.unusedSimpArgs false

theorem subR_val (r : Bool) (A : Option Addr) (n c : Nat) (zs : List Int) (A' : Option Addr) (n' c' : Nat) (zs' : List Int) (w : World) (h : RI w A n c zs) (h' : RI w A' n' c' zs') (hr : subB zs zs' = r) :
    Calls Try.prog 74 #[.slice A n c, .slice A' n' c'] w fun e w' => e = .returned (.bool r) ∧ Below w.heap.size w w' :=
  (subsumesR_any A n c zs A' n' c' zs' w h h').mono fun _ _ h => by rw [hr] at h; exact ⟨h.1, by rw [← h.2]; exact Below.refl _ _⟩

theorem goes_at {ls : List (List Int)} {i j : Nat} (hj : j < ls.length) (h : goB ls i j = true) : goesB ls i = true := by
  unfold goesB
  exact goesTo_mono (j := j + 1) (by omega) (by rw [goesTo_succ, h, Bool.or_true])

set_option maxHeartbeats 2000000 in
theorem goes_any (A : Option Addr) (n c : Nat) (ls : List (List Int)) (i : Nat) (w : World) (h : RL w A n c ls) (hi : i < n) :
    Calls Try.prog 46 #[.slice A n c, .int .i64 i] w fun e w' => e = .returned (.bool (goesB ls i)) ∧ Below w.heap.size w w' := by
  have hn := h.small
  have H := Lib.hid h
  clear h
  go_enter Try.func46, Try.ntmps46
  go_wp2
  go_loopw [5] (fun s W => ∃ k : Nat, k ≤ n ∧ s = .int .i64 k ∧ goesTo ls i k = false ∧ Below w.heap.size w W) (fun i _ => n - (intOf i).toNat)
  case atStart => exact ⟨0, Nat.zero_le _, rfl, rfl, Below.refl _ _⟩
  case round =>
    obtain ⟨k, hk, rfl, hno, hbl⟩ := hrel
    have HN := Lib.hid hno
    have HB := Lib.hid hbl
    clear hno hbl
    by_cases hlt : k < n
    · obtain ⟨b, off, rfl, hb, hc⟩ := (H.out.below HB.out).cells (by omega)
      obtain ⟨a1, n1, c1, hck, hr1⟩ := hc k hlt
      obtain ⟨a2, n2, c2, hci, hr2⟩ := hc i hi
      clear hc
      have hl1 : (k : Int) < (n : Int) := by omega
      have hl2 : (i : Int) < (n : Int) := by omega
      have R1 := Lib.hid hr1
      have R2 := Lib.hid hr2
      clear hr1 hr2
      have gk := fun u : Gr wr => u.cell (p := ⟨b, off + k, none⟩) hb hck
      have gi := fun u : Gr wr => u.cell (p := ⟨b, off + i, none⟩) hb hci
      clear hck hci
      have hsu := goesTo_succ ls i k
      rw [HN.out, Bool.false_or] at hsu
      have hat := @goes_at ls i k (by rw [H.out.len]; exact hlt)
      have hgo : goB ls i k = (((k : Int) != (i : Int)) && subB (ell ls k) (ell ls i) && (decide ((k : Int) < (i : Int)) || !(subB (ell ls i) (ell ls k)))) := rfl
      by_cases hki : k = i
      · have hne : ((k : Int) != (i : Int)) = false := by rw [hki]; simp
        have E : Hid (goesTo ls i (k + 1) = false) := Lib.hid (by rw [hsu, hgo, hne]; rfl)
        clear hsu hat hgo hki
        go_wp2_with fail
        refine wp_region_grow (by kernel_rfl) (by kernel_rfl) ?_
        repeat (go_big_quiet_step (fail))
        refine wpQuiet_nil ?_
        rintro _ ⟨⟨w2, hb2⟩, rfl⟩
        go_wp2_with fail
        go_roundw
        case rel => exact ⟨k + 1, by omega, by go_num, E.out, HB.out.trans (hb2.mono HB.out.size)⟩
        case measure => simp [intOf]; omega
      · have hne : ((k : Int) != (i : Int)) = true := by rw [bne_iff_ne]; omega
        generalize ho : subB (ell ls k) (ell ls i) = o
        rw [hne, ho] at hgo
        have HO := Lib.hid ho
        clear ho
        cases o
        · have E : Hid (goesTo ls i (k + 1) = false) := Lib.hid (by rw [hsu, hgo]; rfl)
          clear hsu hat hgo
          go_wp2_with fail
          refine wp_region_grow (by kernel_rfl) (by kernel_rfl) ?_
          repeat (go_big_quiet_step ((go_at_call 74; exact Gr.call _ (subR_val false _ _ _ _ _ _ _ _ _ (R1.out.below (Gr.ok _)) (R2.out.below (Gr.ok _)) HO.out))))
          refine wpQuiet_nil ?_
          rintro _ ⟨⟨w2, hb2⟩, rfl⟩
          go_wp2_with fail
          go_roundw
          case rel => exact ⟨k + 1, by omega, by go_num, E.out, HB.out.trans (hb2.mono HB.out.size)⟩
          case measure => simp [intOf]; omega
        · by_cases hlti : k < i
          · have hdl : decide ((k : Int) < (i : Int)) = true := by simpa using hlti
            have E : Hid (goesB ls i = true) := Lib.hid (hat (by rw [hgo, hdl]; rfl))
            clear hsu hat hgo
            go_wp2_with fail
            refine wp_region_grow (by kernel_rfl) (by kernel_rfl) ?_
            repeat (go_big_quiet_step ((go_at_call 74; exact Gr.call _ (subR_val true _ _ _ _ _ _ _ _ _ (R1.out.below (Gr.ok _)) (R2.out.below (Gr.ok _)) HO.out))))
            refine wpQuiet_nil ?_
            rintro _ ⟨⟨w2, hb2⟩, rfl⟩
            go_wp2_with fail
            go_ret
            exact ⟨ret_bool E.out.symm, HB.out.trans (hb2.mono HB.out.size)⟩
          · have hdl : decide ((k : Int) < (i : Int)) = false := by simpa using hlti
            generalize ho2 : subB (ell ls i) (ell ls k) = o2
            rw [hdl, ho2] at hgo
            have HO2 := Lib.hid ho2
            clear ho2
            cases o2
            · have E : Hid (goesB ls i = true) := Lib.hid (hat (by rw [hgo]; rfl))
              clear hsu hat hgo
              go_wp2_with fail
              refine wp_region_grow (by kernel_rfl) (by kernel_rfl) ?_
              repeat (go_big_quiet_step ((go_at_call 74; first | exact Gr.call _ (subR_val true _ _ _ _ _ _ _ _ _ (R1.out.below (Gr.ok _)) (R2.out.below (Gr.ok _)) HO.out) | exact Gr.call _ (subR_val false _ _ _ _ _ _ _ _ _ (R2.out.below (Gr.ok _)) (R1.out.below (Gr.ok _)) HO2.out))))
              refine wpQuiet_nil ?_
              rintro _ ⟨⟨w2, hb2⟩, rfl⟩
              go_wp2_with fail
              go_ret
              exact ⟨ret_bool E.out.symm, HB.out.trans (hb2.mono HB.out.size)⟩
            · have E : Hid (goesTo ls i (k + 1) = false) := Lib.hid (by rw [hsu, hgo]; rfl)
              clear hsu hat hgo
              go_wp2_with fail
              refine wp_region_grow (by kernel_rfl) (by kernel_rfl) ?_
              repeat (go_big_quiet_step ((go_at_call 74; first | exact Gr.call _ (subR_val true _ _ _ _ _ _ _ _ _ (R1.out.below (Gr.ok _)) (R2.out.below (Gr.ok _)) HO.out) | exact Gr.call _ (subR_val true _ _ _ _ _ _ _ _ _ (R2.out.below (Gr.ok _)) (R1.out.below (Gr.ok _)) HO2.out))))
              refine wpQuiet_nil ?_
              rintro _ ⟨⟨w2, hb2⟩, rfl⟩
              go_wp2_with fail
              go_roundw
              case rel => exact ⟨k + 1, by omega, by go_num, E.out, HB.out.trans (hb2.mono HB.out.size)⟩
              case measure => simp [intOf]; omega
    · have hf : goesB ls i = false := by
        have := HN.out
        unfold goesB
        rw [H.out.len, ← show k = n by omega]; exact this
      have HF := Lib.hid hf
      clear hf
      go_wp2
      go_ret
      exact ⟨ret_bool HF.out.symm, HB.out⟩

theorem goes_val (r : Bool) (A : Option Addr) (n c : Nat) (ls : List (List Int)) (i : Nat) (w : World) (h : RL w A n c ls) (hi : i < n) (hr : goesB ls i = r) :
    Calls Try.prog 46 #[.slice A n c, .int .i64 i] w fun e w' => e = .returned (.bool r) ∧ Below w.heap.size w w' := by
  have := goes_any A n c ls i w h hi
  rw [hr] at this
  exact this

end Go.Proofs.Ytalcnkoidmoibaa

namespace Go.Proofs.Ytalcnkoidmoibaa
open Go.RowKit Go.Shelf
set_option linter.unusedVariables false
set_option linter.unusedSimpArgs false

theorem subR_results {tmps : Array Value} {W : World} {B : Nat} {x : Int} {A : Option Addr} {n c : Nat} {r : Value} (h2 : tmps.getD 2 undef = .pointer (some ⟨B, 0, none⟩)) (h3 : tmps.getD 3 undef = r)
    (h : Two W B (.int .i64 x) (.slice A n c)) : (results Try.f20 tmps).run Try.prog W = .ok (.tuple #[.agg #[.int .i64 x, .slice A n c], r]) W := by
  have c0 := h.c0
  have c1 := h.c1
  rw [Array.getD_eq_getD_getElem?] at h2 h3
  simp [results, Try.results20, go_sem, h2, h3, c0, c1]

set_option maxHeartbeats 1000000 in
theorem subsumeR_bad (x : Int) (A : Option Addr) (n c : Nat) (ls : List (List Int)) (w : World) (h : RL w A n c ls) (he : checkE x ls ≠ 0) :
    Calls Try.prog 20 #[.agg #[.int .i64 x, .slice A n c]] w (Subd 0 [] (checkE x ls) w) := by
  have hcall := checkR_any x A n c ls ((w.alloc (.cells #[.int .i64 x, .slice A n c] 29)).alloc (.cells #[.int .i64 0, .slice none 0 0] 29)) ((h.alloc _).alloc _)
  generalize checkE x ls = r at hcall he ⊢
  have hr : (r != 0) = true := by simpa using he
  clear he h
  go_enter Try.func20, Try.ntmps20
  go_wp2_with (go_at_call 38; refine hcall.mono ?_; clear hcall; rintro e w1 ⟨rfl, hb⟩; have tw := (Two.new (w.alloc (.cells #[.int .i64 x, .slice A n c] 29)) (.int .i64 0) (.slice none 0 0)).below hb; rw [World.size_alloc] at tw; have t0 := tw.c0; have t1 := tw.c1; have f0 := tw.f 0; have f1 := tw.f 1)
  refine bodyPost_ret (subR_results rfl rfl ((tw.set0 _).set1 _)) rfl ?_
  have hb' : Below w.heap.size w w1 := (((Below.refl _ w).alloc (Nat.le_refl _) _).alloc (by simp) _).trans (hb.mono (by simp; omega))
  exact ⟨none, 0, rfl, RL.nil _ _ _ (Nat.zero_le _), (hb'.setCell (p := ⟨w.heap.size + 1, 0, none⟩) (by simp) _).setCell (p := ⟨w.heap.size + 1, 1, none⟩) (by simp) _⟩

theorem appd_empty {Wb : World} {s n1 : Nat} {l : List Int} {v3 : Value} {w3 : World} (h : Appd (Wb.drew.alloc (.cells #[] 3)) Wb.heap.size 3 (.slice (some ⟨s, 0, none⟩) 0 0) (0 + n1) (([] ++ l).map (Value.int .i64)) v3 w3) (hs : s = Wb.heap.size) :
    ∃ A3 c3, v3 = .slice A3 n1 c3 ∧ w3.ownsRow Wb.heap.size 3 1 (.slice A3 n1 c3) n1 (l.map (Value.int .i64)) ∧ Below Wb.heap.size Wb w3 := by
  subst hs
  obtain ⟨h1, h2, h3⟩ := h
  rw [Nat.zero_add, List.nil_append] at h1
  obtain ⟨A3, c3, rfl⟩ := own_form h1
  have hb : Below Wb.heap.size Wb (Wb.drew.alloc (.cells #[] 3)) := ((Below.refl _ Wb).drew).alloc (Nat.le_refl _) _
  exact ⟨A3, c3, rfl, h1, hb.grown h2 hb.size (fun g hg => by simp [Value.ownBlock] at hg; omega)⟩

set_option maxRecDepth 100000 in
set_option maxHeartbeats 4000000 in
theorem subsumeR_ok (x : Int) (A : Option Addr) (n c : Nat) (ls : List (List Int)) (w : World) (h : RL w A n c ls) (h0 : checkE x ls = 0) (hn : n ≤ 1000000) :
    Calls Try.prog 20 #[.agg #[.int .i64 x, .slice A n c]] w (Subd x (subL ls) 0 w) := by
  obtain ⟨i0, hi, hz0, hz1, hz2⟩ := info_parts infoRow
  have hcall := checkR_any x A n c ls ((w.alloc (.cells #[.int .i64 x, .slice A n c] 29)).alloc (.cells #[.int .i64 0, .slice none 0 0] 29)) ((h.alloc _).alloc _)
  rw [h0] at hcall
  have H := Lib.hid h
  clear h h0
  go_enter Try.func20, Try.ntmps20
  go_wp2_with (go_at_call 38; refine hcall.mono ?_; clear hcall; rintro e W0 ⟨rfl, hb⟩; have tw := (Two.new (w.alloc (.cells #[.int .i64 x, .slice A n c] 29)) (.int .i64 0) (.slice none 0 0)).below hb; rw [World.size_alloc] at tw; have bx := ((Two.new w (.int .i64 x) (.slice A n c)).below (((Below.refl _ _).alloc (Nat.le_refl _) (.cells #[.int .i64 0, .slice none 0 0] 29)))).below hb; have TW := Lib.hid tw; have BX := Lib.hid bx; have p0 := bx.c0; have p1 := bx.c1; have HB := Lib.hid ((((Below.refl _ w).alloc (Nat.le_refl _) _).alloc (by simp) _).trans (hb.mono (by simp; omega)) : Below w.heap.size w W0); clear hb tw bx)
  go_loopw [6] (fun i wr => ∃ (k : Nat) (rs : List Row) (L : Nat) (O : Option Addr) (co : Nat), k ≤ n ∧ i = .int .i64 k ∧ Sb w W0 wr x ls k rs L O co) (fun i _ => n - (intOf i).toNat)
  case atStart => exact ⟨0, [], 0, none, 0, Nat.zero_le _, rfl, rfl, rfl, Two.new _ _ _, World.ownsRow_nil _ _ _ _, fun r h => (by cases h), (Below.refl _ _).alloc (Nat.le_refl _) _⟩
  case round =>
    obtain ⟨k, rs, L, O, co, hk, rfl, hsb⟩ := hrel
    have HS := Lib.hid hsb
    clear hsb
    have hbw : Below w.heap.size w wr := HB.out.trans (HS.out.below.mono HB.out.size)
    have b0 : Two wr w.heap.size (.int .i64 x) (.slice A n c) := BX.out.below HS.out.below
    have b1 : Two wr (w.heap.size + 1) (.int .i64 0) (.slice none 0 0) := TW.out.below HS.out.below
    have r1 := b0.c1
    by_cases hlt : k < n
    · obtain ⟨b, off, rfl, hbl, hc⟩ := H.out.cells (by omega)
      obtain ⟨a1, n1, c1, hck, hr1⟩ := hc k hlt
      clear hc
      have HR1 := Lib.hid hr1
      have HCK := Lib.hid hck
      clear hr1 hck
      have hcon := goes_any (some ⟨b, off, none⟩) n c ls k wr (H.out.below hbw) hlt
      have HBW := Lib.hid hbw
      have B0 := Lib.hid b0
      clear b1 hbw b0
      cases hgo : goesB ls k with
      | true =>
        rw [hgo] at hcon
        have E : Hid (outTo ls (k + 1) = outTo ls k) := Lib.hid (by rw [outTo_succ, if_pos hgo])
        clear hgo
        go_wp2_with (go_at_call 46; refine hcon.mono ?_; clear hcon; rintro e Wb ⟨rfl, hg⟩; have HG := Lib.hid hg; clear hg)
        go_roundw
        case rel =>
          have h1 := HS.out.later HG.out
          exact ⟨k + 1, rs, L, O, co, by omega, by go_num, ⟨by rw [E.out]; exact h1.rows, h1.len, h1.out, h1.own, h1.inner, h1.below⟩⟩
        case measure => simp [intOf]; omega
      | false =>
        rw [hgo] at hcon
        have E : Hid (outTo ls (k + 1) = outTo ls k ++ [ell ls k]) := Lib.hid (by rw [outTo_succ, if_neg (by rw [hgo]; simp)])
        clear hgo
        go_wp2_with (go_at_call 46; refine hcon.mono ?_; clear hcon; rintro e Wb ⟨rfl, hg⟩; have HG := Lib.hid hg; clear hg)
        have h1 := HS.out.later HG.out
        have o1 := h1.out.c1
        have hbw2 := HBW.out.trans (HG.out.mono HBW.out.size)
        have cl := (hbw2.cell (p := ⟨b, off + k, none⟩) hbl).trans HCK.out
        have bl := (B0.out.below HG.out).c1
        have hri := HR1.out.below hbw2
        have hbig := hri.big
        have hl1 := hri.len
        have hLn : L ≤ n := by have := outTo_len ls k; rw [← HS.out.rows, List.length_map, HS.out.len] at this; omega
        have HSD : Hid (Sb w W0 Wb x ls k rs L O co) := Lib.hid h1
        have hsW := h1.out.lt
        have hsb : b < Wb.heap.size := Nat.lt_of_lt_of_le hbl hbw2.size
        have hsw : w.heap.size < Wb.heap.size := (B0.out.below HG.out).lt
        have hkn : (k : Int) < (n : Int) := by omega
        have HBW2 := Lib.hid hbw2
        have HRI := Lib.hid hri
        generalize ell ls k = l at E hl1 HRI HR1
        clear h1 hbw2 r1 hri
        go_region_law (first
            | (refine step_append_ri rfl (.tmp 30) (.tmp 35) rfl Wb.heap.size (.slice (some ⟨Wb.heap.size, 0, none⟩) 0 0) 0 [] rfl (own_empty Wb.drew _ _ 3 rfl (Nat.le_refl _)) a1 n1 c1 l rfl (HRI.out.drew.alloc _) (by omega) (by simp) ?_; intro v3 w3 hap; obtain ⟨A3, c3, rfl, ho3, hb3⟩ := appd_empty hap rfl; have HS3 := Lib.hid (HSD.out.later hb3); have q1 := HS3.out.out.c1; have q2 : ∀ o, (w3.alloc o).cell? ⟨W0.heap.size, 1, none⟩ = some (.slice O L co) := (fun o => (HS3.out.out.below ((Below.refl _ _).alloc (Nat.le_refl _) o)).c1); have HO3 := Lib.hid ho3; have HB3 := Lib.hid hb3; clear ho3 hb3 hap)
            | (refine step_append_row rfl (.tmp 29) (.tmp 37) rfl (W0.heap.size + 1) (.slice O L co) L (rs.map rowV) rfl (HS3.out.own.alloc _) ⟨w3.heap.size, 0, none⟩ (.slice A3 n1 c3) rfl rfl ?_ ?_ ?_ ?_; simp; omega; (have := HS3.out.out.lt; simp; omega); intro v' w5 ho5 hg5; obtain ⟨g', cap', rfl⟩ := own_succ ho5; have h5 := HS3.out.next (r := ⟨A3, n1, c3, l⟩) HO3.out hl1 hbig _ ho5 hg5 E.out; have t1 := h5.1.c1; have f1 := h5.1.f 1; have H5 := Lib.hid h5.2; clear ho5 hg5 h5))
        all_goals go_wp2_with fail
        all_goals go_roundw
        all_goals first
          | exact ⟨k + 1, _, _, _, _, by omega, by go_num, H5.out⟩
          | (simp [intOf]; omega)
    · have t0 := b1.c0
      have t1 := b1.c1
      have f0 := b1.f 0
      have f1 := b1.f 1
      have o0 := HS.out.out.c0
      have o1 := HS.out.out.c1
      have HBW := Lib.hid hbw
      have B1 := Lib.hid b1
      clear b0 b1 hbw
      go_wp2
      have hkn : k = ls.length := by rw [H.out.len]; omega
      have hs := HS.out.rows
      rw [hkn] at hs
      have hlen : (subL ls).length = L := by rw [← HS.out.len]; unfold subL; rw [← hs]; simp
      refine bodyPost_ret (subR_results rfl rfl ((B1.out.set0 _).set1 _)) rfl ?_
      refine ⟨O, co, by rw [hlen]; rfl, ?_, (HBW.out.setCell (p := ⟨w.heap.size + 1, 0, none⟩) (by simp) _).setCell (p := ⟨w.heap.size + 1, 1, none⟩) (by simp) _⟩
      have e1 : subL ls = rs.map (·.zs) := hs.symm
      have hLn : L ≤ n := by have := outTo_len ls ls.length; rw [← hs, List.length_map, HS.out.len, H.out.len] at this; exact this
      rw [hlen, e1]
      exact RL.of_rows (own_two (own_two HS.out.own (by decide) B1.out _) (by decide) (B1.out.set0 _) _) ((HS.out.inner.two B1.out _).two (B1.out.set0 _) _) (by omega)

theorem subsumeR_any (x : Int) (A : Option Addr) (n c : Nat) (ls : List (List Int)) (w : World) (h : RL w A n c ls) (hn : n ≤ 1000000) :
    Calls Try.prog 20 #[.agg #[.int .i64 x, .slice A n c]] w (Subd (if checkE x ls = 0 then x else 0) (if checkE x ls = 0 then subL ls else []) (checkE x ls) w) := by
  by_cases h0 : checkE x ls = 0
  · rw [if_pos h0, if_pos h0, h0]; exact subsumeR_ok x A n c ls w h h0 hn
  · rw [if_neg h0, if_neg h0]; exact subsumeR_bad x A n c ls w h h0

end Go.Proofs.Ytalcnkoidmoibaa

namespace Go.Proofs.Ytalcnkoidmoibaa
open Go.RowKit Go.Shelf
set_option linter.unusedVariables false
set_option linter.unusedSimpArgs false

theorem fewL_len {ls : List (List Int)} (h : fewL ls = true) : ls.length ≤ 60 ∧ sumL ls ≤ 1000 := by
  unfold fewL at h; simpa using h

theorem few_val (r : Bool) (x : Int) (A : Option Addr) (n c : Nat) (ls : List (List Int)) (w : World) (h : RL w A n c ls) (hr : fewL ls = r) :
    Calls Try.prog 15 #[.agg #[.int .i64 x, .slice A n c]] w fun e w' => e = .returned (.bool r) ∧ Below w.heap.size w w' := by
  have := few_any x A n c ls w h
  rw [hr] at this
  exact this
theorem sameC_true (x : Int) (A : Option Addr) (n c : Nat) (ls : List (List Int)) (A' : Option Addr) (n' c' : Nat) (w : World) (h : RL w A n c ls) (h' : RL w A' n' c' ls) :
    Calls Try.prog 21 #[.agg #[.int .i64 x, .slice A n c], .agg #[.int .i64 x, .slice A' n' c']] w fun e w' => e = .returned (.bool true) ∧ Below w.heap.size w w' := by
  have := sameC_any x A n c ls x A' n' c' ls w h h'
  have e : samesB ls ls = true := by simp [samesB]
  simpa [e] using this

set_option maxHeartbeats 1000000 in
theorem subsumeSpec_any (x : Int) (A : Option Addr) (n c : Nat) (ls : List (List Int)) (w : World) (h : RL w A n c ls) :
    Calls Try.prog 5 #[.agg #[.int .i64 x, .slice A n c]] w (Truly w) := by
  have H := Lib.hid (h.alloc (.cells #[.int .i64 x, .slice A n c] 29))
  have HB0 := Lib.hid ((Below.refl w.heap.size w).alloc (Nat.le_refl _) (.cells #[.int .i64 x, .slice A n c] 29))
  have BX := Lib.hid (Two.new w (.int .i64 x) (.slice A n c))
  have hlen := h.len
  clear h
  cases hf : fewL ls
  · have HF := Lib.hid hf
    clear hf
    go_enter Try.func5, Try.ntmps5
    go_wp2_with (first
      | (go_at_call 11; refine (live_any _).mono ?_; rintro e w1 ⟨rfl, hb1⟩; have HB1 := Lib.hid hb1; have t1 := (BX.out.below hb1); have q0 := t1.c0; have q1 := t1.c1; clear hb1 t1)
      | (go_at_call 15; refine (few_val false x A n c ls _ (H.out.below HB1.out) HF.out).mono ?_; rintro e w2 ⟨rfl, hb2⟩; have HB2 := Lib.hid hb2; clear hb2))
    go_ret
    exact ⟨rfl, HB0.out.trans ((HB1.out.trans (HB2.out.mono HB1.out.size)).mono HB0.out.size)⟩
  · have HF := Lib.hid hf
    have hn := (fewL_len hf).1
    rw [hlen] at hn
    clear hf
    have hs1 := fun W (h : RL W A n c ls) => subsume_any x A n c ls W h (by omega)
    have hs2 := fun W (h : RL W A n c ls) => subsumeR_any x A n c ls W h (by omega)
    unfold Subd at hs1 hs2
    generalize (if checkE x ls = 0 then x else 0) = x' at hs1 hs2
    generalize (if checkE x ls = 0 then subL ls else []) = ls' at hs1 hs2
    generalize checkE x ls = e' at hs1 hs2
    clear hlen
    go_enter Try.func5, Try.ntmps5
    go_wp2_with (first
      | (go_at_call 11; refine (live_any _).mono ?_; rintro e w1 ⟨rfl, hb1⟩; have HB1 := Lib.hid (HB0.out.trans (hb1.mono HB0.out.size)); have HR1 := Lib.hid (H.out.below hb1); have BX1 := Lib.hid (BX.out.below hb1); have q0 := BX1.out.c0; have q1 := BX1.out.c1; clear hb1)
      | (go_at_call 15; refine (few_val true x A n c ls _ HR1.out HF.out).mono ?_; rintro e w2 ⟨rfl, hb2⟩; have HB2 := Lib.hid (HB1.out.trans (hb2.mono HB1.out.size)); have HR2 := Lib.hid (HR1.out.below hb2); have BX2 := Lib.hid (BX1.out.below hb2); clear q0 q1; have q0 := BX2.out.c0; have q1 := BX2.out.c1; clear hb2)
      | (go_at_call 19; refine (hs1 _ HR2.out).mono ?_; clear hs1; rintro e w3 ⟨A3, c3, rfl, hr3, hb3⟩; have HR3 := Lib.hid (HR2.out.below hb3); have HO3 := Lib.hid hr3; have BX3 := Lib.hid (BX2.out.below hb3); have HB3 := Lib.hid (HB2.out.trans (hb3.mono HB2.out.size)); clear q0 q1; have hsz3 := BX3.out.lt; have q0 := BX3.out.c0; have q1 := BX3.out.c1; clear hr3 hb3)
      | (go_at_call 20; refine (hs2 _ (HR3.out.alloc _)).mono ?_; clear hs2; rintro e w4 ⟨A4, c4, rfl, hr4, hb4⟩; have T4 := Lib.hid ((Two.new w3 (.int .i64 x') (.slice A3 ls'.length c3)).below hb4); have HO4 := Lib.hid ((HO3.out.alloc _).below hb4); have HO5 := Lib.hid hr4; have HB4 := Lib.hid (HB3.out.trans (((Below.refl _ w3).alloc (Nat.le_refl _) (.cells #[.int .i64 x', .slice A3 ls'.length c3] 29) |>.trans (hb4.mono (by simp))).mono HB3.out.size)); have hsz4 := T4.out.lt; clear q0 q1; have q0 := T4.out.c0; have q1 := T4.out.c1; clear hr4 hb4)
      | (go_at_call 21; refine (sameC_true x' A3 _ c3 ls' A4 _ c4 _ (HO4.out.alloc _) (HO5.out.alloc _)).mono ?_; rintro e w5 ⟨rfl, hb5⟩; have HB5 := Lib.hid (HB4.out.trans (((Below.refl _ w4).alloc (Nat.le_refl _) (.cells #[.int .i64 x', .slice A4 ls'.length c4] 29) |>.trans (hb5.mono (by simp))).mono HB4.out.size)); clear hb5))
    go_ret
    exact ⟨ret_bool (by simp), HB5.out⟩

end Go.Proofs.Ytalcnkoidmoibaa

namespace Go.Proofs.Ytalcnkoidmoibaa
open Go.RowKit Go.Shelf
set_option linter.unusedVariables false
set_option linter.unusedSimpArgs false

theorem subsumes_val (r : Bool) (A : Option Addr) (n c : Nat) (zs : List Int) (A' : Option Addr) (n' c' : Nat) (zs' : List Int) (w : World) (h : RI w A n c zs) (h' : RI w A' n' c' zs') (hz : Wfl zs) (hz' : Wfl zs') (hr : subB zs zs' = r) :
    Calls Try.prog 24 #[.slice A n c, .slice A' n' c'] w fun e w' => e = .returned (.bool r) ∧ Below w.heap.size w w' := by
  have := subsumes_any A n c zs A' n' c' zs' w h h' hz hz'
  rw [hr] at this
  exact this

theorem okl_wfl {zs : List Int} (h : Okl zs) : Wfl zs := fun y hy => wf_lit (h y hy).2.1 (h y hy).2.2

set_option maxRecDepth 100000 in
set_option maxHeartbeats 2000000 in
theorem vivifyShrinks_any (x : Int) (A : Option Addr) (n c : Nat) (ls : List (List Int)) (k : Int) (w : World) (h : RL w A n c ls) :
    Calls Try.prog 6 #[.agg #[.int .i64 x, .slice A n c], .int .i64 k] w (Truly w) := by
  have H := Lib.hid (h.alloc (.cells #[.int .i64 x, .slice A n c] 29))
  have HB0 := Lib.hid ((Below.refl w.heap.size w).alloc (Nat.le_refl _) (.cells #[.int .i64 x, .slice A n c] 29))
  have BX := Lib.hid (Two.new w (.int .i64 x) (.slice A n c))
  have hlen := h.len
  clear h
  cases hf : fewL ls
  · have HF := Lib.hid hf
    clear hf
    go_enter Try.func6, Try.ntmps6
    go_wp2_with (first
      | (go_at_call 11; refine (live_any _).mono ?_; rintro e w1 ⟨rfl, hb1⟩; have HB1 := Lib.hid hb1; have t1 := (BX.out.below hb1); have q0 := t1.c0; have q1 := t1.c1; clear hb1 t1)
      | (go_at_call 15; refine (few_val false x A n c ls _ (H.out.below HB1.out) HF.out).mono ?_; rintro e w2 ⟨rfl, hb2⟩; have HB2 := Lib.hid hb2; clear hb2))
    go_ret
    exact ⟨rfl, HB0.out.trans ((HB1.out.trans (HB2.out.mono HB1.out.size)).mono HB0.out.size)⟩
  · have HF := Lib.hid hf
    obtain ⟨hn, hsum⟩ := fewL_len hf
    rw [hlen] at hn
    clear hf
    have hv := fun W (h : RL W A n c ls) => vivify_any x A n c ls k W h (by omega)
    unfold Viv at hv
    by_cases hE : vivE x ls k = 0
    · obtain ⟨hce, hk0, hkl⟩ := vivE_zero hE
      obtain ⟨j, rfl⟩ : ∃ j : Nat, k = j := ⟨k.toNat, by omega⟩
      have hjn : j < n := by omega
      obtain ⟨g1, g2, g3, g4⟩ := viv_again hE
      have g5 : (vivL x ls (j : Int)).length ≤ 1000 := by
        have e1 : vivL x ls (j : Int) = vivT (ls.eraseIdx j) (normP (ell ls j)) [] := by unfold vivL; rw [if_pos hE]; simp
        rw [e1]
        exact Nat.le_trans (viv_part _ _).length_le (Nat.le_trans (normP_len _) (Nat.le_trans (sumL_ell ls j) hsum))
      have g6 : Okl (vivL x ls (j : Int)) := fun y hy => checkE_lits hce _ (ell_mem (by omega)) y (g4 y hy)
      have g7 := sumL_set ls j (vivL x ls (j : Int))
      have hv2 := fun W A' c' (h : RL W A' n c' (ls.set j (vivL x ls (j : Int)))) => vivify_any x A' n c' (ls.set j (vivL x ls (j : Int))) j W h (by omega)
      unfold Viv at hv2
      rw [hE] at hv
      rw [g1] at hv2
      generalize vivL x (ls.set j (vivL x ls (j : Int))) (j : Int) = y at hv2 g2
      generalize vivL x ls (j : Int) = z at hv hv2 g2 g3 g5 g6 g7 g4
      have g8 : Okl y := fun v hv => g6 v (g2.subset hv)
      have g9 : subB y z = true := subB_iff.2 fun v hv => g2.subset hv
      have g10 := g2.length_le
      obtain ⟨m, hm⟩ : ∃ m, z.length = m := ⟨_, rfl⟩
      obtain ⟨m2, hm2⟩ : ∃ m2, y.length = m2 := ⟨_, rfl⟩
      rw [hm] at hv g5 g10
      rw [hm2] at hv2 g10
      have hno := fun W A' c' (h : RI W A' m c' z) => norm_any A' m c' z W h
      unfold Normed at hno
      rw [g3, hm] at hno
      have G8 := Lib.hid (okl_wfl g8)
      have G6 := Lib.hid (okl_wfl g6)
      have G9 := Lib.hid g9
      clear hE hce g1 g2 g3 g4 g6 g7 g8 g9 hm hm2 hlen hkl hk0
      have k0 : ¬ (j : Int) < 0 := by omega
      have k1 : ¬ (n : Int) ≤ (j : Int) := by omega
      have hwi := fun W A' c' (h : RL W A n c ls) (h' : RI W A' m c' z) => with_any x A n c ls j A' m c' z W h hjn h' (by omega)
      unfold Withd at hwi
      have hle : (m2 : Int) ≤ (m : Int) := by omega
      generalize bothP z = bo at hno
      go_enter Try.func6, Try.ntmps6
      cases bo
      all_goals
        go_wp2_with (first
          | (go_at_call 11; refine (live_any _).mono ?_; rintro e w1 ⟨rfl, hb1⟩; have HB1 := Lib.hid (HB0.out.trans (hb1.mono HB0.out.size)); have HR1 := Lib.hid (H.out.below hb1); have BX1 := Lib.hid (BX.out.below hb1); have q0 := BX1.out.c0; have q1 := BX1.out.c1; clear hb1)
          | (go_at_call 15; refine (few_val true x A n c ls _ HR1.out HF.out).mono ?_; rintro e w2 ⟨rfl, hb2⟩; have HB2 := Lib.hid (HB1.out.trans (hb2.mono HB1.out.size)); have HR2 := Lib.hid (HR1.out.below hb2); have BX2 := Lib.hid (BX1.out.below hb2); clear q0 q1; have q0 := BX2.out.c0; have q1 := BX2.out.c1; clear hb2)
          | (go_at_call 22; refine (hwi _ _ _ HR3.out HZ3.out).mono ?_; clear hwi; rintro e w4 ⟨A4, c4, rfl, hr4, hb4⟩; have HR4 := Lib.hid hr4; have HZ4 := Lib.hid (HZ3.out.below hb4); have HB4 := Lib.hid (HB3.out.trans (hb4.mono HB3.out.size)); clear q0 q1 hr4 hb4)
          | (go_at_call 23; refine (hno _ _ _ HZ5.out).mono ?_; clear hno; rintro e w6 ⟨A6, c6, rfl, hr6, hb6⟩; have HN6 := Lib.hid hr6; have HY6 := Lib.hid (HY5.out.below hb6); have HZ6 := Lib.hid (HZ5.out.below hb6); have HB6 := Lib.hid (HB5.out.trans (hb6.mono HB5.out.size)); clear hr6 hb6)
          | (go_at_call 18; refine (ints_val true _ _ _ _ _ _ _ _ _ HN6.out HZ6.out (by simp [sameB])).mono ?_; rintro e w7 ⟨rfl, hb7⟩; have HY7 := Lib.hid (HY6.out.below hb7); have HZ7 := Lib.hid (HZ6.out.below hb7); have HB7 := Lib.hid (HB6.out.trans (hb7.mono HB6.out.size)); clear hb7)
          | (go_at_call 24; refine (subsumes_val true _ _ _ _ _ _ _ _ _ HY7.out HZ7.out G8.out G6.out G9.out).mono ?_; rintro e w8 ⟨rfl, hb8⟩; have HB8 := Lib.hid (HB7.out.trans (hb8.mono HB7.out.size)); clear hb8)
          | (go_at_call 16; ((with_reducible refine (hv2 _ _ _ HR4.out).mono ?_)); clear hv2; rintro e w5 ⟨A5, c5, rfl, hr5, hb5⟩; have HY5 := Lib.hid hr5; have HZ5 := Lib.hid (HZ4.out.below hb5); have HB5 := Lib.hid (HB4.out.trans (hb5.mono HB4.out.size)); clear hr5 hb5)
          | (go_at_call 16; refine (hv _ HR2.out).mono ?_; clear hv; rintro e w3 ⟨A3, c3, rfl, hr3, hb3⟩; have HR3 := Lib.hid (HR2.out.below hb3); have HZ3 := Lib.hid hr3; have BX3 := Lib.hid (BX2.out.below hb3); have HB3 := Lib.hid (HB2.out.trans (hb3.mono HB2.out.size)); clear q0 q1; have q0 := BX3.out.c0; have q1 := BX3.out.c1; clear hr3 hb3))
        go_ret
        exact ⟨ret_bool (by simp), HB8.out⟩
    · generalize vivE x ls k = e' at hv hE
      generalize vivL x ls k = z at hv
      have he : (e' != 0) = true := by simpa using hE
      clear hE hlen
      go_enter Try.func6, Try.ntmps6
      go_wp2_with (first
        | (go_at_call 11; refine (live_any _).mono ?_; rintro e w1 ⟨rfl, hb1⟩; have HB1 := Lib.hid (HB0.out.trans (hb1.mono HB0.out.size)); have HR1 := Lib.hid (H.out.below hb1); have BX1 := Lib.hid (BX.out.below hb1); have q0 := BX1.out.c0; have q1 := BX1.out.c1; clear hb1)
        | (go_at_call 15; refine (few_val true x A n c ls _ HR1.out HF.out).mono ?_; rintro e w2 ⟨rfl, hb2⟩; have HB2 := Lib.hid (HB1.out.trans (hb2.mono HB1.out.size)); have HR2 := Lib.hid (HR1.out.below hb2); have BX2 := Lib.hid (BX1.out.below hb2); clear q0 q1; have q0 := BX2.out.c0; have q1 := BX2.out.c1; clear hb2)
        | (go_at_call 16; refine (hv _ HR2.out).mono ?_; clear hv; rintro e w3 ⟨A3, c3, rfl, hr3, hb3⟩; have HB3 := Lib.hid (HB2.out.trans (hb3.mono HB2.out.size)); clear q0 q1 hr3 hb3))
      go_ret
      exact ⟨rfl, HB3.out⟩

end Go.Proofs.Ytalcnkoidmoibaa
