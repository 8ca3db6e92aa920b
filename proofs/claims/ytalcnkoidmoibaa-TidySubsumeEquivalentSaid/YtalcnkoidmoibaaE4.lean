/-
  The reference's Subsume. No condition.
-/
import Derived.Test.YtalcnkoidmoibaaE3
import Derived.Test.YtalcnkoidmoibaaU1
namespace Go.Proofs.Ytalcnkoidmoibaa
open Go.RowKit Go.Shelf
set_option linter.unusedVariables false
set_option linter.unusedSimpArgs false

theorem subR_results {tmps : Array Value} {W : World} {B : Nat} {x : Int} {A : Option Addr} {n c : Nat} {r : Value} (h2 : tmps.getD 2 undef = .pointer (some ⟨B, 0, none⟩)) (h3 : tmps.getD 3 undef = r)
    (h : Two W B (.int .i64 x) (.slice A n c)) : (results Try.f20 tmps).run Try.prog W = .ok (.tuple #[.agg #[.int .i64 x, .slice A n c], r]) W := by
  have c0 := h.c0
  have c1 := h.c1
  rw [Array.getD_eq_getD_getElem?] at h2 h3
  simp [results, Try.results20, go_sem, h2, h3, c0, c1]

set_option maxHeartbeats 1000000 in
theorem subsumeR_bad (x : Int) (A : Option Addr) (n c : Nat) (ls : List (List Int)) (w : World) (h : RL w A n c ls) (he : checkE x ls ≠ 0) :
    Calls Try.prog 20 #[.agg #[.int .i64 x, .slice A n c]] w (Subd 0 [] (checkE x ls) w) := by
  have hcall := checkR_any x A n c ls ((w.alloc (.cells #[.int .i64 x, .slice A n c] 29)).alloc (.cells #[.int .i64 0, .slice none 0 0] 29)) ((h.alloc _).alloc _)
  generalize checkE x ls = r at hcall he ⊢
  have hr : (r != 0) = true := by simpa using he
  clear he h
  go_enter Try.func20, Try.ntmps20
  go_wp2_with (go_at_call 38; refine hcall.mono ?_; clear hcall; rintro e w1 ⟨rfl, hb⟩; have tw := (Two.new (w.alloc (.cells #[.int .i64 x, .slice A n c] 29)) (.int .i64 0) (.slice none 0 0)).below hb; rw [World.size_alloc] at tw; have t0 := tw.c0; have t1 := tw.c1; have f0 := tw.f 0; have f1 := tw.f 1)
  refine bodyPost_ret (subR_results rfl rfl ((tw.set0 _).set1 _)) rfl ?_
  have hb' : Below w.heap.size w w1 := (((Below.refl _ w).alloc (Nat.le_refl _) _).alloc (by simp) _).trans (hb.mono (by simp; omega))
  exact ⟨none, 0, rfl, RL.nil _ _ _ (Nat.zero_le _), (hb'.setCell (p := ⟨w.heap.size + 1, 0, none⟩) (by simp) _).setCell (p := ⟨w.heap.size + 1, 1, none⟩) (by simp) _⟩

theorem appd_empty {Wb : World} {s n1 : Nat} {l : List Int} {v3 : Value} {w3 : World} (h : Appd (Wb.drew.alloc (.cells #[] 3)) Wb.heap.size 3 (.slice (some ⟨s, 0, none⟩) 0 0) (0 + n1) (([] ++ l).map (Value.int .i64)) v3 w3) (hs : s = Wb.heap.size) :
    ∃ A3 c3, v3 = .slice A3 n1 c3 ∧ w3.ownsRow Wb.heap.size 3 1 (.slice A3 n1 c3) n1 (l.map (Value.int .i64)) ∧ Below Wb.heap.size Wb w3 := by
  subst hs
  obtain ⟨h1, h2, h3⟩ := h
  rw [Nat.zero_add, List.nil_append] at h1
  obtain ⟨A3, c3, rfl⟩ := own_form h1
  have hb : Below Wb.heap.size Wb (Wb.drew.alloc (.cells #[] 3)) := ((Below.refl _ Wb).drew).alloc (Nat.le_refl _) _
  exact ⟨A3, c3, rfl, h1, hb.grown h2 hb.size (fun g hg => by simp [Value.ownBlock] at hg; omega)⟩

set_option maxRecDepth 100000 in
set_option maxHeartbeats 4000000 in
theorem subsumeR_ok (x : Int) (A : Option Addr) (n c : Nat) (ls : List (List Int)) (w : World) (h : RL w A n c ls) (h0 : checkE x ls = 0) (hn : n ≤ 1000000) :
    Calls Try.prog 20 #[.agg #[.int .i64 x, .slice A n c]] w (Subd x (subL ls) 0 w) := by
  obtain ⟨i0, hi, hz0, hz1, hz2⟩ := info_parts infoRow
  have hcall := checkR_any x A n c ls ((w.alloc (.cells #[.int .i64 x, .slice A n c] 29)).alloc (.cells #[.int .i64 0, .slice none 0 0] 29)) ((h.alloc _).alloc _)
  rw [h0] at hcall
  have H := Lib.hid h
  clear h h0
  go_enter Try.func20, Try.ntmps20
  go_wp2_with (go_at_call 38; refine hcall.mono ?_; clear hcall; rintro e W0 ⟨rfl, hb⟩; have tw := (Two.new (w.alloc (.cells #[.int .i64 x, .slice A n c] 29)) (.int .i64 0) (.slice none 0 0)).below hb; rw [World.size_alloc] at tw; have bx := ((Two.new w (.int .i64 x) (.slice A n c)).below (((Below.refl _ _).alloc (Nat.le_refl _) (.cells #[.int .i64 0, .slice none 0 0] 29)))).below hb; have TW := Lib.hid tw; have BX := Lib.hid bx; have p0 := bx.c0; have p1 := bx.c1; have HB := Lib.hid ((((Below.refl _ w).alloc (Nat.le_refl _) _).alloc (by simp) _).trans (hb.mono (by simp; omega)) : Below w.heap.size w W0); clear hb tw bx)
  go_loopw [6] (fun i wr => ∃ (k : Nat) (rs : List Row) (L : Nat) (O : Option Addr) (co : Nat), k ≤ n ∧ i = .int .i64 k ∧ Sb w W0 wr x ls k rs L O co) (fun i _ => n - (intOf i).toNat)
  case atStart => exact ⟨0, [], 0, none, 0, Nat.zero_le _, rfl, rfl, rfl, Two.new _ _ _, World.ownsRow_nil _ _ _ _, fun r h => (by cases h), (Below.refl _ _).alloc (Nat.le_refl _) _⟩
  case round =>
    obtain ⟨k, rs, L, O, co, hk, rfl, hsb⟩ := hrel
    have HS := Lib.hid hsb
    clear hsb
    have hbw : Below w.heap.size w wr := HB.out.trans (HS.out.below.mono HB.out.size)
    have b0 : Two wr w.heap.size (.int .i64 x) (.slice A n c) := BX.out.below HS.out.below
    have b1 : Two wr (w.heap.size + 1) (.int .i64 0) (.slice none 0 0) := TW.out.below HS.out.below
    have r1 := b0.c1
    by_cases hlt : k < n
    · obtain ⟨b, off, rfl, hbl, hc⟩ := H.out.cells (by omega)
      obtain ⟨a1, n1, c1, hck, hr1⟩ := hc k hlt
      clear hc
      have HR1 := Lib.hid hr1
      have HCK := Lib.hid hck
      clear hr1 hck
      have hcon := goes_any (some ⟨b, off, none⟩) n c ls k wr (H.out.below hbw) hlt
      have HBW := Lib.hid hbw
      have B0 := Lib.hid b0
      clear b1 hbw b0
      cases hgo : goesB ls k with
      | true =>
        rw [hgo] at hcon
        have E : Hid (outTo ls (k + 1) = outTo ls k) := Lib.hid (by rw [outTo_succ, if_pos hgo])
        clear hgo
        go_wp2_with (go_at_call 46; refine hcon.mono ?_; clear hcon; rintro e Wb ⟨rfl, hg⟩; have HG := Lib.hid hg; clear hg)
        go_roundw
        case rel =>
          have h1 := HS.out.later HG.out
          exact ⟨k + 1, rs, L, O, co, by omega, by go_num, ⟨by rw [E.out]; exact h1.rows, h1.len, h1.out, h1.own, h1.inner, h1.below⟩⟩
        case measure => simp [intOf]; omega
      | false =>
        rw [hgo] at hcon
        have E : Hid (outTo ls (k + 1) = outTo ls k ++ [ell ls k]) := Lib.hid (by rw [outTo_succ, if_neg (by rw [hgo]; simp)])
        clear hgo
        go_wp2_with (go_at_call 46; refine hcon.mono ?_; clear hcon; rintro e Wb ⟨rfl, hg⟩; have HG := Lib.hid hg; clear hg)
        have h1 := HS.out.later HG.out
        have o1 := h1.out.c1
        have hbw2 := HBW.out.trans (HG.out.mono HBW.out.size)
        have cl := (hbw2.cell (p := ⟨b, off + k, none⟩) hbl).trans HCK.out
        have bl := (B0.out.below HG.out).c1
        have hri := HR1.out.below hbw2
        have hbig := hri.big
        have hl1 := hri.len
        have hLn : L ≤ n := by have := outTo_len ls k; rw [← HS.out.rows, List.length_map, HS.out.len] at this; omega
        have HSD : Hid (Sb w W0 Wb x ls k rs L O co) := Lib.hid h1
        have hsW := h1.out.lt
        have hsb : b < Wb.heap.size := Nat.lt_of_lt_of_le hbl hbw2.size
        have hsw : w.heap.size < Wb.heap.size := (B0.out.below HG.out).lt
        have hkn : (k : Int) < (n : Int) := by omega
        have HBW2 := Lib.hid hbw2
        have HRI := Lib.hid hri
        generalize ell ls k = l at E hl1 HRI HR1
        clear h1 hbw2 r1 hri
        go_region_law (first
            | (refine step_append_ri rfl (.tmp 30) (.tmp 35) rfl Wb.heap.size (.slice (some ⟨Wb.heap.size, 0, none⟩) 0 0) 0 [] rfl (own_empty Wb.drew _ _ 3 rfl (Nat.le_refl _)) a1 n1 c1 l rfl (HRI.out.drew.alloc _) (by omega) (by simp) ?_; intro v3 w3 hap; obtain ⟨A3, c3, rfl, ho3, hb3⟩ := appd_empty hap rfl; have HS3 := Lib.hid (HSD.out.later hb3); have q1 := HS3.out.out.c1; have q2 : ∀ o, (w3.alloc o).cell? ⟨W0.heap.size, 1, none⟩ = some (.slice O L co) := (fun o => (HS3.out.out.below ((Below.refl _ _).alloc (Nat.le_refl _) o)).c1); have HO3 := Lib.hid ho3; have HB3 := Lib.hid hb3; clear ho3 hb3 hap)
            | (refine step_append_row rfl (.tmp 29) (.tmp 37) rfl (W0.heap.size + 1) (.slice O L co) L (rs.map rowV) rfl (HS3.out.own.alloc _) ⟨w3.heap.size, 0, none⟩ (.slice A3 n1 c3) rfl rfl ?_ ?_ ?_ ?_; simp; omega; (have := HS3.out.out.lt; simp; omega); intro v' w5 ho5 hg5; obtain ⟨g', cap', rfl⟩ := own_succ ho5; have h5 := HS3.out.next (r := ⟨A3, n1, c3, l⟩) HO3.out hl1 hbig _ ho5 hg5 E.out; have t1 := h5.1.c1; have f1 := h5.1.f 1; have H5 := Lib.hid h5.2; clear ho5 hg5 h5))
        all_goals go_wp2_with fail
        all_goals go_roundw
        all_goals first
          | exact ⟨k + 1, _, _, _, _, by omega, by go_num, H5.out⟩
          | (simp [intOf]; omega)
    · have t0 := b1.c0
      have t1 := b1.c1
      have f0 := b1.f 0
      have f1 := b1.f 1
      have o0 := HS.out.out.c0
      have o1 := HS.out.out.c1
      have HBW := Lib.hid hbw
      have B1 := Lib.hid b1
      clear b0 b1 hbw
      go_wp2
      have hkn : k = ls.length := by rw [H.out.len]; omega
      have hs := HS.out.rows
      rw [hkn] at hs
      have hlen : (subL ls).length = L := by rw [← HS.out.len]; unfold subL; rw [← hs]; simp
      refine bodyPost_ret (subR_results rfl rfl ((B1.out.set0 _).set1 _)) rfl ?_
      refine ⟨O, co, by rw [hlen]; rfl, ?_, (HBW.out.setCell (p := ⟨w.heap.size + 1, 0, none⟩) (by simp) _).setCell (p := ⟨w.heap.size + 1, 1, none⟩) (by simp) _⟩
      have e1 : subL ls = rs.map (·.zs) := hs.symm
      have hLn : L ≤ n := by have := outTo_len ls ls.length; rw [← hs, List.length_map, HS.out.len, H.out.len] at this; exact this
      rw [hlen, e1]
      exact RL.of_rows (own_two (own_two HS.out.own (by decide) B1.out _) (by decide) (B1.out.set0 _) _) ((HS.out.inner.two B1.out _).two (B1.out.set0 _) _) (by omega)

theorem subsumeR_any (x : Int) (A : Option Addr) (n c : Nat) (ls : List (List Int)) (w : World) (h : RL w A n c ls) (hn : n ≤ 1000000) :
    Calls Try.prog 20 #[.agg #[.int .i64 x, .slice A n c]] w (Subd (if checkE x ls = 0 then x else 0) (if checkE x ls = 0 then subL ls else []) (checkE x ls) w) := by
  by_cases h0 : checkE x ls = 0
  · rw [if_pos h0, if_pos h0, h0]; exact subsumeR_ok x A n c ls w h h0 hn
  · rw [if_neg h0, if_neg h0]; exact subsumeR_bad x A n c ls w h h0

end Go.Proofs.Ytalcnkoidmoibaa
