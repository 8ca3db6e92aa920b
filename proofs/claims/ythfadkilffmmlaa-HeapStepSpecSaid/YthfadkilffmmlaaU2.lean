/-
  The reference's put. No condition.
-/
import Derived.Test.YthfadkilffmmlaaU1
namespace Go.Proofs.Ythfadkilffmmlaa
open Go.RowKit
set_option linter.unusedVariables false
set_option linter.unusedSimpArgs false

/-- what put leaves -/
def PutV (act l : List Int) (v : Int) (w : World) (e : Ending) (w' : World) : Prop :=
  ∃ i, i ≤ l.length ∧ (∀ k, k < i → ltO act (elt l k) v) ∧ (i < l.length → ¬ ltO act (elt l i) v) ∧ RowV (insAt l i v) w e w'

set_option maxRecDepth 100000 in
set_option maxHeartbeats 4000000 in
theorem put_any (A : Option Addr) (n c : Nat) (act : List Int) (A2 : Option Addr) (n2 c2 : Nat) (y : Int) (A' : Option Addr) (n' c' : Nat) (l : List Int) (v : Int) (w : World) (h : RI w A n c act) (h' : RI w A' n' c' l) (hd : Dom n l) (hv : 0 ≤ v ∧ v < n) (hn : n' ≤ 1000000) :
    Calls Try.prog 37 #[.agg #[.slice A n c, .slice A2 n2 c2, .int .i64 y], .slice A' n' c', .int .i64 v] w (PutV act l v w) := by
  obtain ⟨i0, hi, hz0, hz1, hz2⟩ := info_parts infoInt
  obtain rfl : l.length = n' := h'.len
  have H := Lib.hid h
  have H' := Lib.hid h'
  have HD := Lib.hid hd
  have hn1 := h.small
  clear h h' hd
  go_enter Try.func37, Try.ntmps37
  go_upto_block 0 with fail
  go_cut [7] (fun s wx => ∃ i : Nat, s = .int .i64 i ∧ i ≤ l.length ∧ (∀ k, k < i → ltO act (elt l k) v) ∧ (i < l.length → ¬ ltO act (elt l i) v) ∧ Below w.heap.size w wx)
  case first =>
    go_wp2_with fail
    go_loopw [7] (fun s wr => ∃ i : Nat, s = .int .i64 i ∧ i ≤ l.length ∧ (∀ k, k < i → ltO act (elt l k) v) ∧ Below (w.heap.size + 1) (w.alloc (.cells #[.slice A n c, .slice A2 n2 c2, .int .i64 y] 24)) wr) (fun s _ => l.length - (intOf s).toNat)
    case atStart => exact ⟨0, rfl, Nat.zero_le _, fun k hk => absurd hk (Nat.not_lt_zero _), Below.refl _ _⟩
    case round =>
      obtain ⟨i, rfl, hi1, hlo, hbl⟩ := hrel
      have HLO := Lib.hid hlo
      have HB := Lib.hid ((stepA w (.cells #[.slice A n c, .slice A2 n2 c2, .int .i64 y] 24)).trans (hbl.mono (by omega)))
      have BX := Lib.hid ((Box.new w (.slice A n c) (.slice A2 n2 c2) (.int .i64 y)).below (hbl.mono (by simp)))
      have HBL := Lib.hid hbl
      have hsz : w.heap.size < wr.heap.size := lt_of_block BX.out
      clear hbl hlo
      have p0 := BX.out.c0; have p1 := BX.out.c1; have p2 := BX.out.c2
      by_cases hlt : i < l.length
      · obtain ⟨b', off', rfl, hb', hc'⟩ := (H'.out.below HB.out).cells (by omega)
        have hck := hc' i hlt
        have hl1 : (i : Int) < (l.length : Int) := by omega
        have dk := HD.out.at_ hlt
        clear hc'
        generalize hoo : decide (ordI act (elt l i) v < 0) = AH
        have HOO := Lib.hid hoo
        clear hoo
        have g0 := fun u : Gr wr => u.cell (p := ⟨w.heap.size, 0, none⟩) hsz p0
        have g1 := fun u : Gr wr => u.cell (p := ⟨w.heap.size, 1, none⟩) hsz p1
        have g2 := fun u : Gr wr => u.cell (p := ⟨w.heap.size, 2, none⟩) hsz p2
        have gk := fun u : Gr wr => u.cell (p := ⟨b', off' + i, none⟩) hb' hck
        cases AH
        · go_wp2_with fail
          refine wp_region_grow (by kernel_rfl) (by kernel_rfl) ?_
          repeat (go_big_quiet_step ((go_at_call 32; exact Gr.call _ (ahead_val false _ _ _ act _ _ _ _ _ _ _ ((H.out.below HB.out).below (Gr.ok _)) dk hv HOO.out))))
          refine wpQuiet_nil ?_
          intro w2 hb2; replace hb2 := Gr.out hb2
          clear g0 g1 g2 gk
          go_wp2_with fail
          go_meet
          exact ⟨i, rfl, hi1, HLO.out, fun _ => show ¬ ordI act _ _ < 0 from of_decide_eq_false HOO.out, HB.out.trans (hb2.mono HB.out.size)⟩
        · go_wp2_with fail
          refine wp_region_grow (by kernel_rfl) (by kernel_rfl) ?_
          repeat (go_big_quiet_step ((go_at_call 32; exact Gr.call _ (ahead_val true _ _ _ act _ _ _ _ _ _ _ ((H.out.below HB.out).below (Gr.ok _)) dk hv HOO.out))))
          refine wpQuiet_nil ?_
          intro w2 hb2; replace hb2 := Gr.out hb2
          clear g0 g1 g2 gk
          go_wp2_with fail
          go_roundw
          case rel =>
            refine ⟨i + 1, by go_num, by omega, fun k hk => ?_, HBL.out.trans (hb2.mono (by omega))⟩
            by_cases e : k = i
            · subst e; exact show ordI act _ _ < 0 from of_decide_eq_true HOO.out
            · exact HLO.out k (by omega)
          case measure => simp [intOf]; omega
      · have t1 : ¬ (i : Int) < (l.length : Int) := by omega
        have t2 : decide ((i : Int) < (l.length : Int)) = false := decide_eq_false t1
        have t3 : decide (i < l.length) = false := decide_eq_false hlt
        go_wp2_with fail
        refine wp_region_grow (by kernel_rfl) (by kernel_rfl) ?_
        repeat (go_big_quiet_step (fail))
        refine wpQuiet_nil ?_
        intro w2 hb2; replace hb2 := Gr.out hb2
        go_wp2_with fail
        go_meet
        exact ⟨i, rfl, hi1, HLO.out, fun h => absurd h hlt, HB.out.trans (hb2.mono HB.out.size)⟩
  case rest =>
    obtain ⟨i, rfl, hi1, hlo, hhi, hb⟩ := hcut
    have HLO := Lib.hid hlo
    have HHI := Lib.hid hhi
    have HB := Lib.hid hb
    have R0 := Lib.hid (H'.out.below hb)
    clear hlo hhi hb
    have fin : ∀ (v3 : Value) (w3 : World), w3.ownsRow w.heap.size 3 1 v3 (i + 1 + (l.length - i)) ((l.take i ++ [v] ++ l.drop i).map (Value.int .i64)) → Below w.heap.size w w3 → PutV act l v w (.returned v3) w3 := by
      intro v3 w3 ho hb3
      obtain ⟨A3, c3, rfl⟩ := own_form ho
      have el : i + 1 + (l.length - i) = (insAt l i v).length := by rw [insAt_len _ _ _ hi1]; omega
      have ei : l.take i ++ [v] ++ l.drop i = insAt l i v := by simp [insAt]
      rw [el, ei] at ho
      refine ⟨i, hi1, HLO.out, HHI.out, A3, c3, by rw [el], RI.of_own ho (by rw [insAt_len _ _ _ hi1]; omega), fun b off e => (own_lt ho (g := b) (by rw [e]; rfl)).1, hb3⟩
    have FIN := Lib.hid fin
    clear fin
    have hsz := HB.out.size
    have hq0 : (0 : Int) ≤ (i : Int) := by omega
    have hq1 : (i : Int) ≤ (l.length : Int) := by omega
    cases A' with
    | none =>
      have hl0 : l.length = 0 := by
        rcases Nat.eq_zero_or_pos l.length with h0 | h0
        · exact h0
        · obtain ⟨b, off, he, _⟩ := H'.out.cells h0; cases he
      have hi0 : i = 0 := by omega
      subst hi0
      have R1 := Lib.hid (R0.out.take (k := 0) (Nat.zero_le _))
      have R2 : Hid (∀ w2, Below w.heap.size w w2 → RI w2 none (l.length - 0) c' (l.drop 0)) := fun w2 hb => H'.out.below hb
      have HL0 := Lib.hid hl0
      clear hl0
      go_wp2_with (first
        | (at_builtin; refine wpList_append_ri rfl (.tmp 24) (.tmp 27) rfl w.heap.size (.slice none 0 0) 0 [] rfl (World.ownsRow_nil _ _ _ _) none 0 c' (l.take 0) rfl R1.out (by omega) hsz ?_; intro v1 w1 o1 g1 l1; simp only [Nat.zero_add, List.nil_append] at o1; have O1 := Lib.hid o1; have B1 := Lib.hid (HB.out.grown g1 HB.out.size (fun g hg => by simp [Value.ownBlock] at hg)); obtain ⟨E1, d1, rfl⟩ := own_form o1; clear o1 g1 l1)
        | (at_builtin; refine wpList_append_own_at _ rfl (.tmp 29) (.tmp 31) 22 rfl w.heap.size 3 i0 (.int .i64 0) 1 8 Try.underlying22 hi hz0 hz1 hz2 rfl (by decide) (.slice E1 0 d1) 0 _ rfl (O1.out.alloc _) ⟨w1.heap.size, 0, none⟩ 1 1 [.int .i64 v] rfl rfl (cell_one_new _ _ _) (by simp [Value.oneCell']) (by unfold maxLen; omega) (by omega) (by have := B1.out.size; simp; omega) ?_; intro v2 w2 o2 g2 n2 l2; have O2 := Lib.hid o2; have B2 := Lib.hid (B1.out.grown (grown_below g2) B1.out.size (fun g hg => (own_lt O1.out hg).1)); obtain ⟨E2, d2, rfl⟩ := own_form o2; clear o2 g2 n2 l2)
        | (at_builtin; refine wpList_append_ri rfl (.tmp 33) (.tmp 36) rfl w.heap.size (.slice E2 (0 + 1) d2) (0 + 1) (l.take 0 ++ [v]) rfl (by have := O2.out; rw [List.map_append]; exact this) none (l.length - 0) c' (l.drop 0) rfl (R2.out w2 B2.out) (by omega) B2.out.size ?_; intro v3 w3 o3 g3 l3; have O3 := Lib.hid o3; have B3 := Lib.hid (B2.out.grown g3 B2.out.size (fun g hg => (own_lt O2.out hg).1)); clear o3 g3 l3))
      go_ret
      exact FIN.out _ _ O3.out B3.out
    | some ad =>
      have R1 := Lib.hid (R0.out.take (k := i) hi1)
      rcases Nat.eq_zero_or_pos l.length with hl0 | hl0
      · have hi0 : i = 0 := by omega
        subst hi0
        have hl1 : l = [] := List.eq_nil_of_length_eq_zero hl0
        have hcm := H'.out.cmax
        have R4 : Hid (∀ (w2 : World) (B : Option Addr) (cc : Nat), cc ≤ maxLen → RI w2 B (l.length - 0) cc (l.drop 0)) := fun w2 B cc hcc => by rw [hl1]; exact RI.nil _ _ _ hcc
        have HL0 := Lib.hid hl0
        have HCM := Lib.hid hcm
        clear hl0 hl1 hcm
        by_cases hci : c' = 0
        · subst hci
          go_wp2_with (first
            | (at_builtin; refine wpList_append_ri rfl (.tmp 24) (.tmp 27) rfl w.heap.size (.slice none 0 0) 0 [] rfl (World.ownsRow_nil _ _ _ _) (some ad) 0 0 (l.take 0) rfl R1.out (by omega) hsz ?_; intro v1 w1 o1 g1 l1; simp only [Nat.zero_add, List.nil_append] at o1; have O1 := Lib.hid o1; have B1 := Lib.hid (HB.out.grown g1 HB.out.size (fun g hg => by simp [Value.ownBlock] at hg)); obtain ⟨E1, d1, rfl⟩ := own_form o1; clear o1 g1 l1)
            | (at_builtin; refine wpList_append_own_at _ rfl (.tmp 29) (.tmp 31) 22 rfl w.heap.size 3 i0 (.int .i64 0) 1 8 Try.underlying22 hi hz0 hz1 hz2 rfl (by decide) (.slice E1 0 d1) 0 _ rfl (O1.out.alloc _) ⟨w1.heap.size, 0, none⟩ 1 1 [.int .i64 v] rfl rfl (cell_one_new _ _ _) (by simp [Value.oneCell']) (by unfold maxLen; omega) (by omega) (by have := B1.out.size; simp; omega) ?_; intro v2 w2 o2 g2 n2 l2; have O2 := Lib.hid o2; have B2 := Lib.hid (B1.out.grown (grown_below g2) B1.out.size (fun g hg => (own_lt O1.out hg).1)); obtain ⟨E2, d2, rfl⟩ := own_form o2; clear o2 g2 n2 l2)
            | (at_builtin; refine wpList_append_ri rfl (.tmp 33) (.tmp 36) rfl w.heap.size (.slice E2 (0 + 1) d2) (0 + 1) (l.take 0 ++ [v]) rfl (by have := O2.out; rw [List.map_append]; exact this) _ _ _ (l.drop 0) rfl (R4.out _ _ _ (by first | exact HCM.out | exact Nat.zero_le _ | (have := HCM.out; omega))) (by omega) B2.out.size ?_; intro v3 w3 o3 g3 l3; have O3 := Lib.hid o3; have B3 := Lib.hid (B2.out.grown g3 B2.out.size (fun g hg => (own_lt O2.out hg).1)); clear o3 g3 l3))
          go_ret
          exact FIN.out _ _ O3.out B3.out
        · go_wp2_with (first
            | (at_builtin; refine wpList_append_ri rfl (.tmp 24) (.tmp 27) rfl w.heap.size (.slice none 0 0) 0 [] rfl (World.ownsRow_nil _ _ _ _) (some ad) 0 c' (l.take 0) rfl R1.out (by omega) hsz ?_; intro v1 w1 o1 g1 l1; simp only [Nat.zero_add, List.nil_append] at o1; have O1 := Lib.hid o1; have B1 := Lib.hid (HB.out.grown g1 HB.out.size (fun g hg => by simp [Value.ownBlock] at hg)); obtain ⟨E1, d1, rfl⟩ := own_form o1; clear o1 g1 l1)
            | (at_builtin; refine wpList_append_own_at _ rfl (.tmp 29) (.tmp 31) 22 rfl w.heap.size 3 i0 (.int .i64 0) 1 8 Try.underlying22 hi hz0 hz1 hz2 rfl (by decide) (.slice E1 0 d1) 0 _ rfl (O1.out.alloc _) ⟨w1.heap.size, 0, none⟩ 1 1 [.int .i64 v] rfl rfl (cell_one_new _ _ _) (by simp [Value.oneCell']) (by unfold maxLen; omega) (by omega) (by have := B1.out.size; simp; omega) ?_; intro v2 w2 o2 g2 n2 l2; have O2 := Lib.hid o2; have B2 := Lib.hid (B1.out.grown (grown_below g2) B1.out.size (fun g hg => (own_lt O1.out hg).1)); obtain ⟨E2, d2, rfl⟩ := own_form o2; clear o2 g2 n2 l2)
            | (at_builtin; refine wpList_append_ri rfl (.tmp 33) (.tmp 36) rfl w.heap.size (.slice E2 (0 + 1) d2) (0 + 1) (l.take 0 ++ [v]) rfl (by have := O2.out; rw [List.map_append]; exact this) _ _ _ (l.drop 0) rfl (R4.out _ _ _ (by first | exact HCM.out | exact Nat.zero_le _ | (have := HCM.out; omega))) (by omega) B2.out.size ?_; intro v3 w3 o3 g3 l3; have O3 := Lib.hid o3; have B3 := Lib.hid (B2.out.grown g3 B2.out.size (fun g hg => (own_lt O2.out hg).1)); clear o3 g3 l3))
          go_ret
          exact FIN.out _ _ O3.out B3.out

      · obtain ⟨b, off, he, _⟩ := H'.out.cells hl0
        injection he with he
        subst he
        have R2 := Lib.hid (fun w2 (hb : Below w.heap.size w w2) => (H'.out.below hb).cutK hi1)
        have hcap := H'.out.cap
        by_cases hci : c' = i
        · subst hci
          have R3 : Hid (∀ w2, Below w.heap.size w w2 → RI w2 (some ⟨b, off, none⟩) 0 0 (l.drop c')) := fun w2 hb => by have := R2.out w2 hb; rwa [if_pos rfl, Nat.sub_self, show l.length - c' = 0 by omega] at this
          have HLC := Lib.hid (show l.length - c' = 0 by omega)
          go_wp2_with (first
            | (at_builtin; refine wpList_append_ri rfl (.tmp 24) (.tmp 27) rfl w.heap.size (.slice none 0 0) 0 [] rfl (World.ownsRow_nil _ _ _ _) (some ⟨b, off, none⟩) c' c' (l.take c') rfl R1.out (by omega) hsz ?_; intro v1 w1 o1 g1 l1; simp only [Nat.zero_add, List.nil_append] at o1; have O1 := Lib.hid o1; have B1 := Lib.hid (HB.out.grown g1 HB.out.size (fun g hg => by simp [Value.ownBlock] at hg)); obtain ⟨E1, d1, rfl⟩ := own_form o1; clear o1 g1 l1)
            | (at_builtin; refine wpList_append_own_at _ rfl (.tmp 29) (.tmp 31) 22 rfl w.heap.size 3 i0 (.int .i64 0) 1 8 Try.underlying22 hi hz0 hz1 hz2 rfl (by decide) (.slice E1 c' d1) c' _ rfl (O1.out.alloc _) ⟨w1.heap.size, 0, none⟩ 1 1 [.int .i64 v] rfl rfl (cell_one_new _ _ _) (by simp [Value.oneCell']) (by unfold maxLen; omega) (by omega) (by have := B1.out.size; simp; omega) ?_; intro v2 w2 o2 g2 n2 l2; have O2 := Lib.hid o2; have B2 := Lib.hid (B1.out.grown (grown_below g2) B1.out.size (fun g hg => (own_lt O1.out hg).1)); obtain ⟨E2, d2, rfl⟩ := own_form o2; clear o2 g2 n2 l2)
            | (at_builtin; refine wpList_append_ri rfl (.tmp 33) (.tmp 36) rfl w.heap.size (.slice E2 (c' + 1) d2) (c' + 1) (l.take c' ++ [v]) rfl (by have := O2.out; rw [List.map_append]; exact this) (some ⟨b, off, none⟩) 0 0 (l.drop c') rfl (R3.out w2 B2.out) (by omega) B2.out.size ?_; intro v3 w3 o3 g3 l3; have O3 := Lib.hid o3; have B3 := Lib.hid (B2.out.grown g3 B2.out.size (fun g hg => (own_lt O2.out hg).1)); clear o3 g3 l3))
          go_ret
          exact FIN.out _ _ (by rw [HLC.out]; exact O3.out) B3.out
        · have R3 : Hid (∀ w2, Below w.heap.size w w2 → RI w2 (some ⟨b, off + i, none⟩) (l.length - i) (c' - i) (l.drop i)) := fun w2 hb => by have := R2.out w2 hb; rwa [if_neg hci] at this
          go_wp2_with (first
            | (at_builtin; refine wpList_append_ri rfl (.tmp 24) (.tmp 27) rfl w.heap.size (.slice none 0 0) 0 [] rfl (World.ownsRow_nil _ _ _ _) (some ⟨b, off, none⟩) i c' (l.take i) rfl R1.out (by omega) hsz ?_; intro v1 w1 o1 g1 l1; simp only [Nat.zero_add, List.nil_append] at o1; have O1 := Lib.hid o1; have B1 := Lib.hid (HB.out.grown g1 HB.out.size (fun g hg => by simp [Value.ownBlock] at hg)); obtain ⟨E1, d1, rfl⟩ := own_form o1; clear o1 g1 l1)
            | (at_builtin; refine wpList_append_own_at _ rfl (.tmp 29) (.tmp 31) 22 rfl w.heap.size 3 i0 (.int .i64 0) 1 8 Try.underlying22 hi hz0 hz1 hz2 rfl (by decide) (.slice E1 i d1) i _ rfl (O1.out.alloc _) ⟨w1.heap.size, 0, none⟩ 1 1 [.int .i64 v] rfl rfl (cell_one_new _ _ _) (by simp [Value.oneCell']) (by unfold maxLen; omega) (by omega) (by have := B1.out.size; simp; omega) ?_; intro v2 w2 o2 g2 n2 l2; have O2 := Lib.hid o2; have B2 := Lib.hid (B1.out.grown (grown_below g2) B1.out.size (fun g hg => (own_lt O1.out hg).1)); obtain ⟨E2, d2, rfl⟩ := own_form o2; clear o2 g2 n2 l2)
            | (at_builtin; refine wpList_append_ri rfl (.tmp 33) (.tmp 36) rfl w.heap.size (.slice E2 (i + 1) d2) (i + 1) (l.take i ++ [v]) rfl (by have := O2.out; rw [List.map_append]; exact this) (some ⟨b, off + i, none⟩) (l.length - i) (c' - i) (l.drop i) rfl (R3.out w2 B2.out) (by omega) B2.out.size ?_; intro v3 w3 o3 g3 l3; have O3 := Lib.hid o3; have B3 := Lib.hid (B2.out.grown g3 B2.out.size (fun g hg => (own_lt O2.out hg).1)); clear o3 g3 l3))
          go_ret
          exact FIN.out _ _ O3.out B3.out

end Go.Proofs.Ythfadkilffmmlaa
