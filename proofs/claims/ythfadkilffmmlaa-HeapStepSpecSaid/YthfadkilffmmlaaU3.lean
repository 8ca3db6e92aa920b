/-
  The reference's ordered and scaled. No condition.
-/
import Derived.Test.YthfadkilffmmlaaU2
namespace Go.Proofs.Ythfadkilffmmlaa
open Go.RowKit
set_option linter.unusedVariables false
set_option linter.unusedSimpArgs false

theorem put_sorted {act m : List Int} {v : Int} {i : Nat} (hs : SortedSeg act 0 m.length m) (hi : i ≤ m.length) (h1 : ∀ k, k < i → ltO act (elt m k) v) (h2 : i < m.length → ¬ ltO act (elt m i) v) : SortedSeg act 0 (m.length + 1) (insAt m i v) := by
  have h3 : ∀ k, i ≤ k → k < m.length → ¬ ltO act (elt m k) v := fun k hk hl => by
    by_cases e : k = i
    · subst e; exact h2 hl
    · exact leO_trans (h2 (by omega)) (hs i k (by omega) (by omega) hl)
  intro p q _ hpq hq
  rw [elt_insAt _ _ _ hi, elt_insAt _ _ _ hi]
  by_cases a : q < i
  · rw [if_pos a, if_pos (by omega)]; exact hs p q (by omega) hpq (by omega)
  · rw [if_neg a]
    by_cases b : q = i
    · rw [if_pos b, if_pos (by omega)]; exact ltO_asymm (h1 p (by omega))
    · rw [if_neg b]
      by_cases c : p < i
      · rw [if_pos c]; exact hs p (q - 1) (by omega) (by omega) (by omega)
      · rw [if_neg c]
        by_cases d : p = i
        · rw [if_pos d]; exact h3 (q - 1) (by omega) (by omega)
        · rw [if_neg d]; exact hs (p - 1) (q - 1) (by omega) (by omega) (by omega)

/-- what ordered leaves -/
def OrdV (A : Option Addr) (n c : Nat) (act l : List Int) (y : Int) (w : World) (e : Ending) (w' : World) : Prop :=
  ∃ (A' : Option Addr) (c' : Nat) (l' : List Int), e = .returned (.agg #[.slice A n c, .slice A' l.length c', .int .i64 y]) ∧ RI w' A' l.length c' l' ∧ l'.Perm l ∧ SortedSeg act 0 l.length l' ∧ Fr w A' ∧ Below w.heap.size w w'

set_option maxRecDepth 100000 in
set_option maxHeartbeats 4000000 in
theorem ordered_any (A : Option Addr) (n c : Nat) (act : List Int) (A' : Option Addr) (n' c' : Nat) (l : List Int) (y : Int) (w : World) (h : RI w A n c act) (h' : RI w A' n' c' l) (hd : Dom n l) (hn : n' ≤ 1000000) :
    Calls Try.prog 48 #[.agg #[.slice A n c, .slice A' n' c', .int .i64 y]] w (OrdV A n c act l y w) := by
  obtain rfl : l.length = n' := h'.len
  have H := Lib.hid h
  have H' := Lib.hid h'
  have HD := Lib.hid hd
  clear h h' hd
  go_enter Try.func48, Try.ntmps48
  go_wp2_with fail
  go_loopw [3, 4] (fun s3 s4 wr => ∃ (k : Nat) (O : Option Addr) (co : Nat) (m : List Int), k ≤ l.length ∧ s4 = .int .i64 k ∧ s3 = .slice O k co ∧ RI wr O k co m ∧ m.Perm (l.take k) ∧ SortedSeg act 0 k m ∧ (∀ b off, O = some ⟨b, off, none⟩ → w.heap.size + 2 ≤ b) ∧
      Below (w.heap.size + 2) ((w.alloc (.cells #[.slice A n c, .slice A' l.length c', .int .i64 y] 24)).alloc (.cells #[.slice none 0 0, .slice none 0 0, .int .i64 0] 24)) wr) (fun _ i _ => l.length - (intOf i).toNat)
  case atStart => exact ⟨0, none, 0, [], Nat.zero_le _, rfl, rfl, RI.nil _ _ _ (Nat.zero_le _), List.Perm.refl _, fun p q h1 h2 h3 => by omega, (fun b off e => by cases e), Below.refl _ _⟩
  case round =>
    obtain ⟨k, O, co, m, hk, rfl, rfl, hO, hp, hs, hfr, hbl⟩ := hrel
    have KO := Lib.hid hO
    have KP := Lib.hid hp
    have KS := Lib.hid hs
    have KF := Lib.hid hfr
    have HBL := Lib.hid hbl
    have HB : Hid (Below w.heap.size w wr) := ((stepA w _).trans ((((Below.refl _ _).alloc (Nat.le_refl _) _).trans (hbl.mono (by simp))).mono (by simp)))
    have BX : Hid (Box wr w.heap.size (.slice A n c) (.slice A' l.length c') (.int .i64 y)) := (hbl.block w.heap.size (by omega)).trans ((Below.heap_alloc _ _ _ (by simp)).trans (heap_alloc_new _ _))
    have BR : Hid (Box wr (w.heap.size + 1) (.slice none 0 0) (.slice none 0 0) (.int .i64 0)) := by
      refine (hbl.block (w.heap.size + 1) (by omega)).trans ?_
      have e := heap_alloc_new (w.alloc (.cells #[.slice A n c, .slice A' l.length c', .int .i64 y] 24)) (.cells #[.slice none 0 0, .slice none 0 0, .int .i64 0] 24)
      simpa using e
    have hsz : w.heap.size + 1 < wr.heap.size := lt_of_block BR.out
    clear hO hp hs hfr hbl
    have p0 := BX.out.c0; have p1 := BX.out.c1; have p2 := BX.out.c2
    by_cases hlt : k < l.length
    · obtain ⟨b', off', rfl, hb', hc'⟩ := (H'.out.below HB.out).cells (by omega)
      have hck := hc' k hlt
      have hl1 : (k : Int) < (l.length : Int) := by omega
      have dk := HD.out.at_ hlt
      have hml : m.length = k := KO.out.len
      have hdm : Dom n m := fun z hz => HD.out z (List.mem_of_mem_take (KP.out.mem_iff.1 hz))
      have HML := Lib.hid hml
      have HDM := Lib.hid hdm
      clear hc' hml hdm
      go_wp2_with fail
      refine wp_region_still_tail 7 (by kernel_rfl) (by kernel_rfl) ?_
      simp only [List.take_succ_cons, List.take_zero, List.drop_succ_cons, List.drop_zero]
      iterate 7 still_step
      refine wpStill_nil ?_
      change wpList _ _ _ _ _ wr.drew
      go_wp2_with fail
      refine (put_any A n c act _ _ _ y O k co m (elt l k) _ (H.out.below HB.out).drew KO.out.drew HDM.out dk (by omega)).mono ?_
      rintro e w2 ⟨i, hi1, hlo, hhi, O2, co2, rfl, hr2, hf2, hb2⟩
      have el : (insAt m i (elt l k)).length = k + 1 := by rw [insAt_len _ _ _ hi1, HML.out]
      rw [el] at hr2 ⊢
      have P2 : Hid ((insAt m i (elt l k)).Perm (l.take (k + 1))) := by
        show (insAt m i (elt l k)).Perm (l.take (k + 1))
        rw [take_snoc l k hlt]
        exact push_perm KP.out
      have S2 : Hid (SortedSeg act 0 (k + 1) (insAt m i (elt l k))) := by
        have := put_sorted (act := act) (m := m) (v := elt l k) (i := i) (by rw [HML.out]; exact KS.out) hi1 hlo hhi
        rwa [HML.out] at this
      have R2 := Lib.hid hr2
      have B2 : Hid (Below (w.heap.size + 2) ((w.alloc (.cells #[.slice A n c, .slice (some ⟨b', off', none⟩) l.length c', .int .i64 y] 24)).alloc (.cells #[.slice none 0 0, .slice none 0 0, .int .i64 0] 24)) w2) := HBL.out.trans (((Below.refl _ _).drew).trans (hb2.mono (by show w.heap.size + 2 ≤ wr.heap.size; omega)))
      have F2 : Hid (∀ b off, O2 = some ⟨b, off, none⟩ → w.heap.size + 2 ≤ b) := fun b off e => by have := hf2 b off e; have e2 : wr.drew.heap.size = wr.heap.size := rfl; omega
      clear hlo hhi hr2 hf2 hb2 el p0 p1 p2
      go_wp2_with fail
      go_roundw
      case rel => exact ⟨k + 1, O2, co2, _, by omega, by go_num, rfl, R2.out, P2.out, S2.out, F2.out, B2.out⟩
      case measure => simp [intOf]; omega
    · have hkl : k = l.length := by omega
      subst hkl
      have s0 := BR.out.c0; have s1 := BR.out.c1; have s2 := BR.out.c2
      have f0 := BR.out.f 0; have f1 := BR.out.f 1; have f2 := BR.out.f 2
      have f3 := BX.out.f 1
      have hne : w.heap.size ≠ w.heap.size + 1 := by omega
      go_wp2_with fail
      refine bodyPost_ret (v := .agg #[.slice A n c, .slice O l.length co, .int .i64 y]) (by simp [results, Try.results48, go_sem, s0, s1, s2]) rfl ?_
      refine ⟨O, co, m, rfl, ?_, by have := KP.out; rwa [List.take_length] at this, KS.out, (fun b off e => by have := KF.out b off e; omega), ?_⟩
      · exact (KO.out.setOther _ (p := ⟨w.heap.size, 1, none⟩) fun b off e => by have := KF.out b off e; simp; omega).keep3 fun b off e => by have := KF.out b off e; omega
      · exact (((HB.out.setCell (by simp) _).setCell (by simp) _).setCell (by simp) _).setCell (by simp) _

/-- is By or one of the first k too great? -/
def grB (act : List Int) (y : Int) (k : Nat) : Bool := decide (1099511627776 < y) || (act.take k).any (fun x => decide (1099511627776 < x))
theorem grB_succ {act : List Int} {y : Int} {k : Nat} (h : k < act.length) : grB act y (k + 1) = (grB act y k || decide (1099511627776 < elt act k)) := by
  unfold grB; rw [take_snoc _ _ h, List.any_append]; simp [Bool.or_assoc]
theorem grB_full {act : List Int} {y : Int} (h0 : 0 < act.length) : grB act y act.length = bigB act y := by
  cases hb : bigB act y
  · obtain ⟨h1, h2⟩ := big_no hb
    unfold grB
    rw [List.take_length, Bool.or_eq_false_iff, decide_eq_false_iff_not, List.any_eq_false]
    refine ⟨by omega, fun x hx => ?_⟩
    obtain ⟨k, hk, e⟩ := List.getElem_of_mem hx
    have := h2 k hk
    rw [elt_lt hk, e] at this
    simp; omega
  · cases hg : grB act y act.length
    · exfalso
      unfold grB at hg
      rw [List.take_length, Bool.or_eq_false_iff, decide_eq_false_iff_not, List.any_eq_false] at hg
      have := big_of (act := act) (y := y) (by omega) h0 (fun k hk => by
        have := hg.2 _ (List.getElem_mem hk)
        rw [← elt_lt hk] at this
        simp at this; omega)
      rw [this] at hb; cases hb
    · rfl

set_option maxHeartbeats 4000000 in
theorem rscaled_small (A : Option Addr) (n c : Nat) (act : List Int) (A' : Option Addr) (n' c' : Nat) (y : Int) (w : World) (h : RI w A n c act) (h0 : 0 < n) (hb : bigB act y = false) :
    Calls Try.prog 39 #[.agg #[.slice A n c, .slice A' n' c', .int .i64 y]] w fun e w' => e = .returned (.agg #[.slice A n c, .slice A' n' c', .int .i64 y]) ∧ Below w.heap.size w w' := by
  have hn := h.small
  have hlen := h.len
  obtain ⟨h1, h2⟩ := big_no hb
  have t1 : ¬ 1099511627776 < y := by omega
  have t1d : decide (1099511627776 < y) = false := decide_eq_false t1
  obtain ⟨b, off, rfl, hbl, hc⟩ := h.cells h0
  have HC := Lib.hid hc
  have H2 := Lib.hid h2
  have HL := Lib.hid hlen
  clear hc h hb h2 hlen
  go_enter Try.func39, Try.ntmps39
  go_wp2_with fail
  go_loop [3, 4] (fun s3 s4 => ∃ k : Nat, k ≤ n ∧ s3 = .bool false ∧ s4 = .int .i64 k) (fun _ i => n - (intOf i).toNat)
  case atStart => exact ⟨0, Nat.zero_le _, rfl, rfl⟩
  case round =>
    obtain ⟨k, hk, rfl, rfl⟩ := hrel
    by_cases hlt : k < n
    · have hck := HC.out k hlt
      have hle := H2.out k (by rw [HL.out]; exact hlt)
      have t2 : ¬ 1099511627776 < elt act k := by omega
      go_wp2_with fail
      go_round
      case rel => exact ⟨k + 1, by omega, rfl, by go_num⟩
      case measure => simp [intOf]; omega
    · go_wp2_with fail
      refine bodyPost_ret (v := .agg #[.slice (some ⟨b, off, none⟩) n c, .slice A' n' c', .int .i64 y]) (by simp [results, Try.results39, go_sem]) rfl ⟨rfl, ?_⟩
      exact ((Below.refl _ _).alloc (Nat.le_refl _) _).alloc (by simp) _

end Go.Proofs.Ythfadkilffmmlaa
