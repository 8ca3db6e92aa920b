/-
  Contracts of slices.BinarySearchFunc over the order of the queue. No condition.
-/
import Derived.Test.YthfadkilffmmlaaW8
namespace Go.Proofs.Ythfadkilffmmlaa
open Go.RowKit
set_option linter.unusedVariables false
set_option linter.unusedSimpArgs false

/-- the search: everything ahead of i precedes v, everything from i on does not -/
def Found (act : List Int) (zs : List Int) (v : Int) (w : World) (e : Ending) (w' : World) : Prop :=
  ∃ (i : Nat) (b : Bool), e = .returned (.tuple #[.int .i64 i, .bool b]) ∧ i ≤ zs.length ∧ (∀ k, k < i → ltO act (elt zs k) v) ∧ (∀ k, i ≤ k → k < zs.length → ¬ ltO act (elt zs k) v) ∧
    (b = true ↔ i < zs.length ∧ elt zs i = v) ∧ Below w.heap.size w w'

theorem ord_zero {act : List Int} {x y : Int} : ordI act x y = 0 ↔ x = y := by
  unfold ordI orI cmpI
  constructor
  · intro h
    repeat' split at h
    all_goals omega
  · intro h; subst h; simp

set_option maxHeartbeats 2000000 in
theorem search_any (B : Nat) (A : Option Addr) (n c : Nat) (act : List Int) (A' : Option Addr) (n' c' : Nat) (zs : List Int) (v : Int) (w : World) (hB : B < w.heap.size) (hc0 : w.cell? ⟨B, 0, none⟩ = some (.slice A n c)) (h : RI w A n c act) (h' : RI w A' n' c' zs)
    (hd : Dom act.length zs) (hv : 0 ≤ v ∧ v < act.length) (hs : ∀ p q, p < q → q < zs.length → ltO act (elt zs p) (elt zs q)) :
    Calls Try.prog 40 #[.slice A' n' c', .int .i64 v, fvO B] w (Found act zs v w) := by
  have hl := h.len
  have hl' := h'.len
  have hn' := h'.small
  have H := Lib.hid h
  have H' := Lib.hid h'
  have HD := Lib.hid hd
  have HS := Lib.hid hs
  have HL := Lib.hid hl
  have HL' := Lib.hid hl'
  clear h h' hd hs hl hl'
  go_enter Try.func40, Try.ntmps40
  go_wp2
  go_loopw [9, 10] (fun i j wr => ∃ p q : Nat, i = .int .i64 p ∧ j = .int .i64 q ∧ p ≤ q ∧ q ≤ n' ∧ (∀ k, k < p → ltO act (elt zs k) v) ∧ (∀ k, q ≤ k → k < n' → ¬ ltO act (elt zs k) v) ∧ Below w.heap.size w wr) (fun i j _ => (intOf j).toNat - (intOf i).toNat)
  case atStart => exact ⟨0, n', rfl, rfl, Nat.zero_le _, Nat.le_refl _, fun k hk => absurd hk (Nat.not_lt_zero _), fun k h1 h2 => absurd h1 (by omega), Below.refl _ _⟩
  case round =>
    obtain ⟨p, q, rfl, rfl, hpq, hqn, h1, h2, hb⟩ := hrel
    have H1 := Lib.hid h1
    have H2 := Lib.hid h2
    clear h1 h2
    have hB' : B < wr.heap.size := Nat.lt_of_lt_of_le hB hb.size
    have e0 : wr.cell? ⟨B, 0, none⟩ = some (.slice A n c) := (hb.cell (p := ⟨B, 0, none⟩) hB).trans hc0
    by_cases hlt : p < q
    · obtain ⟨b', off', rfl, hb', hc'⟩ := H'.out.cells (by omega)
      have hck := (hb.cell (p := ⟨b', off' + (p + q) / 2, none⟩) hb').trans (hc' ((p + q) / 2) (by omega))
      clear hc'
      have hm1 : (p + q) / 2 < n' := by omega
      have hm2 : ((p : Int) + q) / 2 < n' := by omega
      go_wp2_with fail
      refine (order_ri B A n c act _ _ _ hB' e0 (H.out.below hb) (by have := HD.out.at_ (k := (p + q) / 2) (by rw [HL'.out]; omega); rw [HL.out] at this; exact this) (by have := hv; rw [HL.out] at this; exact this)).mono ?_
      rintro e w2 ⟨rfl, hb2⟩
      generalize hoo : ordI act (elt zs ((p + q) / 2)) v = oo
      have HOO := Lib.hid hoo
      clear hoo
      have hbl2 : Below w.heap.size w w2 := hb.trans (hb2.mono hb.size)
      by_cases ho : oo < 0
      · go_wp2_with fail
        go_roundw
        case rel =>
          refine ⟨(p + q) / 2 + 1, q, congrArg (Value.int .i64) (by omega), rfl, by omega, by omega, fun k hk => ?_, H2.out, hbl2⟩
          have hm : ltO act (elt zs ((p + q) / 2)) v := by show ordI act _ _ < 0; rw [HOO.out]; omega
          by_cases hkm : k = (p + q) / 2
          · subst hkm; exact hm
          · exact ltO_trans (HS.out k ((p + q) / 2) (by omega) (by rw [HL'.out]; omega)) hm
        case measure => simp [intOf]; omega
      · go_wp2_with fail
        go_roundw
        case rel =>
          refine ⟨p, (p + q) / 2, rfl, congrArg (Value.int .i64) (by omega), by omega, by omega, H1.out, fun k hk hkn => ?_, hbl2⟩
          have hm : ¬ ltO act (elt zs ((p + q) / 2)) v := by show ¬ ordI act _ _ < 0; rw [HOO.out]; omega
          by_cases hkm : k = (p + q) / 2
          · subst hkm; exact hm
          · exact fun h => hm (ltO_trans (HS.out ((p + q) / 2) k (by omega) (by rw [HL'.out]; omega)) h)
        case measure => simp [intOf]; omega
    · have hpq2 : p = q := by omega
      subst hpq2
      by_cases hpn : p < n'
      · obtain ⟨b', off', rfl, hb', hc'⟩ := H'.out.cells (by omega)
        have hck := (hb.cell (p := ⟨b', off' + p, none⟩) hb').trans (hc' p hpn)
        clear hc'
        have hpn1 : (p : Int) < n' := by omega
        go_wp2_with fail
        refine (order_ri B A n c act _ _ _ hB' e0 (H.out.below hb) (by have := HD.out.at_ (k := p) (by rw [HL'.out]; omega); rw [HL.out] at this; exact this) (by have := hv; rw [HL.out] at this; exact this)).mono ?_
        rintro e w2 ⟨rfl, hb2⟩
        generalize hoo : ordI act (elt zs p) v = oo
        have HOO := Lib.hid hoo
        clear hoo
        have hbl2 : Below w.heap.size w w2 := hb.trans (hb2.mono hb.size)
        go_wp2_with fail
        go_ret2
        refine ⟨p, (oo == 0), rfl, by rw [HL'.out]; omega, H1.out, by rw [HL'.out]; exact H2.out, ?_, hbl2⟩
        rw [beq_iff_eq, ← HOO.out, ord_zero, HL'.out]
        exact ⟨fun h => ⟨hpn, h⟩, fun h => h.2⟩
      · have hpn1 : ¬ (p : Int) < n' := by omega
        go_wp2_with fail
        go_ret2
        refine ⟨p, false, rfl, by rw [HL'.out]; omega, H1.out, by rw [HL'.out]; exact H2.out, ?_, hb⟩
        rw [HL'.out]
        exact ⟨fun h => (by cases h), fun h => absurd h.1 hpn⟩

end Go.Proofs.Ythfadkilffmmlaa
