/-
  Contracts of the reference's Check. No condition.
-/
import Derived.Test.YthfadkilffmmlaaR1
import Derived.Test.YthfadkilffmmlaaW19
import Derived.Test.YthfadkilffmmlaaGrow
namespace Go.Proofs.Ythfadkilffmmlaa
open Go.RowKit
set_option linter.unusedVariables false
set_option linter.unusedSimpArgs false

/-- what is asked ahead of the loops -/
def preB (act : List Int) (y : Int) : Bool := decide (0 < act.length) && decide (act.length ≤ 65537) && decide (elt act 0 = 0) && decide (1 ≤ y) && decide (y ≤ 1099511627776)
theorem check_split (act l : List Int) (y : Int) : checkB act l y = (preB act y && !(act.any oddB) && linkB act l) := by
  have hy : byB y = (decide (1 ≤ y) && decide (y ≤ 1099511627776)) := by
    rw [Bool.eq_iff_iff]
    simp only [byB, oddB, Bool.and_eq_true, Bool.not_eq_true', Bool.or_eq_false_iff, decide_eq_true_eq, decide_eq_false_iff_not]
    omega
  unfold checkB preB actB
  rw [hy, Bool.eq_iff_iff]
  simp only [Bool.and_eq_true]
  constructor
  · rintro ⟨⟨⟨⟨⟨a, b⟩, c⟩, d⟩, e, f⟩, g⟩; exact ⟨⟨⟨⟨⟨⟨a, b⟩, c⟩, e⟩, f⟩, d⟩, g⟩
  · rintro ⟨⟨⟨⟨⟨⟨a, b⟩, c⟩, e⟩, f⟩, d⟩, g⟩; exact ⟨⟨⟨⟨⟨a, b⟩, c⟩, d⟩, e, f⟩, g⟩

theorem odd_at {zs : List Int} (h : zs.any oddB = false) {k : Nat} (hk : k < zs.length) : 0 ≤ elt zs k ∧ elt zs k ≤ 1099511627776 := by
  rw [List.any_eq_false] at h
  have := h _ (List.getElem_mem hk)
  rw [← elt_lt hk] at this
  simp only [oddB, Bool.or_eq_true, decide_eq_true_eq] at this
  omega

theorem variable_val (kn : Bool) (A : Option Addr) (n c : Nat) (A' : Option Addr) (n' c' : Nat) (y v : Int) (w : World) (h : knownB n v = kn) :
    Calls Try.prog 31 #[.agg #[.slice A n c, .slice A' n' c', .int .i64 y], .int .i64 v] w fun e w' => e = .returned (.bool kn) ∧ Below w.heap.size w w' := by
  subst h; exact variable_any A n c A' n' c' y v w
theorem ahead_val (kn : Bool) (A : Option Addr) (n c : Nat) (act : List Int) (A' : Option Addr) (n' c' : Nat) (y a b : Int) (w : World) (h : RI w A n c act) (ha : 0 ≤ a ∧ a < n) (hb : 0 ≤ b ∧ b < n) (hk : decide (ordI act a b < 0) = kn) :
    Calls Try.prog 32 #[.agg #[.slice A n c, .slice A' n' c', .int .i64 y], .int .i64 a, .int .i64 b] w fun e w' => e = .returned (.bool kn) ∧ Below w.heap.size w w' := by
  subst hk; exact ahead_ri A n c act A' n' c' y a b w h ha hb

section
variable (A : Option Addr) (n c : Nat) (act : List Int) (A' : Option Addr) (n' c' : Nat) (l : List Int) (y : Int) (w : World)

set_option maxHeartbeats 1000000 in
theorem rcheck_pre (h : RI w A n c act) (hp : preB act y = false) :
    Calls Try.prog 15 #[.agg #[.slice A n c, .slice A' n' c', .int .i64 y]] w fun e w' => e = .returned (.int .i64 1) ∧ Below w.heap.size w w' := by
  have hn := h.small
  have hlen := h.len
  by_cases a1 : n = 0
  · have z1 : (n : Int) < 1 := by omega
    clear hp h a1 hlen
    go_enter Try.func15, Try.ntmps15
    go_wp2_with fail
    go_ret
    exact ⟨rfl, (Below.refl _ _).alloc (Nat.le_refl _) _⟩
  have z1 : ¬ (n : Int) < 1 := by omega
  by_cases a2 : 65537 < n
  · have z2 : (65537 : Int) < n := by omega
    clear hp h hlen
    go_enter Try.func15, Try.ntmps15
    go_wp2_with fail
    go_ret
    exact ⟨rfl, (Below.refl _ _).alloc (Nat.le_refl _) _⟩
  have z2 : ¬ (65537 : Int) < n := by omega
  have hp0 : 0 < n := by omega
  obtain ⟨b, off, rfl, hb, hcs⟩ := h.cells hp0
  have hcell := hcs 0 hp0
  simp only [Nat.add_zero] at hcell
  clear hcs
  by_cases a3 : elt act 0 = 0
  · have z3 : (elt act 0 != 0) = false := by simp [a3]
    have a4 : y < 1 ∨ 1099511627776 < y := by
      simp only [preB, hlen, a3] at hp
      have e1 : decide (0 < n) = true := by simpa using hp0
      have e2 : decide (n ≤ 65537) = true := by simp; omega
      rw [e1, e2] at hp
      simp at hp
      omega
    clear hp h hlen a3
    by_cases a5 : y < 1
    · clear a4
      go_enter Try.func15, Try.ntmps15
      go_wp2_with fail
      go_ret
      exact ⟨rfl, (Below.refl _ _).alloc (Nat.le_refl _) _⟩
    · have a6 : 1099511627776 < y := by omega
      clear a4
      go_enter Try.func15, Try.ntmps15
      go_wp2_with fail
      go_ret
      exact ⟨rfl, (Below.refl _ _).alloc (Nat.le_refl _) _⟩
  · have z3 : (elt act 0 != 0) = true := by simpa using a3
    clear hp h hlen a3
    go_enter Try.func15, Try.ntmps15
    go_wp2_with fail
    go_ret
    exact ⟨rfl, (Below.refl _ _).alloc (Nat.le_refl _) _⟩

set_option maxHeartbeats 1000000 in
theorem rcheck_odd (h : RI w A n c act) (hp : preB act y = true) (ho : act.any oddB = true) :
    Calls Try.prog 15 #[.agg #[.slice A n c, .slice A' n' c', .int .i64 y]] w fun e w' => e = .returned (.int .i64 1) ∧ Below w.heap.size w w' := by
  have hn := h.small
  have hlen := h.len
  simp only [preB, Bool.and_eq_true, decide_eq_true_eq, hlen] at hp
  obtain ⟨⟨⟨⟨a1, a2⟩, a3⟩, y1⟩, y2⟩ := hp
  have z1 : ¬ (n : Int) < 1 := by omega
  have z2 : ¬ (65537 : Int) < n := by omega
  have z3 : (elt act 0 != 0) = false := by simp [a3]
  have z4 : ¬ y < 1 := by omega
  have z5 : ¬ 1099511627776 < y := by omega
  obtain ⟨b, off, rfl, hb, hcs⟩ := h.cells a1
  have hcell := hcs 0 a1
  simp only [Nat.add_zero] at hcell
  have HCS := Lib.hid hcs
  have HO := Lib.hid ho
  have HL := Lib.hid hlen
  clear ho hlen a3 hcs h
  go_enter Try.func15, Try.ntmps15
  go_wp2_with fail
  clear hcell
  go_loop [3] (fun i => ∃ k : Nat, k ≤ n ∧ i = .int .i64 k ∧ (act.take k).any oddB = false) (fun i => n - (intOf i).toNat)
  case atStart => exact ⟨0, Nat.zero_le _, rfl, rfl⟩
  case round =>
    obtain ⟨k, hk, rfl, hno⟩ := hrel
    have HN := Lib.hid hno
    clear hno
    by_cases hlt : k < n
    · have hck := HCS.out k hlt
      by_cases e1 : elt act k < 0
      · go_wp2_with fail
        go_ret
        exact ⟨rfl, (Below.refl _ _).alloc (Nat.le_refl _) _⟩
      · by_cases e2 : 1099511627776 < elt act k
        · go_wp2_with fail
          go_ret
          exact ⟨rfl, (Below.refl _ _).alloc (Nat.le_refl _) _⟩
        · go_wp2_with fail
          go_round
          case rel => exact ⟨k + 1, by omega, by go_num, any_step (by rw [HL.out]; exact hlt) (by simp [oddB]; omega) HN.out⟩
          case measure => simp [intOf]; omega
    · exact absurd (any_full HL.out hlt HN.out) (by rw [HO.out]; simp)

set_option maxRecDepth 100000 in
set_option maxHeartbeats 2000000 in
theorem rcheck_link (h : RI w A n c act) (h' : RI w A' n' c' l) (hp : preB act y = true) (ho : act.any oddB = false) :
    Calls Try.prog 15 #[.agg #[.slice A n c, .slice A' n' c', .int .i64 y]] w fun e w' => e = .returned (.int .i64 (errB (linkB act l))) ∧ Below w.heap.size w w' := by
  have hn := h.small
  have hn' := h'.small
  have hlen := h.len
  simp only [preB, Bool.and_eq_true, decide_eq_true_eq, hlen] at hp
  obtain ⟨⟨⟨⟨a1, a2⟩, a3⟩, y1⟩, y2⟩ := hp
  have z1 : ¬ (n : Int) < 1 := by omega
  have z2 : ¬ (65537 : Int) < n := by omega
  have z3 : (elt act 0 != 0) = false := by simp [a3]
  have z4 : ¬ y < 1 := by omega
  have z5 : ¬ 1099511627776 < y := by omega
  have H := Lib.hid h
  obtain ⟨b, off, rfl, hb, hcs⟩ := h.cells a1
  have hcell := hcs 0 a1
  simp only [Nat.add_zero] at hcell
  have HCS := Lib.hid hcs
  have HO := Lib.hid ho
  have HL := Lib.hid hlen
  have H' := Lib.hid h'
  clear ho hlen a3 hcs h h'
  go_enter Try.func15, Try.ntmps15
  go_wp2_with fail
  clear hcell
  go_loop [3] (fun i => ∃ k : Nat, k ≤ n ∧ i = .int .i64 k) (fun i => n - (intOf i).toNat)
  case atStart => exact ⟨0, Nat.zero_le _, rfl⟩
  case round =>
    obtain ⟨k, hk, rfl⟩ := hrel
    by_cases hlt : k < n
    · have hck := HCS.out k hlt
      have hok := odd_at HO.out (k := k) (by rw [HL.out]; exact hlt)
      have e1 : ¬ elt act k < 0 := by omega
      have e2 : ¬ 1099511627776 < elt act k := by omega
      clear hok
      go_wp2_with fail
      go_round
      case rel => exact ⟨k + 1, by omega, by go_num⟩
      case measure => simp [intOf]; omega
    · go_wp2_with fail
      go_loopw [4] (fun i wr => ∃ k : Nat, k ≤ n' ∧ i = .int .i64 k ∧ (∀ i, i < k → okAt act l i = true) ∧ Below (w.heap.size + 1) (w.alloc (.cells #[.slice (some ⟨b, off, none⟩) n c, .slice A' n' c', .int .i64 y] 24)) wr) (fun i _ => n' - (intOf i).toNat)
      case atStart => exact ⟨0, Nat.zero_le _, rfl, fun i hi => absurd hi (Nat.not_lt_zero _), Below.refl _ _⟩
      case round =>
        obtain ⟨k, hk, rfl, hok, hbl⟩ := hrel
        have HOK := Lib.hid hok
        clear hok
        have HB := Lib.hid ((stepA w (.cells #[.slice (some ⟨b, off, none⟩) n c, .slice A' n' c', .int .i64 y] 24)).trans (hbl.mono (by omega)))
        have BX := Lib.hid ((Box.new w (.slice (some ⟨b, off, none⟩) n c) (.slice A' n' c') (.int .i64 y)).below (hbl.mono (by simp)))
        have HBL := Lib.hid hbl
        have hsz : w.heap.size < wr.heap.size := lt_of_block BX.out
        clear hbl
        have H1 := Lib.hid (H.out.below HB.out)
        have p0 := BX.out.c0; have p1 := BX.out.c1; have p2 := BX.out.c2
        by_cases hlt : k < n'
        · obtain ⟨b', off', rfl, hb', hc'⟩ := H'.out.cells (by omega)
          have hck := (HB.out.cell (p := ⟨b', off' + k, none⟩) hb').trans (hc' k hlt)
          have hckp : 0 < k → wr.cell? ⟨b', off' + (k - 1), none⟩ = some (.int .i64 (elt l (k - 1))) := fun h0 => (HB.out.cell (p := ⟨b', off' + (k - 1), none⟩) hb').trans (hc' (k - 1) (by omega))
          have hb2 : b' < wr.heap.size := by omega
          have hl1 : (k : Int) < (n' : Int) := by omega
          clear hc'
          generalize hkn : knownB n (elt l k) = kn
          have HKN := Lib.hid hkn
          clear hkn
          cases kn
          · clear hckp
            go_wp2_with fail
            refine wp_region_grow (by kernel_rfl) (by kernel_rfl) ?_
            have g0 := fun u : Gr wr => u.cell (p := ⟨w.heap.size, 0, none⟩) hsz p0
            have g1 := fun u : Gr wr => u.cell (p := ⟨w.heap.size, 1, none⟩) hsz p1
            have g2 := fun u : Gr wr => u.cell (p := ⟨w.heap.size, 2, none⟩) hsz p2
            have gk := fun u : Gr wr => u.cell (p := ⟨b', off' + k, none⟩) hb2 hck
            repeat (go_big_quiet_step ((go_at_call 31; exact Gr.call _ (variable_val false _ _ _ _ _ _ _ _ _ HKN.out))))
            refine wpQuiet_nil ?_
            rintro _ ⟨⟨w2, hb2⟩, rfl⟩
            go_wp2_with fail
            go_ret
            exact ⟨ret_err (by rw [linkB_no (k := k) (by rw [H'.out.len]; exact hlt) (by simp [okAt, HL.out, HKN.out])]; rfl), HB.out.trans (hb2.mono HB.out.size)⟩
          · by_cases hk0 : k = 0
            · subst hk0
              simp only [Nat.add_zero] at hck
              clear hckp
              go_wp2_with fail
              refine wp_region_grow (by kernel_rfl) (by kernel_rfl) ?_
              have g0 := fun u : Gr wr => u.cell (p := ⟨w.heap.size, 0, none⟩) hsz p0
              have g1 := fun u : Gr wr => u.cell (p := ⟨w.heap.size, 1, none⟩) hsz p1
              have g2 := fun u : Gr wr => u.cell (p := ⟨w.heap.size, 2, none⟩) hsz p2
              have gk := fun u : Gr wr => u.cell (p := ⟨b', off', none⟩) hb2 hck
              repeat (go_big_quiet_step ((go_at_call 31; exact Gr.call _ (variable_val true _ _ _ _ _ _ _ _ _ HKN.out))))
              refine wpQuiet_nil ?_
              rintro _ ⟨⟨w2, hb2⟩, rfl⟩
              go_wp2_with fail
              go_roundw
              case rel => exact ⟨1, by omega, by go_num, linkB_step HOK.out (by simp [okAt, HL.out, HKN.out]), HBL.out.trans (hb2.mono (by omega))⟩
              case measure => simp [intOf]; omega
            · have hk1 : 0 < k := by omega
              have hk2 : (0 : Int) < k := by omega
              have hcp := hckp hk1
              clear hckp
              have hp := HOK.out (k - 1) (by omega)
              simp only [okAt, Bool.and_eq_true, HL.out, knownB_iff] at hp
              have hp1 := hp.1
              clear hp
              have hp2 := knownB_iff.1 HKN.out
              have hl2 : (k : Int) - 1 < (n' : Int) := by omega
              have hw1 : IntKind.i64.wrap ((k : Int) - 1) = (k : Int) - 1 := by rw [IntKind.wrap_i64]; omega
              have hw2 : (0 : Int) ≤ (k : Int) - 1 := by omega
              have hw3 : ((k : Int) - 1).toNat = k - 1 := by omega
              generalize hoo : decide (ordI act (elt l (k - 1)) (elt l k) < 0) = AH
              have HOO := Lib.hid hoo
              clear hoo
              cases AH
              · go_wp2_with fail
                refine wp_region_grow (by kernel_rfl) (by kernel_rfl) ?_
                have g0 := fun u : Gr wr => u.cell (p := ⟨w.heap.size, 0, none⟩) hsz p0
                have g1 := fun u : Gr wr => u.cell (p := ⟨w.heap.size, 1, none⟩) hsz p1
                have g2 := fun u : Gr wr => u.cell (p := ⟨w.heap.size, 2, none⟩) hsz p2
                have gk := fun u : Gr wr => u.cell (p := ⟨b', off' + k, none⟩) hb2 hck
                have gp := fun u : Gr wr => u.cell (p := ⟨b', off' + (k - 1), none⟩) hb2 hcp
                repeat (go_big_quiet_step (first | (go_at_call 31; exact Gr.call _ (variable_val true _ _ _ _ _ _ _ _ _ HKN.out)) | (go_at_call 32; exact Gr.call _ (ahead_val false _ _ _ act _ _ _ _ _ _ _ (H1.out.below (Gr.ok _)) ⟨by omega, hp1.2⟩ ⟨by omega, hp2.2⟩ HOO.out))))
                refine wpQuiet_nil ?_
                rintro _ ⟨⟨w2, hb2⟩, rfl⟩
                clear hw1 hw3
                go_wp2_with fail
                go_ret
                exact ⟨ret_err (by rw [linkB_no (k := k) (by rw [H'.out.len]; exact hlt) (by simp only [okAt, HL.out, HKN.out, HOO.out]; simp; omega)]; rfl), HB.out.trans (hb2.mono HB.out.size)⟩
              · go_wp2_with fail
                refine wp_region_grow (by kernel_rfl) (by kernel_rfl) ?_
                have g0 := fun u : Gr wr => u.cell (p := ⟨w.heap.size, 0, none⟩) hsz p0
                have g1 := fun u : Gr wr => u.cell (p := ⟨w.heap.size, 1, none⟩) hsz p1
                have g2 := fun u : Gr wr => u.cell (p := ⟨w.heap.size, 2, none⟩) hsz p2
                have gk := fun u : Gr wr => u.cell (p := ⟨b', off' + k, none⟩) hb2 hck
                have gp := fun u : Gr wr => u.cell (p := ⟨b', off' + (k - 1), none⟩) hb2 hcp
                repeat (go_big_quiet_step (first | (go_at_call 31; exact Gr.call _ (variable_val true _ _ _ _ _ _ _ _ _ HKN.out)) | (go_at_call 32; exact Gr.call _ (ahead_val true _ _ _ act _ _ _ _ _ _ _ (H1.out.below (Gr.ok _)) ⟨by omega, hp1.2⟩ ⟨by omega, hp2.2⟩ HOO.out))))
                refine wpQuiet_nil ?_
                rintro _ ⟨⟨w2, hb2⟩, rfl⟩
                clear hw1 hw3
                go_wp2_with fail
                go_roundw
                case rel => exact ⟨k + 1, by omega, by go_num, linkB_step HOK.out (by simp only [okAt, HL.out, HKN.out, HOO.out]; simp), HBL.out.trans (hb2.mono (by omega))⟩
                case measure => simp [intOf]; omega
        · go_wp2_with fail
          go_ret
          exact ⟨ret_err (by rw [linkB_full H'.out.len hlt HOK.out]; rfl), HB.out⟩

theorem rcheck_any (h : RI w A n c act) (h' : RI w A' n' c' l) :
    Calls Try.prog 15 #[.agg #[.slice A n c, .slice A' n' c', .int .i64 y]] w fun e w' => e = .returned (.int .i64 (errB (checkB act l y))) ∧ Below w.heap.size w w' := by
  rw [check_split]
  cases hp : preB act y
  · exact rcheck_pre A n c act A' n' c' y w h hp
  · cases ho : act.any oddB
    · simpa using rcheck_link A n c act A' n' c' l y w h h' hp ho
    · exact rcheck_odd A n c act A' n' c' y w h hp ho
end

end Go.Proofs.Ythfadkilffmmlaa
