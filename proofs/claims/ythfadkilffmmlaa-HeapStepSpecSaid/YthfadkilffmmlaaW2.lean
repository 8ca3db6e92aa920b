/-
  Contracts of the heap's check. No condition.
-/
import Derived.Test.YthfadkilffmmlaaW1
namespace Go.Proofs.Ythfadkilffmmlaa
open Go.RowKit
set_option linter.unusedVariables false
set_option linter.unusedSimpArgs false

def IdxOdd (zs : List Int) (w : World) (e : Ending) (w' : World) : Prop := ∃ r : Int, e = .returned (.int .i64 r) ∧ (decide (0 ≤ r) = zs.any oddB) ∧ w = w'

theorem any_of_at {zs : List Int} {k : Nat} (h : k < zs.length) (e : oddB (elt zs k) = true) : zs.any oddB = true := by
  rw [elt_lt h] at e
  rw [List.any_eq_true]; exact ⟨_, List.getElem_mem h, e⟩
theorem any_step {zs : List Int} {k : Nat} (h : k < zs.length) (e : oddB (elt zs k) = false) (h0 : (zs.take k).any oddB = false) : (zs.take (k + 1)).any oddB = false := by
  rw [take_snoc zs k h, List.any_append, h0]; simp [e]
theorem any_full {zs : List Int} {k n : Nat} (hl : zs.length = n) (h : ¬ k < n) (h0 : (zs.take k).any oddB = false) : zs.any oddB = false := by
  rw [List.take_of_length_le (by omega)] at h0; exact h0

set_option maxHeartbeats 400000 in
theorem indexOdd_any (A : Option Addr) (n c : Nat) (zs : List Int) (w : World) (h : RI w A n c zs) :
    Calls Try.prog 53 #[.slice A n c, .func (.func 43) #[] #[]] w (IdxOdd zs w) := by
  have hn := h.small
  have H := Lib.hid h
  clear h
  go_enter Try.func53, Try.ntmps53
  go_wp2
  go_loop [8] (fun i => ∃ k : Nat, k ≤ n ∧ i = .int .i64 k ∧ (zs.take k).any oddB = false) (fun i => n - (intOf i).toNat)
  case atStart => exact ⟨0, Nat.zero_le _, rfl, rfl⟩
  case round =>
    obtain ⟨k, hk, rfl, hno⟩ := hrel
    have HN := Lib.hid hno
    clear hno
    by_cases hlt : k < n
    · obtain ⟨b, off, rfl, hb, hc⟩ := H.out.cells (by omega)
      have hck := hc k hlt
      clear hc
      generalize ho : oddB (elt zs k) = o
      have HO := Lib.hid ho
      clear ho
      cases o
      · go_wp2_with (go_at_call 43; refine (odd_any _ _).mono ?_; rintro e w' ⟨rfl, rfl⟩; rw [HO.out])
        go_round
        case rel => exact ⟨k + 1, by omega, by go_num, any_step (by rw [H.out.len]; exact hlt) HO.out HN.out⟩
        case measure => simp [intOf]; omega
      · go_wp2_with (go_at_call 43; refine (odd_any _ _).mono ?_; rintro e w' ⟨rfl, rfl⟩; rw [HO.out])
        go_ret
        exact ⟨k, rfl, by rw [any_of_at (by rw [H.out.len]; exact hlt) HO.out]; simp, rfl⟩
    · go_wp2
      go_ret
      exact ⟨-1, rfl, by rw [any_full H.out.len hlt HN.out]; rfl, rfl⟩

set_option maxHeartbeats 400000 in
theorem containsOdd_any (A : Option Addr) (n c : Nat) (zs : List Int) (w : World) (h : RI w A n c zs) :
    Calls Try.prog 44 #[.slice A n c, .func (.func 43) #[] #[]] w fun e w' => e = .returned (.bool (zs.any oddB)) ∧ w = w' := by
  have H := Lib.hid h
  clear h
  go_enter Try.func44, Try.ntmps44
  go_wp2_with fail
  refine (indexOdd_any A n c zs _ H.out).mono ?_
  rintro e w' ⟨r, rfl, hr, rfl⟩
  have HR := Lib.hid hr
  clear hr
  go_wp2
  go_ret
  exact ⟨ret_bool HR.out, rfl⟩

/-- the order of the queue at place i -/
def okAt (act l : List Int) (i : Nat) : Bool := knownB act.length (elt l i) && (decide (i = 0) || decide (ordI act (elt l (i - 1)) (elt l i) < 0))
def linkB (act l : List Int) : Bool := (List.range l.length).all (okAt act l)
def actB (act : List Int) : Bool := decide (0 < act.length) && decide (act.length ≤ 65537) && decide (elt act 0 = 0) && !(act.any oddB)
def byB (y : Int) : Bool := decide (y ≠ 0) && !(oddB y)
def checkB (act l : List Int) (y : Int) : Bool := actB act && byB y && linkB act l
def errB (b : Bool) : Int := if b then 0 else 1

theorem ret_err {b : Bool} {x : Int} (h : x = errB b) : Ending.returned (.int .i64 x) = .returned (.int .i64 (errB b)) := by rw [h]



theorem order_ri (B : Nat) (A : Option Addr) (n c : Nat) (act : List Int) (a b : Int) (w : World) (hB : B < w.heap.size) (hc0 : w.cell? ⟨B, 0, none⟩ = some (.slice A n c)) (h : RI w A n c act)
    (ha : 0 ≤ a ∧ a < n) (hb : 0 ≤ b ∧ b < n) :
    Calls Try.prog 41 #[.pointer (some ⟨B, 0, none⟩), .int .i64 a, .int .i64 b] w fun e w' => e = .returned (.int .i64 (ordI act a b)) ∧ Below w.heap.size w w' := by
  obtain ⟨x, rfl⟩ := Int.eq_ofNat_of_zero_le ha.1
  obtain ⟨y, rfl⟩ := Int.eq_ofNat_of_zero_le hb.1
  obtain ⟨g, off, rfl, hg, hc⟩ := h.cells (by omega)
  exact order_any B g off n c act x y w hB hg hc0 (by omega) (by omega) h.small (hc x (by omega)) (hc y (by omega))

theorem linkB_step {act l : List Int} {k : Nat} (h : ∀ i, i < k → okAt act l i = true) (e : okAt act l k = true) : ∀ i, i < k + 1 → okAt act l i = true := by
  intro i hi
  by_cases hik : i = k
  · subst hik; exact e
  · exact h i (by omega)
theorem linkB_full {act l : List Int} {k n : Nat} (hl : l.length = n) (hk : ¬ k < n) (h : ∀ i, i < k → okAt act l i = true) : linkB act l = true := by
  unfold linkB; rw [List.all_eq_true]; intro i hi; rw [List.mem_range] at hi; exact h i (by omega)
theorem linkB_no {act l : List Int} {k : Nat} (hk : k < l.length) (h : okAt act l k = false) : linkB act l = false := by
  unfold linkB; rw [List.all_eq_false]; exact ⟨k, List.mem_range.2 hk, by simp [h]⟩

section
variable (B : Nat) (A : Option Addr) (n c : Nat) (act : List Int) (A' : Option Addr) (n' c' : Nat) (l : List Int) (y : Int) (w : World)

set_option maxHeartbeats 1000000 in
theorem check_loop (hB : B < w.heap.size) (hc0 : w.cell? ⟨B, 0, none⟩ = some (.slice A n c)) (hc1 : w.cell? ⟨B, 1, none⟩ = some (.slice A' n' c')) (hc2 : w.cell? ⟨B, 2, none⟩ = some (.int .i64 y))
    (h : RI w A n c act) (h' : RI w A' n' c' l) (ha : actB act = true) (hy : byB y = true) :
    Calls Try.prog 30 #[.pointer (some ⟨B, 0, none⟩)] w fun e w' => e = .returned (.int .i64 (errB (linkB act l))) ∧ Below w.heap.size w w' := by
  have hn := h.small
  have hn' := h'.small
  have hlen := h.len
  simp only [actB, byB, Bool.and_eq_true, decide_eq_true_eq, Bool.not_eq_true', ne_eq, hlen] at ha hy
  obtain ⟨⟨⟨a1, a2⟩, a3⟩, a4⟩ := ha
  obtain ⟨y1, y2⟩ := hy
  have z1 : ((n : Int) == 0) = false := by simp; omega
  have z2 : ¬ (65537 : Int) < n := by omega
  have z3 : (elt act 0 != 0) = false := by simp [a3]
  have z4 : (y == 0) = false := by simpa using y1
  obtain ⟨b, off, rfl, hb, hcs⟩ := h.cells (by omega)
  have hcell := hcs 0 (by omega)
  simp only [Nat.add_zero] at hcell
  have H := Lib.hid h
  have H' := Lib.hid h'
  have HL := Lib.hid hlen
  have A4 := Lib.hid a4
  have Y2 := Lib.hid y2
  clear h h' hlen a4 y2 a3 y1 hcs
  go_enter Try.func30, Try.ntmps30
  go_wp2_with fail
  refine (containsOdd_any _ n c act _ H.out).mono ?_
  rintro e w' ⟨rfl, rfl⟩
  rw [A4.out]
  go_wp2_with fail
  refine (odd_any _ _).mono ?_
  rintro e w' ⟨rfl, rfl⟩
  rw [Y2.out]
  go_wp2_with fail
  go_loopw [64] (fun i wr => ∃ k : Nat, k ≤ n' ∧ i = .int .i64 k ∧ (∀ i, i < k → okAt act l i = true) ∧ Below w.heap.size w wr) (fun i _ => n' - (intOf i).toNat)
  case atStart => exact ⟨0, Nat.zero_le _, rfl, fun i hi => absurd hi (Nat.not_lt_zero _), Below.refl _ _⟩
  case round =>
    obtain ⟨k, hk, rfl, hok, hbl⟩ := hrel
    have HOK := Lib.hid hok
    clear hok
    have H1 := Lib.hid (H.out.below hbl)
    obtain ⟨hcc, hff⟩ := bcell hbl
    have hB' : B < wr.heap.size := Nat.lt_of_lt_of_le hB hbl.size
    have e0 := (hcc B 0 hB).trans hc0
    have e1 := (hcc B 1 hB).trans hc1
    clear hcc hff
    by_cases hlt : k < n'
    · obtain ⟨b', off', rfl, hb', hc'⟩ := H'.out.cells (by omega)
      have hck := (hbl.cell (p := ⟨b', off' + k, none⟩) hb').trans (hc' k hlt)
      have hckp : 0 < k → wr.cell? ⟨b', off' + (k - 1), none⟩ = some (.int .i64 (elt l (k - 1))) := fun h0 => (hbl.cell (p := ⟨b', off' + (k - 1), none⟩) hb').trans (hc' (k - 1) (by omega))
      clear hc'
      generalize hkn : knownB n (elt l k) = kn
      have HKN := Lib.hid hkn
      clear hkn
      cases kn
      · go_wp2_with (go_at_call 34; refine (known_any B _ n c _ _ e0).mono ?_; rintro e w' ⟨rfl, rfl⟩; rw [HKN.out])
        go_ret
        exact ⟨ret_err (by rw [linkB_no (k := k) (by rw [H'.out.len]; exact hlt) (by simp [okAt, HL.out, HKN.out])]; rfl), hbl⟩
      · by_cases hk0 : k = 0
        · subst hk0
          simp only [Nat.add_zero] at hck
          clear hckp
          go_wp2_with (go_at_call 34; refine (known_any B _ n c _ _ e0).mono ?_; rintro e w' ⟨rfl, rfl⟩; rw [HKN.out])
          go_roundw
          case rel => exact ⟨1, by omega, by go_num, linkB_step HOK.out (by simp [okAt, HL.out, HKN.out]), hbl⟩
          case measure => simp [intOf]; omega
        · have hk1 : 0 < k := by omega
          have hk2 : (0 : Int) < k := by omega
          have hcp := hckp hk1
          clear hckp
          have hp := HOK.out (k - 1) (by omega)
          simp only [okAt, Bool.and_eq_true, HL.out, knownB_iff] at hp
          have hp1 := hp.1
          clear hp
          have hp2 := knownB_iff.1 HKN.out
          go_wp2_with fail
          refine (known_any B _ n c _ _ e0).mono ?_
          rintro e w' ⟨rfl, rfl⟩
          rw [HKN.out]
          go_wp2_with fail
          refine (order_ri B _ n c act _ _ _ hB' e0 H1.out ⟨by omega, hp1.2⟩ ⟨by omega, hp2.2⟩).mono ?_
          rintro e w2 ⟨rfl, hb2⟩
          generalize hoo : ordI act (elt l (k - 1)) (elt l k) = oo
          have HOO := Lib.hid hoo
          clear hoo
          have hbl2 : Below w.heap.size w w2 := hbl.trans (hb2.mono hbl.size)
          by_cases ho : oo < 0
          · go_wp2_with fail
            go_roundw
            case rel => exact ⟨k + 1, by omega, by go_num, linkB_step HOK.out (by simp only [okAt, HL.out, HKN.out, HOO.out]; simp [ho]), hbl2⟩
            case measure => simp [intOf]; omega
          · go_wp2_with fail
            go_ret
            exact ⟨ret_err (by rw [linkB_no (k := k) (by rw [H'.out.len]; exact hlt) (by simp only [okAt, HL.out, HKN.out, HOO.out]; simp; omega)]; rfl), hbl2⟩
    · go_wp2_with fail
      go_ret
      exact ⟨ret_err (by rw [linkB_full H'.out.len hlt HOK.out]; rfl), hbl⟩

set_option maxHeartbeats 1000000 in
theorem check_act (hB : B < w.heap.size) (hc0 : w.cell? ⟨B, 0, none⟩ = some (.slice A n c)) 
    (h : RI w A n c act) (ha : actB act = false) :
    Calls Try.prog 30 #[.pointer (some ⟨B, 0, none⟩)] w fun e w' => e = .returned (.int .i64 1) ∧ Below w.heap.size w w' := by
  have hn := h.small
  have hlen := h.len
  by_cases a1 : n = 0
  · have z1 : ((n : Int) == 0) = true := by simp [a1]
    clear ha h a1 hlen
    go_enter Try.func30, Try.ntmps30
    go_wp2_with fail
    go_ret
    exact ⟨rfl, Below.refl _ _⟩
  have z1 : ((n : Int) == 0) = false := by simp; omega
  by_cases a2 : 65537 < n
  · have z2 : (65537 : Int) < n := by omega
    clear ha h hlen
    go_enter Try.func30, Try.ntmps30
    go_wp2_with fail
    go_ret
    exact ⟨rfl, Below.refl _ _⟩
  have z2 : ¬ (65537 : Int) < n := by omega
  have hp : 0 < n := by omega
  obtain ⟨b, off, rfl, hb, hcs⟩ := h.cells hp
  have hcell := hcs 0 hp
  simp only [Nat.add_zero] at hcell
  clear hcs
  by_cases a3 : elt act 0 = 0
  · have z3 : (elt act 0 != 0) = false := by simp [a3]
    have a4 : act.any oddB = true := by
      simp only [actB, hlen, a3] at ha
      have e1 : decide (0 < n) = true := by simpa using hp
      have e2 : decide (n ≤ 65537) = true := by simp; omega
      rw [e1, e2] at ha
      simpa using ha
    have H := Lib.hid h
    have A4 := Lib.hid a4
    clear ha h hlen a3 a4
    go_enter Try.func30, Try.ntmps30
    go_wp2_with fail
    refine (containsOdd_any _ n c act _ H.out).mono ?_
    rintro e w' ⟨rfl, rfl⟩
    rw [A4.out]
    go_wp2_with fail
    go_ret
    exact ⟨rfl, Below.refl _ _⟩
  · have z3 : (elt act 0 != 0) = true := by simpa using a3
    clear ha h hlen a3
    go_enter Try.func30, Try.ntmps30
    go_wp2_with fail
    go_ret
    exact ⟨rfl, Below.refl _ _⟩

set_option maxHeartbeats 1000000 in
theorem check_by (hB : B < w.heap.size) (hc0 : w.cell? ⟨B, 0, none⟩ = some (.slice A n c)) (hc2 : w.cell? ⟨B, 2, none⟩ = some (.int .i64 y))
    (h : RI w A n c act) (ha : actB act = true) (hy : byB y = false) :
    Calls Try.prog 30 #[.pointer (some ⟨B, 0, none⟩)] w fun e w' => e = .returned (.int .i64 1) ∧ Below w.heap.size w w' := by
  have hn := h.small
  have hlen := h.len
  simp only [actB, Bool.and_eq_true, decide_eq_true_eq, Bool.not_eq_true', hlen] at ha
  obtain ⟨⟨⟨a1, a2⟩, a3⟩, a4⟩ := ha
  have z1 : ((n : Int) == 0) = false := by simp; omega
  have z2 : ¬ (65537 : Int) < n := by omega
  have z3 : (elt act 0 != 0) = false := by simp [a3]
  obtain ⟨b, off, rfl, hb, hcs⟩ := h.cells (by omega)
  have hcell := hcs 0 (by omega)
  simp only [Nat.add_zero] at hcell
  have H := Lib.hid h
  have A4 := Lib.hid a4
  have HY := Lib.hid hy
  clear h hlen a4 a3 hcs hy
  by_cases y1 : y = 0
  · have z4 : (y == 0) = true := by simpa using y1
    clear y1
    go_enter Try.func30, Try.ntmps30
    go_wp2_with fail
    refine (containsOdd_any _ n c act _ H.out).mono ?_
    rintro e w' ⟨rfl, rfl⟩
    rw [A4.out]
    go_wp2_with fail
    go_ret
    exact ⟨rfl, Below.refl _ _⟩
  · have z4 : (y == 0) = false := by simpa using y1
    have y2 : oddB y = true := by have := HY.out; simp only [byB] at this; simpa [y1] using this
    have Y2 := Lib.hid y2
    clear y1 y2
    go_enter Try.func30, Try.ntmps30
    go_wp2_with fail
    refine (containsOdd_any _ n c act _ H.out).mono ?_
    rintro e w' ⟨rfl, rfl⟩
    rw [A4.out]
    go_wp2_with fail
    refine (odd_any _ _).mono ?_
    rintro e w' ⟨rfl, rfl⟩
    rw [Y2.out]
    go_wp2_with fail
    go_ret
    exact ⟨rfl, Below.refl _ _⟩

theorem check_any (hB : B < w.heap.size) (hc0 : w.cell? ⟨B, 0, none⟩ = some (.slice A n c)) (hc1 : w.cell? ⟨B, 1, none⟩ = some (.slice A' n' c')) (hc2 : w.cell? ⟨B, 2, none⟩ = some (.int .i64 y))
    (h : RI w A n c act) (h' : RI w A' n' c' l) :
    Calls Try.prog 30 #[.pointer (some ⟨B, 0, none⟩)] w fun e w' => e = .returned (.int .i64 (errB (checkB act l y))) ∧ Below w.heap.size w w' := by
  cases ha : actB act
  · have e : checkB act l y = false := by simp [checkB, ha]
    rw [e]
    exact check_act B A n c act w hB hc0 h ha
  · cases hy : byB y
    · have e : checkB act l y = false := by simp [checkB, hy]
      rw [e]
      exact check_by B A n c act y w hB hc0 hc2 h ha hy
    · have e : checkB act l y = linkB act l := by simp [checkB, ha, hy]
      rw [e]
      exact check_loop B A n c act A' n' c' l y w hB hc0 hc1 hc2 h h' ha hy

set_option maxHeartbeats 1000000 in
theorem heapCheck_any (h : RI w A n c act) (h' : RI w A' n' c' l) :
    Calls Try.prog 14 #[.agg #[.slice A n c, .slice A' n' c', .int .i64 y]] w fun e w' => e = .returned (.int .i64 (errB (checkB act l y))) ∧ Below w.heap.size w w' := by
  have H := Lib.hid h
  have H' := Lib.hid h'
  clear h h'
  go_enter Try.func14, Try.ntmps14
  go_wp2_with fail
  refine (check_any (w.heap.size + 1) A n c act A' n' c' l y _ (by simp) (by go_simp) (by go_simp) (by go_simp) ((H.out.alloc _).alloc _) ((H'.out.alloc _).alloc _)).mono ?_
  rintro e w2 ⟨rfl, hb2⟩
  go_wp2_with fail
  go_ret
  exact ⟨rfl, (((Below.refl _ _).alloc (Nat.le_refl _) _).alloc (by simp) _).trans (hb2.mono (by simp; omega))⟩
end

end Go.Proofs.Ythfadkilffmmlaa
