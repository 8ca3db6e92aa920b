/-
  Contracts of the reference's Ahead, Same and Luby. No condition.
-/
import Derived.Test.YthfadkilffmmlaaW2
import Derived.Test.YthfadkilffmmlaaW7
namespace Go.Proofs.Ythfadkilffmmlaa
open Go.RowKit
set_option linter.unusedVariables false
set_option linter.unusedSimpArgs false

theorem ahead_iff {act : List Int} {a b : Nat} : decide (ordI act a b < 0) = (decide (elt act b < elt act a) || (decide (elt act a = elt act b) && decide ((a : Int) < b))) := by
  rw [Bool.eq_iff_iff]
  simp only [Bool.or_eq_true, Bool.and_eq_true, decide_eq_true_eq, ordI, orI, cmpI, Int.toNat_natCast]
  constructor
  · intro h
    repeat' split at h
    all_goals omega
  · intro h
    repeat' split
    all_goals omega

set_option maxHeartbeats 2000000 in
theorem ahead_nat (b off n c : Nat) (act : List Int) (A' : Option Addr) (n' c' : Nat) (y : Int) (p q : Nat) (w : World) (hb : b < w.heap.size) (hp : p < n) (hq : q < n) (hn : n ≤ 17592186044416)
    (hcp : w.cell? ⟨b, off + p, none⟩ = some (.int .i64 (elt act p))) (hcq : w.cell? ⟨b, off + q, none⟩ = some (.int .i64 (elt act q))) :
    Calls Try.prog 32 #[.agg #[.slice (some ⟨b, off, none⟩) n c, .slice A' n' c', .int .i64 y], .int .i64 p, .int .i64 q] w fun e w' => e = .returned (.bool (decide (ordI act p q < 0))) ∧ Below w.heap.size w w' := by
  have hp' : (p : Int) < (n : Int) := by omega
  have hq' : (q : Int) < (n : Int) := by omega
  rw [ahead_iff]
  generalize elt act p = X at hcp ⊢
  generalize elt act q = Y at hcq ⊢
  have hbw : ∀ k : Nat, Below w.heap.size w ((w.alloc (.cells #[.slice (some ⟨b, off, none⟩) n c, .slice A' n' c', .int .i64 y] 24)).drewN k) := fun k => ⟨rfl, rfl, rfl, by simp [World.drewN], fun j hj => Below.heap_alloc _ _ _ hj⟩
  have HBW := Lib.hid hbw
  clear hbw
  by_cases h1 : Y < X
  · go_enter Try.func32, Try.ntmps32
    go_wp2_with fail
    go_quiet (fail)
    go_wp2_with fail
    go_ret
    exact ⟨ret_bool (by simp [h1]), HBW.out _⟩
  · have h1d : decide (Y < X) = false := decide_eq_false h1
    by_cases h2 : X = Y
    · have h2d : (X == Y) = true := by simpa using h2
      have HE := Lib.hid h2
      clear h2
      by_cases h3 : (p : Int) < q
      · go_enter Try.func32, Try.ntmps32
        go_wp2_with fail
        go_quiet (fail)
        go_wp2_with fail
        go_ret
        exact ⟨ret_bool (by simp [HE.out, h3]), HBW.out _⟩
      · have h3d : decide ((p : Int) < q) = false := decide_eq_false h3
        go_enter Try.func32, Try.ntmps32
        go_wp2_with fail
        go_quiet (fail)
        go_wp2_with fail
        go_ret
        exact ⟨ret_bool (by simp [HE.out, h3d]), HBW.out _⟩
    · have h2d : (X == Y) = false := by simpa using h2
      have HE := Lib.hid h2
      clear h2
      go_enter Try.func32, Try.ntmps32
      go_wp2_with fail
      go_quiet (fail)
      go_wp2_with fail
      go_ret
      exact ⟨ret_bool (by rw [h1d, decide_eq_false HE.out]; rfl), HBW.out _⟩

theorem ahead_ri (A : Option Addr) (n c : Nat) (act : List Int) (A' : Option Addr) (n' c' : Nat) (y a b : Int) (w : World) (h : RI w A n c act) (ha : 0 ≤ a ∧ a < n) (hb : 0 ≤ b ∧ b < n) :
    Calls Try.prog 32 #[.agg #[.slice A n c, .slice A' n' c', .int .i64 y], .int .i64 a, .int .i64 b] w fun e w' => e = .returned (.bool (decide (ordI act a b < 0))) ∧ Below w.heap.size w w' := by
  obtain ⟨p, rfl⟩ := Int.eq_ofNat_of_zero_le ha.1
  obtain ⟨q, rfl⟩ := Int.eq_ofNat_of_zero_le hb.1
  obtain ⟨g, off, rfl, hg, hc⟩ := h.cells (by omega)
  exact ahead_nat g off n c act A' n' c' y p q w hg (by omega) (by omega) h.small (hc p (by omega)) (hc q (by omega))

def sameH (a a2 l l2 : List Int) (y y2 : Int) : Bool := sameB a a2 && sameB l l2 && (y == y2)

set_option maxHeartbeats 2000000 in
theorem same_any (A : Option Addr) (n c : Nat) (act : List Int) (A' : Option Addr) (n' c' : Nat) (l : List Int) (y : Int) (E : Option Addr) (m d : Nat) (act2 : List Int) (E' : Option Addr) (m' d' : Nat) (l2 : List Int) (y2 : Int) (w : World)
    (h : RI w A n c act) (h' : RI w A' n' c' l) (k : RI w E m d act2) (k' : RI w E' m' d' l2) :
    Calls Try.prog 16 #[.agg #[.slice A n c, .slice A' n' c', .int .i64 y], .agg #[.slice E m d, .slice E' m' d', .int .i64 y2]] w fun e w' => e = .returned (.bool (sameH act act2 l l2 y y2)) ∧ Below w.heap.size w w' := by
  have H := Lib.hid h
  have H' := Lib.hid h'
  have K := Lib.hid k
  have K' := Lib.hid k'
  clear h h' k k'
  have hbw : ∀ q : Nat, Below w.heap.size w (((w.alloc (.cells #[.slice A n c, .slice A' n' c', .int .i64 y] 24)).alloc (.cells #[.slice E m d, .slice E' m' d', .int .i64 y2] 24)).drewN q) := fun q => ⟨rfl, rfl, rfl, by simp [World.drewN]; omega, fun j hj => (Below.heap_alloc _ _ _ (by simp; omega)).trans (Below.heap_alloc _ _ _ hj)⟩
  have HBW := Lib.hid hbw
  clear hbw
  generalize hs1 : sameB act act2 = s1
  have HS1 := Lib.hid hs1
  clear hs1
  cases s1
  · go_enter Try.func16, Try.ntmps16
    go_wp2_with fail
    refine (ints_any A n c act E m d act2 _ ((H.out.alloc _).alloc _) ((K.out.alloc _).alloc _)).mono ?_
    rintro e w2 ⟨rfl, q, rfl⟩
    rw [HS1.out]
    go_wp2_with fail
    go_ret
    exact ⟨ret_bool (by simp [sameH, HS1.out]), HBW.out _⟩
  · generalize hs2 : sameB l l2 = s2
    have HS2 := Lib.hid hs2
    clear hs2
    have RD : ∀ (q : Nat) (A : Option Addr) (n c : Nat) (zs : List Int) (w : World), RI w A n c zs → RI (w.drewN q) A n c zs := fun q A n c zs w h => h.below ⟨rfl, rfl, rfl, Nat.le_refl _, fun _ _ => rfl⟩
    have HRD := Lib.hid RD
    clear RD
    cases s2
    · go_enter Try.func16, Try.ntmps16
      go_wp2_with fail
      refine (ints_any A n c act E m d act2 _ ((H.out.alloc _).alloc _) ((K.out.alloc _).alloc _)).mono ?_
      rintro e w2 ⟨rfl, q, rfl⟩
      rw [HS1.out]
      go_wp2_with fail
      refine (ints_any A' n' c' l E' m' d' l2 _ (HRD.out _ _ _ _ _ _ ((H'.out.alloc _).alloc _)) (HRD.out _ _ _ _ _ _ ((K'.out.alloc _).alloc _))).mono ?_
      rintro e w2 ⟨rfl, q2, rfl⟩
      rw [HS2.out]
      go_wp2_with fail
      go_ret
      exact ⟨ret_bool (by simp [sameH, HS2.out]), by first | exact HBW.out _ | (rw [World.drewN_drewN]; exact HBW.out _)⟩
    · go_enter Try.func16, Try.ntmps16
      go_wp2_with fail
      refine (ints_any A n c act E m d act2 _ ((H.out.alloc _).alloc _) ((K.out.alloc _).alloc _)).mono ?_
      rintro e w2 ⟨rfl, q, rfl⟩
      rw [HS1.out]
      go_wp2_with fail
      refine (ints_any A' n' c' l E' m' d' l2 _ (HRD.out _ _ _ _ _ _ ((H'.out.alloc _).alloc _)) (HRD.out _ _ _ _ _ _ ((K'.out.alloc _).alloc _))).mono ?_
      rintro e w2 ⟨rfl, q2, rfl⟩
      rw [HS2.out]
      go_wp2_with fail
      go_ret
      exact ⟨ret_bool (by simp [sameH, HS1.out, HS2.out]), by first | exact HBW.out _ | (rw [World.drewN_drewN]; exact HBW.out _)⟩

set_option maxHeartbeats 2000000 in
theorem rluby_ok (f : Nat) : ∀ (i : Nat) (w : World), i ≤ f → 1 ≤ i → i ≤ 1099511627776 → Calls Try.prog 18 #[.int .i64 i] w fun e w' => e = .returned (.int .i64 (luby i)) ∧ w = w' := by
  induction f with
  | zero => intro i w h1 h2; omega
  | succ f ih =>
    intro i w hif h1 h2
    have IH := Lib.hid ih
    clear ih
    have hd1 : decide ((i : Int) < 1) = false := decide_eq_false (by omega)
    have hd2 : decide (1099511627776 < (i : Int)) = false := decide_eq_false (by omega)
    go_enter Try.func18, Try.ntmps18
    go_wp2_with fail
    go_loop [3] (fun p => ∃ q : Nat, p = .int .i64 q ∧ q ≤ 2 * i ∧ ∃ m, q = 2 ^ m) (fun p => 2 * i - (intOf p).toNat)
    case atStart => exact ⟨1, rfl, by omega, 0, rfl⟩
    case round =>
      obtain ⟨q, rfl, hq1, hq2⟩ := hrel
      have HQ := Lib.hid hq2
      clear hq2
      by_cases hlt : q ≤ i
      · have hqp : 1 ≤ q := by obtain ⟨m, hm⟩ := HQ.out; rw [hm]; exact Nat.one_le_two_pow
        go_wp2_with fail
        go_round
        case rel => exact ⟨2 * q, congrArg (Value.int .i64) (by omega), by omega, by obtain ⟨m, hm⟩ := HQ.out; exact ⟨m + 1, by rw [hm, Nat.pow_succ]; omega⟩⟩
        case measure => simp [intOf]; omega
      · have hpq := pw_of HQ.out (by omega) hq1
        have hp1 := pw_pos i
        have HP := Lib.hid hpq
        clear hpq
        by_cases hf : i + 1 = q
        · have hf2 : ((i : Int) == (q : Int) - 1) = true := by rw [beq_iff_eq]; omega
          have HF := Lib.hid hf
          clear hf
          go_wp2_with fail
          go_ret
          refine ⟨ret_int ?_, rfl⟩
          rw [luby_full h1 (by rw [HF.out]; exact HP.out), HP.out]
          omega
        · have hf2 : ((i : Int) == (q : Int) - 1) = false := beq_eq_false_iff_ne.2 (by omega)
          have hles := lub_less h1 (by rw [← HP.out]; exact hf)
          have hple := pw_le h1
          have HS := Lib.hid (luby_step h1 (by rw [← HP.out]; exact hf))
          have hq2 : q = 2 * pw i := HP.out
          have hcast : (i : Int) - (q : Int) / 2 + 1 = ((i - pw i + 1 : Nat) : Int) := by omega
          clear hq2
          go_wp2_with fail
          refine (IH.out (i - pw i + 1) _ (by omega) (by omega) (by omega)).mono ?_
          rintro e w2 ⟨rfl, rfl⟩
          go_wp2_with fail
          go_ret
          exact ⟨ret_int (by rw [HS.out]), rfl⟩

set_option maxHeartbeats 1000000 in
theorem rluby_bad (i : Int) (w : World) (h : i < 1 ∨ 1099511627776 < i) :
    Calls Try.prog 18 #[.int .i64 i] w fun e w' => e = .returned (.int .i64 0) ∧ w = w' := by
  by_cases h1 : i < 1
  · clear h
    go_enter Try.func18, Try.ntmps18
    go_wp2_with fail
    go_ret
    exact ⟨rfl, rfl⟩
  · have h2 : 1099511627776 < i := by omega
    clear h
    go_enter Try.func18, Try.ntmps18
    go_wp2_with fail
    go_ret
    exact ⟨rfl, rfl⟩

theorem rluby_any (i : Int) (w : World) : Calls Try.prog 18 #[.int .i64 i] w fun e w' => e = .returned (.int .i64 (lubI i)) ∧ w = w' := by
  by_cases h : i < 1 ∨ 1099511627776 < i
  · rw [lubI, if_pos h]; exact rluby_bad i w h
  · rw [lubI, if_neg h]
    obtain ⟨k, rfl⟩ := Int.eq_ofNat_of_zero_le (show 0 ≤ i by omega)
    exact rluby_ok k k w (Nat.le_refl _) (by omega) (by omega)

end Go.Proofs.Ythfadkilffmmlaa
