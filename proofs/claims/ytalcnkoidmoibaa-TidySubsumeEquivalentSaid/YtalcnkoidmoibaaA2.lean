/-
  Contracts of the reference's small functions over lists. No condition.
-/
import Derived.Test.YtalcnkoidmoibaaA1
import Derived.Test.YtalcnkoidmoibaaGrow
namespace Go.Proofs.Ytalcnkoidmoibaa
open Go.RowKit
set_option linter.unusedVariables false
set_option linter.unusedSimpArgs false

theorem drewN_below (w : World) (q : Nat) : Below w.heap.size w (w.drewN q) := ⟨rfl, rfl, rfl, Nat.le_refl _, fun _ _ => rfl⟩

theorem all_at {zs : List Int} {p : Int → Bool} {k : Nat} (h : k < zs.length) (e : p (elt zs k) = false) : zs.all p = false := by
  rw [elt_lt h] at e
  rw [List.all_eq_false]; exact ⟨_, List.getElem_mem h, by simp [e]⟩
theorem all_step {zs : List Int} {p : Int → Bool} {k : Nat} (h : k < zs.length) (e : p (elt zs k) = true) (h0 : (zs.take k).all p = true) : (zs.take (k + 1)).all p = true := by
  rw [take_snoc zs k h, List.all_append, h0]; simp [e]
theorem all_full {zs : List Int} {p : Int → Bool} {k n : Nat} (hl : zs.length = n) (h : ¬ k < n) (h0 : (zs.take k).all p = true) : zs.all p = true := by
  rw [List.take_of_length_le (by omega)] at h0; exact h0
theorem drop_at {zs : List Int} {k : Nat} (h : k < zs.length) : zs.drop k = elt zs k :: zs.drop (k + 1) := by
  rw [List.drop_eq_getElem_cons h, elt_lt h]

/-- all are literals -/
def Okl (zs : List Int) : Prop := ∀ x ∈ zs, x ≠ 0 ∧ -65536 ≤ x ∧ x ≤ 65536
theorem Okl.at {zs : List Int} {k : Nat} (h : Okl zs) (hk : k < zs.length) : elt zs k ≠ 0 ∧ -65536 ≤ elt zs k ∧ elt zs k ≤ 65536 := h _ (elt_mem hk)
theorem lit_neg {x : Int} (h0 : -65536 ≤ x) (h1 : x ≤ 65536) : wrap64 (0 - x) = -x := by unfold wrap64; omega
theorem lit_neg' {x : Int} (h0 : -65536 ≤ x) (h1 : x ≤ 65536) : wrap64 (-x) = -x := by unfold wrap64; omega

def subB (a b : List Int) : Bool := a.all (hasB b)

set_option maxHeartbeats 400000 in
theorem subsumesR_any (A : Option Addr) (n c : Nat) (zs : List Int) (A' : Option Addr) (n' c' : Nat) (zs' : List Int) (w : World) (h : RI w A n c zs) (h' : RI w A' n' c' zs') :
    Calls Try.prog 74 #[.slice A n c, .slice A' n' c'] w fun e w' => e = .returned (.bool (subB zs zs')) ∧ w = w' := by
  have hn := h.small
  have H := Lib.hid h
  clear h
  go_enter Try.func74, Try.ntmps74
  go_wp2
  go_loop [5] (fun i => ∃ k : Nat, k ≤ n ∧ i = .int .i64 k ∧ (zs.take k).all (hasB zs') = true) (fun i => n - (intOf i).toNat)
  case atStart => exact ⟨0, Nat.zero_le _, rfl, rfl⟩
  case round =>
    obtain ⟨k, hk, rfl, hno⟩ := hrel
    have HN := Lib.hid hno
    clear hno
    by_cases hlt : k < n
    · obtain ⟨b, off, rfl, hb, hc⟩ := H.out.cells (by omega)
      have hck := hc k hlt
      clear hc
      generalize ho : hasB zs' (elt zs k) = o
      have HO := Lib.hid ho
      clear ho
      cases o
      · go_wp2_with (go_at_call 42; refine (has_any _ _ _ _ _ _ h').mono ?_; rintro e w' ⟨rfl, rfl⟩; rw [HO.out])
        go_ret
        exact ⟨ret_bool (all_at (by rw [H.out.len]; exact hlt) HO.out).symm, rfl⟩
      · go_wp2_with (go_at_call 42; refine (has_any _ _ _ _ _ _ h').mono ?_; rintro e w' ⟨rfl, rfl⟩; rw [HO.out])
        go_round
        case rel => exact ⟨k + 1, by omega, by go_num, all_step (by rw [H.out.len]; exact hlt) HO.out HN.out⟩
        case measure => simp [intOf]; omega
    · go_wp2
      go_ret
      exact ⟨ret_bool (all_full H.out.len hlt HN.out).symm, rfl⟩

def falseB (l known : List Int) : Bool := l.all fun x => hasB known (-x)

set_option maxHeartbeats 400000 in
theorem false_any (A : Option Addr) (n c : Nat) (zs : List Int) (A' : Option Addr) (n' c' : Nat) (zs' : List Int) (w : World) (h : RI w A n c zs) (h' : RI w A' n' c' zs') (hz : Okl zs) :
    Calls Try.prog 71 #[.slice A n c, .slice A' n' c'] w fun e w' => e = .returned (.bool (falseB zs zs')) ∧ w = w' := by
  have hn := h.small
  have H := Lib.hid h
  clear h
  have HZ := Lib.hid hz
  clear hz
  go_enter Try.func71, Try.ntmps71
  go_wp2
  go_loop [5] (fun i => ∃ k : Nat, k ≤ n ∧ i = .int .i64 k ∧ (zs.take k).all (fun x => hasB zs' (-x)) = true) (fun i => n - (intOf i).toNat)
  case atStart => exact ⟨0, Nat.zero_le _, rfl, rfl⟩
  case round =>
    obtain ⟨k, hk, rfl, hno⟩ := hrel
    have HN := Lib.hid hno
    clear hno
    by_cases hlt : k < n
    · obtain ⟨b, off, rfl, hb, hc⟩ := H.out.cells (by omega)
      have hck := hc k hlt
      clear hc
      have hx := HZ.out.at (k := k) (by rw [H.out.len]; exact hlt)
      have hneg := lit_neg' hx.2.1 hx.2.2
      clear hx
      generalize ho : hasB zs' (-(elt zs k)) = o
      have HO := Lib.hid ho
      clear ho
      cases o
      · go_wp2_with (go_at_call 42; refine (has_any _ _ _ _ _ _ h').mono ?_; rintro e w' ⟨rfl, rfl⟩; rw [HO.out])
        go_ret
        exact ⟨ret_bool (all_at (p := fun x => hasB zs' (-x)) (by rw [H.out.len]; exact hlt) HO.out).symm, rfl⟩
      · go_wp2_with (go_at_call 42; refine (has_any _ _ _ _ _ _ h').mono ?_; rintro e w' ⟨rfl, rfl⟩; rw [HO.out])
        go_round
        case rel => exact ⟨k + 1, by omega, by go_num, all_step (p := fun x => hasB zs' (-x)) (by rw [H.out.len]; exact hlt) HO.out HN.out⟩
        case measure => simp [intOf]; omega
    · go_wp2
      go_ret
      exact ⟨ret_bool (all_full H.out.len hlt HN.out).symm, rfl⟩

/-- the literal that a clause implies, as the reference reckons it -/
def unitR (known : List Int) : List Int → Int → Int
  | [], one => one
  | x :: l, one => if hasB known x = true then 0 else if hasB known (-x) = true ∨ x = one then unitR known l one else if one ≠ 0 then 0 else unitR known l x

set_option maxHeartbeats 800000 in
theorem unitR_any (A : Option Addr) (n c : Nat) (zs : List Int) (A' : Option Addr) (n' c' : Nat) (zs' : List Int) (w : World) (h : RI w A n c zs) (h' : RI w A' n' c' zs') (hz : Okl zs) :
    Calls Try.prog 72 #[.slice A n c, .slice A' n' c'] w fun e w' => e = .returned (.int .i64 (unitR zs' zs 0)) ∧ w = w' := by
  have hn := h.small
  have H := Lib.hid h
  clear h
  have HZ := Lib.hid hz
  clear hz
  go_enter Try.func72, Try.ntmps72
  go_wp2
  go_loop [5, 6] (fun o i => ∃ (k : Nat) (one : Int), k ≤ n ∧ o = .int .i64 one ∧ i = .int .i64 k ∧ unitR zs' zs 0 = unitR zs' (zs.drop k) one) (fun _ i => n - (intOf i).toNat)
  case atStart => exact ⟨0, 0, Nat.zero_le _, rfl, rfl, rfl⟩
  case round =>
    obtain ⟨k, one, hk, rfl, rfl, hno⟩ := hrel
    have HN := Lib.hid hno
    clear hno
    by_cases hlt : k < n
    · obtain ⟨b, off, rfl, hb, hc⟩ := H.out.cells (by omega)
      have hck := hc k hlt
      clear hc
      have hl : k < zs.length := by rw [H.out.len]; exact hlt
      have hx := HZ.out.at hl
      have hneg := lit_neg' hx.2.1 hx.2.2
      have HX := Lib.hid hx
      clear hx
      have HN2 := HN.out
      rw [drop_at hl, unitR] at HN2
      replace HN2 := Lib.hid HN2
      by_cases h1 : hasB zs' (elt zs k) = true
      · go_wp2_with (go_at_call 42; refine (has_any _ _ _ _ _ _ h').mono ?_; rintro e w' ⟨rfl, rfl⟩; rw [h1])
        go_ret
        exact ⟨ret_int (by rw [HN2.out, if_pos h1]), rfl⟩
      · have h1' : hasB zs' (elt zs k) = false := by simpa using h1
        by_cases h2 : hasB zs' (-(elt zs k)) = true
        · go_wp2_with (go_at_call 42; refine (has_any _ _ _ _ _ _ h').mono ?_; rintro e w' ⟨rfl, rfl⟩; first | rw [h1'] | rw [h2])
          go_round
          case rel => exact ⟨k + 1, one, by omega, rfl, by go_num, by rw [HN2.out, if_neg h1, if_pos (Or.inl h2)]⟩
          case measure => simp [intOf]; omega
        · have h2' : hasB zs' (-(elt zs k)) = false := by simpa using h2
          by_cases h3 : elt zs k = one
          · have h3' : (elt zs k == one) = true := by simpa using h3
            have H3 := Lib.hid h3
            clear h3
            go_wp2_with (go_at_call 42; refine (has_any _ _ _ _ _ _ h').mono ?_; rintro e w' ⟨rfl, rfl⟩; first | rw [h1'] | rw [h2'])
            go_round
            case rel => exact ⟨k + 1, one, by omega, rfl, by go_num, by rw [HN2.out, if_neg h1, if_pos (Or.inr H3.out)]⟩
            case measure => simp [intOf]; omega
          · have h3' : (elt zs k == one) = false := by simpa using h3
            have H3 := Lib.hid h3
            clear h3
            by_cases h4 : one = 0
            · have h4' : (one != 0) = false := by simp [h4]
              have H4 := Lib.hid h4
              clear h4
              go_wp2_with (go_at_call 42; refine (has_any _ _ _ _ _ _ h').mono ?_; rintro e w' ⟨rfl, rfl⟩; first | rw [h1'] | rw [h2'])
              go_round
              case rel => exact ⟨k + 1, elt zs k, by omega, rfl, by go_num, by rw [HN2.out, if_neg h1, if_neg (by intro h; exact h.elim h2 H3.out), if_neg (by simpa using H4.out)]⟩
              case measure => simp [intOf]; omega
            · have h4' : (one != 0) = true := by simpa using h4
              have H4 := Lib.hid h4
              clear h4
              go_wp2_with (go_at_call 42; refine (has_any _ _ _ _ _ _ h').mono ?_; rintro e w' ⟨rfl, rfl⟩; first | rw [h1'] | rw [h2'])
              go_ret
              exact ⟨ret_int (by rw [HN2.out, if_neg h1, if_neg (by intro h; exact h.elim h2 H3.out), if_pos H4.out]), rfl⟩
    · go_wp2
      go_ret
      exact ⟨ret_int (by rw [HN.out, List.drop_of_length_le (by rw [H.out.len]; omega), unitR]), rfl⟩

end Go.Proofs.Ytalcnkoidmoibaa
