/-
  The contract of unit. No condition.
-/
import Derived.Test.YtalcnkoidmoibaaM1
import Derived.Test.YtalcnkoidmoibaaA2
namespace Go.Proofs.Ytalcnkoidmoibaa
open Go.RowKit
set_option linter.unusedVariables false
set_option linter.unusedSimpArgs false

/-- the literal that a clause implies, and whether it is falsified -/
def unitT (S : List Int) : List Int → Int → Int × Bool
  | [], one => (one, one == 0)
  | x :: l, one => if hasB S x = true then (0, false) else if hasB S (-x) = true ∨ x = one then unitT S l one else if one ≠ 0 then (0, false) else unitT S l x

theorem ret_two {a b : Int} {c d : Bool} (h : (a, c) = (b, d)) : Ending.returned (.tuple #[.int .i64 a, .bool c]) = .returned (.tuple #[.int .i64 b, .bool d]) := by
  injection h with h1 h2; rw [h1, h2]

theorem wf_lit {x : Int} (h0 : -65536 ≤ x) (h1 : x ≤ 65536) : (Lit.int .i64 x).wf = true := by
  simp [Lit.wf, IntKind.min, IntKind.max, IntKind.bits, IntKind.signed]; omega

set_option maxHeartbeats 800000 in
theorem unit_any (A : Option Addr) (n c : Nat) (zs : List Int) (b0 m : Nat) (S : List Int) (w : World) (h : RI w A n c zs) (h' : SM w b0 m S) (hz : Okl zs) :
    Calls Try.prog 68 #[.slice A n c, .map (some b0)] w fun e w' => e = .returned (.tuple #[.int .i64 (unitT S zs 0).1, .bool (unitT S zs 0).2]) ∧ w = w' := by
  have hn := h.small
  have H := Lib.hid h
  clear h
  have HZ := Lib.hid hz
  clear hz
  have HS := Lib.hid h'
  clear h'
  go_enter Try.func68, Try.ntmps68
  go_wp2
  go_loop [4, 10] (fun o i => ∃ (k : Nat) (one : Int), k ≤ n ∧ o = .int .i64 one ∧ i = .int .i64 k ∧ unitT S zs 0 = unitT S (zs.drop k) one) (fun _ i => n - (intOf i).toNat)
  case atStart => exact ⟨0, 0, Nat.zero_le _, rfl, rfl, rfl⟩
  case round =>
    obtain ⟨k, one, hk, rfl, rfl, hno⟩ := hrel
    have HN := Lib.hid hno
    clear hno
    by_cases hlt : k < n
    · obtain ⟨b, off, rfl, hb, hc⟩ := H.out.cells (by omega)
      have hck := hc k hlt
      clear hc
      have hl : k < zs.length := by rw [H.out.len]; exact hlt
      have hx := HZ.out.at hl
      have hneg := lit_neg' hx.2.1 hx.2.2
      have hk1 := HS.out.look (x := elt zs k) (wf_lit hx.2.1 hx.2.2)
      have hk2 := HS.out.look (x := -(elt zs k)) (wf_lit (by omega) (by omega))
      clear hx
      have HN2 := HN.out
      rw [drop_at hl, unitT] at HN2
      replace HN2 := Lib.hid HN2
      by_cases h1 : hasB S (elt zs k) = true
      · rw [h1] at hk1
        clear hk2
        go_wp2
        go_ret2
        exact ⟨ret_two (by rw [HN2.out, if_pos h1]), rfl⟩
      · have h1' : hasB S (elt zs k) = false := by simpa using h1
        rw [h1'] at hk1
        by_cases h2 : hasB S (-(elt zs k)) = true
        · rw [h2] at hk2
          go_wp2
          go_round
          case rel => exact ⟨k + 1, one, by omega, rfl, by go_num, by rw [HN2.out, if_neg h1, if_pos (Or.inl h2)]⟩
          case measure => simp [intOf]; omega
        · have h2' : hasB S (-(elt zs k)) = false := by simpa using h2
          rw [h2'] at hk2
          by_cases h3 : elt zs k = one
          · have h3' : (elt zs k == one) = true := by simpa using h3
            have H3 := Lib.hid h3
            clear h3
            go_wp2
            go_round
            case rel => exact ⟨k + 1, one, by omega, rfl, by go_num, by rw [HN2.out, if_neg h1, if_pos (Or.inr H3.out)]⟩
            case measure => simp [intOf]; omega
          · have h3' : (elt zs k == one) = false := by simpa using h3
            have H3 := Lib.hid h3
            clear h3
            by_cases h4 : one = 0
            · have h4' : (one != 0) = false := by simp [h4]
              have H4 := Lib.hid h4
              clear h4
              go_wp2
              go_round
              case rel => exact ⟨k + 1, elt zs k, by omega, rfl, by go_num, by rw [HN2.out, if_neg h1, if_neg (by intro h; exact h.elim h2 H3.out), if_neg (by simpa using H4.out)]⟩
              case measure => simp [intOf]; omega
            · have h4' : (one != 0) = true := by simpa using h4
              have H4 := Lib.hid h4
              clear h4
              go_wp2
              go_ret2
              exact ⟨ret_two (by rw [HN2.out, if_neg h1, if_neg (by intro h; exact h.elim h2 H3.out), if_pos H4.out]), rfl⟩
    · go_wp2
      go_ret2
      exact ⟨ret_two (by rw [HN.out, List.drop_of_length_le (by rw [H.out.len]; omega), unitT]), rfl⟩

end Go.Proofs.Ytalcnkoidmoibaa
