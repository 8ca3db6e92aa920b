/-
  slices.ContainsFunc at ints, at a predicate that only reads; cnf.Check; cnf.Subsumes. No condition.
-/
import Derived.Test.YtalcnkoidmoibaaM2
import Derived.Test.YtalcnkoidmoibaaA4
import Derived.Shelf.Abstract
namespace Go.Proofs.Ytalcnkoidmoibaa
open Go.RowKit Go.Shelf
set_option linter.unusedVariables false
set_option linter.unusedSimpArgs false

theorem any_at {zs : List Int} {p : Int → Bool} {k : Nat} (h : k < zs.length) (e : p (elt zs k) = true) : zs.any p = true := by
  rw [elt_lt h] at e
  rw [List.any_eq_true]; exact ⟨_, List.getElem_mem h, e⟩
theorem any_step {zs : List Int} {p : Int → Bool} {k : Nat} (h : k < zs.length) (e : p (elt zs k) = false) (h0 : (zs.take k).any p = false) : (zs.take (k + 1)).any p = false := by
  rw [take_snoc zs k h, List.any_append, h0]; simp [e]
theorem any_full {zs : List Int} {p : Int → Bool} {k n : Nat} (hl : zs.length = n) (h : ¬ k < n) (h0 : (zs.take k).any p = false) : zs.any p = false := by
  rw [List.take_of_length_le (by omega)] at h0; exact h0

def IdxP (p : Int → Bool) (zs : List Int) (w : World) (e : Ending) (w' : World) : Prop := ∃ r : Int, e = .returned (.int .i64 r) ∧ (decide (0 ≤ r) = zs.any p) ∧ w = w'

set_option maxHeartbeats 400000 in
theorem indexI_any (g : Nat) (lb : Array Value) (p : Int → Bool) (eg : ∀ args w, (callFunc g args).run Try.prog w = .ok (.enter g args) w) (A : Option Addr) (n c : Nat) (zs : List Int) (w : World) (h : RI w A n c zs)
    (hp : ∀ x ∈ zs, Calls Try.prog g (#[.int .i64 x] ++ lb) w fun e w' => e = .returned (.bool (p x)) ∧ w = w') :
    Calls Try.prog 75 #[.slice A n c, .func (.func g) #[] lb] w (IdxP p zs w) := by
  have hn := h.small
  have H := Lib.hid h
  clear h
  have HP := Lib.hid hp
  clear hp
  go_enter Try.func75, Try.ntmps75
  go_wp2
  go_loop [8] (fun i => ∃ k : Nat, k ≤ n ∧ i = .int .i64 k ∧ (zs.take k).any p = false) (fun i => n - (intOf i).toNat)
  case atStart => exact ⟨0, Nat.zero_le _, rfl, rfl⟩
  case round =>
    obtain ⟨k, hk, rfl, hno⟩ := hrel
    have HN := Lib.hid hno
    clear hno
    by_cases hlt : k < n
    · obtain ⟨b, off, rfl, hb, hc⟩ := H.out.cells (by omega)
      have hck := hc k hlt
      clear hc
      have hl : k < zs.length := by rw [H.out.len]; exact hlt
      have hcall := HP.out (elt zs k) (elt_mem hl)
      generalize ho : p (elt zs k) = o at hcall
      have HO := Lib.hid ho
      clear ho
      cases o
      · go_wp2_with (go_at_fn g; refine hcall.mono ?_; rintro e w' ⟨rfl, rfl⟩)
        go_round
        case rel => exact ⟨k + 1, by omega, by go_num, any_step hl HO.out HN.out⟩
        case measure => simp [intOf]; omega
      · go_wp2_with (go_at_fn g; refine hcall.mono ?_; rintro e w' ⟨rfl, rfl⟩)
        go_ret
        exact ⟨k, rfl, by rw [any_at hl HO.out]; simp, rfl⟩
    · go_wp2
      go_ret
      exact ⟨-1, rfl, by rw [any_full H.out.len hlt HN.out]; rfl, rfl⟩

set_option maxHeartbeats 400000 in
theorem containsI_any (g : Nat) (lb : Array Value) (p : Int → Bool) (eg : ∀ args w, (callFunc g args).run Try.prog w = .ok (.enter g args) w) (A : Option Addr) (n c : Nat) (zs : List Int) (w : World) (h : RI w A n c zs)
    (hp : ∀ x ∈ zs, Calls Try.prog g (#[.int .i64 x] ++ lb) w fun e w' => e = .returned (.bool (p x)) ∧ w = w') :
    Calls Try.prog 53 #[.slice A n c, .func (.func g) #[] lb] w fun e w' => e = .returned (.bool (zs.any p)) ∧ w = w' := by
  have hI := indexI_any g lb p eg A n c zs w h hp
  clear h hp
  go_enter Try.func53, Try.ntmps53
  go_wp2_with (go_at_call 75; refine hI.mono ?_; rintro e w' ⟨r, rfl, hr, rfl⟩)
  all_goals
    go_ret
    exact ⟨ret_bool (by rw [← hr]), rfl⟩

theorem enters55 : ∀ args w, (callFunc 55 args).run Try.prog w = .ok (.enter 55 args) w := enters_of Try.func55 (by kernel_rfl) rfl
theorem enters54 : ∀ args w, (callFunc 54 args).run Try.prog w = .ok (.enter 54 args) w := enters_of Try.func54 (by kernel_rfl) rfl

set_option maxHeartbeats 400000 in
theorem check1_any (B : Nat) (n x : Int) (w : World) (hc : w.cell? ⟨B, 0, none⟩ = some (.int .i64 n)) (h0 : 0 ≤ n) (h1 : n ≤ 65536) :
    Calls Try.prog 55 #[.int .i64 x, .pointer (some ⟨B, 0, none⟩)] w fun e w' => e = .returned (.bool (!(isB x n))) ∧ w = w' := by
  go_enter Try.func55, Try.ntmps55
  go_wp2_with (go_at_call 49; refine (may_any x n w h0 h1).mono ?_; rintro e w' ⟨rfl, rfl⟩)
  go_ret
  exact ⟨rfl, rfl⟩

theorem any_not_all (n : Int) (l : List Int) : l.any (fun x => !(isB x n)) = !(litsB n l) := by
  unfold litsB; rw [List.not_all_eq_any_not]

set_option maxHeartbeats 800000 in
theorem check_in (x : Int) (A : Option Addr) (n c : Nat) (ls : List (List Int)) (w : World) (h : RL w A n c ls) (h0 : 0 ≤ x) (h1 : x ≤ 65536) :
    Calls Try.prog 25 #[.agg #[.int .i64 x, .slice A n c]] w fun e w' => e = .returned (.int .i64 (checkE x ls)) ∧ Below w.heap.size w w' := by
  have hn := h.small
  have H := Lib.hid h
  clear h
  have z1 : ¬ x < 0 := by omega
  have z2 : ¬ 65536 < x := by omega
  have HX := Lib.hid (And.intro h0 h1)
  clear h0 h1
  go_enter Try.func25, Try.ntmps25
  go_wp2
  have hbw : Below w.heap.size w (w.alloc (.cells #[.int .i64 x, .slice A n c] 29)) := (Below.refl _ _).alloc (Nat.le_refl _) _
  have hbx := BoxC.new w x A n c
  generalize hW : w.alloc (.cells #[.int .i64 x, .slice A n c] 29) = W at hbw hbx ⊢
  clear hW
  have HBW := Lib.hid hbw
  have BX := Lib.hid hbx
  have p0 := hbx.c0
  have p1 := hbx.c1
  clear hbw hbx
  go_loop [16] (fun i => ∃ k : Nat, k ≤ n ∧ i = .int .i64 k ∧ allB x (ls.take k) = true) (fun i => n - (intOf i).toNat)
  case atStart => exact ⟨0, Nat.zero_le _, rfl, rfl⟩
  case round =>
    obtain ⟨k, hk, rfl, hno⟩ := hrel
    have HN := Lib.hid hno
    clear hno
    by_cases hlt : k < n
    · obtain ⟨b, off, rfl, hb, hc⟩ := (H.out.below HBW.out).cells (by omega)
      obtain ⟨a1, n1, c1, hck, hr1⟩ := hc k hlt
      clear hc
      have hcall := containsI_any 55 #[.pointer (some ⟨w.heap.size, 0, none⟩)] (fun y => !(isB y x)) enters55 a1 n1 c1 (ell ls k) W hr1 (fun y _ => check1_any w.heap.size x y W p0 HX.out.1 HX.out.2)
      rw [any_not_all] at hcall
      clear hr1
      generalize ho : litsB x (ell ls k) = o at hcall
      have HO := Lib.hid ho
      clear ho
      cases o
      · go_wp2_with (go_at_call 53; refine hcall.mono ?_; rintro e w' ⟨rfl, rfl⟩)
        go_ret
        exact ⟨ret_int (checkE_arg (allB_at (k := k) (by rw [H.out.len]; exact hlt) HO.out)).symm, HBW.out⟩
      · go_wp2_with (go_at_call 53; refine hcall.mono ?_; rintro e w' ⟨rfl, rfl⟩)
        go_round
        case rel => exact ⟨k + 1, by omega, by go_num, allB_step (by rw [H.out.len]; exact hlt) HO.out HN.out⟩
        case measure => simp [intOf]; omega
    · have hfu := allB_full H.out.len hlt HN.out
      have HF := Lib.hid hfu
      clear hfu
      have hl1 : ¬ (k : Int) < (n : Int) := by omega
      by_cases hbig : (65536 : Int) < n
      · go_wp2
        go_ret
        exact ⟨ret_int (checkE_bound HX.out HF.out (by rw [H.out.len]; omega)).symm, HBW.out⟩
      · go_wp2
        go_ret
        exact ⟨ret_int (checkE_ok HX.out HF.out (by rw [H.out.len]; omega)).symm, HBW.out⟩

set_option maxHeartbeats 400000 in
theorem check_out (x : Int) (A : Option Addr) (n c : Nat) (w : World) (h : x < 0 ∨ 65536 < x) :
    Calls Try.prog 25 #[.agg #[.int .i64 x, .slice A n c]] w fun e w' => e = .returned (.int .i64 1) ∧ Below w.heap.size w w' := by
  by_cases h0 : x < 0
  · clear h
    go_enter Try.func25, Try.ntmps25
    go_wp2
    go_ret
    exact ⟨rfl, (Below.refl _ _).alloc (Nat.le_refl _) _⟩
  · have h1 : 65536 < x := by omega
    clear h
    go_enter Try.func25, Try.ntmps25
    go_wp2
    go_ret
    exact ⟨rfl, (Below.refl _ _).alloc (Nat.le_refl _) _⟩

theorem check_any (x : Int) (A : Option Addr) (n c : Nat) (ls : List (List Int)) (w : World) (h : RL w A n c ls) :
    Calls Try.prog 25 #[.agg #[.int .i64 x, .slice A n c]] w fun e w' => e = .returned (.int .i64 (checkE x ls)) ∧ Below w.heap.size w w' := by
  by_cases hx : x < 0 ∨ 65536 < x
  · rw [checkE_out hx]; exact check_out x A n c w hx
  · exact check_in x A n c ls w h (by omega) (by omega)

end Go.Proofs.Ytalcnkoidmoibaa
