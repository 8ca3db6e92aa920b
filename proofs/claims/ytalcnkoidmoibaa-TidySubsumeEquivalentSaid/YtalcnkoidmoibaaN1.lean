/-
  The two closures of cnf.Norm. No condition.
-/
import Derived.Test.YtalcnkoidmoibaaB1
namespace Go.Proofs.Ytalcnkoidmoibaa
open Go.RowKit Go.Shelf
set_option linter.unusedVariables false
set_option linter.unusedSimpArgs false

theorem enters48 : ∀ args w, (callFunc 48 args).run Try.prog w = .ok (.enter 48 args) w := enters_of Try.func48 (by kernel_rfl) rfl
theorem enters50 : ∀ args w, (callFunc 50 args).run Try.prog w = .ok (.enter 50 args) w := enters_of Try.func50 (by kernel_rfl) rfl

set_option maxHeartbeats 400000 in
theorem norm1_any (x : Int) (w : World) : Calls Try.prog 48 #[.int .i64 x] w fun e w' => e = .returned (.bool (!(isB x 65536))) ∧ w = w' := by
  go_enter Try.func48, Try.ntmps48
  go_wp2_with (go_at_call 49; refine (may_any x 65536 w (by omega) (by omega)).mono ?_; rintro e w' ⟨rfl, rfl⟩)
  go_ret
  exact ⟨rfl, rfl⟩

/-- how Norm orders two literals -/
def litI (a b : Int) : Int := orI (cmpI (absI a) (absI b)) (cmpI b a)

set_option maxHeartbeats 400000 in
theorem norm2_any (x y : Int) (w : World) (hx0 : -65536 ≤ x) (hx1 : x ≤ 65536) (hy0 : -65536 ≤ y) (hy1 : y ≤ 65536) :
    Calls Try.prog 50 #[.int .i64 x, .int .i64 y] w fun e w' => e = .returned (.int .i64 (litI x y)) ∧ w' = w.alloc (.cells #[.int .i64 (cmpI (absI x) (absI y)), .int .i64 (cmpI y x)] 3) := by
  have HX := Lib.hid (And.intro hx0 hx1)
  have HY := Lib.hid (And.intro hy0 hy1)
  clear hx0 hx1 hy0 hy1
  go_enter Try.func50, Try.ntmps50
  go_wp2_with (first
    | (go_at_call 51; refine (of_any _ _ (by first | exact HX.out.1 | exact HY.out.1) (by first | exact HX.out.2 | exact HY.out.2)).mono ?_; rintro e w' ⟨rfl, rfl⟩)
    | (go_at_call 34; refine (compare_any _ _ _).mono ?_; rintro e w' ⟨rfl, rfl⟩)
    | (go_at_call 33; refine (or_any w.heap.size (cmpI (absI x) (absI y)) (cmpI y x) _ (by go_simp) (by go_simp)).mono ?_; rintro e w' ⟨rfl, rfl⟩))
  go_ret
  exact ⟨rfl, rfl⟩

end Go.Proofs.Ytalcnkoidmoibaa
