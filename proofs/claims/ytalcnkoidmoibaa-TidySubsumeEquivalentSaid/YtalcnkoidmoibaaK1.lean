/-
  The law TidyReduceSpec, walked. No condition.
-/
import Derived.Test.YtalcnkoidmoibaaLive
import Derived.Test.YtalcnkoidmoibaaE2
namespace Go.Proofs.Ytalcnkoidmoibaa
open Go.RowKit Go.Shelf
set_option linter.unusedVariables false
set_option linter.unusedSimpArgs false

def Truly (w : World) (e : Ending) (w' : World) : Prop := e = .returned (.bool true) ∧ Below w.heap.size w w'

set_option maxHeartbeats 1000000 in
theorem reduceSpec_any (A : Option Addr) (n c : Nat) (es : List Lrn) (keep : Int) (w : World) (h : RE w A n c es) :
    Calls Try.prog 3 #[.slice A n c, .int .i64 keep] w (Truly w) := by
  have H := Lib.hid h
  have hn := h.small
  clear h
  by_cases h100 : 100 < n
  · go_enter Try.func3, Try.ntmps3
    go_wp2_with (go_at_call 11; refine (live_any _).mono ?_; rintro e w1 ⟨rfl, hb1⟩)
    go_ret
    exact ⟨rfl, hb1⟩
  · go_enter Try.func3, Try.ntmps3
    go_wp2_with (first
      | (go_at_call 11; refine (live_any _).mono ?_; rintro e w1 ⟨rfl, hb1⟩; have HB1 := Lib.hid hb1; clear hb1)
      | (go_at_call 13; refine (reduce_any A n c es keep _ (H.out.below HB1.out) (by omega)).mono ?_; rintro e w2 ⟨A2, c2, rfl, hr2, hb2⟩; have HR2 := Lib.hid hr2; have HB2 := Lib.hid (HB1.out.trans (hb2.mono HB1.out.size)); clear hr2 hb2)
      | (go_at_call 14; refine (reduceR_any A n c es keep _ (H.out.below HB2.out) (by omega)).mono ?_; rintro e w3 ⟨A3, c3, rfl, hr3, hb3⟩; have HR3 := Lib.hid hr3; have HR2' := Lib.hid (HR2.out.below hb3); have HB3 := Lib.hid (HB2.out.trans (hb3.mono HB2.out.size)); clear hr3 hb3)
      | (go_at_call 12; refine (sameE_any _ _ _ _ _ _ _ _ _ HR2'.out HR3.out).mono ?_; rw [sameEs_refl]; rintro e w4 ⟨rfl, hb4⟩; have HB4 := Lib.hid (HB3.out.trans (hb4.mono HB3.out.size)); clear hb4))
    go_ret
    exact ⟨rfl, HB4.out⟩

end Go.Proofs.Ytalcnkoidmoibaa
