/-
  An argument of the type api.Heap, opened: two slices and a number. No condition.
-/
import Derived.Test.YthfadkilffmmlaaMem
import Derived.Test.YthfadkilffmmlaaPost
import Derived.ProofKit
import Derived.OpenShut
import Derived.Lib.SmallJoins
namespace Go.Proofs.Ythfadkilffmmlaa
open Go.ChangeShapes Go.WideShapes Go.ChangeAt Go.RowKit Go.Joins
set_option linter.unusedVariables false
set_option linter.unusedSimpArgs false

theorem laidOut : laidOutB Try.prog = true := by kernel_rfl
theorem own : ownKnob Try.prog.godebug = none := by kernel_rfl
theorem cells24 : Try.prog.cellsOf 24 = 3 := by kernel_rfl
theorem cells3 : Try.prog.cellsOf 3 = 1 := by kernel_rfl

section
variable {H : Type} {enc : TypeId × Value → H} {W : World} {base : Nat} {sp : Nat → Bool} {held : Bool}
theorem open_slice_ri {fuel : Nat} {v : Value} {x : DataW H × List MemPlace} (h : DataW.trod enc Try.prog W base sp held fuel 22 [v] = some x) :
    ∃ A n c zs, v = .slice A n c ∧ (n * 8 ≤ 140737488355328 → RI W A n c zs) ∧ ∀ z ∈ zs, (Lit.int .i64 z).wf = true := by
  rcases open_ints Try.underlying22 Try.underlying3 cells3 h with ⟨hcs, _⟩ | ⟨a, len, cap, zs, hcs, _, hl, hm, hz, _, hcell, hwz⟩
  · simp only [List.cons.injEq, and_true] at hcs
    exact ⟨none, 0, 0, [], hcs, fun _ => RI.nil _ _ _ (Nat.zero_le _), fun z hz => by cases hz⟩
  · simp only [List.cons.injEq, and_true] at hcs
    have hlz : len ≤ zs.length := by rw [hz]; split <;> omega
    refine ⟨some a, len, cap, zs.take len, hcs, fun hb => ⟨by simp; omega, hl, hb, hm, fun hn => ?_⟩, fun z hz => hwz z (List.mem_of_mem_take hz)⟩
    obtain ⟨b, off, rfl, hc⟩ := ints_at hcell (by omega)
    have h0 := hc 0 (by omega)
    refine ⟨b, off, rfl, ?_, fun j hj => ?_⟩
    · rcases Nat.lt_or_ge b W.heap.size with hlt | hge
      · exact hlt
      · simp [World.cell?, Array.getElem?_eq_none hge] at h0
    · rw [hc j (by omega)]
      simp [elt, List.getD_eq_getElem?_getD, hj]
theorem open_heap {r : Reach} {b0 : Nat} {v : Value} {d : DataW H} {p : List MemPlace} (hv : Value.okWide Try.prog W r b0 24 v) (h : DataW.Trod enc Try.prog W base sp held 24 v d p) :
    ∃ A n c act A' n' c' l y, v = .agg #[.slice A n c, .slice A' n' c', .int .i64 y] ∧ (n * 8 ≤ 140737488355328 → RI W A n c act) ∧ (n' * 8 ≤ 140737488355328 → RI W A' n' c' l) ∧
      (∀ z ∈ act, (Lit.int .i64 z).wf = true) ∧ (∀ z ∈ l, (Lit.int .i64 z).wf = true) ∧ (Lit.int .i64 y).wf = true := by
  obtain ⟨v0, v1, v2, y0, y1, y2, m, rfl, rfl, rfl, h0, h1, h2⟩ := open_agg3 Try.underlying24 (by kernel_rfl) cells24 hv h
  obtain ⟨A, n, c, act, rfl, ha, wa⟩ := open_slice_ri h0
  obtain ⟨A', n', c', l, rfl, hl, wl⟩ := open_slice_ri h1
  obtain ⟨y, e, _, wy⟩ := DataW.trod_int Try.underlying3 h2
  simp only [List.cons.injEq, and_true] at e
  subst e
  exact ⟨A, n, c, act, A', n', c', l, y, rfl, ha, hl, wa, wl, wy⟩
theorem heap_stays {W' : World} {v : Value} {d : DataW H} {p : List MemPlace} (h : DataW.Trod enc Try.prog W 0 (fun _ => true) true 24 v d p) (hb : Below W.heap.size W W') (hlt : ∀ x ∈ p, x.block < W.heap.size) {sp' : Nat → Bool} (hs : ∀ x ∈ p, sp' x.block = true) :
    DataW.Trod enc Try.prog W' 0 sp' true 24 v d p :=
  WideElems.Trod_stays laidOut (by kernel_rfl) (of_decide_eq_true (by kernel_rfl)) h (fun x hx => hb.same (hlt x hx)) hs
end

end Go.Proofs.Ythfadkilffmmlaa
