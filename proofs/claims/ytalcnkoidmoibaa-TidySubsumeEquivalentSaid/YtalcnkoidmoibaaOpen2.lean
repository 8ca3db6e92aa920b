/-
  An argument opened: a slice of bools. No condition.
-/
import Derived.Test.YtalcnkoidmoibaaOpen
import Derived.Test.YtalcnkoidmoibaaG1
import Derived.Deep.Grids
namespace Go.Proofs.Ytalcnkoidmoibaa
open Go.ChangeShapes Go.WideShapes Go.ChangeAt Go.RowKit Go.Joins Go.Deep
set_option linter.unusedVariables false
set_option linter.unusedSimpArgs false

theorem cells4 : Try.prog.cellsOf 4 = 1 := by kernel_rfl
theorem bytes4 : Try.prog.bytesOf 4 = 1 := by kernel_rfl

section
variable {H : Type} {enc : TypeId × Value → H} {W : World} {base : Nat} {held : Bool}
set_option maxRecDepth 100000 in
theorem open_rb {r : Reach} {b0 : Nat} {v : Value} {d : DataW H} {p : List MemPlace} (hv : Value.okWide Try.prog W r b0 47 v) (h : DataW.Trod enc Try.prog W base (fun _ => true) held 47 v d p) (hz : Fits 47 d) :
    ∃ A n c bs, v = .slice A n c ∧ RB W A n c bs := by
  obtain ⟨A, n, c, rfl⟩ := okWide_slice Try.underlying47 hv
  obtain ⟨fuel, h⟩ := h
  rcases Deep.open_bools Try.underlying47 Try.underlying4 cells4 h with ⟨hcs, _⟩ | ⟨a, len, cap, B, hcs, _, hl, hm, hx, hcell⟩
  · obtain ⟨rfl, rfl, rfl⟩ : A = none ∧ n = 0 ∧ c = 0 := by simpa [Value.cells] using hcs
    exact ⟨none, 0, 0, [], rfl, RB.nil _ _ _ (Nat.zero_le _)⟩
  · obtain ⟨rfl, rfl, rfl⟩ : A = some a ∧ n = len ∧ c = cap := by simpa [Value.cells] using hcs
    simp only [Prod.mk.injEq] at hx
    obtain ⟨rfl, rfl⟩ := hx
    have hb := hz.len Try.underlying47
    rw [bytes4] at hb
    have hb2 : n ≤ 140737488355328 := by simpa using hb
    refine ⟨some a, n, c, (List.range n).map B, rfl, ⟨by simp, hl, hb2, hm, fun hn => ?_⟩⟩
    obtain ⟨b, off, spot⟩ := a
    have h0 := hcell 0 (by omega)
    have hspot : spot = none := by simpa [Addr.add] using World.cell?_spot h0
    subst hspot
    refine ⟨b, off, rfl, cell_block (o := off + 0) (by rw [← Go.WideShapes.add_plain]; exact h0), fun j hj => ?_⟩
    have := hcell j (by omega)
    rw [Go.WideShapes.add_plain] at this
    rw [this]
    simp [List.getD_eq_getElem?_getD, hj]
end
end Go.Proofs.Ytalcnkoidmoibaa
