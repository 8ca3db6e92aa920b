/-
  A region that draws its order, whose operations only read and whose callees only make memory, walked once, in the order of the text. No condition.
-/
import Derived.Below
import Derived.Calls
import Derived.Deep.Quiet
import Derived.Deep.QuietTactic
import Derived.BigQuiet
namespace Go.Proofs.Ytalcnkoidmoibaa
open Go.RowKit
set_option linter.unusedVariables false

/-- a world in which all that lay in w lies as it did -/
structure Gr (w : World) where
  val : World
  ok : Below w.heap.size w val

instance (w : World) : Nonempty (Gr w) := ⟨⟨w, Below.refl _ _⟩⟩

theorem wp_region_grow {P : Program} {id : Nat} {Q : Exit → Act → World → Prop} {a : Act} {w : World} {l : List Oper} (hm : P.follows .mixedOrders = true) (hB : Region.lexB .any l.toArray = true)
    (h : wpQuiet P l.toArray (fun w' => ∃ u : Gr w, w' = u.val) (fun a' => ∀ w', (∃ u : Gr w, w' = u.val) → Q .normal a' w') l a) : (Code.region id l.toArray true).wp P Q a w :=
  wp_region_quiet (C := fun w' => ∃ u : Gr w, w' = u.val) hm hB ⟨⟨w.drew, (Below.refl _ _).drew⟩, rfl⟩ (by simpa using h)

theorem Gr.call {P : Program} {f : FuncId} {args : Array Value} {w : World} {v : Value} (u : Gr w) (h : Calls P f args u.val fun e w' => e = .returned v ∧ Below u.val.heap.size u.val w') :
    Calls P f args u.val fun e w' => e = .returned v ∧ ∃ u' : Gr w, w' = u'.val :=
  h.mono fun _ w' ⟨he, hb⟩ => ⟨he, ⟨w', u.ok.trans (hb.mono u.ok.size)⟩, rfl⟩
theorem Gr.same {P : Program} {f : FuncId} {args : Array Value} {w : World} {v : Value} (u : Gr w) (h : Calls P f args u.val fun e w' => e = .returned v ∧ u.val = w') :
    Calls P f args u.val fun e w' => e = .returned v ∧ ∃ u' : Gr w, w' = u'.val :=
  h.mono fun _ _ ⟨he, hb⟩ => ⟨he, u, hb.symm⟩
theorem Gr.cell {w : World} {p : Addr} {v : Value} (u : Gr w) (hp : p.block < w.heap.size) (h : w.cell? p = some v) : u.val.cell? p = some v := (u.ok.cell hp).trans h
theorem Gr.out {w w' : World} (h : ∃ u : Gr w, w' = u.val) : Below w.heap.size w w' := by
  obtain ⟨u, rfl⟩ := h; exact u.ok

end Go.Proofs.Ytalcnkoidmoibaa
