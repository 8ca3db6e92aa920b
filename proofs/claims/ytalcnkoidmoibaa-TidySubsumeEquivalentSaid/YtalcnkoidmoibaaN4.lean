/-
  Contracts of slices.Clone at ints. No condition.
-/
import Derived.Test.YtalcnkoidmoibaaMem
import Derived.Deep.QuietTactic
import Derived.BigQuiet
namespace Go.Proofs.Ytalcnkoidmoibaa
open Go.RowKit
set_option linter.unusedVariables false
set_option linter.unusedSimpArgs false

theorem infoInt : (Try.prog.info? 3).map (fun i => (i.zero, i.size, i.bytes)) = some (some (.int .i64 0), 1, 8) := by kernel_rfl

/-- what Clone leaves: a row of the call's own -/
def Cloned (zs : List Int) (w : World) (e : Ending) (w' : World) : Prop :=
  ∃ A c, e = .returned (.slice A zs.length c) ∧ w'.ownsRow w.heap.size 3 1 (.slice A zs.length c) zs.length (zs.map (Value.int .i64)) ∧ Below w.heap.size w w'

set_option maxRecDepth 4000 in
set_option maxHeartbeats 1000000 in
theorem clone_any (A : Option Addr) (n c : Nat) (zs : List Int) (w : World) (h : RI w A n c zs) :
    Calls Try.prog 45 #[.slice A n c] w (Cloned zs w) := by
  obtain ⟨i0, hi, hz0, hz1, hz2⟩ := info_parts infoInt
  have q22 : ∀ (w : World) (a : Option Addr) (n c n' c' : Nat), (binOp .eql 31 (.slice a n c) (.slice none n' c')).run Try.prog w = .ok (.bool a.isNone) w := fun w a n c n' c' => Lib.run_eql_slice_nil w _ _ a n c n' c' Try.underlying31
  have hlen := h.len
  have hbig := h.big
  have H := Lib.hid h
  clear h
  cases A with
  | none =>
    have hn : n = 0 := by
      rcases Nat.eq_zero_or_pos n with h0 | h0
      · exact h0
      · obtain ⟨b, off, he, _⟩ := H.out.cells h0; cases he
    subst hn
    have hzs : zs = [] := List.eq_nil_of_length_eq_zero hlen
    subst hzs
    clear hlen
    go_enter Try.func45, Try.ntmps45
    go_wp2
    go_ret
    exact ⟨none, 0, rfl, World.ownsRow_nil _ _ _ _, Below.refl _ _⟩
  | some a =>
    have HL := Lib.hid hlen
    clear hlen
    go_enter Try.func45, Try.ntmps45
    go_wp2_with (at_builtin; refine wpList_append_own _ rfl _ _ 31 rfl w.heap.size 3 i0 (.int .i64 0) 1 8 Try.underlying31 hi hz0 hz1 hz2 rfl (by decide) _ _ _ rfl (World.ownsRow_made w #[] 0 (Nat.le_refl _) (Nat.zero_le _) rfl) a n c (zs.map (Value.int .i64)) rfl ?qc1 ?qc2 ?qc3 ?qc4 ?qc5 ?qc6 ?_)
    case qc1 => simp [HL.out]
    case qc2 =>
      intro j u hj
      have hjn : j < n := by have := (List.getElem?_eq_some_iff.1 hj).1; simpa [HL.out] using this
      obtain ⟨b, off, he, hb, hc⟩ := H.out.cells (by omega)
      injection he with he
      subst he
      rw [Addr.add_lit]
      rw [World.cell?_alloc_lt _ _ _ (by exact hb), hc j hjn]
      rw [List.getElem?_map, List.getElem?_eq_getElem (by rw [HL.out]; exact hjn)] at hj
      rw [elt_lt (by rw [HL.out]; exact hjn)]
      exact hj
    case qc3 => intro u hu; obtain ⟨x, _, rfl⟩ := List.mem_map.1 hu; rfl
    case qc4 => unfold maxLen; omega
    case qc5 => omega
    case qc6 => simp
    intro v' w1 hown hgrow hnil
    go_wp2
    go_ret
    have hb : Below w.heap.size w w1 := ((Below.refl _ w).alloc (Nat.le_refl _) _).grown hgrow (by simp) (by intro k hk; simp [Value.ownBlock] at hk; omega)
    have hl := HL.out
    subst hl
    rcases hown.2 with ⟨hv, h0⟩ | ⟨g, cap, cur, hv, hr⟩
    · subst hv
      refine ⟨none, 0, ?_, ?_, hb⟩
      · rw [h0]; rfl
      · rw [h0] at hown ⊢; exact hown
    · subst hv
      exact ⟨_, _, rfl, hown, hb⟩

end Go.Proofs.Ytalcnkoidmoibaa
