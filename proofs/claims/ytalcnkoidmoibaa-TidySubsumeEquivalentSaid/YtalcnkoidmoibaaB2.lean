/-
  cnf.Subsumes. No condition.
-/
import Derived.Test.YtalcnkoidmoibaaB1
namespace Go.Proofs.Ytalcnkoidmoibaa
open Go.RowKit Go.Shelf
set_option linter.unusedVariables false
set_option linter.unusedSimpArgs false

theorem grown_cell {W W' : World} {b : Nat} (hg : W.grownBy W' (some b)) {p : Addr} {v : Value} (hne : p.block ≠ b) (h : W.cell? p = some v) : W'.cell? p = some v := by
  have hlt : p.block < W.heap.size := by
    rcases Nat.lt_or_ge p.block W.heap.size with hlt | hge
    · exact hlt
    · simp [World.cell?, Array.getElem?_eq_none hge] at h
  exact (World.cell?_of_block (w := W) (hg.block p.block hlt (by intro e; injection e with e; exact hne e))).trans h

/-- every element is within its range -/
def Wfl (zs : List Int) : Prop := ∀ x ∈ zs, (Lit.int .i64 x).wf = true

set_option maxHeartbeats 400000 in
theorem subsumes1_any (B b m : Nat) (S : List Int) (x : Int) (w : World) (hc : w.cell? ⟨B, 0, none⟩ = some (.map (some b))) (h : SM w b m S) (hx : (Lit.int .i64 x).wf = true) :
    Calls Try.prog 54 #[.int .i64 x, .pointer (some ⟨B, 0, none⟩)] w fun e w' => e = .returned (.bool (!(hasB S x))) ∧ w = w' := by
  have hl := h.look hx
  clear h
  go_enter Try.func54, Try.ntmps54
  go_wp2
  go_ret
  exact ⟨rfl, rfl⟩

theorem any_not_sub (S l : List Int) : l.any (fun x => !(hasB S x)) = !(subB l S) := by
  unfold subB; rw [List.not_all_eq_any_not]

set_option maxHeartbeats 800000 in
theorem subsumes_any (A : Option Addr) (n c : Nat) (zs : List Int) (A' : Option Addr) (n' c' : Nat) (zs' : List Int) (w : World) (h : RI w A n c zs) (h' : RI w A' n' c' zs') (hz : Wfl zs) (hz' : Wfl zs') :
    Calls Try.prog 24 #[.slice A n c, .slice A' n' c'] w fun e w' => e = .returned (.bool (subB zs zs')) ∧ Below w.heap.size w w' := by
  have hn := h.small
  have hn' := h'.small
  have H := Lib.hid h
  have H' := Lib.hid h'
  clear h h'
  have HZ := Lib.hid (And.intro hz hz')
  clear hz hz'
  have hmm := @run_makeMap Try.prog
  go_enter Try.func24, Try.ntmps24
  go_wp2
  have hS0 := (SM.made w).alloc (.cells #[.map (some w.heap.size)] 59)
  have hb0 : Below w.heap.size w ((w.alloc (.map #[] 0)).alloc (.cells #[.map (some w.heap.size)] 59)) := ((Below.refl _ _).alloc (Nat.le_refl _) _).alloc (by simp) _
  have hc0 : ((w.alloc (.map #[] 0)).alloc (.cells #[.map (some w.heap.size)] 59)).cell? ⟨w.heap.size + 1, 0, none⟩ = some (.map (some w.heap.size)) := by simp
  generalize hW : (w.alloc (.map #[] 0)).alloc (.cells #[.map (some w.heap.size)] 59) = W at hS0 hb0 hc0 ⊢
  clear hW
  have HS0 := Lib.hid hS0
  have HB0 := Lib.hid hb0
  have HC0 := Lib.hid hc0
  clear hS0 hb0 hc0
  go_loopw [11] (fun i wr => ∃ k : Nat, k ≤ n' ∧ i = .int .i64 k ∧ SM wr w.heap.size k (zs'.take k) ∧ wr.cell? ⟨w.heap.size + 1, 0, none⟩ = some (.map (some w.heap.size)) ∧ Below w.heap.size w wr) (fun i _ => n' - (intOf i).toNat)
  case atStart => exact ⟨0, Nat.zero_le _, rfl, HS0.out, HC0.out, HB0.out⟩
  case round =>
    obtain ⟨k, hk, rfl, hS, hcb, hbl⟩ := hrel
    have HS := Lib.hid hS
    have HB := Lib.hid hbl
    clear hS hbl
    by_cases hlt : k < n'
    · obtain ⟨b, off, rfl, hb, hc⟩ := (H'.out.below HB.out).cells (by omega)
      have hck := hc k hlt
      clear hc
      have hl : k < zs'.length := by rw [H'.out.len]; exact hlt
      obtain ⟨w1, hrun, hS1, hg1⟩ := HS.out.put (by simp [maxLen]; omega) (HZ.out.2 _ (elt_mem hl))
      have HS1 := Lib.hid hS1
      have HG1 := Lib.hid hg1
      clear hS1 hg1
      have HCB := Lib.hid hcb
      go_wp2
      go_roundw
      case rel =>
        refine ⟨k + 1, by omega, by go_num, by rw [take_snoc _ _ hl]; exact HS1.out, grown_cell HG1.out (by simp) HCB.out, HB.out.grown HG1.out HB.out.size (fun j e => ?_)⟩
        cases e; exact Nat.le_refl _
      case measure => simp [intOf]; omega
    · have hS := HS.out
      rw [List.take_of_length_le (by rw [H'.out.len]; omega)] at hS
      have hcall := containsI_any 54 #[.pointer (some ⟨w.heap.size + 1, 0, none⟩)] (fun y => !(hasB zs' y)) enters54 A n c zs wr (H.out.below HB.out) (fun y hy => subsumes1_any (w.heap.size + 1) w.heap.size k zs' y wr hcb hS (HZ.out.1 y hy))
      rw [any_not_sub] at hcall
      clear hS hcb
      go_wp2_with (go_at_call 53; refine hcall.mono ?_; rintro e w' ⟨rfl, rfl⟩)
      go_ret
      exact ⟨ret_bool (by simp), HB.out⟩

end Go.Proofs.Ytalcnkoidmoibaa
