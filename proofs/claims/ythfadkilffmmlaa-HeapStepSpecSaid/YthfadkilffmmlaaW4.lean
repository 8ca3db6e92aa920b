/-
  Contracts of begun: the heap is checked and copied. No condition.
-/
import Derived.Test.YthfadkilffmmlaaW2
import Derived.Test.YthfadkilffmmlaaW3
import Derived.Deep.RegionHeld3
namespace Go.Proofs.Ythfadkilffmmlaa
open Go.RowKit
set_option linter.unusedVariables false
set_option linter.unusedSimpArgs false

theorem own_below {w w' : World} {base : Nat} {e : TypeId} {size : Nat} {v : Value} {n : Nat} {xs : List Value} (h : w.ownsRow base e size v n xs) (hb : Below w.heap.size w w') : w'.ownsRow base e size v n xs := by
  obtain ⟨h1, h2⟩ := h
  refine ⟨h1, ?_⟩
  rcases h2 with h2 | ⟨g, cap, cur, hv, hg, hh, r⟩
  · exact Or.inl h2
  · have hlt : g < w.heap.size := by
      rcases Nat.lt_or_ge g w.heap.size with hlt | hge
      · exact hlt
      · rw [Array.getElem?_eq_none hge] at hh; cases hh
    exact Or.inr ⟨g, cap, cur, hv, hg, (hb.block g hlt).trans hh, r⟩
theorem own_base {w : World} {base base' : Nat} {e : TypeId} {size : Nat} {v : Value} {n : Nat} {xs : List Value} (h : w.ownsRow base e size v n xs) (hb : base' ≤ base) : w.ownsRow base' e size v n xs := by
  obtain ⟨h1, h2⟩ := h
  refine ⟨h1, ?_⟩
  rcases h2 with h2 | ⟨g, cap, cur, hv, hg, hh, r⟩
  · exact Or.inl h2
  · exact Or.inr ⟨g, cap, cur, hv, Nat.le_trans hb hg, hh, r⟩
theorem own_lt {w : World} {base : Nat} {e : TypeId} {size : Nat} {v : Value} {n : Nat} {xs : List Value} (h : w.ownsRow base e size v n xs) {g : Nat} (hg : v.ownBlock = some g) : base ≤ g ∧ g < w.heap.size := by
  rcases h.2 with ⟨rfl, _⟩ | ⟨g', cap, cur, rfl, hb, hh, _⟩
  · simp [Value.ownBlock] at hg
  · have : g' = g := by simpa [Value.ownBlock] using hg
    subst this
    refine ⟨hb, ?_⟩
    rcases Nat.lt_or_ge g' w.heap.size with hlt | hge
    · exact hlt
    · rw [Array.getElem?_eq_none hge] at hh; cases hh
theorem set01 {w : World} {B : Nat} {x0 x1 x2 v0 v1 : Value} {t : TypeId} (h : w.heap[B]? = some (.cells #[x0, x1, x2] t (0, 0))) :
    ((w.setCell ⟨B, 0, none⟩ v0).setCell ⟨B, 1, none⟩ v1).heap[B]? = some (.cells #[v0, v1, x2] t (0, 0)) := by
  simp [World.setCell, Array.getElem?_modify, h]

section
variable (A : Option Addr) (n c : Nat) (act : List Int) (A' : Option Addr) (n' c' : Nat) (l : List Int) (y : Int) (w : World)

theorem below2 (w w1 : World) (o o' : Obj) (h : Below ((w.alloc o).alloc o').heap.size ((w.alloc o).alloc o') w1) : Below w.heap.size w w1 :=
  (((Below.refl _ _).alloc (Nat.le_refl _) _).alloc (by simp) _).trans (h.mono (by simp; omega))

set_option maxHeartbeats 1000000 in
theorem begun_bad (h : RI w A n c act) (h' : RI w A' n' c' l) (hk : checkB act l y = false) :
    Calls Try.prog 33 #[.agg #[.slice A n c, .slice A' n' c', .int .i64 y]] w fun e w' => e = .returned (.tuple #[.pointer none, .int .i64 1]) ∧ Below w.heap.size w w' := by
  have H := Lib.hid h
  have H' := Lib.hid h'
  have HK := Lib.hid hk
  clear h h' hk
  go_enter Try.func33, Try.ntmps33
  go_wp2_with fail
  refine (check_any (w.heap.size + 1) A n c act A' n' c' l y _ (by simp) (by go_simp) (by go_simp) (by go_simp) ((H.out.alloc _).alloc _) ((H'.out.alloc _).alloc _)).mono ?_
  rintro e w2 ⟨rfl, hb2⟩
  rw [HK.out, show errB false = 1 from rfl]
  go_wp2_with fail
  go_ret2
  exact ⟨rfl, below2 _ _ _ _ hb2⟩

/-- what begun leaves: a copy of the heap behind a pointer -/
def Begun (act l : List Int) (y : Int) (w : World) (e : Ending) (w' : World) : Prop :=
  ∃ (B : Nat) (A : Option Addr) (c : Nat) (A' : Option Addr) (c' : Nat), e = .returned (.tuple #[.pointer (some ⟨B, 0, none⟩), .int .i64 0]) ∧ w.heap.size ≤ B ∧
    w'.heap[B]? = some (.cells #[.slice A act.length c, .slice A' l.length c', .int .i64 y] 45 (0, 0)) ∧
    w'.ownsRow w.heap.size 3 1 (.slice A act.length c) act.length (act.map (Value.int .i64)) ∧ w'.ownsRow w.heap.size 3 1 (.slice A' l.length c') l.length (l.map (Value.int .i64)) ∧
    (∀ g, (Value.slice A act.length c).ownBlock = some g → (Value.slice A' l.length c').ownBlock ≠ some g) ∧ Below w.heap.size w w'

set_option maxHeartbeats 2000000 in
theorem begun_ok (h : RI w A n c act) (h' : RI w A' n' c' l) (hk : checkB act l y = true) :
    Calls Try.prog 33 #[.agg #[.slice A n c, .slice A' n' c', .int .i64 y]] w (Begun act l y w) := by
  have H := Lib.hid h
  have H' := Lib.hid h'
  have HK := Lib.hid hk
  clear h h' hk
  go_enter Try.func33, Try.ntmps33
  go_wp2_with fail
  refine (check_any (w.heap.size + 1) A n c act A' n' c' l y _ (by simp) (by go_simp) (by go_simp) (by go_simp) ((H.out.alloc _).alloc _) ((H'.out.alloc _).alloc _)).mono ?_
  rintro e w2 ⟨rfl, hb2⟩
  rw [HK.out, show errB true = 0 from rfl]
  have hbw := below2 _ _ _ _ hb2
  have hk2 : w2.heap[w.heap.size + 1]? = some (.cells #[.slice A n c, .slice A' n' c', .int .i64 y] 45 (0, 0)) := by
    refine (hb2.block (w.heap.size + 1) (by simp)).trans ?_
    have e := heap_alloc_new (w.alloc (.cells #[.slice A n c, .slice A' n' c', .int .i64 y] 24)) (.cells #[.slice A n c, .slice A' n' c', .int .i64 y] 45)
    rwa [show (w.alloc (.cells #[.slice A n c, .slice A' n' c', .int .i64 y] 24)).heap.size = w.heap.size + 1 by simp] at e
  have hk1 : w2.heap[w.heap.size]? = some (.cells #[.slice A n c, .slice A' n' c', .int .i64 y] 24 (0, 0)) := by
    refine (hb2.block w.heap.size (by simp; omega)).trans ?_
    exact (Below.heap_alloc _ _ _ (by simp)).trans (heap_alloc_new _ _)
  have hs2 : w.heap.size + 1 < w2.heap.size := by have := hb2.size; simp at this; omega
  clear hb2
  have hc0 : w2.cell? ⟨w.heap.size, 0, none⟩ = some (.slice A n c) := by simp [World.cell?, hk1]
  have hc1 : w2.cell? ⟨w.heap.size, 1, none⟩ = some (.slice A' n' c') := by simp [World.cell?, hk1]
  have H2 := Lib.hid (H.out.below hbw)
  have H2' := Lib.hid (H'.out.below hbw)
  have K1 := Lib.hid hk1
  have K2 := Lib.hid hk2
  have HB := Lib.hid hbw
  have hlt0 : w.heap.size < w2.heap.size := by omega
  clear hk1 hk2 hbw
  go_wp2_with fail
  have hd0 : w2.cell? ⟨w.heap.size + 1, 0, none⟩ = some (.slice A n c) := by simp [World.cell?, K2.out]
  have hd1 : w2.cell? ⟨w.heap.size + 1, 1, none⟩ = some (.slice A' n' c') := by simp [World.cell?, K2.out]
  have hg0 : ∀ i, w2.frozen? ⟨w.heap.size + 1, i, none⟩ = false := fun i => by simp [World.frozen?, K2.out]
  have HG0 := Lib.hid hg0
  have HD0 := Lib.hid hd0
  have HD1 := Lib.hid hd1
  clear hg0 hd0 hd1
  go_region_held3 (fun w' => w'.cell? ⟨w.heap.size, 0, none⟩ = some (.slice A n c) ∧ w'.cell? ⟨w.heap.size, 1, none⟩ = some (.slice A' n' c')) (first | exact ⟨hc0, hc1⟩ | exact ⟨hc40, hc41⟩ | exact ⟨hc30, hc31⟩ | (constructor <;> (rw [World.cell?_setCell_other _ _ _ _ (by simp)]; first | assumption | (rw [World.cell?_setCell_other _ _ _ _ (by simp)]; assumption))))
    (first | (go_at_call_of 45 (Value.slice A n c); refine (clone_any A n c act _ ?_).mono ?_; exact H2.out.drew; rintro e w3 ⟨A3, c3, rfl, ho3, hb3⟩; have hs3 : w2.heap.size ≤ w3.heap.size := hb3.size; have hc30 := (hb3.cell (p := ⟨w.heap.size, 0, none⟩) hlt0).trans hc0; have hc31 := (hb3.cell (p := ⟨w.heap.size, 1, none⟩) hlt0).trans hc1)
           | (go_at_call_of 45 (Value.slice A' n' c'); refine (clone_any A' n' c' l _ ?_).mono ?_; exact H2'.out.drew.below hb3; rintro e w4 ⟨A4, c4, rfl, ho4, hb4⟩; have hs4 := hb4.size; have hc40 := (hb4.cell (p := ⟨w.heap.size, 0, none⟩) (by simp; omega)).trans hc30; have hc41 := (hb4.cell (p := ⟨w.heap.size, 1, none⟩) (by simp; omega)).trans hc31; have hd40 := (hb4.cell (p := ⟨w.heap.size + 1, 0, none⟩) (by simp; omega)).trans ((hb3.cell (p := ⟨w.heap.size + 1, 0, none⟩) hs2).trans HD0.out); have hd41 := (hb4.cell (p := ⟨w.heap.size + 1, 1, none⟩) (by simp; omega)).trans ((hb3.cell (p := ⟨w.heap.size + 1, 1, none⟩) hs2).trans HD1.out); have hf40 := (hb4.frozen (p := ⟨w.heap.size + 1, 0, none⟩) (by simp; omega)).trans ((hb3.frozen (p := ⟨w.heap.size + 1, 0, none⟩) hs2).trans (HG0.out 0)); have hf41 := (hb4.frozen (p := ⟨w.heap.size + 1, 1, none⟩) (by simp; omega)).trans ((hb3.frozen (p := ⟨w.heap.size + 1, 1, none⟩) hs2).trans (HG0.out 1))))
  go_wp2_with fail
  go_ret2
  refine ⟨w.heap.size + 1, A3, c3, A4, c4, rfl, by omega, ?_, ?_, ?_, ?_, ?_⟩
  · exact set01 ((hb4.block _ (by omega)).trans ((hb3.block (w.heap.size + 1) hs2).trans K2.out))
  · have h1 : w4.ownsRow (w.heap.size + 2) 3 1 (.slice A3 act.length c3) act.length (act.map (Value.int .i64)) := own_base (own_below ho3 hb4) (by show w.heap.size + 2 ≤ w2.heap.size; omega)
    exact own_base (ownsRow_setCell_below (ownsRow_setCell_below h1 (by simp) _) (by simp) _) (by omega)
  · have h1 : w4.ownsRow (w.heap.size + 2) 3 1 (.slice A4 l.length c4) l.length (l.map (Value.int .i64)) := own_base ho4 (by omega)
    exact own_base (ownsRow_setCell_below (ownsRow_setCell_below h1 (by simp) _) (by simp) _) (by omega)
  · intro g h3 h4
    have := (own_lt ho3 h3).2
    have := (own_lt ho4 h4).1
    omega
  · have h5 : Below w.heap.size w w4 := (HB.out.trans (((Below.refl _ _).drew).mono (Nat.le_of_lt hlt0))).trans ((hb3.mono (Nat.le_of_lt hlt0)).trans (hb4.mono (by omega)))
    exact (h5.setCell (by simp) _).setCell (by simp) _
end

end Go.Proofs.Ythfadkilffmmlaa
