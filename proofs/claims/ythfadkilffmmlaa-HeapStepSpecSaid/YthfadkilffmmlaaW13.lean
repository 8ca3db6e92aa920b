/-
  Contracts of Bump and Decay. They take what slices.SortFunc does as a hypothesis.
-/
import Derived.Test.YthfadkilffmmlaaW12
namespace Go.Proofs.Ythfadkilffmmlaa
open Go.RowKit
set_option linter.unusedVariables false
set_option linter.unusedSimpArgs false

def sclA (act : List Int) (y : Int) : List Int := if bigB act y then down act else act
def sclY (act : List Int) (y : Int) : Int := if bigB act y then max (y / 1024) 1 else y

theorem scaled_any (N : Nat) (hSO : SortOk N) (w : World) (base B ga : Nat) (ra : List Value) (ca : Nat) (A' : Option Addr) (cl : Nat) (act l : List Int) (y : Int) (h : Wk w base B ga ra ca A' cl act l y) (hbase : base ≤ w.heap.size)
    (hact : 0 < act.length) (hd : Dom act.length l) (hN : l.length ≤ N) (hmid : Mid act) (hy0 : 0 ≤ y) (hy1 : y ≤ 4398046511104) :
    Calls Try.prog 35 #[.pointer (some ⟨B, 0, none⟩)] w (Scaled base ga ca A' cl (sclA act y) l (sclY act y) w) := by
  cases hb : bigB act y
  · have e1 : sclA act y = act := by simp [sclA, hb]
    have e2 : sclY act y = y := by simp [sclY, hb]
    rw [e1, e2]
    exact scaled_small N hSO w base B ga ra ca A' cl act l y h hbase hact hd hN hb
  · have e1 : sclA act y = down act := by simp [sclA, hb]
    have e2 : sclY act y = max (y / 1024) 1 := by simp [sclY, hb]
    rw [e1, e2]
    by_cases hm1 : 1099511627776 < y
    · exact scaled_big1 N hSO w base B ga ra ca A' cl act l y h hbase hact hd hN hmid hy0 hy1 hm1
    · refine scaled_big2 N hSO w base B ga ra ca A' cl act l y h hbase hact hd hN hmid hy0 hy1 hm1 ?_
      simp only [bigB, M40, Bool.or_eq_true, decide_eq_true_eq] at hb
      rcases hb with hb | hb
      · exact absurd (of_decide_eq_true hb) hm1
      · exact of_decide_eq_true hb

theorem own_row {w : World} {base : Nat} {A : Option Addr} {n c : Nat} {xs : List Value} (h : w.ownsRow base 3 1 (.slice A n c) n xs) (hn : 0 < n) :
    ∃ g rest, A = some ⟨g, 0, none⟩ ∧ base ≤ g ∧ w.heap[g]? = some (.cells (xs ++ rest).toArray 3 (0, 0)) := by
  rcases h.2 with ⟨_, h0⟩ | ⟨g, cap, cur, hv, hg, hh, hnc, hcm, hcs, htk⟩
  · omega
  · simp only [Value.slice.injEq] at hv
    refine ⟨g, cur.toList.drop (n * 1), hv.1, hg, ?_⟩
    rw [hh, ← htk, List.take_append_drop]
theorem own_caps {w : World} {base : Nat} {A : Option Addr} {n c : Nat} {xs : List Value} (h : w.ownsRow base 3 1 (.slice A n c) n xs) : n ≤ c ∧ c ≤ maxLen := by
  rcases h.2 with ⟨hv, h0⟩ | ⟨g, cap, cur, hv, hg, hh, hnc, hcm, hcs, htk⟩
  · simp only [Value.slice.injEq] at hv
    exact ⟨by omega, by rw [hv.2.2]; exact Nat.zero_le _⟩
  · simp only [Value.slice.injEq] at hv
    rw [hv.2.2]; exact ⟨hnc, hcm⟩

theorem Wk.of_begun {w w' : World} {B : Nat} {A : Option Addr} {c : Nat} {A' : Option Addr} {c' : Nat} {act l : List Int} {y : Int} (hB : w.heap.size ≤ B)
    (hbox : w'.heap[B]? = some (.cells #[.slice A act.length c, .slice A' l.length c', .int .i64 y] 45 (0, 0)))
    (ho : w'.ownsRow w.heap.size 3 1 (.slice A act.length c) act.length (act.map (Value.int .i64))) (ho' : w'.ownsRow w.heap.size 3 1 (.slice A' l.length c') l.length (l.map (Value.int .i64)))
    (hdis : ∀ g, (Value.slice A act.length c).ownBlock = some g → (Value.slice A' l.length c').ownBlock ≠ some g) (hact : 0 < act.length) (ha : act.length * 8 ≤ 140737488355328) (hl : l.length * 8 ≤ 140737488355328) :
    ∃ ga ra, A = some ⟨ga, 0, none⟩ ∧ Wk w' w.heap.size B ga ra c A' c' act l y := by
  obtain ⟨ga, ra, rfl, hga, hrow⟩ := own_row ho hact
  refine ⟨ga, ra, rfl, hbox, hrow, ⟨(own_caps ho).1, (own_caps ho).2, ha⟩, ⟨(own_caps ho').1, (own_caps ho').2, hl⟩, fun h0 => ?_, hB, hga⟩
  obtain ⟨gl, rl, rfl, hgl, hrl⟩ := own_row ho' h0
  exact ⟨gl, rl, rfl, hrl, fun e => hdis ga rfl (by rw [e]; rfl), hgl⟩

section
variable {w : World} {base B ga : Nat} {ra : List Value} {ca : Nat} {A' : Option Addr} {cl : Nat} {act l : List Int} {y : Int}
theorem Wk.setAct (h : Wk w base B ga ra ca A' cl act l y) {v : Nat} (hv : v < act.length) (x : Int) : Wk (w.setCell ⟨ga, v, none⟩ (.int .i64 x)) base B ga ra ca A' cl (act.set v x) l y := by
  refine ⟨by rw [List.length_set]; exact (Below.heap_setCell _ _ _ _ (by simpa using h.ne)).trans h.box, ?_, by rw [List.length_set]; exact h.capa, h.capl, fun h0 => ?_, h.hB, h.hga⟩
  · simp [World.setCell, Array.getElem?_modify, h.row, List.set_append, hv]
  · obtain ⟨gl, rl, e, h1, h2, h3⟩ := h.own h0
    exact ⟨gl, rl, e, (Below.heap_setCell _ _ _ _ (by simpa using h2)).trans h1, h2, h3⟩
theorem Wk.setBy (h : Wk w base B ga ra ca A' cl act l y) (y2 : Int) : Wk (w.setCell ⟨B, 2, none⟩ (.int .i64 y2)) base B ga ra ca A' cl act l y2 := by
  refine ⟨set2 h.box, (Below.heap_setCell _ _ _ _ (by simpa using h.ne.symm)).trans h.row, h.capa, h.capl, fun h0 => ?_, h.hB, h.hga⟩
  obtain ⟨gl, rl, e, h1, h2, h3⟩ := h.own h0
  have hne : gl ≠ B := by
    intro e
    subst e
    have h5 := h.box
    rw [h1] at h5
    injection h5 with h5
    injection h5 with _ h6
    exact absurd h6 (by decide)
  exact ⟨gl, rl, e, (Below.heap_setCell _ _ _ _ (by simpa using hne)).trans h1, h2, h3⟩
theorem Wk.drew (h : Wk w base B ga ra ca A' cl act l y) : Wk w.drew base B ga ra ca A' cl act l y := h.below ((Below.refl _ _).drew)
end

/- what a valid heap is -/
structure Valid (act l : List Int) (y : Int) : Prop where
  pos : 0 < act.length
  few : act.length ≤ 65537
  zero : elt act 0 = 0
  rng : ∀ k, k < act.length → 0 ≤ elt act k ∧ elt act k ≤ 1099511627776
  by1 : 1 ≤ y
  by2 : y ≤ 1099511627776
  known : ∀ i, i < l.length → 0 < elt l i ∧ elt l i < act.length
  link : ∀ i, 0 < i → i < l.length → ltO act (elt l (i - 1)) (elt l i)

theorem oddB_iff {x : Int} : oddB x = false ↔ 0 ≤ x ∧ x ≤ 1099511627776 := by
  unfold oddB; rw [Bool.or_eq_false_iff, decide_eq_false_iff_not, decide_eq_false_iff_not]; omega

theorem valid_iff (act l : List Int) (y : Int) : checkB act l y = true ↔ Valid act l y := by
  simp only [checkB, actB, byB, linkB, Bool.and_eq_true, decide_eq_true_eq, Bool.not_eq_true', List.all_eq_true, List.mem_range, okAt, knownB_iff, Bool.or_eq_true]
  constructor
  · rintro ⟨⟨⟨⟨⟨a1, a2⟩, a3⟩, a4⟩, b1, b2⟩, c⟩
    rw [oddB_iff] at b2
    refine ⟨a1, a2, a3, fun k hk => ?_, by omega, b2.2, fun i hi => (c i hi).1, fun i h0 hi => ?_⟩
    · rw [List.any_eq_false] at a4
      have := a4 _ (List.getElem_mem hk)
      rw [elt_lt hk]
      exact oddB_iff.1 (by simpa using this)
    · rcases (c i hi).2 with h | h
      · omega
      · exact h
  · intro h
    refine ⟨⟨⟨⟨⟨h.pos, h.few⟩, h.zero⟩, ?_⟩, by have := h.by1; omega, oddB_iff.2 ⟨by have := h.by1; omega, h.by2⟩⟩, fun i hi => ⟨h.known i hi, ?_⟩⟩
    · rw [List.any_eq_false]
      intro x hx
      obtain ⟨k, hk, rfl⟩ := List.getElem_of_mem hx
      have := h.rng k hk
      rw [elt_lt hk] at this
      rw [oddB_iff.2 this]; simp
    · by_cases h0 : i = 0
      · exact Or.inl h0
      · exact Or.inr (h.link i (by omega) hi)
theorem Valid.dom {act l : List Int} {y : Int} (h : Valid act l y) : Dom act.length l := fun z hz => by
  obtain ⟨k, hk, rfl⟩ := List.getElem_of_mem hz
  have := h.known k hk
  rw [elt_lt hk] at this
  omega
theorem Valid.mid {act l : List Int} {y : Int} (h : Valid act l y) : Mid act := fun k hk => by have := h.rng k hk; omega
theorem Valid.mid_set {act l : List Int} {y : Int} (h : Valid act l y) {v : Nat} (hv : v < act.length) : Mid (act.set v (elt act v + y)) := fun k hk => by
  rw [List.length_set] at hk
  rw [elt_set _ _ _ _ hv]
  have := h.rng k hk
  have := h.rng v hv
  have := h.by1
  have := h.by2
  split <;> omega

/-- what Bump and Decay leave -/
def ScOk (act l : List Int) (y : Int) (w : World) (e : Ending) (w' : World) : Prop :=
  ∃ (A : Option Addr) (c : Nat) (A' : Option Addr) (c' : Nat) (l' : List Int), e = .returned (.tuple #[.agg #[.slice A act.length c, .slice A' l'.length c', .int .i64 y], .int .i64 0]) ∧
    RI w' A act.length c act ∧ RI w' A' l'.length c' l' ∧ l'.Perm l ∧ SortedSeg act 0 l'.length l' ∧ Below w.heap.size w w'

end Go.Proofs.Ythfadkilffmmlaa
