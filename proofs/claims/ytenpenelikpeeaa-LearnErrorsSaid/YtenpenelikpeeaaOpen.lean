/-
  Arguments opened: a slice of ints, a slice of such, a slice of learnt clauses, a slice of bools, a formula. No condition.
-/
import Derived.Test.YtenpenelikpeeaaG3
import Derived.Deep.Grids
import Derived.Test.YtenpenelikpeeaaPost
import Derived.ProofKit
import Derived.OpenShut
import Derived.SizedLaws
import Derived.Lib.SmallJoins
import Derived.Deep.Slices
import Derived.Deep.Fields
import Derived.Deep.Strs
import Derived.ChangeSame
namespace Go.Proofs.Ytenpenelikpeeaa
open Go.ChangeShapes Go.WideShapes Go.ChangeAt Go.RowKit Go.Joins Go.Deep
set_option linter.unusedVariables false
set_option linter.unusedSimpArgs false

theorem laidOut : laidOutB Try.prog = true := by kernel_rfl
theorem own : ownKnob Try.prog.godebug = none := by kernel_rfl
theorem cells3 : Try.prog.cellsOf 3 = 1 := by kernel_rfl
theorem cells28 : Try.prog.cellsOf 28 = 1 := by kernel_rfl
theorem cells41 : Try.prog.cellsOf 41 = 2 := by kernel_rfl
theorem cells24 : Try.prog.cellsOf 24 = 2 := by kernel_rfl
theorem bytes3 : Try.prog.bytesOf 3 = 8 := by kernel_rfl
theorem bytes28 : Try.prog.bytesOf 28 = 24 := by kernel_rfl
theorem bytes41 : Try.prog.bytesOf 41 = 16 := by kernel_rfl

/-- the reading fits the form's own reach -/
def Fits {H : Type} (t : TypeId) (d : DataW H) : Prop := ∀ n ∈ d.weights Try.prog t, n ≤ reachBytes
theorem reach_lt : reachBytes ≤ 140737488355328 := by decide
theorem fits_of {H : Type} {ts : List TypeId} {ds : List (DataW H)} (h : (DataW.weightsEach Try.prog ts ds).all (· ≤ reachBytes) = true) {j : Nat} {t : TypeId} {d : DataW H} (ht : ts[j]? = some t) (hd : ds[j]? = some d) : Fits t d := fun n hn =>
  of_decide_eq_true (List.all_eq_true.1 h n (DataW.weights_mem_each ht hd n hn))
theorem weightsAll_mem {H : Type} {P : Program} {e : TypeId} {d : DataW H} : ∀ {l : List (DataW H)}, d ∈ l → ∀ n ∈ d.weights P e, n ∈ DataW.weightsAll P e l
  | x :: l, hd, n, hn => by
    simp only [DataW.weightsAll, List.mem_append]
    rcases List.mem_cons.1 hd with rfl | h
    · exact Or.inl hn
    · exact Or.inr (weightsAll_mem h n hn)
theorem Fits.elem {H : Type} {t e : TypeId} {elems spare : List (DataW H)} (h : Fits t (.slice elems spare)) (hu : Try.prog.underlying t = some (.slice e)) {d : DataW H} (hd : d ∈ elems) : Fits e d := fun n hn => by
  refine h n ?_
  simp only [DataW.weights, hu, List.mem_cons, List.mem_append]
  exact Or.inr (Or.inl (weightsAll_mem hd n hn))
theorem Fits.len {H : Type} {t e : TypeId} {elems spare : List (DataW H)} (h : Fits t (.slice elems spare)) (hu : Try.prog.underlying t = some (.slice e)) : elems.length * Try.prog.bytesOf e ≤ 140737488355328 := by
  have := h ((elems.length + spare.length) * Try.prog.bytesOf e) (by simp [DataW.weights, hu])
  have h2 : elems.length * Try.prog.bytesOf e ≤ (elems.length + spare.length) * Try.prog.bytesOf e := Nat.mul_le_mul_right _ (by omega)
  exact Nat.le_trans h2 (Nat.le_trans this reach_lt)

theorem list_make {α : Type} [Inhabited α] {P : Nat → α → Prop} : ∀ n, (∀ j, j < n → ∃ x, P j x) → ∃ l : List α, l.length = n ∧ ∀ j, j < n → P j (l.getD j default)
  | 0, _ => ⟨[], rfl, fun j h => by omega⟩
  | n + 1, h => by
    obtain ⟨l, hl, hp⟩ := list_make n (fun j hj => h j (by omega))
    obtain ⟨x, hx⟩ := h n (by omega)
    refine ⟨l ++ [x], by simp [hl], fun j hj => ?_⟩
    rcases Nat.lt_or_ge j n with hlt | hge
    · have := hp j hlt
      rwa [List.getD_eq_getElem?_getD, List.getElem?_append_left (by omega), ← List.getD_eq_getElem?_getD]
    · have : j = n := by omega
      subst this
      rw [List.getD_eq_getElem?_getD, List.getElem?_append_right (by omega)]
      simpa [hl] using hx

section
variable {H : Type} {enc : TypeId × Value → H} {W : World} {base : Nat} {sp : Nat → Bool} {held : Bool}
theorem cell_block {W : World} {b o : Nat} {v : Value} (h : W.cell? ⟨b, o, none⟩ = some v) : b < W.heap.size := by
  rcases Nat.lt_or_ge b W.heap.size with hlt | hge
  · exact hlt
  · simp [World.cell?, Array.getElem?_eq_none hge] at h

theorem open_ri {fuel : Nat} {cs : List Value} {x : DataW H × List MemPlace} (h : DataW.trod enc Try.prog W base sp held fuel 28 cs = some x) (hz : Fits 28 x.1) :
    ∃ A n c zs, cs = [.slice A n c] ∧ RI W A n c zs ∧ ∀ z ∈ zs, (Lit.int .i64 z).wf = true := by
  rcases open_ints Try.underlying28 Try.underlying3 cells3 h with ⟨hcs, _⟩ | ⟨a, len, cap, zs, hcs, _, hl, hm, hzl, rfl, hcell, hwz⟩
  · exact ⟨none, 0, 0, [], hcs, RI.nil _ _ _ (Nat.zero_le _), fun z hz => by cases hz⟩
  · have hlz : len ≤ zs.length := by rw [hzl]; split <;> omega
    have hb := hz.len Try.underlying28
    rw [bytes3] at hb
    have hln : (lits (H := H) .i64 (zs.take len)).length = len := by simp [lits]; omega
    rw [hln] at hb
    refine ⟨some a, len, cap, zs.take len, hcs, ⟨by simp; omega, hl, hb, hm, fun hn => ?_⟩, fun z hz => hwz z (List.mem_of_mem_take hz)⟩
    obtain ⟨b, off, rfl, hc⟩ := ints_at hcell (by omega)
    refine ⟨b, off, rfl, cell_block (hc 0 (by omega)), fun j hj => ?_⟩
    rw [hc j (by omega)]
    simp [elt, List.getD_eq_getElem?_getD, hj]

theorem open_rl {fuel : Nat} {cs : List Value} {x : DataW H × List MemPlace} (h : DataW.trod enc Try.prog W base sp held fuel 22 cs = some x) (hz : Fits 22 x.1) :
    ∃ A n c ls, cs = [.slice A n c] ∧ RL W A n c ls ∧ ∀ l ∈ ls, ∀ z ∈ l, (Lit.int .i64 z).wf = true := by
  rcases Deep.open_slice Try.underlying22 h with ⟨hcs, _⟩ | ⟨a, len, cap, m, n, D, Pl, hcs, _, hl, hcm, hm, rfl, hi⟩
  · exact ⟨none, 0, 0, [], hcs, RL.nil _ _ _ (Nat.zero_le _), fun z hz => by cases hz⟩
  · have hlm : len ≤ m := by rw [hm]; split <;> omega
    have hb := hz.len Try.underlying22
    rw [bytes28] at hb
    rw [List.length_map, List.length_range] at hb
    have each : ∀ i, i < len → ∃ zs : List Int, (∃ A' n' c', W.cell? (a.add i) = some (.slice A' n' c') ∧ RI W A' n' c' zs) ∧ ∀ z ∈ zs, (Lit.int .i64 z).wf = true := by
      intro i hil
      obtain ⟨cs', h1, h2⟩ := hi i (by omega)
      rw [cells28] at h1
      obtain ⟨_, hcl, hat⟩ := World.cells?_some h1
      obtain ⟨A', n', c', zs, rfl, hr, hw⟩ := open_ri h2 (hz.elem Try.underlying22 (List.mem_map.2 ⟨i, List.mem_range.2 hil, rfl⟩))
      refine ⟨zs, ⟨A', n', c', ?_, hr⟩, hw⟩
      have := hat 0 (by omega)
      simpa [Addr.add] using this
    obtain ⟨ls, hls, hp⟩ := list_make len each
    refine ⟨some a, len, cap, ls, hcs, ⟨hls, hl, hb, hcm, fun hn => ?_⟩, fun l hlm => ?_⟩
    · obtain ⟨A0, n0, c0, hc0, _⟩ := (hp 0 hn).1
      obtain ⟨b, off, spot⟩ := a
      have hspot : spot = none := by simpa [Addr.add] using World.cell?_spot hc0
      subst hspot
      refine ⟨b, off, rfl, cell_block (o := off + 0) (by rw [← Go.WideShapes.add_plain]; exact hc0), fun j hj => ?_⟩
      obtain ⟨A', n', c', h1, h2⟩ := (hp j hj).1
      exact ⟨A', n', c', by rw [← Go.WideShapes.add_plain]; exact h1, h2⟩
    · obtain ⟨j, hj, e⟩ := List.mem_iff_getElem.1 hlm
      have := (hp j (by omega)).2
      rw [List.getD_eq_getElem?_getD, List.getElem?_eq_getElem hj] at this
      simp only [Option.getD_some] at this
      rw [e] at this
      exact this

set_option maxRecDepth 100000 in
theorem open_cnf {r : Reach} {b0 : Nat} {v : Value} {d : DataW H} {p : List MemPlace} (hv : Value.okWide Try.prog W r b0 24 v) (h : DataW.Trod enc Try.prog W base sp held 24 v d p) (hz : Fits 24 d) :
    ∃ x A n c ls, v = .agg #[.int .i64 x, .slice A n c] ∧ RL W A n c ls ∧ (∀ l ∈ ls, ∀ z ∈ l, (Lit.int .i64 z).wf = true) ∧ (Lit.int .i64 x).wf = true := by
  obtain ⟨v0, v1, y0, y1, m, rfl, rfl, rfl, h0, h1⟩ := open_agg2 Try.underlying24 (by kernel_rfl) cells24 hv h
  obtain ⟨x, e, _, wx⟩ := DataW.trod_int Try.underlying3 h0
  have hz1 : Fits 22 y1.1 := fun n hn => hz n (by
    simp only [DataW.weights, Try.underlying24]
    simp [DataW.weightsEach, hn])
  obtain ⟨A, n, c, ls, e1, hr, hw⟩ := open_rl h1 hz1
  simp only [List.cons.injEq, and_true] at e e1
  subst e e1
  exact ⟨x, A, n, c, ls, rfl, hr, hw, wx⟩
theorem cnf_stays {W' : World} {v : Value} {d : DataW H} {p : List MemPlace} (h : DataW.Trod enc Try.prog W 0 (fun _ => true) true 24 v d p) (hb : Below W.heap.size W W') (hlt : ∀ x ∈ p, x.block < W.heap.size) {sp' : Nat → Bool} (hs : ∀ x ∈ p, sp' x.block = true) :
    DataW.Trod enc Try.prog W' 0 sp' true 24 v d p :=
  WideElems.Trod_stays laidOut (by kernel_rfl) (of_decide_eq_true (by kernel_rfl)) h (fun x hx => hb.same (hlt x hx)) hs
theorem steps_stays {W' : World} {v : Value} {d : DataW H} {p : List MemPlace} (h : DataW.Trod enc Try.prog W 0 (fun _ => true) true 25 v d p) (hb : Below W.heap.size W W') (hlt : ∀ x ∈ p, x.block < W.heap.size) {sp' : Nat → Bool} (hs : ∀ x ∈ p, sp' x.block = true) :
    DataW.Trod enc Try.prog W' 0 sp' true 25 v d p :=
  WideElems.Trod_stays laidOut (by kernel_rfl) (of_decide_eq_true (by kernel_rfl)) h (fun x hx => hb.same (hlt x hx)) hs
theorem bools_stays {W' : World} {v : Value} {d : DataW H} {p : List MemPlace} (h : DataW.Trod enc Try.prog W 0 (fun _ => true) true 43 v d p) (hb : Below W.heap.size W W') (hlt : ∀ x ∈ p, x.block < W.heap.size) {sp' : Nat → Bool} (hs : ∀ x ∈ p, sp' x.block = true) :
    DataW.Trod enc Try.prog W' 0 sp' true 43 v d p :=
  WideElems.Trod_stays laidOut (by kernel_rfl) (of_decide_eq_true (by kernel_rfl)) h (fun x hx => hb.same (hlt x hx)) hs
theorem ints_stays {W' : World} {v : Value} {d : DataW H} {p : List MemPlace} (h : DataW.Trod enc Try.prog W 0 (fun _ => true) true 28 v d p) (hb : Below W.heap.size W W') (hlt : ∀ x ∈ p, x.block < W.heap.size) {sp' : Nat → Bool} (hs : ∀ x ∈ p, sp' x.block = true) :
    DataW.Trod enc Try.prog W' 0 sp' true 28 v d p :=
  WideElems.Trod_stays laidOut (by kernel_rfl) (of_decide_eq_true (by kernel_rfl)) h (fun x hx => hb.same (hlt x hx)) hs

theorem one_drop {cs : List Value} {k : Nat} (h : k < cs.length) : (cs.drop k).take 1 = [cs[k]] := by
  rw [List.drop_eq_getElem_cons h]; rfl

set_option maxRecDepth 100000 in
theorem open_rs {r : Reach} {b0 : Nat} {v : Value} {d : DataW H} {p : List MemPlace} (hv : Value.okWide Try.prog W r b0 25 v) (h : DataW.Trod enc Try.prog W base sp held 25 v d p) (hz : Fits 25 d) :
    ∃ A n c ts, v = .slice A n c ∧ RS W A n c ts := by
  obtain ⟨A, n, c, rfl⟩ := okWide_slice Try.underlying25 hv
  obtain ⟨fuel, h⟩ := h
  rcases Deep.open_slice Try.underlying25 h with ⟨hcs, _⟩ | ⟨a, len, cap, m, q, D, Pl, hcs, _, hl, hcm, hm, hx, hi⟩
  · simp only [Value.cells, List.cons.injEq, and_true, Value.slice.injEq] at hcs
    obtain ⟨rfl, rfl, rfl⟩ : A = none ∧ n = 0 ∧ c = 0 := by simpa using hcs
    exact ⟨none, 0, 0, [], rfl, RS.nil _ _ _ (Nat.zero_le _)⟩
  · obtain ⟨rfl, rfl, rfl⟩ : A = some a ∧ n = len ∧ c = cap := by simpa [Value.cells] using hcs
    simp only [Prod.mk.injEq] at hx
    obtain ⟨rfl, rfl⟩ := hx
    have hlm : n ≤ m := by rw [hm]; split <;> omega
    have hb := hz.len Try.underlying25
    rw [bytes41] at hb
    rw [List.length_map, List.length_range] at hb
    have each : ∀ i, i < n → ∃ e : Stp, W.cell? (a.add (i * 2)) = some (.int .i64 e.lit) ∧ W.cell? (a.add (i * 2 + 1)) = some (.int .i64 e.why) := by
      intro i hil
      obtain ⟨cs', h1, h2⟩ := hi i (by omega)
      rw [cells41] at h1
      obtain ⟨_, hcl, hat⟩ := World.cells?_some h1
      obtain ⟨y0, y1, k, hy, _, t0, t1⟩ := trod_struct2 Try.underlying41 h2
      dsimp only at t0 t1
      rw [cells3, one_drop (by omega)] at t0 t1
      obtain ⟨lv, e1, _, _⟩ := DataW.trod_int Try.underlying3 t0
      obtain ⟨act, e2, _, _⟩ := DataW.trod_int Try.underlying3 t1
      simp only [List.cons.injEq, and_true] at e1 e2
      have a0 := hat 0 (by omega)
      have a1 := hat 1 (by omega)
      rw [List.getElem?_eq_getElem (by omega)] at a0 a1
      rw [e1, Go.Deep.add_add] at a0
      rw [e2, Go.Deep.add_add] at a1
      exact ⟨⟨lv, act⟩, a0, a1⟩
    obtain ⟨es, hes, hp⟩ := list_make n each
    refine ⟨some a, n, c, es, rfl, ⟨hes, hl, hb, hcm, fun hn => ?_⟩⟩
    have hc0 := (hp 0 hn).1
    obtain ⟨b, off, spot⟩ := a
    have hspot : spot = none := by simpa [Addr.add] using World.cell?_spot hc0
    subst hspot
    refine ⟨b, off, rfl, cell_block (o := off + 0 * 2) (by rw [← Go.WideShapes.add_plain]; exact hc0), fun j hj => ?_⟩
    obtain ⟨h1, h2⟩ := hp j hj
    refine ⟨by rw [← Go.WideShapes.add_plain]; exact h1, ?_⟩
    rw [Nat.add_assoc, ← Go.WideShapes.add_plain]; exact h2

set_option maxRecDepth 100000 in
theorem open_arg {r : Reach} {b0 : Nat} {v : Value} {d : DataW H} {p : List MemPlace} (hv : Value.okWide Try.prog W r b0 28 v) (h : DataW.Trod enc Try.prog W base sp held 28 v d p) (hz : Fits 28 d) :
    ∃ A n c zs, v = .slice A n c ∧ RI W A n c zs ∧ ∀ z ∈ zs, (Lit.int .i64 z).wf = true := by
  obtain ⟨A, n, c, rfl⟩ := okWide_slice Try.underlying28 hv
  obtain ⟨fuel, h⟩ := h
  obtain ⟨A', n', c', zs, hcs, hr, hw⟩ := open_ri h hz
  obtain ⟨rfl, rfl, rfl⟩ : A = A' ∧ n = n' ∧ c = c' := by simpa [Value.cells] using hcs
  exact ⟨A, n, c, zs, rfl, hr, hw⟩
theorem cells4 : Try.prog.cellsOf 4 = 1 := by kernel_rfl
theorem bytes4 : Try.prog.bytesOf 4 = 1 := by kernel_rfl
set_option maxRecDepth 100000 in
theorem open_rb {r : Reach} {b0 : Nat} {v : Value} {d : DataW H} {p : List MemPlace} (hv : Value.okWide Try.prog W r b0 43 v) (h : DataW.Trod enc Try.prog W base (fun _ => true) held 43 v d p) (hz : Fits 43 d) :
    ∃ A n c bs, v = .slice A n c ∧ RB W A n c bs := by
  obtain ⟨A, n, c, rfl⟩ := okWide_slice Try.underlying43 hv
  obtain ⟨fuel, h⟩ := h
  rcases Deep.open_bools Try.underlying43 Try.underlying4 cells4 h with ⟨hcs, _⟩ | ⟨a, len, cap, B, hcs, _, hl, hm, hx, hcell⟩
  · obtain ⟨rfl, rfl, rfl⟩ : A = none ∧ n = 0 ∧ c = 0 := by simpa [Value.cells] using hcs
    exact ⟨none, 0, 0, [], rfl, RB.nil _ _ _ (Nat.zero_le _)⟩
  · obtain ⟨rfl, rfl, rfl⟩ : A = some a ∧ n = len ∧ c = cap := by simpa [Value.cells] using hcs
    simp only [Prod.mk.injEq] at hx
    obtain ⟨rfl, rfl⟩ := hx
    have hb := hz.len Try.underlying43
    rw [bytes4] at hb
    have hb2 : n ≤ 140737488355328 := by simpa using hb
    refine ⟨some a, n, c, (List.range n).map B, rfl, ⟨by simp, hl, hb2, hm, fun hn => ?_⟩⟩
    obtain ⟨b, off, spot⟩ := a
    have h0 := hcell 0 (by omega)
    have hspot : spot = none := by simpa [Addr.add] using World.cell?_spot h0
    subst hspot
    refine ⟨b, off, rfl, cell_block (o := off + 0) (by rw [← Go.WideShapes.add_plain]; exact h0), fun j hj => ?_⟩
    have := hcell j (by omega)
    rw [Go.WideShapes.add_plain] at this
    rw [this]
    simp [List.getD_eq_getElem?_getD, hj]
end

end Go.Proofs.Ytenpenelikpeeaa
