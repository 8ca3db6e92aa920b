/-
  The last step of a row where the call leaves a world of which 'Below' alone is known. No condition.
  Arguments opened: a slice of ints, a slice of such, a slice of learnt clauses, a slice of bools, a formula. No condition.
  Appends to a slice of steps: rows of the call's own whose elements have two cells. No condition.
  Every assignment that satisfies the clauses satisfies what First and Less hand back. No program in sight. No condition.
  The clause of First asserts: one literal of the last level, the greatest level of the others. No program in sight. No condition.
-/
import Derived.Below
import Derived.ChangeSame
import Derived.ProofKit
import Derived.Test.YtenpenelikpeeaaZB17
import Derived.Deep.Grids
import Derived.OpenShut
import Derived.SizedLaws
import Derived.Lib.SmallJoins
import Derived.Deep.Slices
import Derived.Deep.Fields
import Derived.Deep.Strs

namespace Go.Proofs.Ytenpenelikpeeaa
open Go.RowKit Go.WideShapes Go.ChangeShapes
set_option linter.unusedSimpArgs false
section
variable {H : Type} {enc : TypeId × Value → H} {P : Program}
theorem post_of_below {f : Func} {s : ChangeSpec} {apart fresh handsOn again : Bool} {W W' : World} {args : Array Value} {v : Value} {ds gs : List (DataW H)} {before pa pv : List MemPlace}
    (hW : DataW.Whole enc P f.params.toList s.vars apart W args.toList ds gs before)
    (hres : ∀ (b : Nat) (sp : Nat → Bool) (hd : Bool), DataW.TrodAll enc P W' b sp hd f.resultTypes.toList (v.resultList f.resultTypes.size) (s.fn H (ds ++ gs)).results [])
    (hargs : ∀ sp : Nat → Bool, (∀ p ∈ before, sp p.block = true) → DataW.TrodAll enc P W' 0 sp true f.params.toList args.toList (s.fn H (ds ++ gs)).args pa)
    (hvars : ∀ sp : Nat → Bool, (∀ p ∈ before, sp p.block = true) → DataW.TrodVars enc P W' sp s.vars (s.fn H (ds ++ gs)).vars pv)
    (hps : before = pa ++ pv) (hb : Below W.heap.size W W')
    (hok : ∀ (j : Nat) (t : TypeId) (r : Value), f.resultTypes[j]? = some t → (v.resultList f.resultTypes.size)[j]? = some r → Value.okWide P W' .any 0 t r) :
    s.post enc P f apart fresh handsOn again W args v W' := by
  have hlt : ∀ p ∈ before, p.block < W.heap.size := fun p hp => hW.lt p hp
  have hold : ∀ p ∈ before, (fun b => decide (b < W.heap.size)) p.block = true := fun p hp => by simpa using hlt p hp
  refine ⟨ds, gs, before, [], pa, pv, hW, hres _ _ _, hargs _ hold, hvars _ hold, World.keptBut_mono (fun p hp => ⟨hp, ?_⟩) (hb.frame (· ∈ before)), fun _ => ?_⟩
  · rw [hps, List.mem_append] at hp
    exact Or.inr hp
  · obtain ⟨_, _, _, _, _, hz, hn⟩ := hW
    refine ⟨hok, _, _, ([] ++ pa) ++ pv, ⟨[] ++ pa, pv, trodAll_append (hargs _ (fun _ _ => rfl)) (hres _ _ _), hvars _ (fun _ _ => rfl), rfl, ?_, ?_⟩, ?_⟩
    · intro b off hp
      have hin : MemPlace.cell b off ∈ before := by rw [hps]; simpa using hp
      rw [hb.frozen (hlt _ hin)]
      exact hz b off hin
    · intro ha
      have := hn ha
      rw [hps] at this
      simpa using this
    · intro p hp _
      rw [hps]
      simpa using hp
end

end Go.Proofs.Ytenpenelikpeeaa

namespace Go.Proofs.Ytenpenelikpeeaa
open Go.ChangeShapes Go.WideShapes Go.ChangeAt Go.RowKit Go.Joins Go.Deep
set_option linter.unusedVariables false
set_option linter.unusedSimpArgs false

theorem laidOut : laidOutB Try.prog = true := by kernel_rfl
theorem own : ownKnob Try.prog.godebug = none := by kernel_rfl
theorem cells3 : Try.prog.cellsOf 3 = 1 := by kernel_rfl
theorem cells28 : Try.prog.cellsOf 28 = 1 := by kernel_rfl
theorem cells41 : Try.prog.cellsOf 41 = 2 := by kernel_rfl
theorem cells24 : Try.prog.cellsOf 24 = 2 := by kernel_rfl
theorem bytes3 : Try.prog.bytesOf 3 = 8 := by kernel_rfl
theorem bytes28 : Try.prog.bytesOf 28 = 24 := by kernel_rfl
theorem bytes41 : Try.prog.bytesOf 41 = 16 := by kernel_rfl

/-- the reading fits the form's own reach -/
def Fits {H : Type} (t : TypeId) (d : DataW H) : Prop := ∀ n ∈ d.weights Try.prog t, n ≤ reachBytes
theorem reach_lt : reachBytes ≤ 140737488355328 := by decide
theorem fits_of {H : Type} {ts : List TypeId} {ds : List (DataW H)} (h : (DataW.weightsEach Try.prog ts ds).all (· ≤ reachBytes) = true) {j : Nat} {t : TypeId} {d : DataW H} (ht : ts[j]? = some t) (hd : ds[j]? = some d) : Fits t d := fun n hn =>
  of_decide_eq_true (List.all_eq_true.1 h n (DataW.weights_mem_each ht hd n hn))
theorem weightsAll_mem {H : Type} {P : Program} {e : TypeId} {d : DataW H} : ∀ {l : List (DataW H)}, d ∈ l → ∀ n ∈ d.weights P e, n ∈ DataW.weightsAll P e l
  | x :: l, hd, n, hn => by
    simp only [DataW.weightsAll, List.mem_append]
    rcases List.mem_cons.1 hd with rfl | h
    · exact Or.inl hn
    · exact Or.inr (weightsAll_mem h n hn)
theorem Fits.elem {H : Type} {t e : TypeId} {elems spare : List (DataW H)} (h : Fits t (.slice elems spare)) (hu : Try.prog.underlying t = some (.slice e)) {d : DataW H} (hd : d ∈ elems) : Fits e d := fun n hn => by
  refine h n ?_
  simp only [DataW.weights, hu, List.mem_cons, List.mem_append]
  exact Or.inr (Or.inl (weightsAll_mem hd n hn))
theorem Fits.len {H : Type} {t e : TypeId} {elems spare : List (DataW H)} (h : Fits t (.slice elems spare)) (hu : Try.prog.underlying t = some (.slice e)) : elems.length * Try.prog.bytesOf e ≤ 140737488355328 := by
  have := h ((elems.length + spare.length) * Try.prog.bytesOf e) (by simp [DataW.weights, hu])
  have h2 : elems.length * Try.prog.bytesOf e ≤ (elems.length + spare.length) * Try.prog.bytesOf e := Nat.mul_le_mul_right _ (by omega)
  exact Nat.le_trans h2 (Nat.le_trans this reach_lt)

theorem list_make {α : Type} [Inhabited α] {P : Nat → α → Prop} : ∀ n, (∀ j, j < n → ∃ x, P j x) → ∃ l : List α, l.length = n ∧ ∀ j, j < n → P j (l.getD j default)
  | 0, _ => ⟨[], rfl, fun j h => by omega⟩
  | n + 1, h => by
    obtain ⟨l, hl, hp⟩ := list_make n (fun j hj => h j (by omega))
    obtain ⟨x, hx⟩ := h n (by omega)
    refine ⟨l ++ [x], by simp [hl], fun j hj => ?_⟩
    rcases Nat.lt_or_ge j n with hlt | hge
    · have := hp j hlt
      rwa [List.getD_eq_getElem?_getD, List.getElem?_append_left (by omega), ← List.getD_eq_getElem?_getD]
    · have : j = n := by omega
      subst this
      rw [List.getD_eq_getElem?_getD, List.getElem?_append_right (by omega)]
      simpa [hl] using hx

section
variable {H : Type} {enc : TypeId × Value → H} {W : World} {base : Nat} {sp : Nat → Bool} {held : Bool}
theorem cell_block {W : World} {b o : Nat} {v : Value} (h : W.cell? ⟨b, o, none⟩ = some v) : b < W.heap.size := by
  rcases Nat.lt_or_ge b W.heap.size with hlt | hge
  · exact hlt
  · simp [World.cell?, Array.getElem?_eq_none hge] at h

theorem open_ri {fuel : Nat} {cs : List Value} {x : DataW H × List MemPlace} (h : DataW.trod enc Try.prog W base sp held fuel 28 cs = some x) (hz : Fits 28 x.1) :
    ∃ A n c zs, cs = [.slice A n c] ∧ RI W A n c zs ∧ ∀ z ∈ zs, (Lit.int .i64 z).wf = true := by
  rcases open_ints Try.underlying28 Try.underlying3 cells3 h with ⟨hcs, _⟩ | ⟨a, len, cap, zs, hcs, _, hl, hm, hzl, rfl, hcell, hwz⟩
  · exact ⟨none, 0, 0, [], hcs, RI.nil _ _ _ (Nat.zero_le _), fun z hz => by cases hz⟩
  · have hlz : len ≤ zs.length := by rw [hzl]; split <;> omega
    have hb := hz.len Try.underlying28
    rw [bytes3] at hb
    have hln : (lits (H := H) .i64 (zs.take len)).length = len := by simp [lits]; omega
    rw [hln] at hb
    refine ⟨some a, len, cap, zs.take len, hcs, ⟨by simp; omega, hl, hb, hm, fun hn => ?_⟩, fun z hz => hwz z (List.mem_of_mem_take hz)⟩
    obtain ⟨b, off, rfl, hc⟩ := ints_at hcell (by omega)
    refine ⟨b, off, rfl, cell_block (hc 0 (by omega)), fun j hj => ?_⟩
    rw [hc j (by omega)]
    simp [elt, List.getD_eq_getElem?_getD, hj]

theorem open_rl {fuel : Nat} {cs : List Value} {x : DataW H × List MemPlace} (h : DataW.trod enc Try.prog W base sp held fuel 22 cs = some x) (hz : Fits 22 x.1) :
    ∃ A n c ls, cs = [.slice A n c] ∧ RL W A n c ls ∧ ∀ l ∈ ls, ∀ z ∈ l, (Lit.int .i64 z).wf = true := by
  rcases Deep.open_slice Try.underlying22 h with ⟨hcs, _⟩ | ⟨a, len, cap, m, n, D, Pl, hcs, _, hl, hcm, hm, rfl, hi⟩
  · exact ⟨none, 0, 0, [], hcs, RL.nil _ _ _ (Nat.zero_le _), fun z hz => by cases hz⟩
  · have hlm : len ≤ m := by rw [hm]; split <;> omega
    have hb := hz.len Try.underlying22
    rw [bytes28] at hb
    rw [List.length_map, List.length_range] at hb
    have each : ∀ i, i < len → ∃ zs : List Int, (∃ A' n' c', W.cell? (a.add i) = some (.slice A' n' c') ∧ RI W A' n' c' zs) ∧ ∀ z ∈ zs, (Lit.int .i64 z).wf = true := by
      intro i hil
      obtain ⟨cs', h1, h2⟩ := hi i (by omega)
      rw [cells28] at h1
      obtain ⟨_, hcl, hat⟩ := World.cells?_some h1
      obtain ⟨A', n', c', zs, rfl, hr, hw⟩ := open_ri h2 (hz.elem Try.underlying22 (List.mem_map.2 ⟨i, List.mem_range.2 hil, rfl⟩))
      refine ⟨zs, ⟨A', n', c', ?_, hr⟩, hw⟩
      have := hat 0 (by omega)
      simpa [Addr.add] using this
    obtain ⟨ls, hls, hp⟩ := list_make len each
    refine ⟨some a, len, cap, ls, hcs, ⟨hls, hl, hb, hcm, fun hn => ?_⟩, fun l hlm => ?_⟩
    · obtain ⟨A0, n0, c0, hc0, _⟩ := (hp 0 hn).1
      obtain ⟨b, off, spot⟩ := a
      have hspot : spot = none := by simpa [Addr.add] using World.cell?_spot hc0
      subst hspot
      refine ⟨b, off, rfl, cell_block (o := off + 0) (by rw [← Go.WideShapes.add_plain]; exact hc0), fun j hj => ?_⟩
      obtain ⟨A', n', c', h1, h2⟩ := (hp j hj).1
      exact ⟨A', n', c', by rw [← Go.WideShapes.add_plain]; exact h1, h2⟩
    · obtain ⟨j, hj, e⟩ := List.mem_iff_getElem.1 hlm
      have := (hp j (by omega)).2
      rw [List.getD_eq_getElem?_getD, List.getElem?_eq_getElem hj] at this
      simp only [Option.getD_some] at this
      rw [e] at this
      exact this

set_option maxRecDepth 100000 in
theorem open_cnf {r : Reach} {b0 : Nat} {v : Value} {d : DataW H} {p : List MemPlace} (hv : Value.okWide Try.prog W r b0 24 v) (h : DataW.Trod enc Try.prog W base sp held 24 v d p) (hz : Fits 24 d) :
    ∃ x A n c ls, v = .agg #[.int .i64 x, .slice A n c] ∧ RL W A n c ls ∧ (∀ l ∈ ls, ∀ z ∈ l, (Lit.int .i64 z).wf = true) ∧ (Lit.int .i64 x).wf = true := by
  obtain ⟨v0, v1, y0, y1, m, rfl, rfl, rfl, h0, h1⟩ := open_agg2 Try.underlying24 (by kernel_rfl) cells24 hv h
  obtain ⟨x, e, _, wx⟩ := DataW.trod_int Try.underlying3 h0
  have hz1 : Fits 22 y1.1 := fun n hn => hz n (by
    simp only [DataW.weights, Try.underlying24]
    simp [DataW.weightsEach, hn])
  obtain ⟨A, n, c, ls, e1, hr, hw⟩ := open_rl h1 hz1
  simp only [List.cons.injEq, and_true] at e e1
  subst e e1
  exact ⟨x, A, n, c, ls, rfl, hr, hw, wx⟩
theorem cnf_stays {W' : World} {v : Value} {d : DataW H} {p : List MemPlace} (h : DataW.Trod enc Try.prog W 0 (fun _ => true) true 24 v d p) (hb : Below W.heap.size W W') (hlt : ∀ x ∈ p, x.block < W.heap.size) {sp' : Nat → Bool} (hs : ∀ x ∈ p, sp' x.block = true) :
    DataW.Trod enc Try.prog W' 0 sp' true 24 v d p :=
  WideElems.Trod_stays laidOut (by kernel_rfl) (of_decide_eq_true (by kernel_rfl)) h (fun x hx => hb.same (hlt x hx)) hs
theorem steps_stays {W' : World} {v : Value} {d : DataW H} {p : List MemPlace} (h : DataW.Trod enc Try.prog W 0 (fun _ => true) true 25 v d p) (hb : Below W.heap.size W W') (hlt : ∀ x ∈ p, x.block < W.heap.size) {sp' : Nat → Bool} (hs : ∀ x ∈ p, sp' x.block = true) :
    DataW.Trod enc Try.prog W' 0 sp' true 25 v d p :=
  WideElems.Trod_stays laidOut (by kernel_rfl) (of_decide_eq_true (by kernel_rfl)) h (fun x hx => hb.same (hlt x hx)) hs
theorem bools_stays {W' : World} {v : Value} {d : DataW H} {p : List MemPlace} (h : DataW.Trod enc Try.prog W 0 (fun _ => true) true 43 v d p) (hb : Below W.heap.size W W') (hlt : ∀ x ∈ p, x.block < W.heap.size) {sp' : Nat → Bool} (hs : ∀ x ∈ p, sp' x.block = true) :
    DataW.Trod enc Try.prog W' 0 sp' true 43 v d p :=
  WideElems.Trod_stays laidOut (by kernel_rfl) (of_decide_eq_true (by kernel_rfl)) h (fun x hx => hb.same (hlt x hx)) hs
theorem ints_stays {W' : World} {v : Value} {d : DataW H} {p : List MemPlace} (h : DataW.Trod enc Try.prog W 0 (fun _ => true) true 28 v d p) (hb : Below W.heap.size W W') (hlt : ∀ x ∈ p, x.block < W.heap.size) {sp' : Nat → Bool} (hs : ∀ x ∈ p, sp' x.block = true) :
    DataW.Trod enc Try.prog W' 0 sp' true 28 v d p :=
  WideElems.Trod_stays laidOut (by kernel_rfl) (of_decide_eq_true (by kernel_rfl)) h (fun x hx => hb.same (hlt x hx)) hs

theorem one_drop {cs : List Value} {k : Nat} (h : k < cs.length) : (cs.drop k).take 1 = [cs[k]] := by
  rw [List.drop_eq_getElem_cons h]; rfl

set_option maxRecDepth 100000 in
theorem open_rs {r : Reach} {b0 : Nat} {v : Value} {d : DataW H} {p : List MemPlace} (hv : Value.okWide Try.prog W r b0 25 v) (h : DataW.Trod enc Try.prog W base sp held 25 v d p) (hz : Fits 25 d) :
    ∃ A n c ts, v = .slice A n c ∧ RS W A n c ts := by
  obtain ⟨A, n, c, rfl⟩ := okWide_slice Try.underlying25 hv
  obtain ⟨fuel, h⟩ := h
  rcases Deep.open_slice Try.underlying25 h with ⟨hcs, _⟩ | ⟨a, len, cap, m, q, D, Pl, hcs, _, hl, hcm, hm, hx, hi⟩
  · simp only [Value.cells, List.cons.injEq, and_true, Value.slice.injEq] at hcs
    obtain ⟨rfl, rfl, rfl⟩ : A = none ∧ n = 0 ∧ c = 0 := by simpa using hcs
    exact ⟨none, 0, 0, [], rfl, RS.nil _ _ _ (Nat.zero_le _)⟩
  · obtain ⟨rfl, rfl, rfl⟩ : A = some a ∧ n = len ∧ c = cap := by simpa [Value.cells] using hcs
    simp only [Prod.mk.injEq] at hx
    obtain ⟨rfl, rfl⟩ := hx
    have hlm : n ≤ m := by rw [hm]; split <;> omega
    have hb := hz.len Try.underlying25
    rw [bytes41] at hb
    rw [List.length_map, List.length_range] at hb
    have each : ∀ i, i < n → ∃ e : Stp, W.cell? (a.add (i * 2)) = some (.int .i64 e.lit) ∧ W.cell? (a.add (i * 2 + 1)) = some (.int .i64 e.why) := by
      intro i hil
      obtain ⟨cs', h1, h2⟩ := hi i (by omega)
      rw [cells41] at h1
      obtain ⟨_, hcl, hat⟩ := World.cells?_some h1
      obtain ⟨y0, y1, k, hy, _, t0, t1⟩ := trod_struct2 Try.underlying41 h2
      dsimp only at t0 t1
      rw [cells3, one_drop (by omega)] at t0 t1
      obtain ⟨lv, e1, _, _⟩ := DataW.trod_int Try.underlying3 t0
      obtain ⟨act, e2, _, _⟩ := DataW.trod_int Try.underlying3 t1
      simp only [List.cons.injEq, and_true] at e1 e2
      have a0 := hat 0 (by omega)
      have a1 := hat 1 (by omega)
      rw [List.getElem?_eq_getElem (by omega)] at a0 a1
      rw [e1, Go.Deep.add_add] at a0
      rw [e2, Go.Deep.add_add] at a1
      exact ⟨⟨lv, act⟩, a0, a1⟩
    obtain ⟨es, hes, hp⟩ := list_make n each
    refine ⟨some a, n, c, es, rfl, ⟨hes, hl, hb, hcm, fun hn => ?_⟩⟩
    have hc0 := (hp 0 hn).1
    obtain ⟨b, off, spot⟩ := a
    have hspot : spot = none := by simpa [Addr.add] using World.cell?_spot hc0
    subst hspot
    refine ⟨b, off, rfl, cell_block (o := off + 0 * 2) (by rw [← Go.WideShapes.add_plain]; exact hc0), fun j hj => ?_⟩
    obtain ⟨h1, h2⟩ := hp j hj
    refine ⟨by rw [← Go.WideShapes.add_plain]; exact h1, ?_⟩
    rw [Nat.add_assoc, ← Go.WideShapes.add_plain]; exact h2

set_option maxRecDepth 100000 in
theorem open_arg {r : Reach} {b0 : Nat} {v : Value} {d : DataW H} {p : List MemPlace} (hv : Value.okWide Try.prog W r b0 28 v) (h : DataW.Trod enc Try.prog W base sp held 28 v d p) (hz : Fits 28 d) :
    ∃ A n c zs, v = .slice A n c ∧ RI W A n c zs ∧ ∀ z ∈ zs, (Lit.int .i64 z).wf = true := by
  obtain ⟨A, n, c, rfl⟩ := okWide_slice Try.underlying28 hv
  obtain ⟨fuel, h⟩ := h
  obtain ⟨A', n', c', zs, hcs, hr, hw⟩ := open_ri h hz
  obtain ⟨rfl, rfl, rfl⟩ : A = A' ∧ n = n' ∧ c = c' := by simpa [Value.cells] using hcs
  exact ⟨A, n, c, zs, rfl, hr, hw⟩
theorem cells4 : Try.prog.cellsOf 4 = 1 := by kernel_rfl
theorem bytes4 : Try.prog.bytesOf 4 = 1 := by kernel_rfl
set_option maxRecDepth 100000 in
theorem open_rb {r : Reach} {b0 : Nat} {v : Value} {d : DataW H} {p : List MemPlace} (hv : Value.okWide Try.prog W r b0 43 v) (h : DataW.Trod enc Try.prog W base (fun _ => true) held 43 v d p) (hz : Fits 43 d) :
    ∃ A n c bs, v = .slice A n c ∧ RB W A n c bs := by
  obtain ⟨A, n, c, rfl⟩ := okWide_slice Try.underlying43 hv
  obtain ⟨fuel, h⟩ := h
  rcases Deep.open_bools Try.underlying43 Try.underlying4 cells4 h with ⟨hcs, _⟩ | ⟨a, len, cap, B, hcs, _, hl, hm, hx, hcell⟩
  · obtain ⟨rfl, rfl, rfl⟩ : A = none ∧ n = 0 ∧ c = 0 := by simpa [Value.cells] using hcs
    exact ⟨none, 0, 0, [], rfl, RB.nil _ _ _ (Nat.zero_le _)⟩
  · obtain ⟨rfl, rfl, rfl⟩ : A = some a ∧ n = len ∧ c = cap := by simpa [Value.cells] using hcs
    simp only [Prod.mk.injEq] at hx
    obtain ⟨rfl, rfl⟩ := hx
    have hb := hz.len Try.underlying43
    rw [bytes4] at hb
    have hb2 : n ≤ 140737488355328 := by simpa using hb
    refine ⟨some a, n, c, (List.range n).map B, rfl, ⟨by simp, hl, hb2, hm, fun hn => ?_⟩⟩
    obtain ⟨b, off, spot⟩ := a
    have h0 := hcell 0 (by omega)
    have hspot : spot = none := by simpa [Addr.add] using World.cell?_spot h0
    subst hspot
    refine ⟨b, off, rfl, cell_block (o := off + 0) (by rw [← Go.WideShapes.add_plain]; exact h0), fun j hj => ?_⟩
    have := hcell j (by omega)
    rw [Go.WideShapes.add_plain] at this
    rw [this]
    simp [List.getD_eq_getElem?_getD, hj]
end

end Go.Proofs.Ytenpenelikpeeaa

namespace Go.Proofs.Ytenpenelikpeeaa
open Go.RowKit Go.Shelf
set_option linter.unusedVariables false
set_option linter.unusedSimpArgs false

def flatS (ts : List Stp) : List Value := (ts.map fun s => [Value.int .i64 s.lit, Value.int .i64 s.why]).flatten
theorem flatS_cons (s : Stp) (ts : List Stp) : flatS (s :: ts) = .int .i64 s.lit :: .int .i64 s.why :: flatS ts := rfl
theorem flatS_len : ∀ ts : List Stp, (flatS ts).length = ts.length * 2
  | [] => rfl
  | s :: ts => by rw [flatS_cons, List.length_cons, List.length_cons, flatS_len ts, List.length_cons]; omega
theorem flatS_app (a b : List Stp) : flatS (a ++ b) = flatS a ++ flatS b := by simp [flatS]
theorem flatS_one : ∀ (ts : List Stp), ∀ u ∈ flatS ts, u.oneCell' = true
  | [], u, h => by cases h
  | s :: ts, u, h => by
    rw [flatS_cons] at h
    rcases List.mem_cons.1 h with rfl | h
    · rfl
    · rcases List.mem_cons.1 h with rfl | h
      · rfl
      · exact flatS_one ts u h
theorem flatS_at {ts : List Stp} {j : Nat} (h : j < ts.length) : (flatS ts)[j * 2]? = some (.int .i64 (stp ts j).lit) ∧ (flatS ts)[j * 2 + 1]? = some (.int .i64 (stp ts j).why) := flat_at ts j h
theorem RS.news {w : World} {ad : Addr} {n c : Nat} {ts : List Stp} (h : RS w (some ad) n c ts) : ∀ j u, (flatS ts)[j]? = some u → w.cell? (ad.add j) = some u := by
  intro j u hj
  have hl : j < ts.length * 2 := by rw [← flatS_len]; exact (List.getElem?_eq_some_iff.1 hj).1
  obtain ⟨b, off, he, _, hc⟩ := h.cells (by have := h.len; omega)
  injection he with he
  subst he
  have hd : j / 2 < ts.length := by omega
  obtain ⟨c0, c1⟩ := hc (j / 2) (by rw [← h.len]; exact hd)
  obtain ⟨f0, f1⟩ := flatS_at hd
  rw [Go.WideShapes.add_plain]
  rcases Nat.mod_two_eq_zero_or_one j with e | e
  · have ej : j / 2 * 2 = j := by omega
    rw [ej] at c0 f0
    rw [f0] at hj
    rw [c0]; exact hj
  · have ej : j / 2 * 2 + 1 = j := by omega
    rw [ej] at f1
    rw [Nat.add_assoc, ej] at c1
    rw [f1] at hj
    rw [c1]; exact hj
theorem infoStp : (Try.prog.info? 41).map (fun i => (i.zero, i.size, i.bytes)) = some (some (.agg #[.int .i64 0, .int .i64 0]), 2, 16) := by kernel_rfl

theorem RS.of_own {w : World} {base : Nat} {A : Option Addr} {n c : Nat} {ts : List Stp} (h : w.ownsRow base 41 2 (.slice A n c) n (flatS ts)) (hbig : n * 16 ≤ 140737488355328) : RS w A n c ts := by
  obtain ⟨h1, h2⟩ := h
  rw [flatS_len] at h1
  have hl : ts.length = n := by omega
  rcases h2 with ⟨hv, hn⟩ | ⟨g, cap, cur, hv, hg, hh, hnc, hcm, hcs, htk⟩
  · simp only [Value.slice.injEq] at hv
    obtain ⟨rfl, _, rfl⟩ := hv
    subst hn
    exact ⟨hl, Nat.le_refl _, hbig, Nat.zero_le _, fun h => absurd h (by omega)⟩
  · simp only [Value.slice.injEq] at hv
    obtain ⟨rfl, _, rfl⟩ := hv
    refine ⟨hl, hnc, hbig, hcm, fun hn => ⟨g, 0, rfl, ?_, fun j hj => ?_⟩⟩
    · rcases Nat.lt_or_ge g w.heap.size with hlt | hge
      · exact hlt
      · rw [Array.getElem?_eq_none hge] at hh; cases hh
    · obtain ⟨f0, f1⟩ := flatS_at (ts := ts) (j := j) (by omega)
      have e0 : cur[j * 2]? = some (.int .i64 (stp ts j).lit) := by
        rw [← htk, List.getElem?_take_of_lt (by omega), Array.getElem?_toList] at f0; exact f0
      have e1 : cur[j * 2 + 1]? = some (.int .i64 (stp ts j).why) := by
        rw [← htk, List.getElem?_take_of_lt (by omega), Array.getElem?_toList] at f1; exact f1
      constructor
      · simp [World.cell?, hh, e0]
      · simp [World.cell?, hh, e1]
theorem own_emptyS (w : World) (base s : Nat) (hs : s = w.heap.size) (hb : base ≤ w.heap.size) : (w.alloc (.cells #[] 41)).ownsRow base 41 2 (.slice (some ⟨s, 0, none⟩) 0 0) 0 (flatS []) := by
  subst hs; exact World.ownsRow_made w #[] 0 hb (Nat.zero_le _) rfl

set_option maxRecDepth 100000 in
theorem run_append_st (w : World) (ty : TypeId) (base : Nat) (v : Value) (n : Nat) (xs : List Stp) (hown : w.ownsRow base 41 2 v n (flatS xs))
    (A : Option Addr) (m c : Nat) (zs : List Stp) (hr : RS w A m c zs) (hbytes : (n + m) * 16 ≤ 140737488355328) (hbase : base ≤ w.heap.size) :
    ∃ v' w', (Builtin.append_ #[25, 25] ty #[v, .slice A m c]).run Try.prog w = .ok v' w' ∧ w'.ownsRow base 41 2 v' (n + m) (flatS (xs ++ zs)) ∧ w.grownBy w' v.ownBlock := by
  obtain ⟨i0, hi, hz0, hz1, hz2⟩ := info_parts infoStp
  cases A with
  | none =>
    have hm : m = 0 := by
      rcases Nat.eq_zero_or_pos m with h0 | h0
      · exact h0
      · obtain ⟨b, off, he, _⟩ := hr.cells h0; cases he
    subst hm
    have hz : zs = [] := List.eq_nil_of_length_eq_zero hr.len
    subst hz
    exact ⟨v, w, run_append_none Try.underlying25 w base ty i0 hi v n 2 _ hown c, by simpa using hown, World.grownBy.refl w _⟩
  | some ad =>
    obtain ⟨v', w', h1, h2, h3, _, h5⟩ := run_append_own_at (P := Try.prog) w base 25 ty 41 i0 (.agg #[.int .i64 0, .int .i64 0]) 2 16 Try.underlying25 hi hz0 hz1 hz2 rfl (by decide) v n _ hown ad m c (flatS zs) (by rw [flatS_len, hr.len]) hr.news (flatS_one zs) (by unfold maxLen; omega) hbytes hbase
    exact ⟨v', w', h1, by rw [flatS_app]; exact h2, h3⟩

theorem wpList_append_st {w wr : World} {ops : Array Oper} {rest : List Oper} {o : Oper} {a : Act} {Q : Exit → Act → World → Prop} (hgd : o.guard = none) (s x : Operand)
    (ho : o.op = .call { callee := .builtin .append, args := #[s, x], argTypes := #[25, 25] }) (hb : Below wr.heap.size wr w) (v : Value) (n : Nat) (xs : List Stp) (hs : a.eval s = v) (hown : w.ownsRow wr.heap.size 41 2 v n (flatS xs))
    (A : Option Addr) (m c : Nat) (zs : List Stp) (hx : a.eval x = .slice A m c) (hr : RS w A m c zs) (hbytes : (n + m) * 16 ≤ 140737488355328) (k : Nat) (hk : n + m = k) (ys : List Stp) (hy : xs ++ zs = ys)
    (h : ∀ A' c' w', w'.ownsRow wr.heap.size 41 2 (.slice A' k c') k (flatS ys) → Below wr.heap.size wr w' → wpList Try.prog ops Q rest (a.put o.dst (.slice A' k c')) w') :
    wpList Try.prog ops Q (o :: rest) a w := by
  subst hk hy
  obtain ⟨v', w', h1, h2, h3⟩ := run_append_st w o.type wr.heap.size v n xs hown A m c zs hr hbytes hb.size
  refine wpList_plain hgd fun K hK => ?_
  unfold Oper.wp
  simp only [execOp, ho, resolve, invoke, builtin, Sem.run_bind, Sem.run_pure, Result.andThen_ok, List.map_toArray, List.map_cons, List.map_nil, hs, hx, h1]
  obtain ⟨A', c', rfl⟩ := own_form h2
  exact hK _ _ (h A' c' w' h2 (hb.grown h3 hb.size (fun g hg => (own_lt hown hg).1)))

end Go.Proofs.Ytenpenelikpeeaa

namespace Go.Proofs.Ytenpenelikpeeaa
set_option linter.unusedVariables false
set_option linter.unusedSimpArgs false

theorem asc_nodup {l : List Int} (h : AscV l) : l.Nodup := h.imp fun h e => by rw [e] at h; omega

/-- where First answers: its road -/
structure Rd (x : Int) (ls : List (List Int)) (ts : List Stp) (q : Int) : Prop where
  prop : propE x ls ts = 0
  chk : checkE x ls = 0
  tr : Tr x ls ts
  q0 : 0 ≤ q
  q1 : q < (ls.length : Int)
  dead : deadB ts (ell ls q.toNat) = true
  last : lastT ts ≠ 0
  hi : 0 < hiN ts (lastT ts) (start ls q)
  under : Under ts ts.length (roadEnd ls ts q)
  nodup : (roadEnd ls ts q).Nodup
  one : hiN ts (lastT ts) (roadEnd ls ts q) = 1
theorem rd_of {x : Int} {ls : List (List Int)} {ts : List Stp} {q : Int} (h : firstE x ls ts q = 0) : Rd x ls ts q := by
  unfold firstE at h
  by_cases h1 : propE x ls ts = 0
  · rw [if_neg (by simpa using h1)] at h
    by_cases h2 : q < 0 ∨ (ls.length : Int) ≤ q ∨ deadB ts (ell ls q.toNat) = false
    · rw [if_pos h2] at h; exact absurd h (by decide)
    · rw [if_neg h2] at h
      by_cases h3 : lastT ts = 0 ∨ hiN ts (lastT ts) (start ls q) = 0
      · rw [if_pos h3] at h; exact absurd h (by decide)
      · have hd : deadB ts (ell ls q.toNat) = true := by
          cases hd : deadB ts (ell ls q.toNat) with
          | true => rfl
          | false => exact absurd (Or.inr (Or.inr hd)) h2
        obtain ⟨hc, ht⟩ := propE_zero h1
        have T := trail_tr ht
        have hu := start_under hd
        have hi : 0 < hiN ts (lastT ts) (start ls q) := by omega
        obtain ⟨e1, e2, e3⟩ := road_end T ts.length (start ls q) hu (start_nodup _ _) hi hu (Nat.le_refl _)
        exact ⟨h1, hc, T, by omega, by omega, hd, by omega, hi, e1, e2, e3⟩
  · rw [if_pos h1] at h; exact absurd h h1
theorem firstL_rd {x : Int} {ls : List (List Int)} {ts : List Stp} {q : Int} (h : firstE x ls ts q = 0) : firstL x ls ts q = risL (highs ts (roadEnd ls ts q)) := by unfold firstL; rw [if_pos h]
theorem Rd.big {x : Int} {ls : List (List Int)} {ts : List Stp} {q : Int} (h : Rd x ls ts q) : x ≤ 65536 := (checkE_n h.chk).2
theorem mem_highs {ts : List Stp} {S : List Int} {y : Int} : y ∈ highs ts S ↔ y ∈ S ∧ 0 < lvlT ts y := by unfold highs; simp
theorem mem_firstL {x : Int} {ls : List (List Int)} {ts : List Stp} {q : Int} (h : firstE x ls ts q = 0) {y : Int} : y ∈ firstL x ls ts q ↔ y ∈ roadEnd ls ts q ∧ 0 < lvlT ts y := by
  rw [firstL_rd h, mem_risL, mem_highs]
theorem firstL_under {x : Int} {ls : List (List Int)} {ts : List Stp} {q : Int} (h : firstE x ls ts q = 0) : Under ts ts.length (firstL x ls ts q) := fun y hy => (rd_of h).under y ((mem_firstL h).1 hy).1
theorem firstL_asc {x : Int} {ls : List (List Int)} {ts : List Stp} {q : Int} (h : firstE x ls ts q = 0) : AscV (firstL x ls ts q) := by
  have R := rd_of h
  rw [firstL_rd h]
  refine asc_risL (R.nodup.sublist List.filter_sublist) (under_cons R.tr R.big (fun y hy => R.under y (mem_highs.1 hy).1))
theorem firstL_len {x : Int} {ls : List (List Int)} {ts : List Stp} {q : Int} (h : firstE x ls ts q = 0) : (firstL x ls ts q).length ≤ ts.length := under_len (firstL_under h) (asc_nodup (firstL_asc h))

/-- the clause of First is one that Less takes -/
theorem less_takes {x : Int} {ls : List (List Int)} {ts : List Stp} (hT : Tr x ls ts) (hx : x ≤ 65536) {l : List Int} (hn : l.Nodup) (hu : Under ts ts.length l) : lessOk x ts l = true := by
  have hC := under_cons hT hx hu
  unfold lessOk unlB unlTo
  rw [Bool.and_eq_true]
  refine ⟨List.all_eq_true.2 fun k hk => ?_, dead_under.2 hu⟩
  rw [List.mem_range] at hk
  have hm := elt_mem hk
  unfold unl
  simp only [Bool.and_eq_true, Bool.not_eq_true', hasB_false]
  refine ⟨?_, fun hy => ?_, fun hy => hC.2 _ hm (List.mem_of_mem_take hy)⟩
  · have h1 := (plc_lt (hu _ hm)).1
    have h2 := isB_iff.1 (hT.lit _ (hu _ hm))
    rw [h1] at h2
    exact isB_iff.2 ⟨by omega, by omega, by omega⟩
  · have h1 : (l.take (k + 1)).Nodup := hn.sublist (List.take_sublist _ _)
    rw [take_snoc l k hk, List.nodup_append] at h1
    exact h1.2.2 _ hy _ (by simp) rfl
theorem firstL_takes {x : Int} {ls : List (List Int)} {ts : List Stp} {q : Int} (h : firstE x ls ts q = 0) : lessE x ls ts (firstL x ls ts q) = 0 := by
  have R := rd_of h
  unfold lessE
  rw [if_neg (by simpa using R.prop), if_neg (by rw [less_takes R.tr R.big (asc_nodup (firstL_asc h)) (firstL_under h)]; decide)]

theorem levAt_nn (ts : List Stp) (k : Nat) : 0 ≤ levAt ts k := by unfold levAt; omega

section
variable {x : Int} {ls : List (List Int)} {ts : List Stp} {bs : List Bool}
/-- a clause of the trail's reasons holds -/
theorem reason_holds (h : Tr x ls ts) (ha : ls.all (holdsT bs) = true) {k : Nat} (hk : k < ts.length) (hw : 0 ≤ (stp ts k).why) : ∃ z ∈ ell ls (stp ts k).why.toNat, litT bs z = true := by
  have := (h.why k hk).2
  exact holdsT_iff.1 (List.all_eq_true.1 ha _ (ell_mem (by omega)))
theorem reason_okl (h : Tr x ls ts) (hc : checkE x ls = 0) {k : Nat} (hk : k < ts.length) (hw : 0 ≤ (stp ts k).why) : Okl (ell ls (stp ts k).why.toNat) := by
  have := (h.why k hk).2
  exact checkE_lits hc _ (ell_mem (by omega))
theorem low_true (h : Tr x ls ts) (hc : checkE x ls = 0) (ha : ls.all (holdsT bs) = true) : ∀ k, k < ts.length → levAt ts k = 0 → litT bs (stp ts k).lit = true := by
  intro k
  induction k using Nat.strongRecOn with
  | _ k ih =>
    intro hk hl
    have hw : 0 ≤ (stp ts k).why := by
      rcases Int.lt_or_le (stp ts k).why 0 with h0 | h0
      · have h1 := (h.why k hk).1
        have h2 := levAt_yes hk (show (stp ts k).why = -1 by omega)
        omega
      · exact h0
    obtain ⟨z, hz, ht⟩ := reason_holds h ha hk hw
    by_cases e : z = (stp ts k).lit
    · rw [← e]; exact ht
    · obtain ⟨j, hj, e2⟩ := (h.reason k hk hw).2 z hz e
      have h3 := levAt_mono (ts := ts) (j := j) (k := k) (by omega)
      have h4 := levAt_nn ts j
      have h5 := ih j hj (by omega) (by omega)
      rw [e2, litT_neg (reason_okl h hc hk hw z hz), ht] at h5
      exact absurd h5 (by decide)
theorem step_holds (h : Tr x ls ts) (hc : checkE x ls = 0) (ha : ls.all (holdsT bs) = true) {S : List Int} {z : Int} (hz : z ∈ S) (hC : Okl S) (hi : plc ts (-z) < ts.length) (hw : 0 ≤ (stp ts (plc ts (-z))).why) (hS : holdsT bs S = true) : holdsT bs (stepU ls ts S z) = true := by
  obtain ⟨y, hy, ht⟩ := holdsT_iff.1 hS
  rw [holdsT_iff]
  unfold stepU
  by_cases e : y = z
  · subst e
    obtain ⟨u, hu, htu⟩ := reason_holds h ha hi hw
    refine ⟨u, ?_, htu⟩
    rw [mem_moreL]
    refine Or.inr ⟨hu, fun e => ?_⟩
    rw [e, litT_neg (hC y hy), ht] at htu
    exact absurd htu (by decide)
  · exact ⟨y, by rw [mem_moreL, mem_without]; exact Or.inl ⟨hy, e⟩, ht⟩
theorem uip_holds (h : Tr x ls ts) (hc : checkE x ls = 0) (ha : ls.all (holdsT bs) = true) : ∀ (f : Nat) (S : List Int), Under ts ts.length S → S.Nodup → 0 < hiN ts (lastT ts) S → holdsT bs S = true → holdsT bs (uipL ls ts (lastT ts) f S) = true
  | 0, S, _, _, _, hS => hS
  | f + 1, S, hu, hn, hi, hS => by
    rw [uipL]
    split
    · exact hS
    · rename_i hc2
      rw [latT_count] at hc2
      obtain ⟨h2, h3, h4, h5, h6, h7⟩ := ref_step h hu hn (by omega)
      obtain ⟨h8, _, _⟩ := latT_max (show 0 < hiN ts (lastT ts) S by omega)
      exact uip_holds h hc ha f _ (h4.mono (by omega)) h5 h6 (step_holds h hc ha h8 (under_cons h (checkE_n hc).2 hu).1 h2 h3 hS)
theorem first_holds {q : Int} (hE : firstE x ls ts q = 0) (ha : ls.all (holdsT bs) = true) : holdsT bs (firstL x ls ts q) = true := by
  have R := rd_of hE
  have h0 : holdsT bs (start ls q) = true := by
    have hm : ell ls q.toNat ∈ ls := ell_mem (by have := R.q1; have := R.q0; omega)
    obtain ⟨z, hz, ht⟩ := holdsT_iff.1 (List.all_eq_true.1 ha _ hm)
    refine holdsT_iff.2 ⟨z, ?_, ht⟩
    unfold start
    rw [mem_moreL]
    exact Or.inr ⟨hz, (checkE_lits R.chk _ hm z hz).1⟩
  obtain ⟨y, hy, ht⟩ := holdsT_iff.1 (uip_holds R.tr R.chk ha ts.length _ (start_under R.dead) (start_nodup _ _) R.hi h0)
  refine holdsT_iff.2 ⟨y, (mem_firstL hE).2 ⟨hy, ?_⟩, ht⟩
  have hp := R.under y hy
  rw [lvlT_of hp]
  rcases Int.lt_or_le 0 (levAt ts (plc ts (-y))) with h1 | h1
  · exact h1
  · have h2 := levAt_nn ts (plc ts (-y))
    have h3 := low_true R.tr R.chk ha _ hp (by omega)
    rw [(plc_lt hp).1, litT_neg ((under_cons R.tr R.big R.under).1 y hy), ht] at h3
    exact absurd h3 (by decide)

theorem red_true (h : Tr x ls ts) (hc : checkE x ls = 0) (ha : ls.all (holdsT bs) = true) (l : List Int) : ∀ k, k < ts.length → redB ls ts l k = true → litT bs (stp ts k).lit = false → ∃ z ∈ l, litT bs z = true ∧ plc ts (-z) < k := by
  intro k
  induction k using Nat.strongRecOn with
  | _ k ih =>
    intro hk hr hf
    rw [redB_eq h l hk, Bool.or_eq_true, Bool.and_eq_true] at hr
    rcases hr with hr | ⟨hw, hr⟩
    · have := low_true h hc ha k hk (of_decide_eq_true hr)
      rw [hf] at this; exact absurd this (by decide)
    · have hw := of_decide_eq_true hw
      obtain ⟨z, hz, ht⟩ := reason_holds h ha hk hw
      have hne : z ≠ (stp ts k).lit := fun e => by rw [e, hf] at ht; exact absurd ht (by decide)
      obtain ⟨j, hj, e2⟩ := (h.reason k hk hw).2 z hz hne
      have hp := h.plc (k := j) (by omega)
      have h1 := List.all_eq_true.1 hr z hz
      rw [Bool.or_eq_true, Bool.or_eq_true] at h1
      rcases h1 with h1 | h1 | h1
      · exact absurd (by simpa using h1) hne
      · exact ⟨z, hasB_iff.1 h1, ht, by rw [← e2, hp]; exact hj⟩
      · rw [← e2, hp] at h1
        obtain ⟨u, hu, htu, hlt⟩ := ih j hj (by omega) h1 (by rw [e2, litT_neg (reason_okl h hc hk hw z hz), ht]; rfl)
        exact ⟨u, hu, htu, by omega⟩
theorem less_holds (h : Tr x ls ts) (hc : checkE x ls = 0) (ha : ls.all (holdsT bs) = true) {l : List Int} (hu : Under ts ts.length l) : ∀ (k : Nat) (y : Int), plc ts (-y) = k → y ∈ l → litT bs y = true → holdsT bs (lessL ls ts l) = true := by
  intro k
  induction k using Nat.strongRecOn with
  | _ k ih =>
    intro y hk hy ht
    cases hb : keepB ls ts l y with
    | true =>
      refine holdsT_iff.2 ⟨y, ?_, ht⟩
      unfold lessL
      rw [mem_risL, List.mem_filter]
      exact ⟨hy, hb⟩
    | false =>
      unfold keepB at hb
      rw [Bool.or_eq_false_iff] at hb
      have hr : redB ls ts l (plc ts (-y)) = true := by simpa using hb.2
      have hp := hu y hy
      obtain ⟨z, hz, htz, hlt⟩ := red_true h hc ha l _ hp hr (by rw [(plc_lt hp).1, litT_neg ((under_cons h (checkE_n hc).2 hu).1 y hy), ht]; rfl)
      exact ih _ (by omega) z rfl hz htz
theorem both_hold {q : Int} (hE : firstE x ls ts q = 0) (ha : ls.all (holdsT bs) = true) : holdsT bs (lessR x ls ts (firstL x ls ts q)) = true := by
  have R := rd_of hE
  unfold lessR
  rw [if_pos (firstL_takes hE)]
  obtain ⟨y, hy, ht⟩ := holdsT_iff.1 (first_holds hE ha)
  exact less_holds R.tr R.chk ha (firstL_under hE) _ y rfl hy ht
end

end Go.Proofs.Ytenpenelikpeeaa

namespace Go.Proofs.Ytenpenelikpeeaa
set_option linter.unusedVariables false
set_option linter.unusedSimpArgs false

/-- the greatest level but one -/
def mostT (ts : List Stp) (n : Int) (l : List Int) : Int := l.foldl (fun m y => if lvlT ts y = n then m else max m (lvlT ts y)) 0
theorem mostT_snoc (ts : List Stp) (n : Int) (l : List Int) (y : Int) : mostT ts n (l ++ [y]) = if lvlT ts y = n then mostT ts n l else max (mostT ts n l) (lvlT ts y) := by unfold mostT; rw [List.foldl_append]; rfl
theorem mostT_spec (ts : List Stp) (n : Int) (l : List Int) : 0 ≤ mostT ts n l ∧ (∀ y ∈ l, lvlT ts y ≠ n → lvlT ts y ≤ mostT ts n l) ∧ (mostT ts n l = 0 ∨ ∃ y ∈ l, lvlT ts y ≠ n ∧ lvlT ts y = mostT ts n l) := by
  induction l using snoc_ind with
  | h0 => exact ⟨Int.le_refl _, fun y hy => (by cases hy), Or.inl rfl⟩
  | h1 l y ih =>
    obtain ⟨h1, h2, h3⟩ := ih
    rw [mostT_snoc]
    by_cases e : lvlT ts y = n
    · rw [if_pos e]
      refine ⟨h1, fun z hz hne => ?_, h3.imp id fun ⟨z, hz, h⟩ => ⟨z, by simp [hz], h⟩⟩
      rcases List.mem_append.1 hz with hz | hz
      · exact h2 z hz hne
      · rw [List.mem_singleton.1 hz] at hne; exact absurd e hne
    · rw [if_neg e]
      refine ⟨by omega, fun z hz hne => ?_, ?_⟩
      · rcases List.mem_append.1 hz with hz | hz
        · have := h2 z hz hne; omega
        · rw [List.mem_singleton.1 hz]; omega
      · by_cases hc : mostT ts n l ≤ lvlT ts y
        · exact Or.inr ⟨y, by simp, e, by omega⟩
        · rcases h3 with h3 | ⟨z, hz, h4, h5⟩
          · exact Or.inl (by omega)
          · exact Or.inr ⟨z, by simp [hz], h4, by omega⟩
theorem backL_spec (ts : List Stp) (x : Int) (l : List Int) : 0 ≤ backL ts x l ∧ (∀ y ∈ l, y ≠ x → lvlT ts y ≤ backL ts x l) ∧ (backL ts x l = 0 ∨ ∃ y ∈ l, y ≠ x ∧ lvlT ts y = backL ts x l) := by
  induction l using snoc_ind with
  | h0 => exact ⟨Int.le_refl _, fun y hy => (by cases hy), Or.inl rfl⟩
  | h1 l y ih =>
    obtain ⟨h1, h2, h3⟩ := ih
    unfold backL at *
    rw [backG_snoc]
    by_cases e : y = x
    · rw [if_pos e]
      refine ⟨h1, fun z hz hne => ?_, h3.imp id fun ⟨z, hz, h⟩ => ⟨z, by simp [hz], h⟩⟩
      rcases List.mem_append.1 hz with hz | hz
      · exact h2 z hz hne
      · rw [List.mem_singleton.1 hz] at hne; exact absurd e hne
    · rw [if_neg e]
      refine ⟨by omega, fun z hz hne => ?_, ?_⟩
      · rcases List.mem_append.1 hz with hz | hz
        · have := h2 z hz hne; omega
        · rw [List.mem_singleton.1 hz]; omega
      · by_cases hc : backG ts x 0 l ≤ lvlT ts y
        · exact Or.inr ⟨y, by simp, e, by omega⟩
        · rcases h3 with h3 | ⟨z, hz, h4, h5⟩
          · exact Or.inl (by omega)
          · exact Or.inr ⟨z, by simp [hz], h4, by omega⟩
theorem hi_cons (ts : List Stp) (n : Int) (y : Int) (l : List Int) : hiN ts n (y :: l) = hiN ts n l + (if lvlT ts y = n then 1 else 0) := by
  unfold hiN; rw [List.filter_cons]
  by_cases h : lvlT ts y = n <;> simp [h]
theorem hi_insV (ts : List Stp) (n : Int) (x : Int) : ∀ l : List Int, hiN ts n (insV x l) = hiN ts n l + (if lvlT ts x = n then 1 else 0)
  | [] => by rw [insV, hi_cons]
  | y :: l => by
    rw [insV]
    split
    · rw [hi_cons, hi_cons, hi_insV ts n x l]; omega
    · rw [hi_cons]
theorem hi_risL (ts : List Stp) (n : Int) (l : List Int) : hiN ts n (risL l) = hiN ts n l := by
  induction l using snoc_ind with
  | h0 => rfl
  | h1 l y ih => rw [risL_snoc, hi_insV, ih, hiN_snoc]
theorem hi_highs (ts : List Stp) {n : Int} (hn : 0 < n) (l : List Int) : hiN ts n (highs ts l) = hiN ts n l := by
  unfold hiN highs
  rw [List.filter_filter]
  congr 1
  refine List.filter_congr fun y _ => ?_
  by_cases h : lvlT ts y = n
  · simp [h, hn]
  · simp [h]
theorem hi_le (ts : List Stp) (n : Int) (l : List Int) : hiN ts n l ≤ l.length := List.length_filter_le _ _

theorem asserting {x : Int} {ls : List (List Int)} {ts : List Stp} {q : Int} (h : firstE x ls ts q = 0) :
    hiN ts (lastT ts) (firstL x ls ts q) = 1 ∧ mostT ts (lastT ts) (firstL x ls ts q) = firstB x ls ts q ∧ firstB x ls ts q < lastT ts ∧ 0 < ts.length ∧ ∀ y ∈ firstL x ls ts q, 0 < lvlT ts y := by
  have R := rd_of h
  have hL : 0 < lastT ts := by have := R.last; unfold lastT at this ⊢; omega
  have hb : firstB x ls ts q = backL ts (firstX ls ts q) (roadEnd ls ts q) := by unfold firstB; rw [if_pos h]
  have hone : hiN ts (lastT ts) (firstL x ls ts q) = 1 := by rw [firstL_rd h, hi_risL, hi_highs ts hL, R.one]
  obtain ⟨x1, x2, -⟩ := latT_max (show 0 < hiN ts (lastT ts) (roadEnd ls ts q) by rw [R.one]; omega)
  have hX : firstX ls ts q ∈ roadEnd ls ts q ∧ lvlT ts (firstX ls ts q) = lastT ts := ⟨x1, x2⟩
  have huniq : ∀ y ∈ roadEnd ls ts q, (y ≠ firstX ls ts q ↔ lvlT ts y ≠ lastT ts) := fun y hy => by
    constructor
    · intro hne he
      have h1 := without_hi (ts := ts) R.nodup hX.1 hX.2
      rw [R.one] at h1
      have h2 : 0 < hiN ts (lastT ts) (without (roadEnd ls ts q) (firstX ls ts q)) := hiN_pos.2 ⟨y, mem_without.2 ⟨hy, hne⟩, he⟩
      omega
    · intro hne he
      rw [he] at hne; exact hne hX.2
  obtain ⟨m1, m2, m3⟩ := mostT_spec ts (lastT ts) (firstL x ls ts q)
  obtain ⟨b1, b2, b3⟩ := backL_spec ts (firstX ls ts q) (roadEnd ls ts q)
  rw [← hb] at b1 b2 b3
  have hlt : firstB x ls ts q < lastT ts := by
    rcases b3 with b3 | ⟨y, hy, h1, h2⟩
    · omega
    · have h3 := lvl_le (R.under y hy)
      have h4 := (huniq y hy).1 h1
      omega
  refine ⟨hone, ?_, hlt, ?_, fun y hy => ((mem_firstL h).1 hy).2⟩
  · have h1 : mostT ts (lastT ts) (firstL x ls ts q) ≤ firstB x ls ts q := by
      rcases m3 with m3 | ⟨y, hy, h1, h2⟩
      · omega
      · have hy' := ((mem_firstL h).1 hy).1
        have := b2 y hy' ((huniq y hy').2 h1)
        omega
    have h2 : firstB x ls ts q ≤ mostT ts (lastT ts) (firstL x ls ts q) := by
      rcases b3 with b3 | ⟨y, hy, h1, h2⟩
      · omega
      · by_cases h3 : 0 < lvlT ts y
        · have := m2 y ((mem_firstL h).2 ⟨hy, h3⟩) ((huniq y hy).1 h1)
          omega
        · omega
    omega
  · have := cntD_le ts
    unfold lastT at hL
    omega

theorem asc_at {l : List Int} (h : AscV l) {j k : Nat} (hjk : j < k) (hk : k < l.length) : absI (elt l j) < absI (elt l k) := by
  rw [elt_lt (show j < l.length by omega), elt_lt hk]
  exact List.pairwise_iff_getElem.1 h j k (by omega) hk hjk

end Go.Proofs.Ytenpenelikpeeaa
