/-
  The last step of a row where the call leaves a world of which 'Below' alone is known. No condition.
  Arguments opened: a slice of ints, a slice of such, a slice of learnt clauses, a slice of bools, a formula. No condition.
  Decisions played one after the other, and the RUP property. No program in sight. No condition.
  Operations on slices of steps, and calls, for regions by facts. No condition.
-/
import Derived.Below
import Derived.ChangeSame
import Derived.ProofKit
import Derived.Test.YtenpenelikpeeaaZC23
import Derived.Deep.Grids
import Derived.OpenShut
import Derived.SizedLaws
import Derived.Lib.SmallJoins
import Derived.Deep.Slices
import Derived.Deep.Fields
import Derived.Deep.Strs
import Derived.Test.YtenpenelikpeeaaZC25
import Derived.Test.YtenpenelikpeeaaZC18

namespace Go.Proofs.Ytenpenelikpeeaa
open Go.RowKit Go.WideShapes Go.ChangeShapes
set_option linter.unusedSimpArgs false
section
variable {H : Type} {enc : TypeId × Value → H} {P : Program}
theorem post_of_below {f : Func} {s : ChangeSpec} {apart fresh handsOn again : Bool} {W W' : World} {args : Array Value} {v : Value} {ds gs : List (DataW H)} {before pa pv : List MemPlace}
    (hW : DataW.Whole enc P f.params.toList s.vars apart W args.toList ds gs before)
    (hres : ∀ (b : Nat) (sp : Nat → Bool) (hd : Bool), DataW.TrodAll enc P W' b sp hd f.resultTypes.toList (v.resultList f.resultTypes.size) (s.fn H (ds ++ gs)).results [])
    (hargs : ∀ sp : Nat → Bool, (∀ p ∈ before, sp p.block = true) → DataW.TrodAll enc P W' 0 sp true f.params.toList args.toList (s.fn H (ds ++ gs)).args pa)
    (hvars : ∀ sp : Nat → Bool, (∀ p ∈ before, sp p.block = true) → DataW.TrodVars enc P W' sp s.vars (s.fn H (ds ++ gs)).vars pv)
    (hps : before = pa ++ pv) (hb : Below W.heap.size W W')
    (hok : ∀ (j : Nat) (t : TypeId) (r : Value), f.resultTypes[j]? = some t → (v.resultList f.resultTypes.size)[j]? = some r → Value.okWide P W' .any 0 t r) :
    s.post enc P f apart fresh handsOn again W args v W' := by
  have hlt : ∀ p ∈ before, p.block < W.heap.size := fun p hp => hW.lt p hp
  have hold : ∀ p ∈ before, (fun b => decide (b < W.heap.size)) p.block = true := fun p hp => by simpa using hlt p hp
  refine ⟨ds, gs, before, [], pa, pv, hW, hres _ _ _, hargs _ hold, hvars _ hold, World.keptBut_mono (fun p hp => ⟨hp, ?_⟩) (hb.frame (· ∈ before)), fun _ => ?_⟩
  · rw [hps, List.mem_append] at hp
    exact Or.inr hp
  · obtain ⟨_, _, _, _, _, hz, hn⟩ := hW
    refine ⟨hok, _, _, ([] ++ pa) ++ pv, ⟨[] ++ pa, pv, trodAll_append (hargs _ (fun _ _ => rfl)) (hres _ _ _), hvars _ (fun _ _ => rfl), rfl, ?_, ?_⟩, ?_⟩
    · intro b off hp
      have hin : MemPlace.cell b off ∈ before := by rw [hps]; simpa using hp
      rw [hb.frozen (hlt _ hin)]
      exact hz b off hin
    · intro ha
      have := hn ha
      rw [hps] at this
      simpa using this
    · intro p hp _
      rw [hps]
      simpa using hp
end

end Go.Proofs.Ytenpenelikpeeaa

namespace Go.Proofs.Ytenpenelikpeeaa
open Go.ChangeShapes Go.WideShapes Go.ChangeAt Go.RowKit Go.Joins Go.Deep
set_option linter.unusedVariables false
set_option linter.unusedSimpArgs false

theorem laidOut : laidOutB Try.prog = true := by kernel_rfl
theorem own : ownKnob Try.prog.godebug = none := by kernel_rfl
theorem cells3 : Try.prog.cellsOf 3 = 1 := by kernel_rfl
theorem cells28 : Try.prog.cellsOf 28 = 1 := by kernel_rfl
theorem cells41 : Try.prog.cellsOf 41 = 2 := by kernel_rfl
theorem cells24 : Try.prog.cellsOf 24 = 2 := by kernel_rfl
theorem bytes3 : Try.prog.bytesOf 3 = 8 := by kernel_rfl
theorem bytes28 : Try.prog.bytesOf 28 = 24 := by kernel_rfl
theorem bytes41 : Try.prog.bytesOf 41 = 16 := by kernel_rfl

/-- the reading fits the form's own reach -/
def Fits {H : Type} (t : TypeId) (d : DataW H) : Prop := ∀ n ∈ d.weights Try.prog t, n ≤ reachBytes
theorem reach_lt : reachBytes ≤ 140737488355328 := by decide
theorem fits_of {H : Type} {ts : List TypeId} {ds : List (DataW H)} (h : (DataW.weightsEach Try.prog ts ds).all (· ≤ reachBytes) = true) {j : Nat} {t : TypeId} {d : DataW H} (ht : ts[j]? = some t) (hd : ds[j]? = some d) : Fits t d := fun n hn =>
  of_decide_eq_true (List.all_eq_true.1 h n (DataW.weights_mem_each ht hd n hn))
theorem weightsAll_mem {H : Type} {P : Program} {e : TypeId} {d : DataW H} : ∀ {l : List (DataW H)}, d ∈ l → ∀ n ∈ d.weights P e, n ∈ DataW.weightsAll P e l
  | x :: l, hd, n, hn => by
    simp only [DataW.weightsAll, List.mem_append]
    rcases List.mem_cons.1 hd with rfl | h
    · exact Or.inl hn
    · exact Or.inr (weightsAll_mem h n hn)
theorem Fits.elem {H : Type} {t e : TypeId} {elems spare : List (DataW H)} (h : Fits t (.slice elems spare)) (hu : Try.prog.underlying t = some (.slice e)) {d : DataW H} (hd : d ∈ elems) : Fits e d := fun n hn => by
  refine h n ?_
  simp only [DataW.weights, hu, List.mem_cons, List.mem_append]
  exact Or.inr (Or.inl (weightsAll_mem hd n hn))
theorem Fits.len {H : Type} {t e : TypeId} {elems spare : List (DataW H)} (h : Fits t (.slice elems spare)) (hu : Try.prog.underlying t = some (.slice e)) : elems.length * Try.prog.bytesOf e ≤ 140737488355328 := by
  have := h ((elems.length + spare.length) * Try.prog.bytesOf e) (by simp [DataW.weights, hu])
  have h2 : elems.length * Try.prog.bytesOf e ≤ (elems.length + spare.length) * Try.prog.bytesOf e := Nat.mul_le_mul_right _ (by omega)
  exact Nat.le_trans h2 (Nat.le_trans this reach_lt)

theorem list_make {α : Type} [Inhabited α] {P : Nat → α → Prop} : ∀ n, (∀ j, j < n → ∃ x, P j x) → ∃ l : List α, l.length = n ∧ ∀ j, j < n → P j (l.getD j default)
  | 0, _ => ⟨[], rfl, fun j h => by omega⟩
  | n + 1, h => by
    obtain ⟨l, hl, hp⟩ := list_make n (fun j hj => h j (by omega))
    obtain ⟨x, hx⟩ := h n (by omega)
    refine ⟨l ++ [x], by simp [hl], fun j hj => ?_⟩
    rcases Nat.lt_or_ge j n with hlt | hge
    · have := hp j hlt
      rwa [List.getD_eq_getElem?_getD, List.getElem?_append_left (by omega), ← List.getD_eq_getElem?_getD]
    · have : j = n := by omega
      subst this
      rw [List.getD_eq_getElem?_getD, List.getElem?_append_right (by omega)]
      simpa [hl] using hx

section
variable {H : Type} {enc : TypeId × Value → H} {W : World} {base : Nat} {sp : Nat → Bool} {held : Bool}
theorem cell_block {W : World} {b o : Nat} {v : Value} (h : W.cell? ⟨b, o, none⟩ = some v) : b < W.heap.size := by
  rcases Nat.lt_or_ge b W.heap.size with hlt | hge
  · exact hlt
  · simp [World.cell?, Array.getElem?_eq_none hge] at h

theorem open_ri {fuel : Nat} {cs : List Value} {x : DataW H × List MemPlace} (h : DataW.trod enc Try.prog W base sp held fuel 28 cs = some x) (hz : Fits 28 x.1) :
    ∃ A n c zs, cs = [.slice A n c] ∧ RI W A n c zs ∧ ∀ z ∈ zs, (Lit.int .i64 z).wf = true := by
  rcases open_ints Try.underlying28 Try.underlying3 cells3 h with ⟨hcs, _⟩ | ⟨a, len, cap, zs, hcs, _, hl, hm, hzl, rfl, hcell, hwz⟩
  · exact ⟨none, 0, 0, [], hcs, RI.nil _ _ _ (Nat.zero_le _), fun z hz => by cases hz⟩
  · have hlz : len ≤ zs.length := by rw [hzl]; split <;> omega
    have hb := hz.len Try.underlying28
    rw [bytes3] at hb
    have hln : (lits (H := H) .i64 (zs.take len)).length = len := by simp [lits]; omega
    rw [hln] at hb
    refine ⟨some a, len, cap, zs.take len, hcs, ⟨by simp; omega, hl, hb, hm, fun hn => ?_⟩, fun z hz => hwz z (List.mem_of_mem_take hz)⟩
    obtain ⟨b, off, rfl, hc⟩ := ints_at hcell (by omega)
    refine ⟨b, off, rfl, cell_block (hc 0 (by omega)), fun j hj => ?_⟩
    rw [hc j (by omega)]
    simp [elt, List.getD_eq_getElem?_getD, hj]

theorem open_rl {fuel : Nat} {cs : List Value} {x : DataW H × List MemPlace} (h : DataW.trod enc Try.prog W base sp held fuel 22 cs = some x) (hz : Fits 22 x.1) :
    ∃ A n c ls, cs = [.slice A n c] ∧ RL W A n c ls ∧ ∀ l ∈ ls, ∀ z ∈ l, (Lit.int .i64 z).wf = true := by
  rcases Deep.open_slice Try.underlying22 h with ⟨hcs, _⟩ | ⟨a, len, cap, m, n, D, Pl, hcs, _, hl, hcm, hm, rfl, hi⟩
  · exact ⟨none, 0, 0, [], hcs, RL.nil _ _ _ (Nat.zero_le _), fun z hz => by cases hz⟩
  · have hlm : len ≤ m := by rw [hm]; split <;> omega
    have hb := hz.len Try.underlying22
    rw [bytes28] at hb
    rw [List.length_map, List.length_range] at hb
    have each : ∀ i, i < len → ∃ zs : List Int, (∃ A' n' c', W.cell? (a.add i) = some (.slice A' n' c') ∧ RI W A' n' c' zs) ∧ ∀ z ∈ zs, (Lit.int .i64 z).wf = true := by
      intro i hil
      obtain ⟨cs', h1, h2⟩ := hi i (by omega)
      rw [cells28] at h1
      obtain ⟨_, hcl, hat⟩ := World.cells?_some h1
      obtain ⟨A', n', c', zs, rfl, hr, hw⟩ := open_ri h2 (hz.elem Try.underlying22 (List.mem_map.2 ⟨i, List.mem_range.2 hil, rfl⟩))
      refine ⟨zs, ⟨A', n', c', ?_, hr⟩, hw⟩
      have := hat 0 (by omega)
      simpa [Addr.add] using this
    obtain ⟨ls, hls, hp⟩ := list_make len each
    refine ⟨some a, len, cap, ls, hcs, ⟨hls, hl, hb, hcm, fun hn => ?_⟩, fun l hlm => ?_⟩
    · obtain ⟨A0, n0, c0, hc0, _⟩ := (hp 0 hn).1
      obtain ⟨b, off, spot⟩ := a
      have hspot : spot = none := by simpa [Addr.add] using World.cell?_spot hc0
      subst hspot
      refine ⟨b, off, rfl, cell_block (o := off + 0) (by rw [← Go.WideShapes.add_plain]; exact hc0), fun j hj => ?_⟩
      obtain ⟨A', n', c', h1, h2⟩ := (hp j hj).1
      exact ⟨A', n', c', by rw [← Go.WideShapes.add_plain]; exact h1, h2⟩
    · obtain ⟨j, hj, e⟩ := List.mem_iff_getElem.1 hlm
      have := (hp j (by omega)).2
      rw [List.getD_eq_getElem?_getD, List.getElem?_eq_getElem hj] at this
      simp only [Option.getD_some] at this
      rw [e] at this
      exact this

set_option maxRecDepth 100000 in
theorem open_cnf {r : Reach} {b0 : Nat} {v : Value} {d : DataW H} {p : List MemPlace} (hv : Value.okWide Try.prog W r b0 24 v) (h : DataW.Trod enc Try.prog W base sp held 24 v d p) (hz : Fits 24 d) :
    ∃ x A n c ls, v = .agg #[.int .i64 x, .slice A n c] ∧ RL W A n c ls ∧ (∀ l ∈ ls, ∀ z ∈ l, (Lit.int .i64 z).wf = true) ∧ (Lit.int .i64 x).wf = true := by
  obtain ⟨v0, v1, y0, y1, m, rfl, rfl, rfl, h0, h1⟩ := open_agg2 Try.underlying24 (by kernel_rfl) cells24 hv h
  obtain ⟨x, e, _, wx⟩ := DataW.trod_int Try.underlying3 h0
  have hz1 : Fits 22 y1.1 := fun n hn => hz n (by
    simp only [DataW.weights, Try.underlying24]
    simp [DataW.weightsEach, hn])
  obtain ⟨A, n, c, ls, e1, hr, hw⟩ := open_rl h1 hz1
  simp only [List.cons.injEq, and_true] at e e1
  subst e e1
  exact ⟨x, A, n, c, ls, rfl, hr, hw, wx⟩
theorem cnf_stays {W' : World} {v : Value} {d : DataW H} {p : List MemPlace} (h : DataW.Trod enc Try.prog W 0 (fun _ => true) true 24 v d p) (hb : Below W.heap.size W W') (hlt : ∀ x ∈ p, x.block < W.heap.size) {sp' : Nat → Bool} (hs : ∀ x ∈ p, sp' x.block = true) :
    DataW.Trod enc Try.prog W' 0 sp' true 24 v d p :=
  WideElems.Trod_stays laidOut (by kernel_rfl) (of_decide_eq_true (by kernel_rfl)) h (fun x hx => hb.same (hlt x hx)) hs
theorem steps_stays {W' : World} {v : Value} {d : DataW H} {p : List MemPlace} (h : DataW.Trod enc Try.prog W 0 (fun _ => true) true 25 v d p) (hb : Below W.heap.size W W') (hlt : ∀ x ∈ p, x.block < W.heap.size) {sp' : Nat → Bool} (hs : ∀ x ∈ p, sp' x.block = true) :
    DataW.Trod enc Try.prog W' 0 sp' true 25 v d p :=
  WideElems.Trod_stays laidOut (by kernel_rfl) (of_decide_eq_true (by kernel_rfl)) h (fun x hx => hb.same (hlt x hx)) hs
theorem bools_stays {W' : World} {v : Value} {d : DataW H} {p : List MemPlace} (h : DataW.Trod enc Try.prog W 0 (fun _ => true) true 43 v d p) (hb : Below W.heap.size W W') (hlt : ∀ x ∈ p, x.block < W.heap.size) {sp' : Nat → Bool} (hs : ∀ x ∈ p, sp' x.block = true) :
    DataW.Trod enc Try.prog W' 0 sp' true 43 v d p :=
  WideElems.Trod_stays laidOut (by kernel_rfl) (of_decide_eq_true (by kernel_rfl)) h (fun x hx => hb.same (hlt x hx)) hs
theorem ints_stays {W' : World} {v : Value} {d : DataW H} {p : List MemPlace} (h : DataW.Trod enc Try.prog W 0 (fun _ => true) true 28 v d p) (hb : Below W.heap.size W W') (hlt : ∀ x ∈ p, x.block < W.heap.size) {sp' : Nat → Bool} (hs : ∀ x ∈ p, sp' x.block = true) :
    DataW.Trod enc Try.prog W' 0 sp' true 28 v d p :=
  WideElems.Trod_stays laidOut (by kernel_rfl) (of_decide_eq_true (by kernel_rfl)) h (fun x hx => hb.same (hlt x hx)) hs

theorem one_drop {cs : List Value} {k : Nat} (h : k < cs.length) : (cs.drop k).take 1 = [cs[k]] := by
  rw [List.drop_eq_getElem_cons h]; rfl

set_option maxRecDepth 100000 in
theorem open_rs {r : Reach} {b0 : Nat} {v : Value} {d : DataW H} {p : List MemPlace} (hv : Value.okWide Try.prog W r b0 25 v) (h : DataW.Trod enc Try.prog W base sp held 25 v d p) (hz : Fits 25 d) :
    ∃ A n c ts, v = .slice A n c ∧ RS W A n c ts := by
  obtain ⟨A, n, c, rfl⟩ := okWide_slice Try.underlying25 hv
  obtain ⟨fuel, h⟩ := h
  rcases Deep.open_slice Try.underlying25 h with ⟨hcs, _⟩ | ⟨a, len, cap, m, q, D, Pl, hcs, _, hl, hcm, hm, hx, hi⟩
  · simp only [Value.cells, List.cons.injEq, and_true, Value.slice.injEq] at hcs
    obtain ⟨rfl, rfl, rfl⟩ : A = none ∧ n = 0 ∧ c = 0 := by simpa using hcs
    exact ⟨none, 0, 0, [], rfl, RS.nil _ _ _ (Nat.zero_le _)⟩
  · obtain ⟨rfl, rfl, rfl⟩ : A = some a ∧ n = len ∧ c = cap := by simpa [Value.cells] using hcs
    simp only [Prod.mk.injEq] at hx
    obtain ⟨rfl, rfl⟩ := hx
    have hlm : n ≤ m := by rw [hm]; split <;> omega
    have hb := hz.len Try.underlying25
    rw [bytes41] at hb
    rw [List.length_map, List.length_range] at hb
    have each : ∀ i, i < n → ∃ e : Stp, W.cell? (a.add (i * 2)) = some (.int .i64 e.lit) ∧ W.cell? (a.add (i * 2 + 1)) = some (.int .i64 e.why) := by
      intro i hil
      obtain ⟨cs', h1, h2⟩ := hi i (by omega)
      rw [cells41] at h1
      obtain ⟨_, hcl, hat⟩ := World.cells?_some h1
      obtain ⟨y0, y1, k, hy, _, t0, t1⟩ := trod_struct2 Try.underlying41 h2
      dsimp only at t0 t1
      rw [cells3, one_drop (by omega)] at t0 t1
      obtain ⟨lv, e1, _, _⟩ := DataW.trod_int Try.underlying3 t0
      obtain ⟨act, e2, _, _⟩ := DataW.trod_int Try.underlying3 t1
      simp only [List.cons.injEq, and_true] at e1 e2
      have a0 := hat 0 (by omega)
      have a1 := hat 1 (by omega)
      rw [List.getElem?_eq_getElem (by omega)] at a0 a1
      rw [e1, Go.Deep.add_add] at a0
      rw [e2, Go.Deep.add_add] at a1
      exact ⟨⟨lv, act⟩, a0, a1⟩
    obtain ⟨es, hes, hp⟩ := list_make n each
    refine ⟨some a, n, c, es, rfl, ⟨hes, hl, hb, hcm, fun hn => ?_⟩⟩
    have hc0 := (hp 0 hn).1
    obtain ⟨b, off, spot⟩ := a
    have hspot : spot = none := by simpa [Addr.add] using World.cell?_spot hc0
    subst hspot
    refine ⟨b, off, rfl, cell_block (o := off + 0 * 2) (by rw [← Go.WideShapes.add_plain]; exact hc0), fun j hj => ?_⟩
    obtain ⟨h1, h2⟩ := hp j hj
    refine ⟨by rw [← Go.WideShapes.add_plain]; exact h1, ?_⟩
    rw [Nat.add_assoc, ← Go.WideShapes.add_plain]; exact h2

set_option maxRecDepth 100000 in
theorem open_arg {r : Reach} {b0 : Nat} {v : Value} {d : DataW H} {p : List MemPlace} (hv : Value.okWide Try.prog W r b0 28 v) (h : DataW.Trod enc Try.prog W base sp held 28 v d p) (hz : Fits 28 d) :
    ∃ A n c zs, v = .slice A n c ∧ RI W A n c zs ∧ ∀ z ∈ zs, (Lit.int .i64 z).wf = true := by
  obtain ⟨A, n, c, rfl⟩ := okWide_slice Try.underlying28 hv
  obtain ⟨fuel, h⟩ := h
  obtain ⟨A', n', c', zs, hcs, hr, hw⟩ := open_ri h hz
  obtain ⟨rfl, rfl, rfl⟩ : A = A' ∧ n = n' ∧ c = c' := by simpa [Value.cells] using hcs
  exact ⟨A, n, c, zs, rfl, hr, hw⟩
theorem cells4 : Try.prog.cellsOf 4 = 1 := by kernel_rfl
theorem bytes4 : Try.prog.bytesOf 4 = 1 := by kernel_rfl
set_option maxRecDepth 100000 in
theorem open_rb {r : Reach} {b0 : Nat} {v : Value} {d : DataW H} {p : List MemPlace} (hv : Value.okWide Try.prog W r b0 43 v) (h : DataW.Trod enc Try.prog W base (fun _ => true) held 43 v d p) (hz : Fits 43 d) :
    ∃ A n c bs, v = .slice A n c ∧ RB W A n c bs := by
  obtain ⟨A, n, c, rfl⟩ := okWide_slice Try.underlying43 hv
  obtain ⟨fuel, h⟩ := h
  rcases Deep.open_bools Try.underlying43 Try.underlying4 cells4 h with ⟨hcs, _⟩ | ⟨a, len, cap, B, hcs, _, hl, hm, hx, hcell⟩
  · obtain ⟨rfl, rfl, rfl⟩ : A = none ∧ n = 0 ∧ c = 0 := by simpa [Value.cells] using hcs
    exact ⟨none, 0, 0, [], rfl, RB.nil _ _ _ (Nat.zero_le _)⟩
  · obtain ⟨rfl, rfl, rfl⟩ : A = some a ∧ n = len ∧ c = cap := by simpa [Value.cells] using hcs
    simp only [Prod.mk.injEq] at hx
    obtain ⟨rfl, rfl⟩ := hx
    have hb := hz.len Try.underlying43
    rw [bytes4] at hb
    have hb2 : n ≤ 140737488355328 := by simpa using hb
    refine ⟨some a, n, c, (List.range n).map B, rfl, ⟨by simp, hl, hb2, hm, fun hn => ?_⟩⟩
    obtain ⟨b, off, spot⟩ := a
    have h0 := hcell 0 (by omega)
    have hspot : spot = none := by simpa [Addr.add] using World.cell?_spot h0
    subst hspot
    refine ⟨b, off, rfl, cell_block (o := off + 0) (by rw [← Go.WideShapes.add_plain]; exact h0), fun j hj => ?_⟩
    have := hcell j (by omega)
    rw [Go.WideShapes.add_plain] at this
    rw [this]
    simp [List.getD_eq_getElem?_getD, hj]
end

end Go.Proofs.Ytenpenelikpeeaa

namespace Go.Proofs.Ytenpenelikpeeaa
set_option linter.unusedVariables false
set_option linter.unusedSimpArgs false

/-- the steps that propagation adds have reasons -/
def MoreW (a b : List Stp) : Prop := ∃ more, b = a ++ more ∧ ∀ s ∈ more, 0 ≤ s.why
theorem MoreW.refl (a : List Stp) : MoreW a a := ⟨[], by simp, fun s hs => by cases hs⟩
theorem MoreW.trans {a b c : List Stp} (h : MoreW a b) (h' : MoreW b c) : MoreW a c := by
  obtain ⟨m, rfl, h1⟩ := h
  obtain ⟨m2, rfl, h2⟩ := h'
  refine ⟨m ++ m2, by rw [List.append_assoc], fun s hs => ?_⟩
  rcases List.mem_append.1 hs with h | h
  · exact h1 s h
  · exact h2 s h
theorem vis_more (ls : List (List Int)) (i : Nat) (s : PS) : MoreW s.ts (visT ls i s).2.ts := by
  unfold visT
  split
  · exact .refl _
  · split
    · exact .refl _
    · exact ⟨_, rfl, fun s hs => by rw [List.mem_singleton.1 hs]; exact Int.natCast_nonneg _⟩
    · exact .refl _
theorem pass_more (ls : List (List Int)) : ∀ (l : List Nat) (s : PS), MoreW s.ts (passT ls l s).2.ts
  | [], s => .refl _
  | i :: r, s => by
    rw [passT]
    split
    · exact (vis_more ls i s).trans (pass_more ls r _)
    · exact .refl _
theorem drain_more (ls : List (List Int)) : ∀ (f hd : Nat) (s : PS), MoreW s.ts (drainT ls f hd s).2.ts
  | 0, _, s => .refl _
  | f + 1, hd, s => by
    rw [drainT]
    split
    · split
      · exact MoreW.trans (pass_more ls _ ⟨s.ts, setW s.wt (stp s.ts hd).lit []⟩) (drain_more ls f _ _)
      · exact pass_more ls _ ⟨s.ts, setW s.wt (stp s.ts hd).lit []⟩
    · exact .refl _
theorem prop_more (x : Int) (ls : List (List Int)) (ts : List Stp) : MoreW ts (propT x ls ts).2.ts := by
  unfold propT
  split
  · exact MoreW.trans (pass_more ls _ ⟨ts, fun _ => []⟩) (drain_more ls _ _ _)
  · exact pass_more ls _ ⟨ts, fun _ => []⟩
theorem cntD_more {m : List Stp} (h : ∀ s ∈ m, 0 ≤ s.why) : cntD m = 0 := by
  unfold cntD
  rw [List.length_eq_zero_iff, List.filter_eq_nil_iff]
  intro s hs
  have := h s hs
  simp; omega
theorem cntD_app (a b : List Stp) : cntD (a ++ b) = cntD a + cntD b := by unfold cntD; rw [List.filter_append, List.length_append]

/-- a state of the play: the result of a propagation whose trail was empty, or one decision behind a closed state -/
structure Played (x : Int) (ls : List (List Int)) (r : Option Nat × PS) : Prop where
  chk : checkE x ls = 0
  fix : ∃ us, Fixed x ls us r
  last : lastT r.2.ts = 0 ∨ ∃ ps y more, r.2.ts = ps ++ [⟨y, -1⟩] ++ more ∧ (∀ s ∈ more, 0 ≤ s.why) ∧ ∀ i, i < ls.length → ¬ ∀ z ∈ ell ls i, hasB (litsOf ps) (-z) = true
theorem played_start {x : Int} {ls : List (List Int)} (hc : checkE x ls = 0) : Played x ls (propT x ls []) := by
  have hp : propE x ls [] = 0 := by unfold propE; rw [if_neg (by simpa using hc), if_pos (show trailB x ls [] = true from rfl)]
  refine ⟨hc, ⟨[], prop_fixed hp⟩, Or.inl ?_⟩
  obtain ⟨m, e, hm⟩ := prop_more x ls []
  rw [e, List.nil_append]
  unfold lastT
  rw [cntD_more hm]; rfl
theorem Played.tr {x : Int} {ls : List (List Int)} {r : Option Nat × PS} (h : Played x ls r) : trailB x ls r.2.ts = true := by
  obtain ⟨us, h⟩ := h.fix; exact h.tr
theorem Played.prop {x : Int} {ls : List (List Int)} {r : Option Nat × PS} (h : Played x ls r) : propE x ls r.2.ts = 0 := by
  unfold propE; rw [if_neg (by simpa using h.chk), if_pos h.tr]
/-- one decision more -/
theorem played_decide {x : Int} {ls : List (List Int)} {r : Option Nat × PS} (h : Played x ls r) (hn : r.1 = none) {y : Int} (hb : isB y x = true) (h1 : hasB (litsOf r.2.ts) y = false) (h2 : hasB (litsOf r.2.ts) (-y) = false) :
    propE x ls (r.2.ts ++ [⟨y, -1⟩]) = 0 ∧ Played x ls (propT x ls (r.2.ts ++ [⟨y, -1⟩])) := by
  have hp : propE x ls (r.2.ts ++ [⟨y, -1⟩]) = 0 := by
    unfold propE
    rw [if_neg (by simpa using h.chk), if_pos (trail_decide h.tr hb h1 h2)]
  refine ⟨hp, h.chk, ⟨_, prop_fixed hp⟩, Or.inr ?_⟩
  obtain ⟨m, e, hm⟩ := prop_more x ls (r.2.ts ++ [⟨y, -1⟩])
  obtain ⟨us, hf⟩ := h.fix
  exact ⟨r.2.ts, y, m, e, hm, (fixed_clo hf hn).open'⟩
/-- what First says of the conflict of a play -/
theorem played_first {x : Int} {ls : List (List Int)} {r : Option Nat × PS} (h : Played x ls r) {i : Nat} (hi : r.1 = some i) :
    firstE x ls r.2.ts i = 0 ∨ (firstE x ls r.2.ts i = 200 ∧ lastT r.2.ts = 0) := by
  obtain ⟨us, hf⟩ := h.fix
  obtain ⟨hlt, hfalse⟩ := hf.clash i hi
  have hd : deadB r.2.ts (ell ls i) = true := by
    unfold deadB
    rw [List.all_eq_true]
    intro y hy
    rw [decide_eq_true_iff]
    exact plc_has.2 (hfalse y hy)
  rcases errors_dead (x := x) (ls := ls) (ts := r.2.ts) (q := i) h.prop (by omega) (by omega) (by rw [Int.toNat_natCast]; exact hd) with h1 | h1
  · exact Or.inl h1
  · right
    refine ⟨h1, ?_⟩
    rcases h.last with h2 | ⟨ps, y, more, e, hm, ho⟩
    · exact h2
    · exfalso
      have T := trail_tr h.tr
      have hL : lastT r.2.ts = (cntD ps : Int) + 1 := by
        unfold lastT
        rw [e, cntD_app, cntD_app, cntD_more hm]
        simp [cntD]
      have hcase : hiN r.2.ts (lastT r.2.ts) (start ls i) = 0 := by
        unfold firstE at h1
        rw [if_neg (by simpa using h.prop), if_neg (by rw [Int.toNat_natCast, hd]; intro hh; rcases hh with hh | hh | hh <;> first | omega | cases hh)] at h1
        split at h1
        · rename_i hc
          rcases hc with hc | hc
          · omega
          · exact hc
        · cases h1
      apply ho i hlt
      intro z hz
      have hz0 : z ≠ 0 := (checkE_lits h.chk _ (ell_mem hlt) z hz).1
      have hzs : z ∈ start ls i := by
        unfold start
        rw [mem_moreL]
        exact Or.inr ⟨by rw [Int.toNat_natCast]; exact hz, hz0⟩
      have hp := plc_has.2 (hfalse z hz)
      have hne : lvlT r.2.ts z ≠ lastT r.2.ts := fun he => by
        have : 0 < hiN r.2.ts (lastT r.2.ts) (start ls i) := hiN_pos.2 ⟨z, hzs, he⟩
        omega
      have hlow : plc r.2.ts (-z) < ps.length := by
        rcases Nat.lt_or_ge (plc r.2.ts (-z)) ps.length with h3 | h3
        · exact h3
        · exfalso
          apply hne
          rw [lvlT_of hp]
          have h4 := levAt_mono (ts := r.2.ts) (j := ps.length) (k := plc r.2.ts (-z)) h3
          have h5 : levAt r.2.ts ps.length = (cntD ps : Int) + 1 := by
            unfold levAt
            rw [e]
            have : (ps ++ [(⟨y, -1⟩ : Stp)] ++ more).take (ps.length + 1) = ps ++ [⟨y, -1⟩] := by
              rw [List.take_append_of_le_length (by simp), List.take_of_length_le (by simp)]
            rw [this, cntD_app]
            simp [cntD]
          have h6 : levAt r.2.ts (plc r.2.ts (-z)) ≤ lastT r.2.ts := by
            rw [← lvlT_of hp]; exact lvl_le hp
          omega
      rw [hasB_iff]
      have hs := (plc_lt hp).1
      rw [e] at hs hlow
      rw [List.append_assoc, stp_left (by rw [List.append_assoc] at hlow; exact hlow)] at hs
      rw [← hs]
      rw [List.append_assoc] at hlow
      exact List.mem_map.2 ⟨_, stp_mem hlow, rfl⟩

/-- a clause that no closed state makes false -/
def NoClo (ls : List (List Int)) (l : List Int) : Prop := ∀ T : Int → Prop, Clo ls T → ¬ ∀ y ∈ l, T (-y)
theorem noclo_first {x : Int} {ls : List (List Int)} {ts : List Stp} {q : Int} (h : firstE x ls ts q = 0) : NoClo ls (firstL x ls ts q) := fun T hC => clo_first h hC
theorem noclo_less {x : Int} {ls : List (List Int)} {ts : List Stp} {q : Int} (h : firstE x ls ts q = 0) : NoClo ls (lessR x ls ts (firstL x ls ts q)) := fun T hC => clo_less_first h hC
/-- the negations of a clause hold so far -/
def NegTo (l : List Int) (k : Nat) (ts : List Stp) : Prop := ∀ y ∈ l.take k, hasB (litsOf ts) (-y) = true
theorem NegTo.more {l : List Int} {k : Nat} {a b : List Stp} (h : NegTo l k a) (hm : ∃ more, b = a ++ more) : NegTo l k b := fun y hy => hasB_iff.2 (litsOf_sub hm _ (hasB_iff.1 (h y hy)))
theorem NegTo.succ {l : List Int} {k : Nat} {ts : List Stp} (h : NegTo l k ts) (hk : k < l.length) (hh : hasB (litsOf ts) (-(elt l k)) = true) : NegTo l (k + 1) ts := fun y hy => by
  rw [take_snoc l k hk] at hy
  rcases List.mem_append.1 hy with h1 | h1
  · exact h y h1
  · rw [List.mem_singleton.1 h1]; exact hh
theorem rup_end {x : Int} {ls : List (List Int)} {ts : List Stp} {l : List Int} (hN : NoClo ls l) (hp : propE x ls ts = 0) (hneg : NegTo l l.length ts) : ∃ i, (propT x ls ts).1 = some i := by
  cases hr : (propT x ls ts).1 with
  | some i => exact ⟨i, rfl⟩
  | none =>
    have hF := prop_fixed hp
    exact absurd (fun y hy => hneg.more hF.more y (by rw [List.take_length]; exact hy)) (hN _ (fixed_clo hF hr))

end Go.Proofs.Ytenpenelikpeeaa

namespace Go.Proofs.Ytenpenelikpeeaa
open Go.RowKit Go.Shelf
set_option linter.unusedVariables false
set_option linter.unusedSimpArgs false

/-- a call by its contract -/
theorem gives_call {P : Program} {w : World} {ρ : Operand → Value} {o : Oper} {post : Value → World → Prop} (f : FuncId) (xs : Array Operand) (ts : Array TypeId) (ho : o.op = .call { callee := .value (.func f), args := xs, argTypes := ts }) (he : ∀ args w, (callFunc f args).run P w = .ok (.enter f args) w) (hp : PlainOk ρ)
    (h : Calls P f (xs.map ρ) w fun e w' => ∃ v, e = .returned v ∧ post v w') : Gives P ρ o w post := by
  unfold Gives
  simp only [execOp, ho, resolve, hp.2.2 f, Deferred.ofValue, invoke, Sem.run_bind, Sem.run_pure, Result.andThen_ok, Array.append_empty, Array.empty_append, he, GivesR]
  exact h

/-- an append onto a row that has just been made empty: whatever the element -/
theorem run_append_made {P : Program} (w : World) (t ty e : TypeId) (i : TypeInfo) (z : Value) (size bytes : Nat) (ht : P.underlying t = some (.slice e)) (hi : P.info? e = some i) (hz : i.zero = some z) (hsize : i.size = size) (hby : i.bytes = bytes) (hzs : z.cells.size = size) (hsz : 0 < size)
    (base b m c : Nat) (A : Option Addr) (news : List Value) (hown : w.ownsRow base e size (.slice (some ⟨b, 0, none⟩) 0 0) 0 []) (hl : news.length = m * size) (hA : 0 < m → ∃ a, A = some a ∧ ∀ j u, news[j]? = some u → w.cell? (a.add j) = some u) (hbase : base ≤ w.heap.size) (hm : m ≤ maxLen) (hbytes : m * bytes ≤ 140737488355328) :
    ∃ v' w', (Builtin.append_ #[t, t] ty #[.slice (some ⟨b, 0, none⟩) 0 0, .slice A m c]).run P w = .ok v' w' ∧ w'.ownsRow base e size v' m news ∧ Below w.heap.size w w' := by
  by_cases hm0 : m = 0
  · subst hm0
    have hn : news = [] := List.eq_nil_of_length_eq_zero (by omega)
    subst hn
    cases A with
    | none =>
      refine ⟨.slice (some ⟨b, 0, none⟩) 0 0, w, ?_, hown, Below.refl _ _⟩
      simp [Builtin.append_, run_underlying ht, sizeOf, typeInfo, hi, Builtin.lenOf, Builtin.firstCells, storeCells]
    | some ad =>
      have := run_append_room_cells (P := P) w t ty e i ht hi b 0 0 0 ad 0 c [] (by simp) (by simp) (by simp) (Nat.le_refl _) (by simp) (by simp)
      exact ⟨_, _, this, hown, Below.refl _ _⟩
  · obtain ⟨a, rfl, hc⟩ := hA (by omega)
    obtain ⟨v', w', h1, h2, h3⟩ := run_append_arg_grows (P := P) w t ty e i z size bytes ht hi hz hsize hby hzs hsz ⟨b, 0, none⟩ 0 0 [] (by simp) (by simp) a m c news hl hc (by omega) (by omega) (by rw [Nat.zero_add]; exact hbytes)
    rw [Nat.zero_add] at h2
    refine ⟨v', w', h1, ?_, ⟨h3.os, h3.tape, h3.output, h3.size, fun k hk => h3.block k hk (by simp)⟩⟩
    exact ⟨h2.1, h2.2.imp id fun ⟨g, cap, cur, e1, e2, e3⟩ => ⟨g, cap, cur, e1, Nat.le_trans hbase e2, e3⟩⟩
/-- .. of steps -/
theorem gives_made_st {w : World} {ρ : Operand → Value} {o : Oper} {post : Value → World → Prop} (s x : Operand) (ho : o.op = .call { callee := .builtin .append, args := #[s, x], argTypes := #[25, 25] }) (base b : Nat) (v : Value) (hs : ρ s = v) (hv : v = .slice (some ⟨b, 0, none⟩) 0 0) (hown : w.ownsRow base 41 2 v 0 [])
    (A : Option Addr) (m c : Nat) (zs : List Stp) (hx : ρ x = .slice A m c) (hr : RS w A m c zs) (hbytes : m * 16 ≤ 140737488355328) (hbase : base ≤ w.heap.size)
    (h : ∀ v' w', w'.ownsRow base 41 2 v' m (flatS zs) → Below w.heap.size w w' → post v' w') : Gives Try.prog ρ o w post := by
  subst hv
  obtain ⟨i0, hi, hz0, hz1, hz2⟩ := info_parts infoStp
  obtain ⟨v', w', h1, h2, h3⟩ := run_append_made (P := Try.prog) w 25 o.type 41 i0 (.agg #[.int .i64 0, .int .i64 0]) 2 16 Try.underlying25 hi hz0 hz1 hz2 rfl (by decide) base b m c A (flatS zs) hown (by rw [flatS_len, hr.len]) (fun hm => by
    obtain ⟨b1, o1, rfl, hb1, hc1⟩ := hr.cells hm
    exact ⟨_, rfl, hr.news⟩) hbase (by unfold maxLen; omega) hbytes
  unfold Gives
  simp only [execOp, ho, resolve, invoke, builtin, Sem.run_bind, Sem.run_pure, Result.andThen_ok, List.map_toArray, List.map_cons, List.map_nil, hs, hx, h1, GivesR]
  exact h v' w' h2 h3
theorem gives_append_st {w : World} {ρ : Operand → Value} {o : Oper} {post : Value → World → Prop} (s x : Operand) (ho : o.op = .call { callee := .builtin .append, args := #[s, x], argTypes := #[25, 25] }) (base : Nat) (v : Value) (n : Nat) (xs : List Stp) (hs : ρ s = v) (hown : w.ownsRow base 41 2 v n (flatS xs))
    (A : Option Addr) (m c : Nat) (zs : List Stp) (hx : ρ x = .slice A m c) (hr : RS w A m c zs) (hbytes : (n + m) * 16 ≤ 140737488355328) (hbase : base ≤ w.heap.size)
    (h : ∀ v' w', w'.ownsRow base 41 2 v' (n + m) (flatS (xs ++ zs)) → w.grownBy w' v.ownBlock → post v' w') : Gives Try.prog ρ o w post := by
  obtain ⟨v', w', h1, h2, h3⟩ := run_append_st w o.type base v n xs hown A m c zs hr hbytes hbase
  unfold Gives
  simp only [execOp, ho, resolve, invoke, builtin, Sem.run_bind, Sem.run_pure, Result.andThen_ok, List.map_toArray, List.map_cons, List.map_nil, hs, hx, h1, GivesR]
  exact h v' w' h2 h3

end Go.Proofs.Ytenpenelikpeeaa
