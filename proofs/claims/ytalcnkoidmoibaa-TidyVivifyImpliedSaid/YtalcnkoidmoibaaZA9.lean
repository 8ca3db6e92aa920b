/-
  Arguments opened: a slice of ints, a slice of such, a slice of learnt clauses, a slice of bools, a formula. No condition.
  A vivified clause is a part of the clause, in the order of the normal form; vivified again it only shrinks. No program in sight. No condition.
  An append of a slice that reads as a list, or as a list of lists, to a row of the call's own. No condition.
-/
import Derived.Test.YtalcnkoidmoibaaZA8
import Derived.ProofKit
import Derived.OpenShut
import Derived.SizedLaws
import Derived.Lib.SmallJoins
import Derived.Deep.Slices
import Derived.Deep.Fields
import Derived.Deep.Strs
import Derived.ChangeSame
import Derived.Test.YtalcnkoidmoibaaZA6
import Derived.Test.YtalcnkoidmoibaaZA7

namespace Go.Proofs.Ytalcnkoidmoibaa
open Go.ChangeShapes Go.WideShapes Go.ChangeAt Go.RowKit Go.Joins Go.Deep
set_option linter.unusedVariables false
set_option linter.unusedSimpArgs false

theorem laidOut : laidOutB Try.prog = true := by kernel_rfl
theorem own : ownKnob Try.prog.godebug = none := by kernel_rfl
theorem cells3 : Try.prog.cellsOf 3 = 1 := by kernel_rfl
theorem cells31 : Try.prog.cellsOf 31 = 1 := by kernel_rfl
theorem cells44 : Try.prog.cellsOf 44 = 3 := by kernel_rfl
theorem cells29 : Try.prog.cellsOf 29 = 2 := by kernel_rfl
theorem bytes3 : Try.prog.bytesOf 3 = 8 := by kernel_rfl
theorem bytes31 : Try.prog.bytesOf 31 = 24 := by kernel_rfl
theorem bytes44 : Try.prog.bytesOf 44 = 40 := by kernel_rfl

/-- the reading fits the form's own reach -/
def Fits {H : Type} (t : TypeId) (d : DataW H) : Prop := ∀ n ∈ d.weights Try.prog t, n ≤ reachBytes
theorem reach_lt : reachBytes ≤ 140737488355328 := by decide
theorem fits_of {H : Type} {ts : List TypeId} {ds : List (DataW H)} (h : (DataW.weightsEach Try.prog ts ds).all (· ≤ reachBytes) = true) {j : Nat} {t : TypeId} {d : DataW H} (ht : ts[j]? = some t) (hd : ds[j]? = some d) : Fits t d := fun n hn =>
  of_decide_eq_true (List.all_eq_true.1 h n (DataW.weights_mem_each ht hd n hn))
theorem weightsAll_mem {H : Type} {P : Program} {e : TypeId} {d : DataW H} : ∀ {l : List (DataW H)}, d ∈ l → ∀ n ∈ d.weights P e, n ∈ DataW.weightsAll P e l
  | x :: l, hd, n, hn => by
    simp only [DataW.weightsAll, List.mem_append]
    rcases List.mem_cons.1 hd with rfl | h
    · exact Or.inl hn
    · exact Or.inr (weightsAll_mem h n hn)
theorem Fits.elem {H : Type} {t e : TypeId} {elems spare : List (DataW H)} (h : Fits t (.slice elems spare)) (hu : Try.prog.underlying t = some (.slice e)) {d : DataW H} (hd : d ∈ elems) : Fits e d := fun n hn => by
  refine h n ?_
  simp only [DataW.weights, hu, List.mem_cons, List.mem_append]
  exact Or.inr (Or.inl (weightsAll_mem hd n hn))
theorem Fits.len {H : Type} {t e : TypeId} {elems spare : List (DataW H)} (h : Fits t (.slice elems spare)) (hu : Try.prog.underlying t = some (.slice e)) : elems.length * Try.prog.bytesOf e ≤ 140737488355328 := by
  have := h ((elems.length + spare.length) * Try.prog.bytesOf e) (by simp [DataW.weights, hu])
  have h2 : elems.length * Try.prog.bytesOf e ≤ (elems.length + spare.length) * Try.prog.bytesOf e := Nat.mul_le_mul_right _ (by omega)
  exact Nat.le_trans h2 (Nat.le_trans this reach_lt)

theorem list_make {α : Type} [Inhabited α] {P : Nat → α → Prop} : ∀ n, (∀ j, j < n → ∃ x, P j x) → ∃ l : List α, l.length = n ∧ ∀ j, j < n → P j (l.getD j default)
  | 0, _ => ⟨[], rfl, fun j h => by omega⟩
  | n + 1, h => by
    obtain ⟨l, hl, hp⟩ := list_make n (fun j hj => h j (by omega))
    obtain ⟨x, hx⟩ := h n (by omega)
    refine ⟨l ++ [x], by simp [hl], fun j hj => ?_⟩
    rcases Nat.lt_or_ge j n with hlt | hge
    · have := hp j hlt
      rwa [List.getD_eq_getElem?_getD, List.getElem?_append_left (by omega), ← List.getD_eq_getElem?_getD]
    · have : j = n := by omega
      subst this
      rw [List.getD_eq_getElem?_getD, List.getElem?_append_right (by omega)]
      simpa [hl] using hx

section
variable {H : Type} {enc : TypeId × Value → H} {W : World} {base : Nat} {sp : Nat → Bool} {held : Bool}
theorem cell_block {W : World} {b o : Nat} {v : Value} (h : W.cell? ⟨b, o, none⟩ = some v) : b < W.heap.size := by
  rcases Nat.lt_or_ge b W.heap.size with hlt | hge
  · exact hlt
  · simp [World.cell?, Array.getElem?_eq_none hge] at h

theorem open_ri {fuel : Nat} {cs : List Value} {x : DataW H × List MemPlace} (h : DataW.trod enc Try.prog W base sp held fuel 31 cs = some x) (hz : Fits 31 x.1) :
    ∃ A n c zs, cs = [.slice A n c] ∧ RI W A n c zs ∧ ∀ z ∈ zs, (Lit.int .i64 z).wf = true := by
  rcases open_ints Try.underlying31 Try.underlying3 cells3 h with ⟨hcs, _⟩ | ⟨a, len, cap, zs, hcs, _, hl, hm, hzl, rfl, hcell, hwz⟩
  · exact ⟨none, 0, 0, [], hcs, RI.nil _ _ _ (Nat.zero_le _), fun z hz => by cases hz⟩
  · have hlz : len ≤ zs.length := by rw [hzl]; split <;> omega
    have hb := hz.len Try.underlying31
    rw [bytes3] at hb
    have hln : (lits (H := H) .i64 (zs.take len)).length = len := by simp [lits]; omega
    rw [hln] at hb
    refine ⟨some a, len, cap, zs.take len, hcs, ⟨by simp; omega, hl, hb, hm, fun hn => ?_⟩, fun z hz => hwz z (List.mem_of_mem_take hz)⟩
    obtain ⟨b, off, rfl, hc⟩ := ints_at hcell (by omega)
    refine ⟨b, off, rfl, cell_block (hc 0 (by omega)), fun j hj => ?_⟩
    rw [hc j (by omega)]
    simp [elt, List.getD_eq_getElem?_getD, hj]

theorem open_rl {fuel : Nat} {cs : List Value} {x : DataW H × List MemPlace} (h : DataW.trod enc Try.prog W base sp held fuel 27 cs = some x) (hz : Fits 27 x.1) :
    ∃ A n c ls, cs = [.slice A n c] ∧ RL W A n c ls ∧ ∀ l ∈ ls, ∀ z ∈ l, (Lit.int .i64 z).wf = true := by
  rcases Deep.open_slice Try.underlying27 h with ⟨hcs, _⟩ | ⟨a, len, cap, m, n, D, Pl, hcs, _, hl, hcm, hm, rfl, hi⟩
  · exact ⟨none, 0, 0, [], hcs, RL.nil _ _ _ (Nat.zero_le _), fun z hz => by cases hz⟩
  · have hlm : len ≤ m := by rw [hm]; split <;> omega
    have hb := hz.len Try.underlying27
    rw [bytes31] at hb
    rw [List.length_map, List.length_range] at hb
    have each : ∀ i, i < len → ∃ zs : List Int, (∃ A' n' c', W.cell? (a.add i) = some (.slice A' n' c') ∧ RI W A' n' c' zs) ∧ ∀ z ∈ zs, (Lit.int .i64 z).wf = true := by
      intro i hil
      obtain ⟨cs', h1, h2⟩ := hi i (by omega)
      rw [cells31] at h1
      obtain ⟨_, hcl, hat⟩ := World.cells?_some h1
      obtain ⟨A', n', c', zs, rfl, hr, hw⟩ := open_ri h2 (hz.elem Try.underlying27 (List.mem_map.2 ⟨i, List.mem_range.2 hil, rfl⟩))
      refine ⟨zs, ⟨A', n', c', ?_, hr⟩, hw⟩
      have := hat 0 (by omega)
      simpa [Addr.add] using this
    obtain ⟨ls, hls, hp⟩ := list_make len each
    refine ⟨some a, len, cap, ls, hcs, ⟨hls, hl, hb, hcm, fun hn => ?_⟩, fun l hlm => ?_⟩
    · obtain ⟨A0, n0, c0, hc0, _⟩ := (hp 0 hn).1
      obtain ⟨b, off, spot⟩ := a
      have hspot : spot = none := by simpa [Addr.add] using World.cell?_spot hc0
      subst hspot
      refine ⟨b, off, rfl, cell_block (o := off + 0) (by rw [← Go.WideShapes.add_plain]; exact hc0), fun j hj => ?_⟩
      obtain ⟨A', n', c', h1, h2⟩ := (hp j hj).1
      exact ⟨A', n', c', by rw [← Go.WideShapes.add_plain]; exact h1, h2⟩
    · obtain ⟨j, hj, e⟩ := List.mem_iff_getElem.1 hlm
      have := (hp j (by omega)).2
      rw [List.getD_eq_getElem?_getD, List.getElem?_eq_getElem hj] at this
      simp only [Option.getD_some] at this
      rw [e] at this
      exact this

set_option maxRecDepth 100000 in
theorem open_cnf {r : Reach} {b0 : Nat} {v : Value} {d : DataW H} {p : List MemPlace} (hv : Value.okWide Try.prog W r b0 29 v) (h : DataW.Trod enc Try.prog W base sp held 29 v d p) (hz : Fits 29 d) :
    ∃ x A n c ls, v = .agg #[.int .i64 x, .slice A n c] ∧ RL W A n c ls ∧ (∀ l ∈ ls, ∀ z ∈ l, (Lit.int .i64 z).wf = true) ∧ (Lit.int .i64 x).wf = true := by
  obtain ⟨v0, v1, y0, y1, m, rfl, rfl, rfl, h0, h1⟩ := open_agg2 Try.underlying29 (by kernel_rfl) cells29 hv h
  obtain ⟨x, e, _, wx⟩ := DataW.trod_int Try.underlying3 h0
  have hz1 : Fits 27 y1.1 := fun n hn => hz n (by
    simp only [DataW.weights, Try.underlying29]
    simp [DataW.weightsEach, hn])
  obtain ⟨A, n, c, ls, e1, hr, hw⟩ := open_rl h1 hz1
  simp only [List.cons.injEq, and_true] at e e1
  subst e e1
  exact ⟨x, A, n, c, ls, rfl, hr, hw, wx⟩
theorem cnf_stays {W' : World} {v : Value} {d : DataW H} {p : List MemPlace} (h : DataW.Trod enc Try.prog W 0 (fun _ => true) true 29 v d p) (hb : Below W.heap.size W W') (hlt : ∀ x ∈ p, x.block < W.heap.size) {sp' : Nat → Bool} (hs : ∀ x ∈ p, sp' x.block = true) :
    DataW.Trod enc Try.prog W' 0 sp' true 29 v d p :=
  WideElems.Trod_stays laidOut (by kernel_rfl) (of_decide_eq_true (by kernel_rfl)) h (fun x hx => hb.same (hlt x hx)) hs
theorem lrns_stays {W' : World} {v : Value} {d : DataW H} {p : List MemPlace} (h : DataW.Trod enc Try.prog W 0 (fun _ => true) true 22 v d p) (hb : Below W.heap.size W W') (hlt : ∀ x ∈ p, x.block < W.heap.size) {sp' : Nat → Bool} (hs : ∀ x ∈ p, sp' x.block = true) :
    DataW.Trod enc Try.prog W' 0 sp' true 22 v d p :=
  WideElems.Trod_stays laidOut (by kernel_rfl) (of_decide_eq_true (by kernel_rfl)) h (fun x hx => hb.same (hlt x hx)) hs
theorem bools_stays {W' : World} {v : Value} {d : DataW H} {p : List MemPlace} (h : DataW.Trod enc Try.prog W 0 (fun _ => true) true 47 v d p) (hb : Below W.heap.size W W') (hlt : ∀ x ∈ p, x.block < W.heap.size) {sp' : Nat → Bool} (hs : ∀ x ∈ p, sp' x.block = true) :
    DataW.Trod enc Try.prog W' 0 sp' true 47 v d p :=
  WideElems.Trod_stays laidOut (by kernel_rfl) (of_decide_eq_true (by kernel_rfl)) h (fun x hx => hb.same (hlt x hx)) hs

theorem one_drop {cs : List Value} {k : Nat} (h : k < cs.length) : (cs.drop k).take 1 = [cs[k]] := by
  rw [List.drop_eq_getElem_cons h]; rfl

set_option maxRecDepth 100000 in
theorem open_re {r : Reach} {b0 : Nat} {v : Value} {d : DataW H} {p : List MemPlace} (hv : Value.okWide Try.prog W r b0 22 v) (h : DataW.Trod enc Try.prog W base sp held 22 v d p) (hz : Fits 22 d) :
    ∃ A n c es, v = .slice A n c ∧ RE W A n c es := by
  obtain ⟨A, n, c, rfl⟩ := okWide_slice Try.underlying22 hv
  obtain ⟨fuel, h⟩ := h
  rcases Deep.open_slice Try.underlying22 h with ⟨hcs, _⟩ | ⟨a, len, cap, m, q, D, Pl, hcs, _, hl, hcm, hm, hx, hi⟩
  · simp only [Value.cells, List.cons.injEq, and_true, Value.slice.injEq] at hcs
    obtain ⟨rfl, rfl, rfl⟩ : A = none ∧ n = 0 ∧ c = 0 := by simpa using hcs
    exact ⟨none, 0, 0, [], rfl, ⟨rfl, Nat.le_refl _, by omega, Nat.zero_le _, fun h => absurd h (by omega)⟩⟩
  · obtain ⟨rfl, rfl, rfl⟩ : A = some a ∧ n = len ∧ c = cap := by simpa [Value.cells] using hcs
    simp only [Prod.mk.injEq] at hx
    obtain ⟨rfl, rfl⟩ := hx
    have hlm : n ≤ m := by rw [hm]; split <;> omega
    have hb := hz.len Try.underlying22
    rw [bytes44] at hb
    rw [List.length_map, List.length_range] at hb
    have each : ∀ i, i < n → ∃ e : Lrn, W.cell? (a.add (i * 3)) = some (rowV e.r) ∧ W.cell? (a.add (i * 3 + 1)) = some (.int .i64 e.lv) ∧ W.cell? (a.add (i * 3 + 2)) = some (.int .i64 e.act) ∧ RI W e.r.A e.r.n e.r.c e.r.zs := by
      intro i hil
      obtain ⟨cs', h1, h2⟩ := hi i (by omega)
      have hf : Fits 44 (D i) := hz.elem Try.underlying22 (List.mem_map.2 ⟨i, List.mem_range.2 hil, rfl⟩)
      rw [cells44] at h1
      obtain ⟨_, hcl, hat⟩ := World.cells?_some h1
      obtain ⟨y0, y1, y2, k, hy, _, t0, t1, t2⟩ := trod_struct3 Try.underlying44 h2
      simp only [Prod.mk.injEq] at hy
      rw [hy.1] at hf
      have hz1 : Fits 31 y0.1 := fun n hn => hf n (by
        simp only [DataW.weights, Try.underlying44]
        simp [DataW.weightsEach, hn])
      dsimp only at t0 t1 t2
      rw [cells31, one_drop (by omega)] at t0
      rw [cells3, one_drop (by omega)] at t1 t2
      obtain ⟨A', n', c', zs, e0, hr, _⟩ := open_ri t0 hz1
      obtain ⟨lv, e1, _, _⟩ := DataW.trod_int Try.underlying3 t1
      obtain ⟨act, e2, _, _⟩ := DataW.trod_int Try.underlying3 t2
      simp only [List.cons.injEq, and_true] at e0 e1 e2
      have a0 := hat 0 (by omega)
      have a1 := hat 1 (by omega)
      have a2 := hat 2 (by omega)
      rw [List.getElem?_eq_getElem (by omega)] at a0 a1 a2
      rw [e0, Go.Deep.add_add] at a0
      rw [e1, Go.Deep.add_add] at a1
      rw [e2, Go.Deep.add_add] at a2
      exact ⟨⟨⟨A', n', c', zs⟩, lv, act⟩, a0, a1, a2, hr⟩
    obtain ⟨es, hes, hp⟩ := list_make n each
    refine ⟨some a, n, c, es, rfl, ⟨hes, hl, hb, hcm, fun hn => ?_⟩⟩
    have hc0 := (hp 0 hn).1
    obtain ⟨b, off, spot⟩ := a
    have hspot : spot = none := by simpa [Addr.add] using World.cell?_spot hc0
    subst hspot
    refine ⟨b, off, rfl, cell_block (o := off + 0 * 3) (by rw [← Go.WideShapes.add_plain]; exact hc0), fun j hj => ?_⟩
    obtain ⟨h1, h2, h3, h4⟩ := hp j hj
    refine ⟨by rw [← Go.WideShapes.add_plain]; exact h1, ?_, ?_, h4⟩
    · rw [Nat.add_assoc, ← Go.WideShapes.add_plain]; exact h2
    · rw [Nat.add_assoc, ← Go.WideShapes.add_plain]; exact h3
end

end Go.Proofs.Ytalcnkoidmoibaa

namespace Go.Proofs.Ytalcnkoidmoibaa
set_option linter.unusedVariables false
set_option linter.unusedSimpArgs false

theorem vivT_sub (cls : List (List Int)) : ∀ (l left : List Int), ∃ r, vivT cls l left = left ++ r ∧ r.Sublist l
  | [], left => ⟨[], by rw [vivT, List.append_nil], List.Sublist.refl _⟩
  | x :: l, left => by
    rw [vivT]
    cases hc : closureT cls (left.map (-·)) with
    | none => exact ⟨[], by rw [List.append_nil], List.nil_sublist _⟩
    | some S =>
      dsimp only
      split
      · exact ⟨[x], rfl, (List.nil_sublist l).cons_cons x⟩
      · split
        · obtain ⟨r, h1, h2⟩ := vivT_sub cls l left
          exact ⟨r, h1, h2.cons x⟩
        · obtain ⟨r, h1, h2⟩ := vivT_sub cls l (left ++ [x])
          exact ⟨x :: r, by rw [h1, List.append_assoc]; rfl, h2.cons_cons x⟩

theorem viv_part (cls : List (List Int)) (l : List Int) : (vivT cls l []).Sublist l := by
  obtain ⟨r, h1, h2⟩ := vivT_sub cls l []
  rw [h1]; exact h2

theorem normP_part {l r : List Int} (h : r.Sublist (normP l)) : normP r = r := by
  refine (normP_eq ((normP_asc l).sublist h) fun x => ?_).symm
  exact ⟨fun hx => ⟨hx, (mem_normP.1 (h.subset hx)).2⟩, fun hx => hx.1⟩

theorem subB_iff {a b : List Int} : subB a b = true ↔ ∀ x ∈ a, x ∈ b := by
  unfold subB; rw [List.all_eq_true]
  exact ⟨fun h x hx => hasB_iff.1 (h x hx), fun h x hx => hasB_iff.2 (h x hx)⟩

theorem ell_set {ls : List (List Int)} {k : Nat} (hk : k < ls.length) (r : List Int) : ell (ls.set k r) k = r := by
  rw [ell_lt (by simpa using hk)]; simp
theorem erase_set (ls : List (List Int)) (k : Nat) (r : List Int) : (ls.set k r).eraseIdx k = ls.eraseIdx k := by
  induction ls generalizing k with
  | nil => rfl
  | cons l ls ih =>
    cases k with
    | zero => rfl
    | succ k => simp [List.set, List.eraseIdx, ih]
theorem sumL_set : ∀ (ls : List (List Int)) (k : Nat) (r : List Int), sumL (ls.set k r) ≤ sumL ls + r.length
  | [], k, r => by simp [sumL]
  | l :: ls, 0, r => by simp [sumL]; omega
  | l :: ls, k + 1, r => by have := sumL_set ls k r; simp [sumL] at this ⊢; omega

theorem vivE_zero {x : Int} {ls : List (List Int)} {k : Int} (h : vivE x ls k = 0) : checkE x ls = 0 ∧ 0 ≤ k ∧ k < ls.length := by
  have h1 : checkE x ls = 0 := by
    unfold vivE at h; split at h
    · exact h
    · rename_i h1; simpa using h1
  have h2 : ¬ (k < 0 ∨ (ls.length : Int) ≤ k) := by
    intro h2; unfold vivE at h; rw [if_neg (by simpa using h1), if_pos h2] at h; cases h
  exact ⟨h1, by omega, by omega⟩

theorem checkE_set {x : Int} {ls : List (List Int)} {k : Nat} (h : checkE x ls = 0) (hk : k < ls.length) {r : List Int} (hr : ∀ y ∈ r, y ∈ ell ls k) : checkE x (ls.set k r) = 0 := by
  unfold checkE at h ⊢
  split at h
  · cases h
  · split at h
    · cases h
    · rename_i h1 h2
      split at h
      · cases h
      · rename_i h3
        rw [if_neg h1]
        have ha : allB x ls = true := by simpa using h2
        have hb : allB x (ls.set k r) = true := by
          unfold allB at *
          rw [List.all_eq_true] at *
          intro l hl
          rcases List.mem_or_eq_of_mem_set hl with e | e
          · exact ha l e
          · rw [e]
            have h4 := ha _ (ell_mem hk)
            unfold litsB at *
            rw [List.all_eq_true] at *
            exact fun y hy => h4 y (hr y hy)
        rw [hb, List.length_set, if_neg h3]
        simp

/-- the vivified clause, vivified again -/
theorem viv_again {x : Int} {ls : List (List Int)} {k : Nat} (hE : vivE x ls k = 0) : vivE x (ls.set k (vivL x ls k)) k = 0 ∧ (vivL x (ls.set k (vivL x ls k)) k).Sublist (vivL x ls k) ∧ normP (vivL x ls k) = vivL x ls k ∧ ∀ y ∈ vivL x ls k, y ∈ ell ls k := by
  obtain ⟨h1, h2, h3⟩ := vivE_zero hE
  have hk : k < ls.length := by omega
  have e1 : vivL x ls k = vivT (ls.eraseIdx k) (normP (ell ls k)) [] := by unfold vivL; rw [if_pos hE]; simp
  have hp : (vivL x ls k).Sublist (normP (ell ls k)) := by rw [e1]; exact viv_part _ _
  have hn := normP_part hp
  have hm : ∀ y ∈ vivL x ls k, y ∈ ell ls k := fun y hy => (mem_normP.1 (hp.subset hy)).1
  have hc := checkE_set h1 hk hm
  have hE2 : vivE x (ls.set k (vivL x ls k)) k = 0 := by
    unfold vivE
    rw [if_neg (by simpa using hc), if_neg (by rw [List.length_set]; omega)]
  refine ⟨hE2, ?_, hn, hm⟩
  have e2 : vivL x (ls.set k (vivL x ls k)) k = vivT (ls.eraseIdx k) (vivL x ls k) [] := by
    have e3 : ∀ ls2, vivE x ls2 k = 0 → vivL x ls2 k = vivT (ls2.eraseIdx k) (normP (ell ls2 k)) [] := fun ls2 h => by unfold vivL; rw [if_pos h]; simp
    rw [e3 _ hE2, ell_set hk, erase_set, hn]
  rw [e2]; exact viv_part _ _

end Go.Proofs.Ytalcnkoidmoibaa

namespace Go.Proofs.Ytalcnkoidmoibaa
open Go.RowKit Go.Shelf
set_option linter.unusedVariables false
set_option linter.unusedSimpArgs false

theorem run_append_none {t e : TypeId} (ht : Try.prog.underlying t = some (.slice e)) (w : World) (base : Nat) (ty : TypeId) (i0 : TypeInfo) (hi : Try.prog.info? e = some i0) (v : Value) (n size : Nat) (xs : List Value) (hown : w.ownsRow base e size v n xs) (c : Nat) :
    (Builtin.append_ #[t, t] ty #[v, .slice none 0 c]).run Try.prog w = .ok v w := by
  rcases hown.2 with ⟨rfl, rfl⟩ | ⟨g, cap, cur, rfl, _, _, hnc, _⟩
  · simp [Builtin.append_, run_underlying ht, sizeOf, typeInfo, hi, Builtin.lenOf, Builtin.firstCells]
  · simp [Builtin.append_, run_underlying ht, sizeOf, typeInfo, hi, Builtin.lenOf, Builtin.firstCells, hnc, storeCells]

theorem RI.news {w : World} {b off n c : Nat} {zs : List Int} (h : RI w (some ⟨b, off, none⟩) n c zs) : ∀ j u, (zs.map (Value.int .i64))[j]? = some u → w.cell? (Addr.add ⟨b, off, none⟩ j) = some u := by
  intro j u hj
  have hl := h.len
  have hjn : j < n := by have := (List.getElem?_eq_some_iff.1 hj).1; simpa [hl] using this
  obtain ⟨b', off', he, hb, hc⟩ := h.cells (by omega)
  simp only [Option.some.injEq, Addr.mk.injEq] at he
  obtain ⟨rfl, rfl, _⟩ := he
  rw [Addr.add_lit, hc j hjn]
  rw [List.getElem?_map, List.getElem?_eq_getElem (by rw [hl]; exact hjn)] at hj
  rw [elt_lt (by rw [hl]; exact hjn)]
  exact hj

/-- what an append leaves -/
def Appd (w : World) (base : Nat) (e : TypeId) (v : Value) (k : Nat) (ys : List Value) (v' : Value) (w' : World) : Prop :=
  w'.ownsRow base e 1 v' k ys ∧ w.grownBy w' v.ownBlock ∧ (v'.ownBlock = v.ownBlock ∨ v'.ownBlock = some w.heap.size)

set_option maxRecDepth 100000 in
theorem run_append_ri (w : World) (ty : TypeId) (base : Nat) (v : Value) (n : Nat) (xs : List Int) (hown : w.ownsRow base 3 1 v n (xs.map (Value.int .i64)))
    (A : Option Addr) (m c : Nat) (zs : List Int) (hr : RI w A m c zs) (hbytes : (n + m) * 8 ≤ 140737488355328) (hbase : base ≤ w.heap.size) :
    ∃ v' w', (Builtin.append_ #[31, 31] ty #[v, .slice A m c]).run Try.prog w = .ok v' w' ∧ Appd w base 3 v (n + m) ((xs ++ zs).map (Value.int .i64)) v' w' := by
  obtain ⟨i0, hi, hz0, hz1, hz2⟩ := info_parts infoInt
  cases A with
  | none =>
    have hm : m = 0 := by
      rcases Nat.eq_zero_or_pos m with h0 | h0
      · exact h0
      · obtain ⟨b, off, he, _⟩ := hr.cells h0; cases he
    subst hm
    have hz : zs = [] := List.eq_nil_of_length_eq_zero hr.len
    subst hz
    exact ⟨v, w, run_append_none Try.underlying31 w base ty i0 hi v n 1 _ hown c, by simpa using hown, World.grownBy.refl w _, .inl rfl⟩
  | some ad =>
    have hnews : ∀ j u, (zs.map (Value.int .i64))[j]? = some u → w.cell? (ad.add j) = some u := by
      intro j u hj
      have hjn : j < m := by have := (List.getElem?_eq_some_iff.1 hj).1; simpa [hr.len] using this
      obtain ⟨b, off, he, _⟩ := hr.cells (by omega)
      injection he with he
      subst he
      exact hr.news j u hj
    obtain ⟨v', w', h1, h2, h3, _, h5⟩ := run_append_own_at (P := Try.prog) w base 31 ty 3 i0 (.int .i64 0) 1 8 Try.underlying31 hi hz0 hz1 hz2 rfl (by decide) v n _ hown ad m c (zs.map (Value.int .i64)) (by simp [hr.len]) hnews (by intro u hu; obtain ⟨x, _, rfl⟩ := List.mem_map.1 hu; rfl) (by unfold maxLen; omega) hbytes hbase
    exact ⟨v', w', h1, by rw [List.map_append]; exact h2, h3, h5⟩

theorem step_append_ri {w : World} {ops : Array Oper} {o : Oper} {a : Act} {K : Act → World → Prop} {Q : Exit → Act → World → Prop} {E : Prop} (hgd : o.guard = none) (s x : Operand)
    (ho : o.op = .call { callee := .builtin .append, args := #[s, x], argTypes := #[31, 31] }) (base : Nat) (v : Value) (n : Nat) (xs : List Int) (hs : a.eval s = v) (hown : w.ownsRow base 3 1 v n (xs.map (Value.int .i64)))
    (A : Option Addr) (m c : Nat) (zs : List Int) (hx : a.eval x = .slice A m c) (hr : RI w A m c zs) (hbytes : (n + m) * 8 ≤ 140737488355328) (hbase : base ≤ w.heap.size)
    (h : ∀ v' w', Appd w base 3 v (n + m) ((xs ++ zs).map (Value.int .i64)) v' w' → K (a.put o.dst v') w') :
    if Region.wanted o (yielded ops a.tmps) = true then Oper.wp Try.prog o a w K Q else E := by
  have hw : Region.wanted o (yielded ops a.tmps) = true := by simp [Region.wanted, hgd]
  rw [if_pos hw]
  obtain ⟨v', w', h1, h2⟩ := run_append_ri w o.type base v n xs hown A m c zs hr hbytes hbase
  unfold Oper.wp
  simp only [execOp, ho, resolve, invoke, builtin, Sem.run_bind, Sem.run_pure, Result.andThen_ok, List.map_toArray, List.map_cons, List.map_nil, hs, hx, h1]
  exact h v' w' h2

theorem wpList_append_ri {w : World} {ops : Array Oper} {rest : List Oper} {o : Oper} {a : Act} {Q : Exit → Act → World → Prop} (hgd : o.guard = none) (s x : Operand)
    (ho : o.op = .call { callee := .builtin .append, args := #[s, x], argTypes := #[31, 31] }) (base : Nat) (v : Value) (n : Nat) (xs : List Int) (hs : a.eval s = v) (hown : w.ownsRow base 3 1 v n (xs.map (Value.int .i64)))
    (A : Option Addr) (m c : Nat) (zs : List Int) (hx : a.eval x = .slice A m c) (hr : RI w A m c zs) (hbytes : (n + m) * 8 ≤ 140737488355328) (hbase : base ≤ w.heap.size)
    (h : ∀ v' w', Appd w base 3 v (n + m) ((xs ++ zs).map (Value.int .i64)) v' w' → wpList Try.prog ops Q rest (a.put o.dst v') w') :
    wpList Try.prog ops Q (o :: rest) a w := by
  obtain ⟨v', w', h1, h2⟩ := run_append_ri w o.type base v n xs hown A m c zs hr hbytes hbase
  refine wpList_plain hgd fun K hK => ?_
  unfold Oper.wp
  simp only [execOp, ho, resolve, invoke, builtin, Sem.run_bind, Sem.run_pure, Result.andThen_ok, List.map_toArray, List.map_cons, List.map_nil, hs, hx, h1]
  exact hK _ _ (h v' w' h2)

/-- a slice of rows, each with its own value -/
structure RR (w : World) (A : Option Addr) (n c : Nat) (rs : List Row) : Prop where
  len : rs.length = n
  cap : n ≤ c
  big : n * 24 ≤ 140737488355328
  cmax : c ≤ maxLen
  cells : 0 < n → ∃ b off, A = some ⟨b, off, none⟩ ∧ b < w.heap.size ∧ ∀ j u, (rs.map rowV)[j]? = some u → w.cell? ⟨b, off + j, none⟩ = some u
  rows : ∀ r ∈ rs, RI w r.A r.n r.c r.zs
theorem RR.below {w w' : World} {A : Option Addr} {n c : Nat} {rs : List Row} (h : RR w A n c rs) (hb : Below w.heap.size w w') : RR w' A n c rs :=
  ⟨h.len, h.cap, h.big, h.cmax, fun hn => by
    obtain ⟨b, off, rfl, hlt, hc⟩ := h.cells hn
    exact ⟨b, off, rfl, Nat.lt_of_lt_of_le hlt hb.size, fun j u hj => (hb.cell (p := ⟨b, off + j, none⟩) hlt).trans (hc j u hj)⟩, fun r hr => (h.rows r hr).below hb⟩
theorem RR.rl {w : World} {A : Option Addr} {n c : Nat} {rs : List Row} (h : RR w A n c rs) : RL w A n c (rs.map (·.zs)) :=
  ⟨by rw [List.length_map]; exact h.len, h.cap, h.big, h.cmax, fun hn => by
    obtain ⟨b, off, rfl, hlt, hc⟩ := h.cells hn
    refine ⟨b, off, rfl, hlt, fun j hj => ?_⟩
    have hj' : j < rs.length := by rw [h.len]; exact hj
    refine ⟨rs[j].A, rs[j].n, rs[j].c, hc j _ (by rw [List.getElem?_map, List.getElem?_eq_getElem hj']; rfl), ?_⟩
    rw [ell_lt (by simpa using hj')]
    simpa using h.rows _ (List.getElem_mem hj')⟩
theorem rr_list {w : World} {b off : Nat} : ∀ (ls : List (List Int)) (k : Nat), (∀ j, j < ls.length → ∃ A' n' c', w.cell? ⟨b, off + (k + j), none⟩ = some (.slice A' n' c') ∧ RI w A' n' c' (ell ls j)) →
    ∃ rs : List Row, rs.map (·.zs) = ls ∧ (∀ j u, (rs.map rowV)[j]? = some u → w.cell? ⟨b, off + (k + j), none⟩ = some u) ∧ ∀ r ∈ rs, RI w r.A r.n r.c r.zs
  | [], k, h => ⟨[], rfl, fun j u hj => by simp at hj, fun r hr => by cases hr⟩
  | l :: ls, k, h => by
    obtain ⟨A', n', c', h1, h2⟩ := h 0 (by simp)
    obtain ⟨rs, e1, e2, e3⟩ := rr_list (w := w) (b := b) (off := off) ls (k + 1) (fun j hj => by
      obtain ⟨A', n', c', h1, h2⟩ := h (j + 1) (by simpa using hj)
      refine ⟨A', n', c', ?_, h2⟩
      rw [show k + 1 + j = k + (j + 1) by omega]; exact h1)
    refine ⟨⟨A', n', c', l⟩ :: rs, by rw [List.map_cons, e1], fun j u hj => ?_, fun r hr => ?_⟩
    · cases j with
      | zero => simp at hj; subst hj; exact h1
      | succ j => rw [show k + (j + 1) = k + 1 + j by omega]; exact e2 j u (by simpa using hj)
    · rcases List.mem_cons.1 hr with e | e
      · subst e; exact h2
      · exact e3 r e
theorem RL.rr {w : World} {A : Option Addr} {n c : Nat} {ls : List (List Int)} (h : RL w A n c ls) : ∃ rs : List Row, rs.map (·.zs) = ls ∧ RR w A n c rs := by
  rcases Nat.eq_zero_or_pos n with h0 | h0
  · have : ls = [] := List.eq_nil_of_length_eq_zero (by rw [h.len]; exact h0)
    subst this
    exact ⟨[], rfl, ⟨by have := h.len; simpa using this, h.cap, h.big, h.cmax, fun hn => absurd hn (by omega), fun r hr => by cases hr⟩⟩
  · obtain ⟨b, off, e, hlt, hc⟩ := h.cells h0
    obtain ⟨rs, e1, e2, e3⟩ := rr_list (w := w) (b := b) (off := off) ls 0 (fun j hj => by rw [Nat.zero_add]; exact hc j (by rw [← h.len]; exact hj))
    refine ⟨rs, e1, ⟨?_, h.cap, h.big, h.cmax, fun _ => ⟨b, off, e, hlt, fun j u hj => ?_⟩, e3⟩⟩
    · rw [← h.len, ← e1, List.length_map]
    · have := e2 j u hj; rwa [Nat.zero_add] at this

set_option maxRecDepth 100000 in
theorem run_append_rr (w : World) (ty : TypeId) (base : Nat) (v : Value) (n : Nat) (xs : List Row) (hown : w.ownsRow base 31 1 v n (xs.map rowV))
    (A : Option Addr) (m c : Nat) (rs : List Row) (hr : RR w A m c rs) (hbytes : (n + m) * 24 ≤ 140737488355328) (hbase : base ≤ w.heap.size) :
    ∃ v' w', (Builtin.append_ #[27, 27] ty #[v, .slice A m c]).run Try.prog w = .ok v' w' ∧ Appd w base 31 v (n + m) ((xs ++ rs).map rowV) v' w' := by
  obtain ⟨i0, hi, hz0, hz1, hz2⟩ := info_parts infoRow
  cases A with
  | none =>
    have hm : m = 0 := by
      rcases Nat.eq_zero_or_pos m with h0 | h0
      · exact h0
      · obtain ⟨b, off, he, _⟩ := hr.cells h0; cases he
    subst hm
    have hz : rs = [] := List.eq_nil_of_length_eq_zero hr.len
    subst hz
    exact ⟨v, w, run_append_none Try.underlying27 w base ty i0 hi v n 1 _ hown c, by simpa using hown, World.grownBy.refl w _, .inl rfl⟩
  | some ad =>
    have hnews : ∀ j u, (rs.map rowV)[j]? = some u → w.cell? (ad.add j) = some u := by
      intro j u hj
      have hjn : j < m := by have := (List.getElem?_eq_some_iff.1 hj).1; simpa [hr.len] using this
      obtain ⟨b, off, he, _, hc⟩ := hr.cells (by omega)
      injection he with he
      subst he
      rw [Addr.add_lit]
      exact hc j u hj
    obtain ⟨v', w', h1, h2, h3, _, h5⟩ := run_append_own_at (P := Try.prog) w base 27 ty 31 i0 (.slice none 0 0) 1 24 Try.underlying27 hi hz0 hz1 hz2 rfl (by decide) v n _ hown ad m c (rs.map rowV) (by simp [hr.len]) hnews (by intro u hu; obtain ⟨x, _, rfl⟩ := List.mem_map.1 hu; rfl) (by unfold maxLen; omega) hbytes hbase
    exact ⟨v', w', h1, by rw [List.map_append]; exact h2, h3, h5⟩

theorem wpList_append_rr {w : World} {ops : Array Oper} {rest : List Oper} {o : Oper} {a : Act} {Q : Exit → Act → World → Prop} (hgd : o.guard = none) (s x : Operand)
    (ho : o.op = .call { callee := .builtin .append, args := #[s, x], argTypes := #[27, 27] }) (base : Nat) (v : Value) (n : Nat) (xs : List Row) (hs : a.eval s = v) (hown : w.ownsRow base 31 1 v n (xs.map rowV))
    (A : Option Addr) (m c : Nat) (rs : List Row) (hx : a.eval x = .slice A m c) (hr : RR w A m c rs) (hbytes : (n + m) * 24 ≤ 140737488355328) (hbase : base ≤ w.heap.size)
    (h : ∀ v' w', Appd w base 31 v (n + m) ((xs ++ rs).map rowV) v' w' → wpList Try.prog ops Q rest (a.put o.dst v') w') :
    wpList Try.prog ops Q (o :: rest) a w := by
  obtain ⟨v', w', h1, h2⟩ := run_append_rr w o.type base v n xs hown A m c rs hr hbytes hbase
  refine wpList_plain hgd fun K hK => ?_
  unfold Oper.wp
  simp only [execOp, ho, resolve, invoke, builtin, Sem.run_bind, Sem.run_pure, Result.andThen_ok, List.map_toArray, List.map_cons, List.map_nil, hs, hx, h1]
  exact hK _ _ (h v' w' h2)

theorem own_form {w : World} {base : Nat} {e : TypeId} {size : Nat} {v : Value} {n : Nat} {xs : List Value} (h : w.ownsRow base e size v n xs) : ∃ A c, v = .slice A n c := by
  rcases h.2 with ⟨rfl, rfl⟩ | ⟨g, cap, cur, rfl, _⟩
  · exact ⟨none, 0, rfl⟩
  · exact ⟨some ⟨g, 0, none⟩, cap, rfl⟩
/-- a slice made empty -/
theorem own_empty (w : World) (base s : Nat) (e : TypeId) (hs : s = w.heap.size) (hb : base ≤ w.heap.size) : (w.alloc (.cells #[] e)).ownsRow base e 1 (.slice (some ⟨s, 0, none⟩) 0 0) 0 [] := by
  subst hs; exact World.ownsRow_made w #[] 0 hb (Nat.zero_le _) rfl

end Go.Proofs.Ytalcnkoidmoibaa
