/-
  Appends to a slice of steps: rows of the call's own whose elements have two cells. No condition.
-/
import Derived.Test.YtenpenelikpeeaaG2
namespace Go.Proofs.Ytenpenelikpeeaa
open Go.RowKit Go.Shelf
set_option linter.unusedVariables false
set_option linter.unusedSimpArgs false

def flatS (ts : List Stp) : List Value := (ts.map fun s => [Value.int .i64 s.lit, Value.int .i64 s.why]).flatten
theorem flatS_cons (s : Stp) (ts : List Stp) : flatS (s :: ts) = .int .i64 s.lit :: .int .i64 s.why :: flatS ts := rfl
theorem flatS_len : ∀ ts : List Stp, (flatS ts).length = ts.length * 2
  | [] => rfl
  | s :: ts => by rw [flatS_cons, List.length_cons, List.length_cons, flatS_len ts, List.length_cons]; omega
theorem flatS_app (a b : List Stp) : flatS (a ++ b) = flatS a ++ flatS b := by simp [flatS]
theorem flatS_one : ∀ (ts : List Stp), ∀ u ∈ flatS ts, u.oneCell' = true
  | [], u, h => by cases h
  | s :: ts, u, h => by
    rw [flatS_cons] at h
    rcases List.mem_cons.1 h with rfl | h
    · rfl
    · rcases List.mem_cons.1 h with rfl | h
      · rfl
      · exact flatS_one ts u h
theorem flatS_at {ts : List Stp} {j : Nat} (h : j < ts.length) : (flatS ts)[j * 2]? = some (.int .i64 (stp ts j).lit) ∧ (flatS ts)[j * 2 + 1]? = some (.int .i64 (stp ts j).why) := flat_at ts j h
theorem RS.news {w : World} {ad : Addr} {n c : Nat} {ts : List Stp} (h : RS w (some ad) n c ts) : ∀ j u, (flatS ts)[j]? = some u → w.cell? (ad.add j) = some u := by
  intro j u hj
  have hl : j < ts.length * 2 := by rw [← flatS_len]; exact (List.getElem?_eq_some_iff.1 hj).1
  obtain ⟨b, off, he, _, hc⟩ := h.cells (by have := h.len; omega)
  injection he with he
  subst he
  have hd : j / 2 < ts.length := by omega
  obtain ⟨c0, c1⟩ := hc (j / 2) (by rw [← h.len]; exact hd)
  obtain ⟨f0, f1⟩ := flatS_at hd
  rw [Go.WideShapes.add_plain]
  rcases Nat.mod_two_eq_zero_or_one j with e | e
  · have ej : j / 2 * 2 = j := by omega
    rw [ej] at c0 f0
    rw [f0] at hj
    rw [c0]; exact hj
  · have ej : j / 2 * 2 + 1 = j := by omega
    rw [ej] at f1
    rw [Nat.add_assoc, ej] at c1
    rw [f1] at hj
    rw [c1]; exact hj
theorem infoStp : (Try.prog.info? 41).map (fun i => (i.zero, i.size, i.bytes)) = some (some (.agg #[.int .i64 0, .int .i64 0]), 2, 16) := by kernel_rfl

theorem RS.of_own {w : World} {base : Nat} {A : Option Addr} {n c : Nat} {ts : List Stp} (h : w.ownsRow base 41 2 (.slice A n c) n (flatS ts)) (hbig : n * 16 ≤ 140737488355328) : RS w A n c ts := by
  obtain ⟨h1, h2⟩ := h
  rw [flatS_len] at h1
  have hl : ts.length = n := by omega
  rcases h2 with ⟨hv, hn⟩ | ⟨g, cap, cur, hv, hg, hh, hnc, hcm, hcs, htk⟩
  · simp only [Value.slice.injEq] at hv
    obtain ⟨rfl, _, rfl⟩ := hv
    subst hn
    exact ⟨hl, Nat.le_refl _, hbig, Nat.zero_le _, fun h => absurd h (by omega)⟩
  · simp only [Value.slice.injEq] at hv
    obtain ⟨rfl, _, rfl⟩ := hv
    refine ⟨hl, hnc, hbig, hcm, fun hn => ⟨g, 0, rfl, ?_, fun j hj => ?_⟩⟩
    · rcases Nat.lt_or_ge g w.heap.size with hlt | hge
      · exact hlt
      · rw [Array.getElem?_eq_none hge] at hh; cases hh
    · obtain ⟨f0, f1⟩ := flatS_at (ts := ts) (j := j) (by omega)
      have e0 : cur[j * 2]? = some (.int .i64 (stp ts j).lit) := by
        rw [← htk, List.getElem?_take_of_lt (by omega), Array.getElem?_toList] at f0; exact f0
      have e1 : cur[j * 2 + 1]? = some (.int .i64 (stp ts j).why) := by
        rw [← htk, List.getElem?_take_of_lt (by omega), Array.getElem?_toList] at f1; exact f1
      constructor
      · simp [World.cell?, hh, e0]
      · simp [World.cell?, hh, e1]
theorem own_emptyS (w : World) (base s : Nat) (hs : s = w.heap.size) (hb : base ≤ w.heap.size) : (w.alloc (.cells #[] 41)).ownsRow base 41 2 (.slice (some ⟨s, 0, none⟩) 0 0) 0 (flatS []) := by
  subst hs; exact World.ownsRow_made w #[] 0 hb (Nat.zero_le _) rfl

set_option maxRecDepth 100000 in
theorem run_append_st (w : World) (ty : TypeId) (base : Nat) (v : Value) (n : Nat) (xs : List Stp) (hown : w.ownsRow base 41 2 v n (flatS xs))
    (A : Option Addr) (m c : Nat) (zs : List Stp) (hr : RS w A m c zs) (hbytes : (n + m) * 16 ≤ 140737488355328) (hbase : base ≤ w.heap.size) :
    ∃ v' w', (Builtin.append_ #[25, 25] ty #[v, .slice A m c]).run Try.prog w = .ok v' w' ∧ w'.ownsRow base 41 2 v' (n + m) (flatS (xs ++ zs)) ∧ w.grownBy w' v.ownBlock := by
  obtain ⟨i0, hi, hz0, hz1, hz2⟩ := info_parts infoStp
  cases A with
  | none =>
    have hm : m = 0 := by
      rcases Nat.eq_zero_or_pos m with h0 | h0
      · exact h0
      · obtain ⟨b, off, he, _⟩ := hr.cells h0; cases he
    subst hm
    have hz : zs = [] := List.eq_nil_of_length_eq_zero hr.len
    subst hz
    exact ⟨v, w, run_append_none Try.underlying25 w base ty i0 hi v n 2 _ hown c, by simpa using hown, World.grownBy.refl w _⟩
  | some ad =>
    obtain ⟨v', w', h1, h2, h3, _, h5⟩ := run_append_own_at (P := Try.prog) w base 25 ty 41 i0 (.agg #[.int .i64 0, .int .i64 0]) 2 16 Try.underlying25 hi hz0 hz1 hz2 rfl (by decide) v n _ hown ad m c (flatS zs) (by rw [flatS_len, hr.len]) hr.news (flatS_one zs) (by unfold maxLen; omega) hbytes hbase
    exact ⟨v', w', h1, by rw [flatS_app]; exact h2, h3⟩

theorem wpList_append_st {w wr : World} {ops : Array Oper} {rest : List Oper} {o : Oper} {a : Act} {Q : Exit → Act → World → Prop} (hgd : o.guard = none) (s x : Operand)
    (ho : o.op = .call { callee := .builtin .append, args := #[s, x], argTypes := #[25, 25] }) (hb : Below wr.heap.size wr w) (v : Value) (n : Nat) (xs : List Stp) (hs : a.eval s = v) (hown : w.ownsRow wr.heap.size 41 2 v n (flatS xs))
    (A : Option Addr) (m c : Nat) (zs : List Stp) (hx : a.eval x = .slice A m c) (hr : RS w A m c zs) (hbytes : (n + m) * 16 ≤ 140737488355328) (k : Nat) (hk : n + m = k) (ys : List Stp) (hy : xs ++ zs = ys)
    (h : ∀ A' c' w', w'.ownsRow wr.heap.size 41 2 (.slice A' k c') k (flatS ys) → Below wr.heap.size wr w' → wpList Try.prog ops Q rest (a.put o.dst (.slice A' k c')) w') :
    wpList Try.prog ops Q (o :: rest) a w := by
  subst hk hy
  obtain ⟨v', w', h1, h2, h3⟩ := run_append_st w o.type wr.heap.size v n xs hown A m c zs hr hbytes hb.size
  refine wpList_plain hgd fun K hK => ?_
  unfold Oper.wp
  simp only [execOp, ho, resolve, invoke, builtin, Sem.run_bind, Sem.run_pure, Result.andThen_ok, List.map_toArray, List.map_cons, List.map_nil, hs, hx, h1]
  obtain ⟨A', c', rfl⟩ := own_form h2
  exact hK _ _ (h A' c' w' h2 (hb.grown h3 hb.size (fun g hg => (own_lt hown hg).1)))

end Go.Proofs.Ytenpenelikpeeaa
