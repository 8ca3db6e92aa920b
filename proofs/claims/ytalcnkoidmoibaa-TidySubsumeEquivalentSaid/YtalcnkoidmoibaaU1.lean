/-
  An append of a slice that reads as a list, or as a list of lists, to a row of the call's own. No condition.
-/
import Derived.Test.YtalcnkoidmoibaaS2
namespace Go.Proofs.Ytalcnkoidmoibaa
open Go.RowKit Go.Shelf
set_option linter.unusedVariables false
set_option linter.unusedSimpArgs false

theorem run_append_none {t e : TypeId} (ht : Try.prog.underlying t = some (.slice e)) (w : World) (base : Nat) (ty : TypeId) (i0 : TypeInfo) (hi : Try.prog.info? e = some i0) (v : Value) (n size : Nat) (xs : List Value) (hown : w.ownsRow base e size v n xs) (c : Nat) :
    (Builtin.append_ #[t, t] ty #[v, .slice none 0 c]).run Try.prog w = .ok v w := by
  rcases hown.2 with ⟨rfl, rfl⟩ | ⟨g, cap, cur, rfl, _, _, hnc, _⟩
  · simp [Builtin.append_, run_underlying ht, sizeOf, typeInfo, hi, Builtin.lenOf, Builtin.firstCells]
  · simp [Builtin.append_, run_underlying ht, sizeOf, typeInfo, hi, Builtin.lenOf, Builtin.firstCells, hnc, storeCells]

theorem RI.news {w : World} {b off n c : Nat} {zs : List Int} (h : RI w (some ⟨b, off, none⟩) n c zs) : ∀ j u, (zs.map (Value.int .i64))[j]? = some u → w.cell? (Addr.add ⟨b, off, none⟩ j) = some u := by
  intro j u hj
  have hl := h.len
  have hjn : j < n := by have := (List.getElem?_eq_some_iff.1 hj).1; simpa [hl] using this
  obtain ⟨b', off', he, hb, hc⟩ := h.cells (by omega)
  simp only [Option.some.injEq, Addr.mk.injEq] at he
  obtain ⟨rfl, rfl, _⟩ := he
  rw [Addr.add_lit, hc j hjn]
  rw [List.getElem?_map, List.getElem?_eq_getElem (by rw [hl]; exact hjn)] at hj
  rw [elt_lt (by rw [hl]; exact hjn)]
  exact hj

/-- what an append leaves -/
def Appd (w : World) (base : Nat) (e : TypeId) (v : Value) (k : Nat) (ys : List Value) (v' : Value) (w' : World) : Prop :=
  w'.ownsRow base e 1 v' k ys ∧ w.grownBy w' v.ownBlock ∧ (v'.ownBlock = v.ownBlock ∨ v'.ownBlock = some w.heap.size)

set_option maxRecDepth 100000 in
theorem run_append_ri (w : World) (ty : TypeId) (base : Nat) (v : Value) (n : Nat) (xs : List Int) (hown : w.ownsRow base 3 1 v n (xs.map (Value.int .i64)))
    (A : Option Addr) (m c : Nat) (zs : List Int) (hr : RI w A m c zs) (hbytes : (n + m) * 8 ≤ 140737488355328) (hbase : base ≤ w.heap.size) :
    ∃ v' w', (Builtin.append_ #[31, 31] ty #[v, .slice A m c]).run Try.prog w = .ok v' w' ∧ Appd w base 3 v (n + m) ((xs ++ zs).map (Value.int .i64)) v' w' := by
  obtain ⟨i0, hi, hz0, hz1, hz2⟩ := info_parts infoInt
  cases A with
  | none =>
    have hm : m = 0 := by
      rcases Nat.eq_zero_or_pos m with h0 | h0
      · exact h0
      · obtain ⟨b, off, he, _⟩ := hr.cells h0; cases he
    subst hm
    have hz : zs = [] := List.eq_nil_of_length_eq_zero hr.len
    subst hz
    exact ⟨v, w, run_append_none Try.underlying31 w base ty i0 hi v n 1 _ hown c, by simpa using hown, World.grownBy.refl w _, .inl rfl⟩
  | some ad =>
    have hnews : ∀ j u, (zs.map (Value.int .i64))[j]? = some u → w.cell? (ad.add j) = some u := by
      intro j u hj
      have hjn : j < m := by have := (List.getElem?_eq_some_iff.1 hj).1; simpa [hr.len] using this
      obtain ⟨b, off, he, _⟩ := hr.cells (by omega)
      injection he with he
      subst he
      exact hr.news j u hj
    obtain ⟨v', w', h1, h2, h3, _, h5⟩ := run_append_own_at (P := Try.prog) w base 31 ty 3 i0 (.int .i64 0) 1 8 Try.underlying31 hi hz0 hz1 hz2 rfl (by decide) v n _ hown ad m c (zs.map (Value.int .i64)) (by simp [hr.len]) hnews (by intro u hu; obtain ⟨x, _, rfl⟩ := List.mem_map.1 hu; rfl) (by unfold maxLen; omega) hbytes hbase
    exact ⟨v', w', h1, by rw [List.map_append]; exact h2, h3, h5⟩

theorem step_append_ri {w : World} {ops : Array Oper} {o : Oper} {a : Act} {K : Act → World → Prop} {Q : Exit → Act → World → Prop} {E : Prop} (hgd : o.guard = none) (s x : Operand)
    (ho : o.op = .call { callee := .builtin .append, args := #[s, x], argTypes := #[31, 31] }) (base : Nat) (v : Value) (n : Nat) (xs : List Int) (hs : a.eval s = v) (hown : w.ownsRow base 3 1 v n (xs.map (Value.int .i64)))
    (A : Option Addr) (m c : Nat) (zs : List Int) (hx : a.eval x = .slice A m c) (hr : RI w A m c zs) (hbytes : (n + m) * 8 ≤ 140737488355328) (hbase : base ≤ w.heap.size)
    (h : ∀ v' w', Appd w base 3 v (n + m) ((xs ++ zs).map (Value.int .i64)) v' w' → K (a.put o.dst v') w') :
    if Region.wanted o (yielded ops a.tmps) = true then Oper.wp Try.prog o a w K Q else E := by
  have hw : Region.wanted o (yielded ops a.tmps) = true := by simp [Region.wanted, hgd]
  rw [if_pos hw]
  obtain ⟨v', w', h1, h2⟩ := run_append_ri w o.type base v n xs hown A m c zs hr hbytes hbase
  unfold Oper.wp
  simp only [execOp, ho, resolve, invoke, builtin, Sem.run_bind, Sem.run_pure, Result.andThen_ok, List.map_toArray, List.map_cons, List.map_nil, hs, hx, h1]
  exact h v' w' h2

theorem wpList_append_ri {w : World} {ops : Array Oper} {rest : List Oper} {o : Oper} {a : Act} {Q : Exit → Act → World → Prop} (hgd : o.guard = none) (s x : Operand)
    (ho : o.op = .call { callee := .builtin .append, args := #[s, x], argTypes := #[31, 31] }) (base : Nat) (v : Value) (n : Nat) (xs : List Int) (hs : a.eval s = v) (hown : w.ownsRow base 3 1 v n (xs.map (Value.int .i64)))
    (A : Option Addr) (m c : Nat) (zs : List Int) (hx : a.eval x = .slice A m c) (hr : RI w A m c zs) (hbytes : (n + m) * 8 ≤ 140737488355328) (hbase : base ≤ w.heap.size)
    (h : ∀ v' w', Appd w base 3 v (n + m) ((xs ++ zs).map (Value.int .i64)) v' w' → wpList Try.prog ops Q rest (a.put o.dst v') w') :
    wpList Try.prog ops Q (o :: rest) a w := by
  obtain ⟨v', w', h1, h2⟩ := run_append_ri w o.type base v n xs hown A m c zs hr hbytes hbase
  refine wpList_plain hgd fun K hK => ?_
  unfold Oper.wp
  simp only [execOp, ho, resolve, invoke, builtin, Sem.run_bind, Sem.run_pure, Result.andThen_ok, List.map_toArray, List.map_cons, List.map_nil, hs, hx, h1]
  exact hK _ _ (h v' w' h2)

/-- a slice of rows, each with its own value -/
structure RR (w : World) (A : Option Addr) (n c : Nat) (rs : List Row) : Prop where
  len : rs.length = n
  cap : n ≤ c
  big : n * 24 ≤ 140737488355328
  cmax : c ≤ maxLen
  cells : 0 < n → ∃ b off, A = some ⟨b, off, none⟩ ∧ b < w.heap.size ∧ ∀ j u, (rs.map rowV)[j]? = some u → w.cell? ⟨b, off + j, none⟩ = some u
  rows : ∀ r ∈ rs, RI w r.A r.n r.c r.zs
theorem RR.below {w w' : World} {A : Option Addr} {n c : Nat} {rs : List Row} (h : RR w A n c rs) (hb : Below w.heap.size w w') : RR w' A n c rs :=
  ⟨h.len, h.cap, h.big, h.cmax, fun hn => by
    obtain ⟨b, off, rfl, hlt, hc⟩ := h.cells hn
    exact ⟨b, off, rfl, Nat.lt_of_lt_of_le hlt hb.size, fun j u hj => (hb.cell (p := ⟨b, off + j, none⟩) hlt).trans (hc j u hj)⟩, fun r hr => (h.rows r hr).below hb⟩
theorem RR.rl {w : World} {A : Option Addr} {n c : Nat} {rs : List Row} (h : RR w A n c rs) : RL w A n c (rs.map (·.zs)) :=
  ⟨by rw [List.length_map]; exact h.len, h.cap, h.big, h.cmax, fun hn => by
    obtain ⟨b, off, rfl, hlt, hc⟩ := h.cells hn
    refine ⟨b, off, rfl, hlt, fun j hj => ?_⟩
    have hj' : j < rs.length := by rw [h.len]; exact hj
    refine ⟨rs[j].A, rs[j].n, rs[j].c, hc j _ (by rw [List.getElem?_map, List.getElem?_eq_getElem hj']; rfl), ?_⟩
    rw [ell_lt (by simpa using hj')]
    simpa using h.rows _ (List.getElem_mem hj')⟩
theorem rr_list {w : World} {b off : Nat} : ∀ (ls : List (List Int)) (k : Nat), (∀ j, j < ls.length → ∃ A' n' c', w.cell? ⟨b, off + (k + j), none⟩ = some (.slice A' n' c') ∧ RI w A' n' c' (ell ls j)) →
    ∃ rs : List Row, rs.map (·.zs) = ls ∧ (∀ j u, (rs.map rowV)[j]? = some u → w.cell? ⟨b, off + (k + j), none⟩ = some u) ∧ ∀ r ∈ rs, RI w r.A r.n r.c r.zs
  | [], k, h => ⟨[], rfl, fun j u hj => by simp at hj, fun r hr => by cases hr⟩
  | l :: ls, k, h => by
    obtain ⟨A', n', c', h1, h2⟩ := h 0 (by simp)
    obtain ⟨rs, e1, e2, e3⟩ := rr_list (w := w) (b := b) (off := off) ls (k + 1) (fun j hj => by
      obtain ⟨A', n', c', h1, h2⟩ := h (j + 1) (by simpa using hj)
      refine ⟨A', n', c', ?_, h2⟩
      rw [show k + 1 + j = k + (j + 1) by omega]; exact h1)
    refine ⟨⟨A', n', c', l⟩ :: rs, by rw [List.map_cons, e1], fun j u hj => ?_, fun r hr => ?_⟩
    · cases j with
      | zero => simp at hj; subst hj; exact h1
      | succ j => rw [show k + (j + 1) = k + 1 + j by omega]; exact e2 j u (by simpa using hj)
    · rcases List.mem_cons.1 hr with e | e
      · subst e; exact h2
      · exact e3 r e
theorem RL.rr {w : World} {A : Option Addr} {n c : Nat} {ls : List (List Int)} (h : RL w A n c ls) : ∃ rs : List Row, rs.map (·.zs) = ls ∧ RR w A n c rs := by
  rcases Nat.eq_zero_or_pos n with h0 | h0
  · have : ls = [] := List.eq_nil_of_length_eq_zero (by rw [h.len]; exact h0)
    subst this
    exact ⟨[], rfl, ⟨by have := h.len; simpa using this, h.cap, h.big, h.cmax, fun hn => absurd hn (by omega), fun r hr => by cases hr⟩⟩
  · obtain ⟨b, off, e, hlt, hc⟩ := h.cells h0
    obtain ⟨rs, e1, e2, e3⟩ := rr_list (w := w) (b := b) (off := off) ls 0 (fun j hj => by rw [Nat.zero_add]; exact hc j (by rw [← h.len]; exact hj))
    refine ⟨rs, e1, ⟨?_, h.cap, h.big, h.cmax, fun _ => ⟨b, off, e, hlt, fun j u hj => ?_⟩, e3⟩⟩
    · rw [← h.len, ← e1, List.length_map]
    · have := e2 j u hj; rwa [Nat.zero_add] at this

set_option maxRecDepth 100000 in
theorem run_append_rr (w : World) (ty : TypeId) (base : Nat) (v : Value) (n : Nat) (xs : List Row) (hown : w.ownsRow base 31 1 v n (xs.map rowV))
    (A : Option Addr) (m c : Nat) (rs : List Row) (hr : RR w A m c rs) (hbytes : (n + m) * 24 ≤ 140737488355328) (hbase : base ≤ w.heap.size) :
    ∃ v' w', (Builtin.append_ #[27, 27] ty #[v, .slice A m c]).run Try.prog w = .ok v' w' ∧ Appd w base 31 v (n + m) ((xs ++ rs).map rowV) v' w' := by
  obtain ⟨i0, hi, hz0, hz1, hz2⟩ := info_parts infoRow
  cases A with
  | none =>
    have hm : m = 0 := by
      rcases Nat.eq_zero_or_pos m with h0 | h0
      · exact h0
      · obtain ⟨b, off, he, _⟩ := hr.cells h0; cases he
    subst hm
    have hz : rs = [] := List.eq_nil_of_length_eq_zero hr.len
    subst hz
    exact ⟨v, w, run_append_none Try.underlying27 w base ty i0 hi v n 1 _ hown c, by simpa using hown, World.grownBy.refl w _, .inl rfl⟩
  | some ad =>
    have hnews : ∀ j u, (rs.map rowV)[j]? = some u → w.cell? (ad.add j) = some u := by
      intro j u hj
      have hjn : j < m := by have := (List.getElem?_eq_some_iff.1 hj).1; simpa [hr.len] using this
      obtain ⟨b, off, he, _, hc⟩ := hr.cells (by omega)
      injection he with he
      subst he
      rw [Addr.add_lit]
      exact hc j u hj
    obtain ⟨v', w', h1, h2, h3, _, h5⟩ := run_append_own_at (P := Try.prog) w base 27 ty 31 i0 (.slice none 0 0) 1 24 Try.underlying27 hi hz0 hz1 hz2 rfl (by decide) v n _ hown ad m c (rs.map rowV) (by simp [hr.len]) hnews (by intro u hu; obtain ⟨x, _, rfl⟩ := List.mem_map.1 hu; rfl) (by unfold maxLen; omega) hbytes hbase
    exact ⟨v', w', h1, by rw [List.map_append]; exact h2, h3, h5⟩

theorem wpList_append_rr {w : World} {ops : Array Oper} {rest : List Oper} {o : Oper} {a : Act} {Q : Exit → Act → World → Prop} (hgd : o.guard = none) (s x : Operand)
    (ho : o.op = .call { callee := .builtin .append, args := #[s, x], argTypes := #[27, 27] }) (base : Nat) (v : Value) (n : Nat) (xs : List Row) (hs : a.eval s = v) (hown : w.ownsRow base 31 1 v n (xs.map rowV))
    (A : Option Addr) (m c : Nat) (rs : List Row) (hx : a.eval x = .slice A m c) (hr : RR w A m c rs) (hbytes : (n + m) * 24 ≤ 140737488355328) (hbase : base ≤ w.heap.size)
    (h : ∀ v' w', Appd w base 31 v (n + m) ((xs ++ rs).map rowV) v' w' → wpList Try.prog ops Q rest (a.put o.dst v') w') :
    wpList Try.prog ops Q (o :: rest) a w := by
  obtain ⟨v', w', h1, h2⟩ := run_append_rr w o.type base v n xs hown A m c rs hr hbytes hbase
  refine wpList_plain hgd fun K hK => ?_
  unfold Oper.wp
  simp only [execOp, ho, resolve, invoke, builtin, Sem.run_bind, Sem.run_pure, Result.andThen_ok, List.map_toArray, List.map_cons, List.map_nil, hs, hx, h1]
  exact hK _ _ (h v' w' h2)

theorem own_form {w : World} {base : Nat} {e : TypeId} {size : Nat} {v : Value} {n : Nat} {xs : List Value} (h : w.ownsRow base e size v n xs) : ∃ A c, v = .slice A n c := by
  rcases h.2 with ⟨rfl, rfl⟩ | ⟨g, cap, cur, rfl, _⟩
  · exact ⟨none, 0, rfl⟩
  · exact ⟨some ⟨g, 0, none⟩, cap, rfl⟩
/-- a slice made empty -/
theorem own_empty (w : World) (base s : Nat) (e : TypeId) (hs : s = w.heap.size) (hb : base ≤ w.heap.size) : (w.alloc (.cells #[] e)).ownsRow base e 1 (.slice (some ⟨s, 0, none⟩) 0 0) 0 [] := by
  subst hs; exact World.ownsRow_made w #[] 0 hb (Nat.zero_le _) rfl

end Go.Proofs.Ytalcnkoidmoibaa
