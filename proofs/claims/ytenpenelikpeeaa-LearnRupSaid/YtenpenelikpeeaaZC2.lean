/-
  More words for memory: rows of the call's own, blocks of two cells, appends. Turned from this repo's texts of chapter 22. No condition.
-/
import Derived.Test.YtenpenelikpeeaaZC1
import Derived.RangeFuncBox
import Derived.IntWalk
import Derived.OwnWalkIn
import Derived.LoadGo3
import Derived.Lib.OwnBridge
import Derived.Lib.AppendIntMem
import Derived.Deep.RegionLaw
import Derived.Deep.RegionHeld3
import Derived.Deep.CutBlock
import Derived.Deep.DeepCutAuto

namespace Go.Proofs.Ytenpenelikpeeaa
open Go.RowKit Go.Shelf
set_option linter.unusedVariables false
set_option linter.unusedSimpArgs false

/- YtalcnkoidmoibaaM2 -/
theorem wf_lit {x : Int} (h0 : -65536 ≤ x) (h1 : x ≤ 65536) : (Lit.int .i64 x).wf = true := by
  simp [Lit.wf, IntKind.min, IntKind.max, IntKind.bits, IntKind.signed]; omega

/- YtalcnkoidmoibaaN4 -/
theorem infoInt : (Try.prog.info? 3).map (fun i => (i.zero, i.size, i.bytes)) = some (some (.int .i64 0), 1, 8) := by kernel_rfl

/- YtalcnkoidmoibaaC1 -/
/-- a slice value and what it reads as -/
structure Row where
  A : Option Addr
  n : Nat
  c : Nat
  zs : List Int

/- YtalcnkoidmoibaaV1 -/
theorem own_succ {W : World} {base : Nat} {e : TypeId} {size : Nat} {v : Value} {k : Nat} {xs : List Value} (h : W.ownsRow base e size v (k + 1) xs) : ∃ g cap, v = .slice (some ⟨g, 0, none⟩) (k + 1) cap := by
  rcases h.2 with ⟨_, h0⟩ | ⟨g, cap, cur, hv, _⟩
  · omega
  · exact ⟨g, cap, hv⟩

theorem own_lt {w : World} {base : Nat} {e : TypeId} {size : Nat} {v : Value} {n : Nat} {xs : List Value} (h : w.ownsRow base e size v n xs) {g : Nat} (hg : v.ownBlock = some g) : base ≤ g ∧ g < w.heap.size := by
  rcases h.2 with ⟨rfl, _⟩ | ⟨g', cap, cur, rfl, hb, hh, _⟩
  · simp [Value.ownBlock] at hg
  · have : g' = g := by simpa [Value.ownBlock] using hg
    subst this
    refine ⟨hb, ?_⟩
    rcases Nat.lt_or_ge g' w.heap.size with hlt | hge
    · exact hlt
    · rw [Array.getElem?_eq_none hge] at hh; cases hh

theorem grown_below {w w1 : World} {o : Obj} {row : Option Nat} (hg : (w.alloc o).grownBy w1 row) : w.grownBy w1 row :=
  ⟨hg.os, hg.tape, hg.output, Nat.le_trans (by simp) hg.size, fun k hk hne => (hg.block k (by simp; omega) hne).trans (Below.heap_alloc _ _ _ hk)⟩

theorem own_below {B : Nat} {e : TypeId} {k : Nat} {v : Value} {n : Nat} {xs : List Value} {w w' : World} (h : w.ownsRow B e k v n xs) (hb : Below w.heap.size w w') : w'.ownsRow B e k v n xs :=
  h.kept (row := none) ⟨hb.os, hb.tape, hb.output, hb.size, fun j hj _ => hb.block j hj⟩ (by cases hv : v.ownBlock <;> simp)

/- YtalcnkoidmoibaaS1 -/
theorem grow_then {W W1 W2 : World} {row : Option Nat} (h : W.grownBy W1 row) (hb : Below W1.heap.size W1 W2) : W.grownBy W2 row :=
  ⟨hb.os.trans h.os, hb.tape.trans h.tape, hb.output.trans h.output, Nat.le_trans h.size hb.size, fun k hk hne => (hb.block k (Nat.lt_of_lt_of_le hk h.size)).trans (h.block k hk hne)⟩

theorem grow_trans {W W1 W2 : World} {row : Option Nat} (h : W.grownBy W1 row) (h2 : W1.grownBy W2 row) : W.grownBy W2 row :=
  ⟨h2.os.trans h.os, h2.tape.trans h.tape, h2.output.trans h.output, Nat.le_trans h.size h2.size, fun k hk hne => (h2.block k (Nat.lt_of_lt_of_le hk h.size) hne).trans (h.block k hk hne)⟩

theorem grow_cell {W W1 : World} {b : Nat} (h : W.grownBy W1 (some b)) {p : Addr} (hp : p.block < W.heap.size) (hne : p.block ≠ b) : W1.cell? p = W.cell? p :=
  World.cell?_of_block (h.block p.block hp (by simpa using hne))

theorem boxed_below {W W' : World} {B : Nat} {t : TypeId} {v : Value} (h : Boxed W B t v) (hb : Below W.heap.size W W') : Boxed W' B t v := (hb.block B h.lt).trans h

/- YtalcnkoidmoibaaS2 -/
theorem infoRow : (Try.prog.info? 28).map (fun i => (i.zero, i.size, i.bytes)) = some (some (.slice none 0 0), 1, 24) := by kernel_rfl

def rowV (r : Row) : Value := .slice r.A r.n r.c

theorem own_block_ne {w : World} {base base' : Nat} {e e' : TypeId} {s s' : Nat} {v v' : Value} {n n' : Nat} {xs xs' : List Value} (hne : e ≠ e') (h : w.ownsRow base e s v n xs) (h' : w.ownsRow base' e' s' v' n' xs') : v.ownBlock = none ∨ v.ownBlock ≠ v'.ownBlock := by
  rcases h.2 with ⟨rfl, _⟩ | ⟨g, cap, cur, rfl, _, hg, _⟩
  · left; rfl
  · right
    intro heq
    rcases h'.2 with ⟨rfl, _⟩ | ⟨g', cap', cur', rfl, _, hg', _⟩
    · simp [Value.ownBlock] at heq
    · simp [Value.ownBlock] at heq
      subst heq
      rw [hg] at hg'
      simp at hg'
      exact hne hg'.2

/-- a block of two cells -/
def Two (w : World) (B : Nat) (u v : Value) : Prop := w.heap[B]? = some (.cells #[u, v] 24 (0, 0))

theorem Two.lt {w : World} {B : Nat} {u v : Value} (h : Two w B u v) : B < w.heap.size := (Array.getElem?_eq_some_iff.1 h).1

theorem Two.c0 {w : World} {B : Nat} {u v : Value} (h : Two w B u v) : w.cell? ⟨B, 0, none⟩ = some u := by simp [World.cell?, show w.heap[B]? = _ from h]

theorem Two.c1 {w : World} {B : Nat} {u v : Value} (h : Two w B u v) : w.cell? ⟨B, 1, none⟩ = some v := by simp [World.cell?, show w.heap[B]? = _ from h]

theorem Two.f {w : World} {B : Nat} {u v : Value} (h : Two w B u v) (k : Nat) : w.frozen? ⟨B, k, none⟩ = false := by simp [World.frozen?, show w.heap[B]? = _ from h]

theorem Two.below {w w' : World} {B : Nat} {u v : Value} (h : Two w B u v) (hb : Below w.heap.size w w') : Two w' B u v := (hb.block B h.lt).trans h

theorem Two.kept {w w' : World} {B : Nat} {u v : Value} {row : Option Nat} (h : Two w B u v) (hg : w.grownBy w' row) (hne : some B ≠ row) : Two w' B u v := (hg.block B h.lt hne).trans h

theorem Two.new (w : World) (u v : Value) : Two (w.alloc (.cells #[u, v] 24)) w.heap.size u v := World.alloc_heap_new w _

theorem Two.set1 {w : World} {B : Nat} {u v : Value} (h : Two w B u v) (v' : Value) : Two (w.setCell ⟨B, 1, none⟩ v') B u v' := by
  obtain ⟨hlt, hk⟩ := Array.getElem?_eq_some_iff.1 h
  show (w.heap.modify B _)[B]? = _
  rw [Array.getElem?_eq_getElem (by rw [Array.size_modify]; exact hlt), Array.getElem_modify_self, hk]
  rfl

theorem Two.set0 {w : World} {B : Nat} {u v : Value} (h : Two w B u v) (u' : Value) : Two (w.setCell ⟨B, 0, none⟩ u') B u' v := by
  obtain ⟨hlt, hk⟩ := Array.getElem?_eq_some_iff.1 h
  show (w.heap.modify B _)[B]? = _
  rw [Array.getElem?_eq_getElem (by rw [Array.size_modify]; exact hlt), Array.getElem_modify_self, hk]
  rfl

theorem grown_set {w : World} {B k : Nat} (v : Value) : w.grownBy (w.setCell ⟨B, k, none⟩ v) (some B) :=
  ⟨rfl, rfl, rfl, (KeepsWalks.setCell w _ v).size, fun j _ hj => Below.heap_setCell _ _ _ j (fun e => hj (by rw [e]))⟩

theorem own_two {w : World} {B k base : Nat} {e : TypeId} {v p q : Value} {n : Nat} {xs : List Value} (h : w.ownsRow base e 1 v n xs) (he : e ≠ 24) (t : Two w B p q) (u : Value) : (w.setCell ⟨B, k, none⟩ u).ownsRow base e 1 v n xs := by
  refine h.kept (grown_set u) ?_
  rcases h.2 with ⟨rfl, _⟩ | ⟨g, cap, cur, rfl, _, hg, _⟩
  · exact .inl rfl
  · refine .inr fun e' => ?_
    obtain rfl : g = B := by simpa [Value.ownBlock] using e'
    rw [show w.heap[g]? = _ from t] at hg
    simp at hg
    exact he hg.2.symm

/- YtalcnkoidmoibaaU1 -/
theorem run_append_none {t e : TypeId} (ht : Try.prog.underlying t = some (.slice e)) (w : World) (base : Nat) (ty : TypeId) (i0 : TypeInfo) (hi : Try.prog.info? e = some i0) (v : Value) (n size : Nat) (xs : List Value) (hown : w.ownsRow base e size v n xs) (c : Nat) :
    (Builtin.append_ #[t, t] ty #[v, .slice none 0 c]).run Try.prog w = .ok v w := by
  rcases hown.2 with ⟨rfl, rfl⟩ | ⟨g, cap, cur, rfl, _, _, hnc, _⟩
  · simp [Builtin.append_, run_underlying ht, sizeOf, typeInfo, hi, Builtin.lenOf, Builtin.firstCells]
  · simp [Builtin.append_, run_underlying ht, sizeOf, typeInfo, hi, Builtin.lenOf, Builtin.firstCells, hnc, storeCells]

theorem RI.news {w : World} {b off n c : Nat} {zs : List Int} (h : RI w (some ⟨b, off, none⟩) n c zs) : ∀ j u, (zs.map (Value.int .i64))[j]? = some u → w.cell? (Addr.add ⟨b, off, none⟩ j) = some u := by
  intro j u hj
  have hl := h.len
  have hjn : j < n := by have := (List.getElem?_eq_some_iff.1 hj).1; simpa [hl] using this
  obtain ⟨b', off', he, hb, hc⟩ := h.cells (by omega)
  simp only [Option.some.injEq, Addr.mk.injEq] at he
  obtain ⟨rfl, rfl, _⟩ := he
  rw [Addr.add_lit, hc j hjn]
  rw [List.getElem?_map, List.getElem?_eq_getElem (by rw [hl]; exact hjn)] at hj
  rw [elt_lt (by rw [hl]; exact hjn)]
  exact hj

/-- what an append leaves -/
def Appd (w : World) (base : Nat) (e : TypeId) (v : Value) (k : Nat) (ys : List Value) (v' : Value) (w' : World) : Prop :=
  w'.ownsRow base e 1 v' k ys ∧ w.grownBy w' v.ownBlock ∧ (v'.ownBlock = v.ownBlock ∨ v'.ownBlock = some w.heap.size)

set_option maxRecDepth 100000 in
theorem run_append_ri (w : World) (ty : TypeId) (base : Nat) (v : Value) (n : Nat) (xs : List Int) (hown : w.ownsRow base 3 1 v n (xs.map (Value.int .i64)))
    (A : Option Addr) (m c : Nat) (zs : List Int) (hr : RI w A m c zs) (hbytes : (n + m) * 8 ≤ 140737488355328) (hbase : base ≤ w.heap.size) :
    ∃ v' w', (Builtin.append_ #[28, 28] ty #[v, .slice A m c]).run Try.prog w = .ok v' w' ∧ Appd w base 3 v (n + m) ((xs ++ zs).map (Value.int .i64)) v' w' := by
  obtain ⟨i0, hi, hz0, hz1, hz2⟩ := info_parts infoInt
  cases A with
  | none =>
    have hm : m = 0 := by
      rcases Nat.eq_zero_or_pos m with h0 | h0
      · exact h0
      · obtain ⟨b, off, he, _⟩ := hr.cells h0; cases he
    subst hm
    have hz : zs = [] := List.eq_nil_of_length_eq_zero hr.len
    subst hz
    exact ⟨v, w, run_append_none Try.underlying28 w base ty i0 hi v n 1 _ hown c, by simpa using hown, World.grownBy.refl w _, .inl rfl⟩
  | some ad =>
    have hnews : ∀ j u, (zs.map (Value.int .i64))[j]? = some u → w.cell? (ad.add j) = some u := by
      intro j u hj
      have hjn : j < m := by have := (List.getElem?_eq_some_iff.1 hj).1; simpa [hr.len] using this
      obtain ⟨b, off, he, _⟩ := hr.cells (by omega)
      injection he with he
      subst he
      exact hr.news j u hj
    obtain ⟨v', w', h1, h2, h3, _, h5⟩ := run_append_own_at (P := Try.prog) w base 28 ty 3 i0 (.int .i64 0) 1 8 Try.underlying28 hi hz0 hz1 hz2 rfl (by decide) v n _ hown ad m c (zs.map (Value.int .i64)) (by simp [hr.len]) hnews (by intro u hu; obtain ⟨x, _, rfl⟩ := List.mem_map.1 hu; rfl) (by unfold maxLen; omega) hbytes hbase
    exact ⟨v', w', h1, by rw [List.map_append]; exact h2, h3, h5⟩

theorem step_append_ri {w : World} {ops : Array Oper} {o : Oper} {a : Act} {K : Act → World → Prop} {Q : Exit → Act → World → Prop} {E : Prop} (hgd : o.guard = none) (s x : Operand)
    (ho : o.op = .call { callee := .builtin .append, args := #[s, x], argTypes := #[28, 28] }) (base : Nat) (v : Value) (n : Nat) (xs : List Int) (hs : a.eval s = v) (hown : w.ownsRow base 3 1 v n (xs.map (Value.int .i64)))
    (A : Option Addr) (m c : Nat) (zs : List Int) (hx : a.eval x = .slice A m c) (hr : RI w A m c zs) (hbytes : (n + m) * 8 ≤ 140737488355328) (hbase : base ≤ w.heap.size)
    (h : ∀ v' w', Appd w base 3 v (n + m) ((xs ++ zs).map (Value.int .i64)) v' w' → K (a.put o.dst v') w') :
    if Region.wanted o (yielded ops a.tmps) = true then Oper.wp Try.prog o a w K Q else E := by
  have hw : Region.wanted o (yielded ops a.tmps) = true := by simp [Region.wanted, hgd]
  rw [if_pos hw]
  obtain ⟨v', w', h1, h2⟩ := run_append_ri w o.type base v n xs hown A m c zs hr hbytes hbase
  unfold Oper.wp
  simp only [execOp, ho, resolve, invoke, builtin, Sem.run_bind, Sem.run_pure, Result.andThen_ok, List.map_toArray, List.map_cons, List.map_nil, hs, hx, h1]
  exact h v' w' h2

theorem wpList_append_ri {w : World} {ops : Array Oper} {rest : List Oper} {o : Oper} {a : Act} {Q : Exit → Act → World → Prop} (hgd : o.guard = none) (s x : Operand)
    (ho : o.op = .call { callee := .builtin .append, args := #[s, x], argTypes := #[28, 28] }) (base : Nat) (v : Value) (n : Nat) (xs : List Int) (hs : a.eval s = v) (hown : w.ownsRow base 3 1 v n (xs.map (Value.int .i64)))
    (A : Option Addr) (m c : Nat) (zs : List Int) (hx : a.eval x = .slice A m c) (hr : RI w A m c zs) (hbytes : (n + m) * 8 ≤ 140737488355328) (hbase : base ≤ w.heap.size)
    (h : ∀ v' w', Appd w base 3 v (n + m) ((xs ++ zs).map (Value.int .i64)) v' w' → wpList Try.prog ops Q rest (a.put o.dst v') w') :
    wpList Try.prog ops Q (o :: rest) a w := by
  obtain ⟨v', w', h1, h2⟩ := run_append_ri w o.type base v n xs hown A m c zs hr hbytes hbase
  refine wpList_plain hgd fun K hK => ?_
  unfold Oper.wp
  simp only [execOp, ho, resolve, invoke, builtin, Sem.run_bind, Sem.run_pure, Result.andThen_ok, List.map_toArray, List.map_cons, List.map_nil, hs, hx, h1]
  exact hK _ _ (h v' w' h2)

/-- a slice of rows, each with its own value -/
structure RR (w : World) (A : Option Addr) (n c : Nat) (rs : List Row) : Prop where
  len : rs.length = n
  cap : n ≤ c
  big : n * 24 ≤ 140737488355328
  cmax : c ≤ maxLen
  cells : 0 < n → ∃ b off, A = some ⟨b, off, none⟩ ∧ b < w.heap.size ∧ ∀ j u, (rs.map rowV)[j]? = some u → w.cell? ⟨b, off + j, none⟩ = some u
  rows : ∀ r ∈ rs, RI w r.A r.n r.c r.zs

theorem RR.below {w w' : World} {A : Option Addr} {n c : Nat} {rs : List Row} (h : RR w A n c rs) (hb : Below w.heap.size w w') : RR w' A n c rs :=
  ⟨h.len, h.cap, h.big, h.cmax, fun hn => by
    obtain ⟨b, off, rfl, hlt, hc⟩ := h.cells hn
    exact ⟨b, off, rfl, Nat.lt_of_lt_of_le hlt hb.size, fun j u hj => (hb.cell (p := ⟨b, off + j, none⟩) hlt).trans (hc j u hj)⟩, fun r hr => (h.rows r hr).below hb⟩

theorem RR.rl {w : World} {A : Option Addr} {n c : Nat} {rs : List Row} (h : RR w A n c rs) : RL w A n c (rs.map (·.zs)) :=
  ⟨by rw [List.length_map]; exact h.len, h.cap, h.big, h.cmax, fun hn => by
    obtain ⟨b, off, rfl, hlt, hc⟩ := h.cells hn
    refine ⟨b, off, rfl, hlt, fun j hj => ?_⟩
    have hj' : j < rs.length := by rw [h.len]; exact hj
    refine ⟨rs[j].A, rs[j].n, rs[j].c, hc j _ (by rw [List.getElem?_map, List.getElem?_eq_getElem hj']; rfl), ?_⟩
    rw [ell_lt (by simpa using hj')]
    simpa using h.rows _ (List.getElem_mem hj')⟩

theorem rr_list {w : World} {b off : Nat} : ∀ (ls : List (List Int)) (k : Nat), (∀ j, j < ls.length → ∃ A' n' c', w.cell? ⟨b, off + (k + j), none⟩ = some (.slice A' n' c') ∧ RI w A' n' c' (ell ls j)) →
    ∃ rs : List Row, rs.map (·.zs) = ls ∧ (∀ j u, (rs.map rowV)[j]? = some u → w.cell? ⟨b, off + (k + j), none⟩ = some u) ∧ ∀ r ∈ rs, RI w r.A r.n r.c r.zs
  | [], k, h => ⟨[], rfl, fun j u hj => by simp at hj, fun r hr => by cases hr⟩
  | l :: ls, k, h => by
    obtain ⟨A', n', c', h1, h2⟩ := h 0 (by simp)
    obtain ⟨rs, e1, e2, e3⟩ := rr_list (w := w) (b := b) (off := off) ls (k + 1) (fun j hj => by
      obtain ⟨A', n', c', h1, h2⟩ := h (j + 1) (by simpa using hj)
      refine ⟨A', n', c', ?_, h2⟩
      rw [show k + 1 + j = k + (j + 1) by omega]; exact h1)
    refine ⟨⟨A', n', c', l⟩ :: rs, by rw [List.map_cons, e1], fun j u hj => ?_, fun r hr => ?_⟩
    · cases j with
      | zero => simp at hj; subst hj; exact h1
      | succ j => rw [show k + (j + 1) = k + 1 + j by omega]; exact e2 j u (by simpa using hj)
    · rcases List.mem_cons.1 hr with e | e
      · subst e; exact h2
      · exact e3 r e

theorem RL.rr {w : World} {A : Option Addr} {n c : Nat} {ls : List (List Int)} (h : RL w A n c ls) : ∃ rs : List Row, rs.map (·.zs) = ls ∧ RR w A n c rs := by
  rcases Nat.eq_zero_or_pos n with h0 | h0
  · have : ls = [] := List.eq_nil_of_length_eq_zero (by rw [h.len]; exact h0)
    subst this
    exact ⟨[], rfl, ⟨by have := h.len; simpa using this, h.cap, h.big, h.cmax, fun hn => absurd hn (by omega), fun r hr => by cases hr⟩⟩
  · obtain ⟨b, off, e, hlt, hc⟩ := h.cells h0
    obtain ⟨rs, e1, e2, e3⟩ := rr_list (w := w) (b := b) (off := off) ls 0 (fun j hj => by rw [Nat.zero_add]; exact hc j (by rw [← h.len]; exact hj))
    refine ⟨rs, e1, ⟨?_, h.cap, h.big, h.cmax, fun _ => ⟨b, off, e, hlt, fun j u hj => ?_⟩, e3⟩⟩
    · rw [← h.len, ← e1, List.length_map]
    · have := e2 j u hj; rwa [Nat.zero_add] at this

set_option maxRecDepth 100000 in
theorem run_append_rr (w : World) (ty : TypeId) (base : Nat) (v : Value) (n : Nat) (xs : List Row) (hown : w.ownsRow base 28 1 v n (xs.map rowV))
    (A : Option Addr) (m c : Nat) (rs : List Row) (hr : RR w A m c rs) (hbytes : (n + m) * 24 ≤ 140737488355328) (hbase : base ≤ w.heap.size) :
    ∃ v' w', (Builtin.append_ #[22, 22] ty #[v, .slice A m c]).run Try.prog w = .ok v' w' ∧ Appd w base 28 v (n + m) ((xs ++ rs).map rowV) v' w' := by
  obtain ⟨i0, hi, hz0, hz1, hz2⟩ := info_parts infoRow
  cases A with
  | none =>
    have hm : m = 0 := by
      rcases Nat.eq_zero_or_pos m with h0 | h0
      · exact h0
      · obtain ⟨b, off, he, _⟩ := hr.cells h0; cases he
    subst hm
    have hz : rs = [] := List.eq_nil_of_length_eq_zero hr.len
    subst hz
    exact ⟨v, w, run_append_none Try.underlying22 w base ty i0 hi v n 1 _ hown c, by simpa using hown, World.grownBy.refl w _, .inl rfl⟩
  | some ad =>
    have hnews : ∀ j u, (rs.map rowV)[j]? = some u → w.cell? (ad.add j) = some u := by
      intro j u hj
      have hjn : j < m := by have := (List.getElem?_eq_some_iff.1 hj).1; simpa [hr.len] using this
      obtain ⟨b, off, he, _, hc⟩ := hr.cells (by omega)
      injection he with he
      subst he
      rw [Addr.add_lit]
      exact hc j u hj
    obtain ⟨v', w', h1, h2, h3, _, h5⟩ := run_append_own_at (P := Try.prog) w base 22 ty 28 i0 (.slice none 0 0) 1 24 Try.underlying22 hi hz0 hz1 hz2 rfl (by decide) v n _ hown ad m c (rs.map rowV) (by simp [hr.len]) hnews (by intro u hu; obtain ⟨x, _, rfl⟩ := List.mem_map.1 hu; rfl) (by unfold maxLen; omega) hbytes hbase
    exact ⟨v', w', h1, by rw [List.map_append]; exact h2, h3, h5⟩

theorem wpList_append_rr {w : World} {ops : Array Oper} {rest : List Oper} {o : Oper} {a : Act} {Q : Exit → Act → World → Prop} (hgd : o.guard = none) (s x : Operand)
    (ho : o.op = .call { callee := .builtin .append, args := #[s, x], argTypes := #[22, 22] }) (base : Nat) (v : Value) (n : Nat) (xs : List Row) (hs : a.eval s = v) (hown : w.ownsRow base 28 1 v n (xs.map rowV))
    (A : Option Addr) (m c : Nat) (rs : List Row) (hx : a.eval x = .slice A m c) (hr : RR w A m c rs) (hbytes : (n + m) * 24 ≤ 140737488355328) (hbase : base ≤ w.heap.size)
    (h : ∀ v' w', Appd w base 28 v (n + m) ((xs ++ rs).map rowV) v' w' → wpList Try.prog ops Q rest (a.put o.dst v') w') :
    wpList Try.prog ops Q (o :: rest) a w := by
  obtain ⟨v', w', h1, h2⟩ := run_append_rr w o.type base v n xs hown A m c rs hr hbytes hbase
  refine wpList_plain hgd fun K hK => ?_
  unfold Oper.wp
  simp only [execOp, ho, resolve, invoke, builtin, Sem.run_bind, Sem.run_pure, Result.andThen_ok, List.map_toArray, List.map_cons, List.map_nil, hs, hx, h1]
  exact hK _ _ (h v' w' h2)

theorem own_form {w : World} {base : Nat} {e : TypeId} {size : Nat} {v : Value} {n : Nat} {xs : List Value} (h : w.ownsRow base e size v n xs) : ∃ A c, v = .slice A n c := by
  rcases h.2 with ⟨rfl, rfl⟩ | ⟨g, cap, cur, rfl, _⟩
  · exact ⟨none, 0, rfl⟩
  · exact ⟨some ⟨g, 0, none⟩, cap, rfl⟩

/-- a slice made empty -/
theorem own_empty (w : World) (base s : Nat) (e : TypeId) (hs : s = w.heap.size) (hb : base ≤ w.heap.size) : (w.alloc (.cells #[] e)).ownsRow base e 1 (.slice (some ⟨s, 0, none⟩) 0 0) 0 [] := by
  subst hs; exact World.ownsRow_made w #[] 0 hb (Nat.zero_le _) rfl

/- YtalcnkoidmoibaaLive -/
def intsO (zs : List Int) : Obj := .cells ((zs.map (Value.int .i64)).toArray) 3

theorem RI.lit (w : World) (zs : List Int) (n s : Nat) (hn : zs.length = n) (hs : s = w.heap.size) (h : n ≤ 1000) : RI (w.alloc (intsO zs)) (some ⟨s, 0, none⟩) n n zs := by
  subst hs
  refine ⟨hn, Nat.le_refl _, by omega, by unfold maxLen; omega, fun h0 => ⟨w.heap.size, 0, rfl, by simp, fun j hj => ?_⟩⟩
  have hb : (w.alloc (intsO zs)).heap[w.heap.size]? = some (intsO zs) := World.alloc_heap_new w _
  generalize w.alloc (intsO zs) = W at hb
  have : ((zs.map (Value.int .i64)).toArray)[j]? = some (.int .i64 (elt zs j)) := by
    rw [List.getElem?_toArray, List.getElem?_map, List.getElem?_eq_getElem (by omega : j < zs.length), elt_lt (by omega)]
    rfl
  unfold intsO at hb
  simp [World.cell?, hb, this]

theorem RL.lit {w : World} {W : World} {rs : List Row} {n s : Nat} {ls : List (List Int)} (hls : rs.map (·.zs) = ls) (hn : rs.length = n) (hs : s = w.heap.size) (h : n ≤ 1000) (hW : W = w.alloc (.cells ((rs.map rowV).toArray) 31)) (hi : ∀ r ∈ rs, RI w r.A r.n r.c r.zs) : RL W (some ⟨s, 0, none⟩) n n ls := by
  subst hs hW hls
  refine ⟨by simpa using hn, Nat.le_refl _, by omega, by unfold maxLen; omega, fun h0 => ⟨w.heap.size, 0, rfl, by simp, fun j hj => ?_⟩⟩
  have hj' : j < rs.length := by omega
  have hri := (hi _ (List.getElem_mem hj')).alloc (.cells ((rs.map rowV).toArray) 31)
  have hb : (w.alloc (.cells ((rs.map rowV).toArray) 31)).heap[w.heap.size]? = some (.cells ((rs.map rowV).toArray) 31) := World.alloc_heap_new w _
  generalize w.alloc (.cells ((rs.map rowV).toArray) 31) = W at hb hri
  have : ((rs.map rowV).toArray)[j]? = some (rowV rs[j]) := by
    rw [List.getElem?_toArray, List.getElem?_map, List.getElem?_eq_getElem hj']
    rfl
  refine ⟨rs[j].A, rs[j].n, rs[j].c, ?_, ?_⟩
  · have h1 : W.cell? ⟨w.heap.size, 0 + j, none⟩ = ((rs.map rowV).toArray)[0 + j]? := by
      unfold World.cell?
      simp only [hb]
      rfl
    rw [h1, Nat.zero_add, this]
    rfl
  · rw [ell_lt (by simpa using hj')]
    simpa using hri

/- YtalcnkoidmoibaaU2 -/
theorem own_set {w : World} {base : Nat} {e : TypeId} {g n cap k : Nat} {xs : List Value} (h : w.ownsRow base e 1 (.slice (some ⟨g, 0, none⟩) n cap) n xs) (u : Value) :
    (w.setCell ⟨g, k, none⟩ u).ownsRow base e 1 (.slice (some ⟨g, 0, none⟩) n cap) n (xs.set k u) := by
  obtain ⟨h1, h2⟩ := h
  rcases h2 with ⟨hv, _⟩ | ⟨g', cap', cur, hv, hb, hh, hnc, hcm, hcs, htk⟩
  · cases hv
  · cases hv
    refine ⟨by rw [List.length_set]; exact h1, .inr ⟨g, cap, cur.setIfInBounds k u, rfl, hb, ?_, hnc, hcm, by rw [Array.size_setIfInBounds]; exact hcs, ?_⟩⟩
    · obtain ⟨hlt, hk⟩ := Array.getElem?_eq_some_iff.1 hh
      show (w.heap.modify g _)[g]? = _
      rw [Array.getElem?_eq_getElem (by rw [Array.size_modify]; exact hlt), Array.getElem_modify_self, hk]
      rfl
    · rw [Array.toList_setIfInBounds, List.take_set, htk]

theorem step_append_rr {w : World} {ops : Array Oper} {o : Oper} {a : Act} {K : Act → World → Prop} {Q : Exit → Act → World → Prop} {E : Prop} (hgd : o.guard = none) (s x : Operand)
    (ho : o.op = .call { callee := .builtin .append, args := #[s, x], argTypes := #[22, 22] }) (base : Nat) (v : Value) (n : Nat) (xs : List Row) (hs : a.eval s = v) (hown : w.ownsRow base 28 1 v n (xs.map rowV))
    (A : Option Addr) (m c : Nat) (rs : List Row) (hx : a.eval x = .slice A m c) (hr : RR w A m c rs) (hbytes : (n + m) * 24 ≤ 140737488355328) (hbase : base ≤ w.heap.size)
    (h : ∀ v' w', Appd w base 28 v (n + m) ((xs ++ rs).map rowV) v' w' → K (a.put o.dst v') w') :
    if Region.wanted o (yielded ops a.tmps) = true then Oper.wp Try.prog o a w K Q else E := by
  have hw : Region.wanted o (yielded ops a.tmps) = true := by simp [Region.wanted, hgd]
  rw [if_pos hw]
  obtain ⟨v', w', h1, h2⟩ := run_append_rr w o.type base v n xs hown A m c rs hr hbytes hbase
  unfold Oper.wp
  simp only [execOp, ho, resolve, invoke, builtin, Sem.run_bind, Sem.run_pure, Result.andThen_ok, List.map_toArray, List.map_cons, List.map_nil, hs, hx, h1]
  exact h v' w' h2

/-- a row of rows reads as a list of lists -/
theorem RL.of_own {w : World} {base : Nat} {A : Option Addr} {n c : Nat} {rs : List Row} (h : w.ownsRow base 28 1 (.slice A n c) n (rs.map rowV)) (hi : ∀ r ∈ rs, RI w r.A r.n r.c r.zs) (hbig : n * 24 ≤ 140737488355328) : RL w A n c (rs.map (·.zs)) := by
  obtain ⟨h1, h2⟩ := h
  have hl : rs.length = n := by simpa using h1
  rcases h2 with ⟨hv, hn⟩ | ⟨g, cap, cur, hv, hg, hh, hnc, hcm, hcs, htk⟩
  · simp only [Value.slice.injEq] at hv
    obtain ⟨rfl, _, rfl⟩ := hv
    subst hn
    exact ⟨by simpa using hl, Nat.le_refl _, hbig, Nat.zero_le _, fun h => absurd h (by omega)⟩
  · simp only [Value.slice.injEq] at hv
    obtain ⟨rfl, _, rfl⟩ := hv
    refine ⟨by simpa using hl, hnc, hbig, hcm, fun hn => ⟨g, 0, rfl, ?_, fun j hj => ?_⟩⟩
    · rcases Nat.lt_or_ge g w.heap.size with hlt | hge
      · exact hlt
      · rw [Array.getElem?_eq_none hge] at hh; cases hh
    · have hj' : j < rs.length := by omega
      have e : cur[j]? = some (rowV rs[j]) := by
        have h3 : (cur.toList.take (n * 1))[j]? = (rs.map rowV)[j]? := by rw [htk]
        rw [List.getElem?_take_of_lt (by omega), List.getElem?_map, List.getElem?_eq_getElem hj'] at h3
        rw [← Array.getElem?_toList, h3]
        rfl
      refine ⟨rs[j].A, rs[j].n, rs[j].c, by simp [World.cell?, hh, e]; rfl, ?_⟩
      have := hi _ (List.getElem_mem hj')
      rw [ell_lt (by simpa using hj')]
      simpa using this

/- YtalcnkoidmoibaaF2 -/
theorem RI.take {w : World} {A : Option Addr} {n c : Nat} {zs : List Int} (h : RI w A n c zs) {k : Nat} (hk : k ≤ n) : RI w A k c (zs.take k) := by
  have hb := h.big
  have hc := h.cap
  refine ⟨by simp [h.len]; omega, by omega, by omega, h.cmax, fun h0 => ?_⟩
  obtain ⟨b, off, rfl, hlt, hcs⟩ := h.cells (by omega)
  refine ⟨b, off, rfl, hlt, fun j hj => ?_⟩
  rw [hcs j (by omega)]
  unfold elt
  simp [List.getD_eq_getElem?_getD, List.getElem?_take, hj]

theorem RI.cut {w : World} {A : Option Addr} {n c : Nat} {zs : List Int} (h : RI w A n c zs) {k : Nat} (hk : k ≤ n) : RI w (Option.map (fun x => x.add k) A) (n - k) (c - k) (zs.drop k) := by
  have hl := h.len
  have hc := h.cap
  have hb := h.big
  have hm := h.cmax
  refine ⟨by simp [hl], by omega, by omega, by omega, fun h0 => ?_⟩
  obtain ⟨b, off, rfl, hlt, hcs⟩ := h.cells (by omega)
  refine ⟨b, off + k, by rw [Option.map_some, Addr.add_lit], hlt, fun j hj => ?_⟩
  have := hcs (k + j) (by omega)
  rw [show off + (k + j) = off + k + j by omega] at this
  rw [this]
  simp [elt, List.getD_eq_getElem?_getD]

theorem RI.zero {w : World} {A : Option Addr} {m c : Nat} {zs : List Int} (hm : m = 0) (hz : zs.length = 0) (hc : c ≤ maxLen) : RI w A m c zs := by
  subst hm
  rw [List.eq_nil_of_length_eq_zero hz]
  exact RI.nil w A c hc

theorem wpList_append_to {w wr : World} {ops : Array Oper} {rest : List Oper} {o : Oper} {a : Act} {Q : Exit → Act → World → Prop} (hgd : o.guard = none) (s x : Operand)
    (ho : o.op = .call { callee := .builtin .append, args := #[s, x], argTypes := #[28, 28] }) (hb : Below wr.heap.size wr w) (v : Value) (n : Nat) (xs : List Int) (hs : a.eval s = v) (hown : w.ownsRow wr.heap.size 3 1 v n (xs.map (Value.int .i64)))
    (A : Option Addr) (m c : Nat) (zs : List Int) (hx : a.eval x = .slice A m c) (hr : RI w A m c zs) (hbytes : (n + m) * 8 ≤ 140737488355328) (k : Nat) (hk : n + m = k) (ys : List Int) (hy : xs ++ zs = ys)
    (h : ∀ A' c' w', w'.ownsRow wr.heap.size 3 1 (.slice A' k c') k (ys.map (Value.int .i64)) → Below wr.heap.size wr w' → wpList Try.prog ops Q rest (a.put o.dst (.slice A' k c')) w') :
    wpList Try.prog ops Q (o :: rest) a w := by
  subst hk hy
  refine wpList_append_ri hgd s x ho wr.heap.size v n xs hs hown A m c zs hx hr hbytes hb.size ?_
  intro v' w' ⟨h1, h2, h3⟩
  obtain ⟨A', c', rfl⟩ := own_form h1
  exact h A' c' w' h1 (hb.grown h2 hb.size (fun g hg => (own_lt hown hg).1))

/- YtalcnkoidmoibaaF2 -/
theorem has_val (r : Bool) (A : Option Addr) (n c : Nat) (zs : List Int) (x : Int) (w : World) (h : RI w A n c zs) (hr : hasB zs x = r) :
    Calls Try.prog 72 #[.slice A n c, .int .i64 x] w fun e w' => e = .returned (.bool r) ∧ w = w' := by
  have := has_any A n c zs x w h
  rw [hr] at this; exact this

/- YtalcnkoidmoibaaK4 -/
theorem okl_wfl {zs : List Int} (h : Okl zs) : Wfl zs := fun y hy => wf_lit (h y hy).2.1 (h y hy).2.2

/- YtalcnkoidmoibaaF3 -/
theorem okl_neg {l : List Int} (h : Okl l) : Okl (l.map (-·)) := by
  intro x hx
  obtain ⟨y, hy, rfl⟩ := List.mem_map.1 hx
  have := h y hy
  refine ⟨?_, ?_, ?_⟩ <;> omega

theorem mem_neg {l : List Int} {x : Int} : x ∈ l.map (-·) ↔ -x ∈ l := by
  rw [List.mem_map]
  exact ⟨fun ⟨y, hy, e⟩ => by rw [← e, Int.neg_neg]; exact hy, fun h => ⟨-x, h, Int.neg_neg x⟩⟩

end Go.Proofs.Ytenpenelikpeeaa
