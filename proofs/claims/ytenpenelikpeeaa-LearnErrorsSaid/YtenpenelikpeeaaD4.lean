/-
  The state of First between its loops; Backward. No condition.
-/
import Derived.Test.YtenpenelikpeeaaD3
import Derived.Laws.EntriesVeiled
namespace Go.Proofs.Ytenpenelikpeeaa
open Go.RowKit Go.Shelf
set_option linter.unusedVariables false
set_option linter.unusedSimpArgs false

abbrev fnV (F : Fx) : Value := .func (.func 33) #[] #[.pointer (some ⟨F.Bm, 0, none⟩), .pointer (some ⟨F.Bk, 0, none⟩), .pointer (some ⟨F.Bl, 0, none⟩), .pointer (some ⟨F.Bh, 0, none⟩)]
/-- First's state before its loop -/
structure FU (w W : World) (F : Fx) (B13 : Nat) (m : Nat) (S : List Int) (hi : Int) : Prop where
  fs : FS w W F m S hi
  two : Two W w.heap.size (.int .i64 F.x) (.slice F.A F.n F.c)
  fn : Boxed W B13 63 (fnV F)
/-- First's state in its loops -/
structure FT (w W : World) (F : Fx) (B13 Bf : Nat) (m : Nat) (S : List Int) (hi fi : Int) : Prop where
  fu : FU w W F B13 m S hi
  bf : Boxed W Bf 3 (.int .i64 fi)
  ne1 : Bf ≠ F.Bl
  ne2 : Bf ≠ F.Bh
  lo : w.heap.size ≤ Bf

theorem two_ne_boxed {w : World} {B B' : Nat} {u v x : Value} {t : TypeId} (h : Two w B u v) (h' : Boxed w B' t x) : B ≠ B' := fun e => by
  have h1 : w.heap[B]? = _ := h
  rw [e, show w.heap[B']? = _ from h'] at h1
  simp at h1
theorem two_ne_map {β : Type} {e : TypeId} {ed : β → DataW Unit} {w : World} {b n B : Nat} {f : Int → Option β} {u v : Value} (h : MF e ed w b n f) (hB : Two w B u v) : B ≠ b := fun e1 => by
  obtain ⟨es, clock, h1⟩ := map_block h
  rw [← e1, show w.heap[B]? = _ from hB] at h1; cases h1
theorem Two.kept2 {W W' : World} {B i j : Nat} {u v : Value} (h : Two W B u v) (hk : Kept2 W W' i j) (h1 : B ≠ i) (h2 : B ≠ j) : Two W' B u v := (hk.same B h.lt h1 h2).trans h
theorem boxed_kept2 {W W' : World} {B i j : Nat} {t : TypeId} {v : Value} (h : Boxed W B t v) (hk : Kept2 W W' i j) (h1 : B ≠ i) (h2 : B ≠ j) : Boxed W' B t v := (hk.same B h.lt h1 h2).trans h

section
variable {w W W' : World} {F : Fx} {B13 Bf m : Nat} {S : List Int} {hi fi : Int}
theorem FU.kept2 (h : FU w W F B13 m S hi) {m' : Nat} {S' : List Int} {hi' : Int} (hf : FS w W' F m' S' hi') (hk : Kept2 W W' F.b F.Bh) : FU w W' F B13 m' S' hi' :=
  ⟨hf, h.two.kept2 hk (two_ne_map h.fs.set h.two) (two_ne_boxed h.two h.fs.bh), boxed_kept2 h.fn hk (boxed_ne_map h.fs.set h.fn) (boxed_ne_boxed h.fn h.fs.bh (by decide))⟩
theorem FT.kept2 (h : FT w W F B13 Bf m S hi fi) {m' : Nat} {S' : List Int} {hi' : Int} (hf : FS w W' F m' S' hi') (hk : Kept2 W W' F.b F.Bh) : FT w W' F B13 Bf m' S' hi' fi :=
  ⟨h.fu.kept2 hf hk, boxed_kept2 h.bf hk (boxed_ne_map h.fu.fs.set h.bf) h.ne2, h.ne1, h.ne2, h.lo⟩
theorem FU.grow (h : FU w W F B13 m S hi) (hb : Below W.heap.size W W') : FU w W' F B13 m S hi := ⟨h.fs.grow hb, h.two.below hb, boxed_below h.fn hb⟩
theorem FT.grow (h : FT w W F B13 Bf m S hi fi) (hb : Below W.heap.size W W') : FT w W' F B13 Bf m S hi fi := ⟨h.fu.grow hb, boxed_below h.bf hb, h.ne1, h.ne2, h.lo⟩
theorem FT.turn (h : FT w W F B13 Bf m S hi fi) {m' : Nat} {S' : List Int} (hs : SetM W' F.b m' S') (ht : W.mapTurned W' F.b) : FT w W' F B13 Bf m' S' hi fi :=
  h.kept2 (h.fu.fs.turn hs ht) (Kept2.grown ht.grown (Or.inl rfl))
theorem FT.setHi (h : FT w W F B13 Bf m S hi fi) (v : Int) : FT w (W.setCell ⟨F.Bh, 0, none⟩ (.int .i64 v)) F B13 Bf m S v fi :=
  h.kept2 (h.fu.fs.setHi v) (Kept2.grown (grownBy_setCell' _ _ _) (Or.inr (Or.inl rfl)))
theorem FS.other (h : FS w W F m S hi) {Bf : Nat} {f0 : Int} (hb : Boxed W Bf 3 (.int .i64 f0)) (h1 : Bf ≠ F.Bl) (h2 : Bf ≠ F.Bh) (hA : 0 < F.n' → ∀ b' off, F.A2 = some ⟨b', off, none⟩ → b' ≠ Bf) (lo : w.heap.size ≤ Bf) (v : Value) : FS w (W.setCell ⟨Bf, 0, none⟩ v) F m S hi where
  box := h.box.kept (grownBy_setCell' W _ _) (fun e => boxed_ne_boxk h.box hb (by injection e))
  lev := h.lev.grown (grownBy_setCell' W _ _) (fun h0 b off e e2 => hA h0 b off e (by injection e2))
  map := h.map.setCell (fun e => boxed_ne_map h.map hb e.symm) _
  bm := h.bm.kept (grownBy_setCell' W _ _) (fun e => boxed_ne_boxed h.bm hb (by decide) (by injection e))
  bl := h.bl.kept (grownBy_setCell' W _ _) (fun e => h1 (by injection e with e; exact e.symm))
  bh := h.bh.kept (grownBy_setCell' W _ _) (fun e => h2 (by injection e with e; exact e.symm))
  set := h.set.setCell (fun e => boxed_ne_map h.set hb e.symm) _
  ne1 := h.ne1
  ne2 := h.ne2
  row := h.row
  lo1 := h.lo1
  lo2 := h.lo2
  below := h.below.setCell (p := ⟨Bf, 0, none⟩) lo _
theorem FT.setFi (h : FT w W F B13 Bf m S hi fi) (hA : 0 < F.n' → ∀ b' off, F.A2 = some ⟨b', off, none⟩ → b' ≠ Bf) (v : Int) : FT w (W.setCell ⟨Bf, 0, none⟩ (.int .i64 v)) F B13 Bf m S hi v :=
  ⟨⟨h.fu.fs.other h.bf h.ne1 h.ne2 hA h.lo _, h.fu.two.kept (grownBy_setCell' _ _ _) (fun e => two_ne_boxed h.fu.two h.bf (by injection e)), h.fu.fn.kept (grownBy_setCell' _ _ _) (fun e => boxed_ne_boxed h.fu.fn h.bf (by decide) (by injection e))⟩, h.bf.set _, h.ne1, h.ne2, h.lo⟩
end

/-- all of First's own blocks lie below D -/
structure Low (w : World) (F : Fx) (B13 Bf D : Nat) : Prop where
  k : F.Bk < D
  i : F.bi < D
  m : F.Bm < D
  b : F.b < D
  l : F.Bl < D
  h : F.Bh < D
  f : Bf < D
  fn : B13 < D
  w : w.heap.size < D
  row : 0 < F.n' → ∃ b off, F.A2 = some ⟨b, off, none⟩ ∧ b < D
theorem FT.low {w W : World} {F : Fx} {B13 Bf m : Nat} {S : List Int} {hi fi : Int} (h : FT w W F B13 Bf m S hi fi) : Low w F B13 Bf W.heap.size :=
  ⟨h.fu.fs.box.lt, h.fu.fs.map.lt, h.fu.fs.bm.lt, h.fu.fs.set.lt, h.fu.fs.bl.lt, h.fu.fs.bh.lt, h.bf.lt, h.fu.fn.lt, h.fu.two.lt, fun h0 => by
    obtain ⟨b, off, e1, e2, _⟩ := h.fu.fs.lev.cells h0; exact ⟨b, off, e1, e2⟩⟩
theorem Low.mono {w : World} {F : Fx} {B13 Bf D D' : Nat} (h : Low w F B13 Bf D) (hD : D ≤ D') : Low w F B13 Bf D' :=
  ⟨Nat.lt_of_lt_of_le h.k hD, Nat.lt_of_lt_of_le h.i hD, Nat.lt_of_lt_of_le h.m hD, Nat.lt_of_lt_of_le h.b hD, Nat.lt_of_lt_of_le h.l hD, Nat.lt_of_lt_of_le h.h hD, Nat.lt_of_lt_of_le h.f hD, Nat.lt_of_lt_of_le h.fn hD, Nat.lt_of_lt_of_le h.w hD, fun h0 => by
    obtain ⟨b, off, e1, e2⟩ := h.row h0; exact ⟨b, off, e1, Nat.lt_of_lt_of_le e2 hD⟩⟩
theorem FT.far {w W W' : World} {F : Fx} {B13 Bf m D : Nat} {S : List Int} {hi fi : Int} {row : Option Nat} (h : FT w W F B13 Bf m S hi fi) (hL : Low w F B13 Bf D) (hg : W.grownBy W' row) (hr : ∀ r, row = some r → D ≤ r) : FT w W' F B13 Bf m S hi fi :=
  have ne : ∀ {B : Nat}, B < D → some B ≠ row := fun hB e => by have := hr _ e.symm; omega
  ⟨⟨{ box := h.fu.fs.box.kept hg (ne hL.k)
      lev := h.fu.fs.lev.grown hg (fun h0 b off e => by obtain ⟨b', off', e1, e2⟩ := hL.row h0; rw [e1] at e; cases e; exact ne e2)
      map := h.fu.fs.map.kept hg (ne hL.i)
      bm := h.fu.fs.bm.kept hg (ne hL.m)
      bl := h.fu.fs.bl.kept hg (ne hL.l)
      bh := h.fu.fs.bh.kept hg (ne hL.h)
      set := h.fu.fs.set.kept hg (ne hL.b)
      ne1 := h.fu.fs.ne1
      ne2 := h.fu.fs.ne2
      row := h.fu.fs.row
      lo1 := h.fu.fs.lo1
      lo2 := h.fu.fs.lo2
      below := h.fu.fs.below.grown hg h.fu.fs.below.size (fun g e => by have := hr g e; have := hL.w; omega) }, h.fu.two.kept hg (ne hL.w), h.fu.fn.kept hg (ne hL.fn)⟩, h.bf.kept hg (ne hL.f), h.ne1, h.ne2, h.lo⟩

theorem boxed_at (w : World) (t : TypeId) (v : Value) (B : Nat) (h : B = w.heap.size) : Boxed (w.alloc (.cells #[v] t)) B t v := by subst h; exact Boxed.new w t v
/-- the boxes of First are made -/
theorem fu_made {w V1 : World} {x : Int} {A : Option Addr} {n c : Nat} {A' : Option Addr} {n' c' : Nat} {ts : List Stp} {A2 : Option Addr} {c2 bi Bk : Nat} (h : Fi w V1 x A n c A' n' c' ts A2 c2 bi Bk) (last : Int) :
    FU w (((((V1.alloc (.cells #[.int .i64 last] 3)).alloc (.map #[] 0)).alloc (.cells #[.map (some (V1.heap.size + 1))] 61)).alloc (.cells #[.int .i64 0] 3)).alloc
      (.cells #[fnV ⟨x, A, n, c, A', n', c', ts, A2, c2, bi, Bk, V1.heap.size + 1 + 1, V1.heap.size + 1, V1.heap.size, V1.heap.size + 1 + 1 + 1, last⟩] 63))
      ⟨x, A, n, c, A', n', c', ts, A2, c2, bi, Bk, V1.heap.size + 1 + 1, V1.heap.size + 1, V1.heap.size, V1.heap.size + 1 + 1 + 1, last⟩ (V1.heap.size + 1 + 1 + 1 + 1) 0 [] 0 := by
  have b1 : Below V1.heap.size V1 (V1.alloc (.cells #[.int .i64 last] 3)) := (Below.refl _ _).alloc (Nat.le_refl _) _
  have hs := h.below.size
  have hbi := h.map.lt
  have al : ∀ {β : Type} {e : TypeId} {ed : β → DataW Unit} {W : World} {b k : Nat} {f : Int → Option β} (o : Obj), MF e ed W b k f → MF e ed (W.alloc o) b k f := fun o h => h.alloc o
  have hall : Below V1.heap.size V1 (((((V1.alloc (.cells #[.int .i64 last] 3)).alloc (.map #[] 0)).alloc (.cells #[.map (some (V1.heap.size + 1))] 61)).alloc (.cells #[.int .i64 0] 3)).alloc
      (.cells #[fnV ⟨x, A, n, c, A', n', c', ts, A2, c2, bi, Bk, V1.heap.size + 1 + 1, V1.heap.size + 1, V1.heap.size, V1.heap.size + 1 + 1 + 1, last⟩] 63)) :=
    (((b1.alloc (by simp) _).alloc (by simp; omega) _).alloc (by simp; omega) _).alloc (by simp; omega) _
  have hg := h.grow hall
  have hset : SetM (((((V1.alloc (.cells #[.int .i64 last] 3)).alloc (.map #[] 0)).alloc (.cells #[.map (some (V1.heap.size + 1))] 61)).alloc (.cells #[.int .i64 0] 3)).alloc
      (.cells #[fnV ⟨x, A, n, c, A', n', c', ts, A2, c2, bi, Bk, V1.heap.size + 1 + 1, V1.heap.size + 1, V1.heap.size, V1.heap.size + 1 + 1 + 1, last⟩] 63)) (V1.heap.size + 1) 0 [] := by
    have h1 : SetM ((V1.alloc (.cells #[.int .i64 last] 3)).alloc (.map #[] 0)) (V1.heap.size + 1) 0 [] := by
      have := MF.made (e := 4) (ed := edB) (V1.alloc (.cells #[.int .i64 last] 3))
      rw [emptyF_set] at this
      simpa using this
    exact ((h1.alloc _).alloc _).alloc _
  refine ⟨{
    box := hg.box
    lev := hg.lev
    map := hg.map
    bm := ((boxed_at _ _ _ _ (by simp)).alloc _).alloc _
    bl := ((((Boxed.new V1 _ _).alloc _).alloc _).alloc _).alloc _
    bh := (boxed_at _ _ _ _ (by simp)).alloc _
    set := hset
    ne1 := (by show V1.heap.size + 1 ≠ bi; omega)
    ne2 := (by show V1.heap.size + 1 + 1 + 1 ≠ V1.heap.size; omega)
    row := (fun h0 b off e => (by obtain ⟨q, o1, e1, e2, _⟩ := h.lev.cells h0; have e3 : some (⟨q, o1, none⟩ : Addr) = some ⟨b, off, none⟩ := e1.symm.trans e; simp only [Option.some.injEq, Addr.mk.injEq] at e3; have e4 := e3.1; show b ≠ V1.heap.size + 1 + 1 + 1; omega))
    lo1 := (by show w.heap.size ≤ V1.heap.size + 1; omega)
    lo2 := (by show w.heap.size ≤ V1.heap.size + 1 + 1 + 1; omega)
    below := hg.below }, hg.two, boxed_at _ _ _ _ (by simp)⟩

set_option maxHeartbeats 400000 in
theorem backward_any (A : Option Addr) (n c : Nat) (w : World) : Calls Try.prog 35 #[.slice A n c] w fun e w' => e = .returned (.func (.func 65) #[] #[.pointer (some ⟨w.heap.size, 0, none⟩)]) ∧ w' = w.alloc (.cells #[.slice A n c] 25) := by
  go_enter Try.func35, Try.ntmps35
  go_wp2
  go_ret
  exact ⟨rfl, rfl⟩

end Go.Proofs.Ytenpenelikpeeaa
