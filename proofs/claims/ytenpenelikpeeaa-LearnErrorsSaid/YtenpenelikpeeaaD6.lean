/-
  The last loop of First: the literals of level 0 are struck, the greatest level of the others is found. No condition.
-/
import Derived.Test.YtenpenelikpeeaaD4
namespace Go.Proofs.Ytenpenelikpeeaa
open Go.RowKit Go.Shelf
set_option linter.unusedVariables false
set_option linter.unusedSimpArgs false

theorem backG_le {ts : List Stp} {z M : Int} : ∀ (l : List Int) (b : Int), b ≤ M → (∀ y ∈ l, y ≠ z → lvlT ts y ≤ M) → backG ts z b l ≤ M
  | [], b, h, _ => h
  | y :: l, b, h, h2 => by
    rw [backG]
    refine backG_le l _ ?_ (fun u hu => h2 u (by simp [hu]))
    split
    · exact h
    · rename_i hne; have := h2 y (by simp) hne; omega
theorem backG_ge {ts : List Stp} {z : Int} : ∀ (l : List Int) (b : Int), b ≤ backG ts z b l ∧ ∀ y ∈ l, y ≠ z → lvlT ts y ≤ backG ts z b l
  | [], b => ⟨Int.le_refl _, fun y h => by cases h⟩
  | y :: l, b => by
    rw [backG]
    obtain ⟨h1, h2⟩ := backG_ge (ts := ts) (z := z) l (if y = z then b else max b (lvlT ts y))
    refine ⟨?_, fun u hu hne => ?_⟩
    · split at h1
      · rename_i e; rw [if_pos e]; exact h1
      · rename_i e; rw [if_neg e]; omega
    · rcases List.mem_cons.1 hu with e | e
      · subst e
        rw [if_neg hne] at h1 ⊢
        omega
      · exact h2 u e hne
theorem backL_of {ts : List Stp} {z b : Int} {R : List Int} (h1 : ∀ y ∈ R, y ≠ z → lvlT ts y ≤ b) (h2 : b = 0 ∨ ∃ y ∈ R, y ≠ z ∧ lvlT ts y = b) (h3 : 0 ≤ b) : backL ts z R = b := by
  have a := backG_le (ts := ts) (z := z) (M := b) R 0 h3 h1
  obtain ⟨c, d⟩ := backG_ge (ts := ts) (z := z) R 0
  unfold backL
  rcases h2 with e | ⟨y, hy, hne, e⟩
  · omega
  · have := d y hy hne; omega

/-- First's blocks that the last loop reads -/
structure Fn (w W : World) (F : Fx) (Bf D : Nat) (z : Int) : Prop where
  box : BoxK W F.Bk F.x F.A F.n F.c F.A' F.n' F.c' F.A2 F.n' F.c2 (some F.bi)
  lev : RI W F.A2 F.n' F.c2 (levL F.ts)
  map : IntM W F.bi F.n' (atF F.ts)
  bm : Boxed W F.Bm 61 (.map (some F.b))
  bf : Boxed W Bf 3 (.int .i64 z)
  below : Below w.heap.size w W
  mark : W.heap[D]? = some (.deferred (some []))
structure Apt (w : World) (F : Fx) (Bf D Top : Nat) : Prop where
  k : F.Bk < Top ∧ F.Bk ≠ F.b
  i : F.bi < Top ∧ F.bi ≠ F.b
  m : F.Bm < Top ∧ F.Bm ≠ F.b
  f : Bf < Top ∧ Bf ≠ F.b
  d : D < Top ∧ D ≠ F.b
  row : 0 < F.n' → ∃ b off, F.A2 = some ⟨b, off, none⟩ ∧ b < Top ∧ b ≠ F.b
  lo : w.heap.size ≤ F.b
  top : w.heap.size ≤ Top
theorem Fn.kept {w W W' : World} {F : Fx} {Bf D Top : Nat} {z : Int} {row : Option Nat} (h : Fn w W F Bf D z) (hA : Apt w F Bf D Top) (hg : W.grownBy W' row) (hr : ∀ r, row = some r → r = F.b ∨ Top ≤ r) : Fn w W' F Bf D z :=
  have ne : ∀ {B : Nat}, B < Top ∧ B ≠ F.b → some B ≠ row := fun hB e => by rcases hr _ e.symm with h1 | h1 <;> omega
  { box := h.box.kept hg (ne hA.k)
    lev := h.lev.grown hg (fun h0 b off e => by obtain ⟨b', off', e1, e2⟩ := hA.row h0; rw [e1] at e; cases e; exact ne e2)
    map := h.map.kept hg (ne hA.i)
    bm := h.bm.kept hg (ne hA.m)
    bf := h.bf.kept hg (ne hA.f)
    below := h.below.grown hg h.below.size (fun g e => by have := hA.lo; have := hA.top; rcases hr g e with h1 | h1 <;> omega)
    mark := (hg.block D (Array.getElem?_eq_some_iff.1 h.mark).1 (ne hA.d)).trans h.mark }
theorem grown_of_below {W W' : World} (h : Below W.heap.size W W') : W.grownBy W' none := ⟨h.os, h.tape, h.output, h.size, fun k hk _ => h.block k hk⟩
theorem fn_of {w V : World} {F : Fx} {B13 Bf m D : Nat} {S : List Int} {hi z : Int} (h : FT w V F B13 Bf m S hi z) (hD : V.heap[D]? = some (.deferred (some []))) : Fn w V F Bf D z ∧ Apt w F Bf D V.heap.size := by
  have hf := h.fu.fs
  obtain ⟨es, clock, hb⟩ := map_block hf.set
  refine ⟨⟨hf.box, hf.lev, hf.map, hf.bm, h.bf, hf.below, hD⟩, ⟨hf.box.lt, boxk_ne_map hf.set hf.box⟩, ⟨hf.map.lt, Ne.symm hf.ne1⟩, ⟨hf.bm.lt, boxed_ne_map hf.set hf.bm⟩, ⟨h.bf.lt, boxed_ne_map hf.set h.bf⟩, ⟨(Array.getElem?_eq_some_iff.1 hD).1, fun e => by rw [e, hb] at hD; cases hD⟩, fun h0 => ?_, hf.lo1, hf.below.size⟩
  obtain ⟨b, off, e1, e2, e3⟩ := hf.lev.cells h0
  refine ⟨b, off, e1, e2, fun e => ?_⟩
  have := e3 0 h0
  subst e
  simp [World.cell?, hb] at this

/-- the last loop under way -/
structure Lf (w W : World) (F : Fx) (Bf D r m : Nat) (z : Int) (R : List Int) (left : Int → Bool) (cnt : Nat) (bkv : Int) : Prop where
  fn : Fn w W F Bf D z
  rng : MR 4 edB W F.b r m (setF (R.filter fun y => left y || decide (0 < lvlT F.ts y))) left cnt
  sub : ∀ x, wfI x = true → left x = true → x ∈ R
  ub : ∀ y ∈ R, left y = false → y ≠ z → lvlT F.ts y ≤ bkv
  at' : bkv = 0 ∨ ∃ y ∈ R, left y = false ∧ y ≠ z ∧ lvlT F.ts y = bkv
  nn : 0 ≤ bkv

theorem MR.same {β : Type} {e : TypeId} {ed : β → DataW Unit} {w : World} {b r n cnt : Nat} {f g : Int → Option β} {left left' : Int → Bool} (h : MR e ed w b r n f left cnt) (hf : f = g) (hl : left = left') : MR e ed w b r n g left' cnt := by
  subst hf hl; exact h
theorem MR.turned_le {β : Type} {e : TypeId} {ed : β → DataW Unit} {w : World} {b r n cnt : Nat} {f : Int → Option β} {left : Int → Bool} (h : MR e ed w b r n f left cnt) : r ≠ b := h.ne

theorem lf_start {w w0 V : World} {F : Fx} {Bf m D cnt0 : Nat} {R : List Int} {z : Int} (hfn : Fn w V F Bf D z) (hA : Apt w F Bf D V.heap.size) (hg : V.grownBy w0 none) (hr : MR 4 edB w0 F.b V.heap.size m (setF R) (fun x => (setF R x).isSome) cnt0) (hw : ∀ x ∈ R, wfI x = true) :
    Lf w w0 F Bf D V.heap.size m z R (fun x => hasB R x) cnt0 0 := by
  refine ⟨hfn.kept hA hg (fun r e => by cases e), ?_, fun x _ h => hasB_iff.1 h, fun y hy h => ?_, Or.inl rfl, Int.le_refl _⟩
  · refine hr.same ?_ (funext fun x => setF_some R x)
    congr 1
    exact (List.filter_eq_self.2 fun y hy => by rw [hasB_iff.2 hy]; rfl).symm
  · rw [hasB_iff.2 hy] at h; cases h

section
variable {w W W' : World} {F : Fx} {Bf D r m : Nat} {z bkv x : Int} {R : List Int} {left : Int → Bool} {cnt cnt' : Nat}
/-- a literal of a level above 0 has come by -/
theorem Lf.high (h : Lf w W F Bf D r m z R left cnt bkv) (hfn : Fn w W' F Bf D z) (hl : left x = true) (hx : x ∈ R) (hr : MR 4 edB W' F.b r m (setF (R.filter fun y => left y || decide (0 < lvlT F.ts y))) (fun y => left y && !(y == x)) cnt') (hlv : 0 < lvlT F.ts x) :
    Lf w W' F Bf D r m z R (fun y => left y && !(y == x)) cnt' (if x = z then bkv else max bkv (lvlT F.ts x)) := by
  have hnn := h.nn
  refine ⟨hfn, hr.same ?_ rfl, fun y hy h1 => ?_, fun y hy h1 hne => ?_, ?_, ?_⟩
  · congr 1
    refine List.filter_congr fun y hy => ?_
    by_cases e : y = x
    · subst e; simp [hlv]
    · have : (y == x) = false := by simpa using e
      simp [this]
  · simp only [Bool.and_eq_true] at h1; exact h.sub y hy h1.1
  · by_cases e : y = x
    · subst e; rw [if_neg hne]; omega
    · have e2 : (y == x) = false := by simpa using e
      simp [e2] at h1
      have := h.ub y hy h1 hne
      split <;> omega
  · by_cases e : x = z
    · rw [if_pos e]
      rcases h.at' with h1 | ⟨y, hy, h1, h2, h3⟩
      · exact Or.inl h1
      · exact Or.inr ⟨y, hy, by simp [h1], h2, h3⟩
    · rw [if_neg e]
      rcases Int.le_total bkv (lvlT F.ts x) with h4 | h4
      · exact Or.inr ⟨x, hx, by simp, e, by omega⟩
      · rcases h.at' with h1 | ⟨y, hy, h1, h2, h3⟩
        · exact Or.inl (by omega)
        · exact Or.inr ⟨y, hy, by simp [h1], h2, by omega⟩
  · split <;> omega
/-- a literal of level 0 has been struck -/
theorem Lf.low (h : Lf w W F Bf D r m z R left cnt bkv) (hfn : Fn w W' F Bf D z) (hl : left x = true) (hx : x ∈ R) (hr : MR 4 edB W' F.b r m (dropF (setF (R.filter fun y => left y || decide (0 < lvlT F.ts y))) x) (fun y => (left y && !(y == x)) && !(y == x)) cnt') (hlv : lvlT F.ts x = 0) :
    Lf w W' F Bf D r m z R (fun y => (left y && !(y == x)) && !(y == x)) cnt' bkv := by
  have hnn := h.nn
  refine ⟨hfn, hr.same ?_ rfl, fun y hy h1 => ?_, fun y hy h1 hne => ?_, ?_, hnn⟩
  · rw [setF_drop]
    congr 1
    rw [List.filter_filter]
    refine List.filter_congr fun y hy => ?_
    by_cases e : y = x
    · subst e; simp [hlv]
    · have : (y == x) = false := by simpa using e
      simp [this]
  · simp only [Bool.and_eq_true] at h1; exact h.sub y hy h1.1.1
  · by_cases e : y = x
    · subst e; omega
    · have e2 : (y == x) = false := by simpa using e
      simp [e2] at h1
      exact h.ub y hy h1 hne
  · rcases h.at' with h1 | ⟨y, hy, h1, h2, h3⟩
    · exact Or.inl h1
    · exact Or.inr ⟨y, hy, by simp [h1], h2, h3⟩
/-- all have come by -/
theorem Lf.end' (h : Lf w W F Bf D r m z R left cnt bkv) (hw : ∀ x ∈ R, wfI x = true) (hl : ∀ x, wfI x = true → left x = false) : SetM W F.b m (highs F.ts R) ∧ backL F.ts z R = bkv := by
  refine ⟨?_, backL_of (fun y hy hne => h.ub y hy (hl y (hw y hy)) hne) ?_ h.nn⟩
  · have := h.rng.owns
    have e : (R.filter fun y => left y || decide (0 < lvlT F.ts y)) = highs F.ts R := by
      unfold highs
      refine List.filter_congr fun y hy => ?_
      rw [hl y (hw y hy), Bool.false_or]
    rw [e] at this
    exact this
  · rcases h.at' with h1 | ⟨y, hy, h1, h2, h3⟩
    · exact Or.inl h1
    · exact Or.inr ⟨y, hy, h2, h3⟩
end

end Go.Proofs.Ytenpenelikpeeaa
