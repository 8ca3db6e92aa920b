/-
  Rows of steps, maps with int keys, the check of a trail. Turned from this repo's texts of chapter 20. No condition.
-/
import Derived.Test.YtalcnkoidmoibaaZA9
import Derived.Test.YtalcnkoidmoibaaZA11
import Derived.Test.YtalcnkoidmoibaaZA13
import Derived.Test.YtalcnkoidmoibaaZA4
import Derived.Test.YtalcnkoidmoibaaZA16
import Derived.Test.YtalcnkoidmoibaaZA17
import Derived.Test.YtalcnkoidmoibaaZA3
import Derived.Maps.OwnOps
import Derived.Maps.OwnSet
import Derived.Maps.Views
import Derived.RangeFuncBox
import Derived.IntWalk
import Derived.OwnWalkIn
import Derived.LoadGo3
import Derived.Lib.OwnBridge
import Derived.Lib.AppendIntMem
import Derived.Deep.RegionLaw
import Derived.Deep.RegionHeld3
import Derived.Deep.CutBlock
import Derived.Deep.DeepCutAuto
import Derived.StillTailTactics

namespace Go.Proofs.Ytalcnkoidmoibaa
open Go.RowKit Go.Shelf
set_option linter.unusedVariables false
set_option linter.unusedSimpArgs false

def wfI (x : Int) : Bool := (Lit.int .i64 x).wf

theorem wfI_of {x : Int} (h0 : -9223372036854775808 ≤ x) (h1 : x ≤ 9223372036854775807) : wfI x = true := by
  have a : IntKind.i64.min = -9223372036854775808 := by decide
  have b : IntKind.i64.max = 9223372036854775807 := by decide
  unfold wfI Lit.wf; simp [a, b]; omega

/-- what an element's type asks -/
structure EK {β : Type} (e : TypeId) (ev : β → Value) (ed : β → DataW Unit) (ok : β → Prop) (z0 : β) : Prop where
  mkV : ∀ x, ok x → plainElem (H := Unit) Try.prog e (ev x) = some (ed x, [])
  inv : ∀ v x ps, plainElem (H := Unit) Try.prog e v = some (ed x, ps) → v = ev x
  all : ∀ v y, plainElem (H := Unit) Try.prog e v = some y → ∃ x, v = ev x ∧ y.1 = ed x
  zero : ∀ w, (zeroValue e).run Try.prog w = .ok (ev z0) w
  okz : ok z0

def edB (v : Bool) : DataW Unit := .lit (.bool v)

def edI (v : Int) : DataW Unit := .lit (.int .i64 v)

theorem ekB : EK 4 Value.bool edB (fun _ => True) false where
  mkV x _ := plainElem_bool Try.underlying4 x
  inv v x ps h := elem_bool_inv Try.underlying4 h
  all v y h := by
    have hu := Try.underlying4
    generalize Try.prog = P at h hu
    unfold plainElem at h
    rw [hu] at h
    cases v <;> simp at h
    subst h
    exact ⟨_, rfl, rfl⟩
  zero := Try.zeroValue4
  okz := trivial

section

variable {β : Type} {e : TypeId} {ev : β → Value} {ed : β → DataW Unit} {ok : β → Prop} {z0 : β}

/-- the datum holds what f says -/
def Holdsf (ed : β → DataW Unit) (D : DataW Unit) (f : Int → Option β) : Prop :=
  (∀ x, wfI x = true → Maps.has D (.int .i64 x) = (f x).isSome) ∧ ∀ x v, wfI x = true → f x = some v → ∀ zd, D.atKey (.int .i64 x) zd = ed v

/-- the block is a map that holds what f says -/
def MF (e : TypeId) (ed : β → DataW Unit) (w : World) (b n : Nat) (f : Int → Option β) : Prop :=
  ∃ D : DataW Unit, w.ownsMap Try.prog 3 (plainElem Try.prog e) b n D ∧ Holdsf ed D f

def emptyF : Int → Option β := fun _ => none

def putF (f : Int → Option β) (x : Int) (v : β) : Int → Option β := fun y => if y = x then some v else f y

def dropF (f : Int → Option β) (x : Int) : Int → Option β := fun y => if y = x then none else f y

theorem MF.made (w : World) : MF e ed (w.alloc (.map #[] 0)) w.heap.size 0 emptyF :=
  ⟨_, World.ownsMap_made w _ _ _, fun x _ => rfl, fun x v _ h => by cases h⟩

theorem MF.mono {w : World} {b n n' : Nat} {f : Int → Option β} (h : MF e ed w b n f) (hn : n ≤ n') : MF e ed w b n' f := by
  obtain ⟨D, h1, h2⟩ := h; exact ⟨D, h1.mono hn, h2⟩

theorem MF.lt {w : World} {b n : Nat} {f : Int → Option β} (h : MF e ed w b n f) : b < w.heap.size := by
  obtain ⟨D, h1, h2⟩ := h; exact h1.lt

theorem MF.kept {w w' : World} {b n : Nat} {f : Int → Option β} {row : Option Nat} (h : MF e ed w b n f) (hg : w.grownBy w' row) (hne : some b ≠ row) : MF e ed w' b n f := by
  obtain ⟨D, h1, h2⟩ := h; exact ⟨D, h1.kept hg hne, h2⟩

theorem MF.alloc {w : World} {b n : Nat} {f : Int → Option β} (h : MF e ed w b n f) (o : Obj) : MF e ed (w.alloc o) b n f := by
  obtain ⟨D, h1, h2⟩ := h; exact ⟨D, h1.alloc o, h2⟩

theorem MF.below {w w' : World} {b n B : Nat} {f : Int → Option β} (h : MF e ed w b n f) (hb : Below B w w') (hB : b < B) : MF e ed w' b n f := by
  obtain ⟨D, ⟨es, clock, h1, h3⟩, h2⟩ := h; exact ⟨D, ⟨es, clock, (hb.block b hB).trans h1, h3⟩, h2⟩

theorem MF.same {w : World} {b n : Nat} {f g : Int → Option β} (h : MF e ed w b n f) (hg : ∀ x, wfI x = true → f x = g x) : MF e ed w b n g := by
  obtain ⟨D, h1, h2, h3⟩ := h
  exact ⟨D, h1, fun x hx => by rw [← hg x hx]; exact h2 x hx, fun x v hx hv => h3 x v hx (by rw [hg x hx]; exact hv)⟩

theorem MF.setCell {w : World} {b n : Nat} {f : Int → Option β} (h : MF e ed w b n f) {a : Addr} (ha : b ≠ a.block) (u : Value) : MF e ed (w.setCell a u) b n f := by
  obtain ⟨D, h1, h2⟩ := h; exact ⟨D, h1.setCell ha u, h2⟩

theorem MF.look (E : EK e ev ed ok z0) {t : TypeId} (ht : Try.prog.underlying t = some (.map 3 e)) {w : World} {b n : Nat} {f : Int → Option β} (h : MF e ed w b n f) {x : Int} (hx : wfI x = true) :
    (Instr.lookup t (.map (some b)) (.int .i64 x) false).run Try.prog w = .ok (ev ((f x).getD z0)) w := by
  obtain ⟨D, h1, h2, h3⟩ := h
  obtain ⟨v, ps, hrun, hv⟩ := h1.lookup (Maps.int_keyed Try.underlying3) ht (E.zero w) (E.mkV _ E.okz) (Maps.keyOf_int_mk Try.underlying3 hx)
  rw [hrun]
  cases hf : f x with
  | none =>
    rw [Maps.atKey_of_not_has (by rw [h2 x hx, hf]; rfl)] at hv
    rw [E.inv _ _ _ hv]; rfl
  | some y =>
    rw [h3 x y hx hf] at hv
    rw [E.inv _ _ _ hv]; rfl

theorem key_ne {x y : Int} (h : y ≠ x) : (Lit.int .i64 y) ≠ (Lit.int .i64 x) := by simpa using h

theorem Holdsf.put {D : DataW Unit} {f : Int → Option β} (hD : Maps.IsMap D) (h : Holdsf ed D f) (x : Int) (v : β) : Holdsf ed (D.put (.int .i64 x) (ed v)) (putF f x v) := by
  refine ⟨fun y hy => ?_, fun y u hy hu zd => ?_⟩
  · by_cases e1 : y = x
    · subst e1
      rw [Maps.has_put_same hD (by simp [WideAt.IsKeyLit])]
      simp [putF]
    · rw [Maps.has_put_other (key_ne e1), h.1 y hy]
      simp [putF, e1]
  · by_cases e1 : y = x
    · subst e1
      rw [Maps.atKey_put_same hD (by simp [WideAt.IsKeyLit])]
      simp [putF] at hu
      rw [hu]
    · rw [Maps.atKey_put_other (key_ne e1)]
      simp [putF, e1] at hu
      exact h.2 y u hy hu zd

theorem Holdsf.del {D : DataW Unit} {f : Int → Option β} (h : Holdsf ed D f) (x : Int) : Holdsf ed (D.del (.int .i64 x)) (dropF f x) := by
  refine ⟨fun y hy => ?_, fun y u hy hu zd => ?_⟩
  · by_cases e1 : y = x
    · subst e1
      rw [Maps.has_del_same]
      simp [dropF]
    · rw [Maps.has_del_other (key_ne e1), h.1 y hy]
      simp [dropF, e1]
  · by_cases e1 : y = x
    · subst e1
      simp [dropF] at hu
    · rw [Maps.atKey_del_other (key_ne e1)]
      simp [dropF, e1] at hu
      exact h.2 y u hy hu zd

theorem MF.put (E : EK e ev ed ok z0) {t : TypeId} (ht : Try.prog.underlying t = some (.map 3 e)) {w : World} {b n : Nat} {f : Int → Option β} (h : MF e ed w b n f) (hn : n < maxLen) {x : Int} (hx : wfI x = true) {v : β} (hv : ok v) :
    ∃ w', (Instr.mapUpdate t (.map (some b)) (.int .i64 x) (ev v)).run Try.prog w = .ok () w' ∧ MF e ed w' b (n + 1) (putF f x v) ∧ w.mapTurned w' b := by
  obtain ⟨D, h1, h2⟩ := h
  obtain ⟨w', hrun, ho, hg⟩ := h1.store (Maps.int_keyed Try.underlying3) ht hn (Maps.keyOf_int_mk Try.underlying3 hx) (E.mkV v hv)
  exact ⟨w', hrun, ⟨_, ho, h2.put h1.isMap x v⟩, hg⟩

theorem MF.drop {t : TypeId} (ht : Try.prog.underlying t = some (.map 3 e)) {w : World} {b n : Nat} {f : Int → Option β} (h : MF e ed w b n f) {x : Int} (hx : wfI x = true) (ty : TypeId) :
    ∃ w', (Builtin.delete_ #[t, 3] ty #[.map (some b), .int .i64 x]).run Try.prog w = .ok (.tuple #[]) w' ∧ MF e ed w' b n (dropF f x) ∧ w.mapTurned w' b := by
  obtain ⟨D, h1, h2⟩ := h
  obtain ⟨w', hrun, ho, hg⟩ := h1.drop (Maps.int_keyed Try.underlying3) ht (Maps.keyOf_int_mk Try.underlying3 hx) ty
  exact ⟨w', hrun, ⟨_, ho, h2.del x⟩, hg⟩

/-- a range over the map under way -/
def MR (e : TypeId) (ed : β → DataW Unit) (w : World) (b r n : Nat) (f : Int → Option β) (left : Int → Bool) (cnt : Nat) : Prop :=
  ∃ (D : DataW Unit) (lf : Lit → Bool), w.ranges Try.prog 3 (plainElem Try.prog e) b r n D lf cnt ∧ Holdsf ed D f ∧ ∀ x, wfI x = true → lf (.int .i64 x) = left x

theorem MR.ne {w : World} {b r n cnt : Nat} {f : Int → Option β} {left : Int → Bool} (h : MR e ed w b r n f left cnt) : r ≠ b := by
  obtain ⟨D, lf, h1, _⟩ := h; exact h1.ne

theorem MR.lt {w : World} {b r n cnt : Nat} {f : Int → Option β} {left : Int → Bool} (h : MR e ed w b r n f left cnt) : r < w.heap.size := by
  obtain ⟨D, lf, h1, _⟩ := h; exact h1.lt

theorem MR.kept {w w' : World} {b r n cnt : Nat} {f : Int → Option β} {left : Int → Bool} {row : Option Nat} (h : MR e ed w b r n f left cnt) (hg : w.grownBy w' row) (hb : some b ≠ row) (hr : some r ≠ row) : MR e ed w' b r n f left cnt := by
  obtain ⟨D, lf, h1, h2⟩ := h; exact ⟨D, lf, h1.kept hg hb hr, h2⟩

theorem MR.alloc {w : World} {b r n cnt : Nat} {f : Int → Option β} {left : Int → Bool} (h : MR e ed w b r n f left cnt) (o : Obj) : MR e ed (w.alloc o) b r n f left cnt := by
  obtain ⟨D, lf, h1, h2⟩ := h; exact ⟨D, lf, h1.alloc o, h2⟩

variable {ops : Array Oper} {rest : List Oper} {o : Oper} {a : Act} {Q : Exit → Act → World → Prop}

end

/-- a set -/
def setF (S : List Int) : Int → Option Bool := fun x => if hasB S x = true then some true else none

theorem setF_get (S : List Int) (x : Int) : (setF S x).getD false = hasB S x := by
  unfold setF; cases h : hasB S x <;> simp [h]

theorem setF_put (S : List Int) (x : Int) : putF (setF S) x true = setF (S ++ [x]) := by
  funext y
  unfold putF setF
  rw [hasB_snoc]
  by_cases e1 : y = x
  · subst e1; simp
  · have e2 : (x == y) = false := by simpa using Ne.symm e1
    simp [e1, e2]

structure Stp where
  lit : Int
  why : Int

def stp (ts : List Stp) (k : Nat) : Stp := ts.getD k ⟨0, 0⟩

theorem stp_lt {ts : List Stp} {k : Nat} (h : k < ts.length) : stp ts k = ts[k] := by simp [stp, List.getD_eq_getElem?_getD, List.getElem?_eq_getElem h]

theorem takes_snoc (ts : List Stp) (k : Nat) (h : k < ts.length) : ts.take (k + 1) = ts.take k ++ [stp ts k] := by
  rw [List.take_succ_eq_append_getElem h, stp_lt h]

/-- a slice of steps that reads as a list -/
structure RS (w : World) (A : Option Addr) (n c : Nat) (ts : List Stp) : Prop where
  len : ts.length = n
  cap : n ≤ c
  big : n * 16 ≤ 140737488355328
  cmax : c ≤ maxLen
  cells : 0 < n → ∃ b off, A = some ⟨b, off, none⟩ ∧ b < w.heap.size ∧ ∀ j, j < n → w.cell? ⟨b, off + j * 2, none⟩ = some (.int .i64 (stp ts j).lit) ∧ w.cell? ⟨b, off + j * 2 + 1, none⟩ = some (.int .i64 (stp ts j).why)

theorem RS.below {w w' : World} {A : Option Addr} {n c : Nat} {ts : List Stp} (h : RS w A n c ts) (hb : Below w.heap.size w w') : RS w' A n c ts :=
  ⟨h.len, h.cap, h.big, h.cmax, fun hn => by
    obtain ⟨b, off, rfl, hlt, hc⟩ := h.cells hn
    refine ⟨b, off, rfl, Nat.lt_of_lt_of_le hlt hb.size, fun j hj => ?_⟩
    obtain ⟨h1, h2⟩ := hc j hj
    exact ⟨(hb.cell (p := ⟨b, _, none⟩) hlt).trans h1, (hb.cell (p := ⟨b, _, none⟩) hlt).trans h2⟩⟩

theorem RS.alloc {w : World} {A : Option Addr} {n c : Nat} {ts : List Stp} (h : RS w A n c ts) (o : Obj) : RS (w.alloc o) A n c ts := h.below ((Below.refl _ _).alloc (Nat.le_refl _) _)

theorem RS.small {w : World} {A : Option Addr} {n c : Nat} {ts : List Stp} (h : RS w A n c ts) : n ≤ 8796093022208 := by have := h.big; omega

/-- how many decisions -/
def cntD (ts : List Stp) : Nat := (ts.filter fun s => s.why == -1).length

def levAt (ts : List Stp) (k : Nat) : Int := (cntD (ts.take (k + 1)) : Int)

def levTo (ts : List Stp) (k : Nat) : List Int := (List.range k).map (levAt ts)

def levL (ts : List Stp) : List Int := levTo ts ts.length

/-- a block of two cells that holds a step -/
def BoxS (w : World) (B : Nat) (s : Stp) : Prop := w.heap[B]? = some (.cells #[.int .i64 s.lit, .int .i64 s.why] 52 (0, 0))

theorem BoxS.c0 {w : World} {B : Nat} {s : Stp} (h : BoxS w B s) : w.cell? ⟨B, 0, none⟩ = some (.int .i64 s.lit) := by simp [World.cell?, show w.heap[B]? = _ from h]

theorem BoxS.c1 {w : World} {B : Nat} {s : Stp} (h : BoxS w B s) : w.cell? ⟨B, 1, none⟩ = some (.int .i64 s.why) := by simp [World.cell?, show w.heap[B]? = _ from h]

theorem BoxS.lt {w : World} {B : Nat} {s : Stp} (h : BoxS w B s) : B < w.heap.size := (Array.getElem?_eq_some_iff.1 h).1

theorem BoxS.below {w w' : World} {B : Nat} {s : Stp} (h : BoxS w B s) (hb : Below w.heap.size w w') : BoxS w' B s := (hb.block B h.lt).trans h

theorem BoxS.kept {w w' : World} {B : Nat} {s : Stp} {row : Option Nat} (h : BoxS w B s) (hg : w.grownBy w' row) (hne : some B ≠ row) : BoxS w' B s := (hg.block B h.lt hne).trans h

theorem BoxS.new (w : World) (x y : Int) : BoxS (w.alloc (.cells #[.int .i64 x, .int .i64 y] 52)) w.heap.size ⟨x, y⟩ := World.alloc_heap_new w _

/-- the place of a literal -/
def plc (ts : List Stp) (x : Int) : Nat := ts.findIdx fun s => s.lit == x

theorem plc_at {ts : List Stp} {x : Int} {k : Nat} (hk : k < ts.length) (h : (stp ts k).lit = x) (hno : ∀ j, j < k → (stp ts j).lit ≠ x) : plc ts x = k := by
  unfold plc
  refine (List.findIdx_eq hk).2 ⟨by rw [← stp_lt hk]; simpa using h, fun j hj => ?_⟩
  have := hno j hj
  rw [stp_lt (by omega)] at this
  simpa using this

theorem plc_lt {ts : List Stp} {x : Int} (h : plc ts x < ts.length) : (stp ts (plc ts x)).lit = x ∧ ∀ j, j < plc ts x → (stp ts j).lit ≠ x := by
  constructor
  · rw [stp_lt h]
    have := List.findIdx_getElem (p := fun s : Stp => s.lit == x) (w := h)
    exact beq_iff_eq.1 this
  · intro j hj
    have := List.not_of_lt_findIdx hj
    rw [stp_lt (by omega)]
    simpa using this

/-- the level of a false literal; -1 if it is not false -/
def lvlT (ts : List Stp) (x : Int) : Int := if plc ts (-x) < ts.length then levAt ts (plc ts (-x)) else -1

theorem wfI_lit {x : Int} (h0 : -65536 ≤ x) (h1 : x ≤ 65536) : wfI x = true := wfI_of (by omega) (by omega)

def whyOk (l prev : List Int) (lit : Int) : Bool := hasB l lit && !(l.any fun y => (y != lit) && !(hasB prev (-y)))

def stepOk (x : Int) (ls : List (List Int)) (prev : List Int) (s : Stp) : Bool :=
  isB s.lit x && !(hasB prev s.lit || hasB prev (-s.lit)) && decide (-1 ≤ s.why) && decide (s.why < ls.length) && (decide (s.why < 0) || whyOk (ell ls s.why.toNat) prev s.lit)

def slitsOf (ts : List Stp) : List Int := ts.map (·.lit)

theorem litsOf_snoc (ts : List Stp) (s : Stp) : slitsOf (ts ++ [s]) = slitsOf ts ++ [s.lit] := by simp [slitsOf]

def trailTo (x : Int) (ls : List (List Int)) (ts : List Stp) (k : Nat) : Bool := (List.range k).all fun j => stepOk x ls (slitsOf (ts.take j)) (stp ts j)

def trailB (x : Int) (ls : List (List Int)) (ts : List Stp) : Bool := trailTo x ls ts ts.length

theorem trailTo_succ (x : Int) (ls : List (List Int)) (ts : List Stp) (k : Nat) : trailTo x ls ts (k + 1) = (trailTo x ls ts k && stepOk x ls (slitsOf (ts.take k)) (stp ts k)) := by simp [trailTo, List.range_succ]

theorem trailB_no {x : Int} {ls : List (List Int)} {ts : List Stp} {k : Nat} (hk : k < ts.length) (h : stepOk x ls (slitsOf (ts.take k)) (stp ts k) = false) : trailB x ls ts = false := by
  unfold trailB trailTo
  rw [List.all_eq_false]
  exact ⟨k, List.mem_range.2 hk, by rw [h]; simp⟩

def propE (x : Int) (ls : List (List Int)) (ts : List Stp) : Int := if checkE x ls ≠ 0 then checkE x ls else if trailB x ls ts = true then 0 else 1

/-- the first thing that is wrong with a step -/
theorem step_no {x : Int} {ls : List (List Int)} {prev : List Int} {s : Stp} (h : stepOk x ls prev s = false) :
    s.lit = 0 ∨ (s.lit ≠ 0 ∧ x < s.lit) ∨ (s.lit ≠ 0 ∧ s.lit ≤ x ∧ s.lit < -x) ∨ (isB s.lit x = true ∧ (hasB prev s.lit || hasB prev (-s.lit)) = true) ∨
    (isB s.lit x = true ∧ (hasB prev s.lit || hasB prev (-s.lit)) = false ∧ s.why < -1) ∨
    (isB s.lit x = true ∧ (hasB prev s.lit || hasB prev (-s.lit)) = false ∧ -1 ≤ s.why ∧ (ls.length : Int) ≤ s.why) ∨
    (isB s.lit x = true ∧ (hasB prev s.lit || hasB prev (-s.lit)) = false ∧ 0 ≤ s.why ∧ s.why < (ls.length : Int) ∧ hasB (ell ls s.why.toNat) s.lit = false) ∨
    (isB s.lit x = true ∧ (hasB prev s.lit || hasB prev (-s.lit)) = false ∧ 0 ≤ s.why ∧ s.why < (ls.length : Int) ∧ hasB (ell ls s.why.toNat) s.lit = true ∧ ((ell ls s.why.toNat).any fun y => (y != s.lit) && !(hasB prev (-y))) = true) := by
  unfold stepOk whyOk at h
  by_cases h1 : s.lit = 0
  · exact Or.inl h1
  right
  by_cases h2 : x < s.lit
  · exact Or.inl ⟨h1, h2⟩
  right
  by_cases h3 : s.lit < -x
  · exact Or.inl ⟨h1, by omega, h3⟩
  right
  have h4 : isB s.lit x = true := isB_iff.2 ⟨h1, by omega, by omega⟩
  cases h5 : (hasB prev s.lit || hasB prev (-s.lit)) with
  | true => exact Or.inl ⟨h4, rfl⟩
  | false =>
    right
    by_cases h6 : s.why < -1
    · exact Or.inl ⟨h4, rfl, h6⟩
    right
    by_cases h7 : (ls.length : Int) ≤ s.why
    · exact Or.inl ⟨h4, rfl, by omega, h7⟩
    right
    rw [h4, h5, decide_eq_true (by omega), decide_eq_true (by omega)] at h
    by_cases h8 : s.why < 0
    · rw [decide_eq_true h8] at h; simp at h
    · rw [decide_eq_false h8] at h
      cases h9 : hasB (ell ls s.why.toNat) s.lit with
      | false => exact Or.inl ⟨h4, rfl, by omega, by omega, rfl⟩
      | true =>
        right
        rw [h9] at h
        refine ⟨h4, rfl, by omega, by omega, rfl, ?_⟩
        cases h10 : ((ell ls s.why.toNat).any fun y => (y != s.lit) && !(hasB prev (-y))) with
        | true => rfl
        | false => rw [h10] at h; simp at h

theorem step_yes {x : Int} {ls : List (List Int)} {prev : List Int} {s : Stp} (h : stepOk x ls prev s = true) :
    isB s.lit x = true ∧ (hasB prev s.lit || hasB prev (-s.lit)) = false ∧ -1 ≤ s.why ∧ s.why < (ls.length : Int) ∧
    (0 ≤ s.why → hasB (ell ls s.why.toNat) s.lit = true ∧ ((ell ls s.why.toNat).any fun y => (y != s.lit) && !(hasB prev (-y))) = false) := by
  unfold stepOk whyOk at h
  simp only [Bool.and_eq_true, Bool.or_eq_true, decide_eq_true_iff, Bool.not_eq_true'] at h
  obtain ⟨⟨⟨⟨h1, h2⟩, h3⟩, h4⟩, h5⟩ := h
  refine ⟨h1, h2, h3, h4, fun h6 => ?_⟩
  rcases h5 with h5 | h5
  · omega
  · exact h5

abbrev SetM (w : World) (b n : Nat) (S : List Int) : Prop := MF 4 edB w b n (setF S)

theorem SetM.look {w : World} {b n : Nat} {S : List Int} (h : SetM w b n S) {t : TypeId} (ht : Try.prog.underlying t = some (.map 3 4)) {x : Int} (hx : wfI x = true) :
    (Instr.lookup t (.map (some b)) (.int .i64 x) false).run Try.prog w = .ok (.bool (hasB S x)) w := by
  have := MF.look ekB ht h hx
  rwa [setF_get] at this

theorem SetM.put {w : World} {b n : Nat} {S : List Int} (h : SetM w b n S) (hn : n < maxLen) {t : TypeId} (ht : Try.prog.underlying t = some (.map 3 4)) {x : Int} (hx : wfI x = true) :
    ∃ w', (Instr.mapUpdate t (.map (some b)) (.int .i64 x) (.bool true)).run Try.prog w = .ok () w' ∧ SetM w' b (n + 1) (S ++ [x]) ∧ w.mapTurned w' b := by
  obtain ⟨w', h1, h2, h3⟩ := MF.put ekB ht h hn hx (v := true) trivial
  exact ⟨w', h1, by rw [setF_put] at h2; exact h2, h3⟩

theorem known_or {S : List Int} {x : Int} {r : Bool} (h : (hasB S x || hasB S (-x)) = r) : hasB S x = true ∧ r = true ∨ hasB S x = false ∧ hasB S (-x) = r := by
  cases h1 : hasB S x <;> rw [h1] at h <;> simp at h <;> simp [h]

set_option maxHeartbeats 400000 in
theorem known_val (r : Bool) (b n : Nat) (S : List Int) (x : Int) (w : World) (h : SetM w b n S) (h0 : -65536 ≤ x) (h1 : x ≤ 65536) (hr : (hasB S x || hasB S (-x)) = r) :
    Calls Try.prog 78 #[.map (some b), .int .i64 x] w fun e w' => e = .returned (.bool r) ∧ w = w' := by
  have l1 := h.look Try.underlying79 (wfI_lit h0 h1)
  have l2 := h.look Try.underlying79 (x := -x) (wfI_lit (by omega) (by omega))
  have hneg := lit_neg' h0 h1
  clear h
  rcases known_or hr with ⟨h2, rfl⟩ | ⟨h2, h3⟩
  · rw [h2] at l1
    clear l2 h2 hr
    go_enter Try.func78, Try.ntmps78
    go_wp2
    go_ret
    exact ⟨rfl, rfl⟩
  · rw [h2] at l1
    rw [h3] at l2
    clear h2 h3 hr
    go_enter Try.func78, Try.ntmps78
    go_wp2
    go_ret
    exact ⟨rfl, rfl⟩

set_option maxHeartbeats 400000 in
theorem step56_any (b n : Nat) (S : List Int) (x : Int) (w : World) (h : SetM w b n S) (hn : n < maxLen) (hx : wfI x = true) :
    Calls Try.prog 62 #[.map (some b), .int .i64 x] w fun e w' => e = .returned (.tuple #[]) ∧ SetM w' b (n + 1) (S ++ [x]) ∧ w.mapTurned w' b := by
  obtain ⟨w1, hrun, h1, h2⟩ := h.put hn Try.underlying79 hx
  have H1 := Lib.hid (And.intro h1 h2)
  clear h hn h1 h2
  go_enter Try.func62, Try.ntmps62
  go_wp2
  go_end0
  exact ⟨rfl, H1.out.1, H1.out.2⟩

set_option maxHeartbeats 400000 in
theorem index_any (A : Option Addr) (n c : Nat) (zs : List Int) (x : Int) (w : World) (h : RI w A n c zs) :
    Calls Try.prog 93 #[.slice A n c, .int .i64 x] w fun e w' => (∃ r : Int, e = .returned (.int .i64 r) ∧ decide (0 ≤ r) = hasB zs x) ∧ w = w' := by
  have hn := h.small
  have H := Lib.hid h
  clear h
  go_enter Try.func93, Try.ntmps93
  go_wp2
  go_loop [8] (fun i => ∃ k : Nat, k ≤ n ∧ i = .int .i64 k ∧ hasB (zs.take k) x = false) (fun i => n - (intOf i).toNat)
  case atStart => exact ⟨0, Nat.zero_le _, rfl, rfl⟩
  case round =>
    obtain ⟨k, hk, rfl, hno⟩ := hrel
    have HN := Lib.hid hno
    clear hno
    by_cases hlt : k < n
    · obtain ⟨b, off, rfl, hb, hc⟩ := H.out.cells (by omega)
      have hck := hc k hlt
      clear hc
      by_cases hx : x = elt zs k
      · have hxb : (x == elt zs k) = true := by simpa using hx
        have E : Hid (hasB zs x = true) := Lib.hid (hasB_of_at (k := k) (by rw [H.out.len]; exact hlt) (by simpa using hx.symm))
        clear hx
        go_wp2
        go_ret
        exact ⟨⟨k, rfl, by rw [E.out]; simp⟩, rfl⟩
      · have hxb : (x == elt zs k) = false := by simpa using hx
        have E : Hid (hasB (zs.take (k + 1)) x = false) := Lib.hid (hasB_step (by rw [H.out.len]; exact hlt) (by simpa using Ne.symm hx) HN.out)
        clear hx
        go_wp2
        go_round
        case rel => exact ⟨k + 1, by omega, by go_num, E.out⟩
        case measure => simp [intOf]; omega
    · go_wp2
      go_ret
      exact ⟨⟨-1, rfl, by rw [hasB_full H.out.len hlt HN.out]; rfl⟩, rfl⟩

set_option maxHeartbeats 400000 in
theorem contains_val (r : Bool) (A : Option Addr) (n c : Nat) (zs : List Int) (x : Int) (w : World) (h : RI w A n c zs) (hr : hasB zs x = r) :
    Calls Try.prog 80 #[.slice A n c, .int .i64 x] w fun e w' => e = .returned (.bool r) ∧ w = w' := by
  have hI := index_any A n c zs x w h
  rw [hr] at hI
  clear h hr
  go_enter Try.func80, Try.ntmps80
  go_wp2_with (go_at_call 93; refine hI.mono ?_; rintro e w' ⟨⟨r, rfl, hr⟩, rfl⟩)
  all_goals
    go_ret
    exact ⟨ret_bool (by rw [← hr]), rfl⟩

set_option maxHeartbeats 400000 in
theorem check1p_any (Bs Bd b n : Nat) (S : List Int) (s : Stp) (y : Int) (w : World) (hs : BoxS w Bs s) (hd : w.cell? ⟨Bd, 0, none⟩ = some (.map (some b))) (h : SetM w b n S) (h0 : -65536 ≤ y) (h1 : y ≤ 65536) :
    Calls Try.prog 79 #[.int .i64 y, .pointer (some ⟨Bs, 0, none⟩), .pointer (some ⟨Bd, 0, none⟩)] w fun e w' => e = .returned (.bool ((y != s.lit) && !(hasB S (-y)))) ∧ w = w' := by
  have l2 := h.look Try.underlying79 (x := -y) (wfI_lit (by omega) (by omega))
  have hneg := lit_neg' h0 h1
  have c0 := hs.c0
  clear h hs
  generalize hasB S (-y) = v at *
  generalize s.lit = z at *
  by_cases hy : y = z
  · have hyb : (y != z) = false := by simpa using hy
    clear hy
    go_enter Try.func79, Try.ntmps79
    go_wp2
    go_ret
    exact ⟨ret_bool (by rw [hyb]; rfl), rfl⟩
  · have hyb : (y != z) = true := by simpa using hy
    clear hy
    go_enter Try.func79, Try.ntmps79
    go_wp2
    go_ret
    exact ⟨ret_bool (by rw [hyb]; rfl), rfl⟩


theorem enters79 : ∀ args w, (callFunc 79 args).run Try.prog w = .ok (.enter 79 args) w := enters_of Try.func79 (by kernel_rfl) rfl

theorem checkE_n {x : Int} {ls : List (List Int)} (h : checkE x ls = 0) : 0 ≤ x ∧ x ≤ 65536 := by
  unfold checkE at h
  split at h
  · cases h
  · rename_i h1; omega

/-- the loop of Check under way -/
structure Ck (w1 wr : World) (k : Nat) (S : List Int) : Prop where
  set : SetM wr w1.heap.size k S
  dbox : Boxed wr (w1.heap.size + 1) 79 (.map (some w1.heap.size))
  below : Below w1.heap.size w1 wr

theorem Ck.start (w1 : World) : Ck w1 ((w1.alloc (.map #[] 0)).alloc (.cells #[.map (some w1.heap.size)] 79)) 0 [] :=
  ⟨(MF.made w1).alloc _, by have := Boxed.new (w1.alloc (.map #[] 0)) 79 (.map (some w1.heap.size)); simpa using this, ((Below.refl _ _).alloc (Nat.le_refl _) _).alloc (by simp) _⟩

theorem Ck.alloc {w1 wr : World} {k : Nat} {S : List Int} (h : Ck w1 wr k S) (o : Obj) : Ck w1 (wr.alloc o) k S :=
  ⟨h.set.alloc o, boxed_below h.dbox ((Below.refl _ _).alloc (Nat.le_refl _) _), h.below.alloc h.below.size _⟩

theorem Ck.turn {w1 wr w' : World} {k k' : Nat} {S S' : List Int} (h : Ck w1 wr k S) (hs : SetM w' w1.heap.size k' S') (ht : wr.mapTurned w' w1.heap.size) : Ck w1 w' k' S' :=
  ⟨hs, (ht.grown.block _ h.dbox.lt (by simp)).trans h.dbox, h.below.grown ht.grown h.below.size (fun g e => by cases e; exact Nat.le_refl _)⟩

set_option maxRecDepth 100000 in
set_option maxHeartbeats 4000000 in
theorem pcheck_in (x : Int) (A : Option Addr) (n c : Nat) (ls : List (List Int)) (A' : Option Addr) (n' c' : Nat) (ts : List Stp) (w : World) (h : RL w A n c ls) (h' : RS w A' n' c' ts) (hE : checkE x ls = 0) (hn' : n' ≤ 1000000) (r : Int) (hr : (if trailB x ls ts = true then 0 else 1) = r) :
    Calls Try.prog 60 #[.agg #[.int .i64 x, .slice A n c], .slice A' n' c'] w fun e w' => e = .returned (.int .i64 r) ∧ Below w.heap.size w w' := by
  obtain ⟨hx0, hx1⟩ := checkE_n hE
  have H := Lib.hid (h.alloc (.cells #[.int .i64 x, .slice A n c] 29))
  have HS := Lib.hid (h'.alloc (.cells #[.int .i64 x, .slice A n c] 29))
  have HB0 := Lib.hid ((Below.refl w.heap.size w).alloc (Nat.le_refl _) (.cells #[.int .i64 x, .slice A n c] 29))
  have BX := Lib.hid (Two.new w (.int .i64 x) (.slice A n c))
  have HE := Lib.hid hE
  have HK := Lib.hid (checkE_lits hE)
  have hlen := h.len
  have hnx := neg_small hx0 hx1
  have HLN := Lib.hid hlen
  have hnb := h.small
  have HRR := Lib.hid hr
  clear h h' hE hlen hr
  have hmm := @run_makeMap Try.prog
  go_enter Try.func60, Try.ntmps60
  go_upto_region 5 with (go_at_call 25; refine (check_val 0 x A n c ls _ H.out HE.out).mono ?_; rintro e w1 ⟨rfl, hb1⟩; have HB1 := Lib.hid (HB0.out.trans (hb1.mono HB0.out.size)); have HR1 := Lib.hid (H.out.below hb1); have HS1 := Lib.hid (HS.out.below hb1); have BX1 := Lib.hid (BX.out.below hb1); clear hb1)
  go_wp2_with fail
  go_loopw [19] (fun s19 W => ∃ k : Nat, k ≤ n' ∧ s19 = .int .i64 k ∧ trailTo x ls ts k = true ∧ Ck w1 W k (slitsOf (ts.take k))) (fun s19 _ => n' - (intOf s19).toNat)
  case atStart => exact ⟨0, Nat.zero_le _, rfl, rfl, Ck.start w1⟩
  case round =>
    obtain ⟨k, hk, rfl, htr, hck⟩ := hrel
    have HT := Lib.hid htr
    have HC := Lib.hid hck
    clear htr hck
    by_cases hlt : k < n'
    · have hl : k < ts.length := by rw [HS.out.len]; exact hlt
      obtain ⟨b, off, rfl, hbl, hc⟩ := (HS1.out.below HC.out.below).cells (by omega)
      obtain ⟨hc0, hc1⟩ := hc k hlt
      clear hc
      have E1 := Lib.hid (trailTo_succ x ls ts k)
      have E2 : Hid (slitsOf (ts.take (k + 1)) = slitsOf (ts.take k) ++ [(stp ts k).lit]) := Lib.hid (by rw [takes_snoc ts k hl, litsOf_snoc])
      have E3 := Lib.hid (trailB_no (x := x) (ls := ls) (ts := ts) hl)
      have HX := Lib.hid (BoxS.new wr (stp ts k).lit (stp ts k).why)
      have HC2 := Lib.hid (HC.out.alloc (.cells #[.int .i64 (stp ts k).lit, .int .i64 (stp ts k).why] 52))
      have q0 := (BX1.out.below HC2.out.below).c0
      have q1 := (BX1.out.below HC2.out.below).c1
      have d0 := HC2.out.dbox.cell
      clear hl
      generalize hs : stp ts k = s at *
      obtain ⟨lt, wy⟩ := s
      dsimp only at *
      cases hok : stepOk x ls (slitsOf (ts.take k)) ⟨lt, wy⟩ with
      | false =>
        have E4 := Lib.hid (E3.out hok)
        have hno := step_no hok
        dsimp only at hno
        rw [HLN.out] at hno
        have hkv := fun (r : Bool) (h0 : isB lt x = true) hr => known_val r _ _ (slitsOf (ts.take k)) lt _ HC2.out.set (by have := isB_iff.1 h0; omega) (by have := isB_iff.1 h0; omega) hr
        clear E1 E2 E3 hok
        rcases hno with h1 | ⟨h1, h2⟩ | ⟨h1, h2, h3⟩ | ⟨h1, h2⟩ | ⟨h1, h2, h3⟩ | ⟨h1, h2, h3, h4⟩ | ⟨h1, h2, h3, h4, h5⟩ | ⟨h1, h2, h3, h4, h5, h6⟩
        · have z : (lt == 0) = true := by simpa using h1
          clear h1 hkv
          go_wp2_with fail
          go_ret
          exact ⟨ret_int (by rw [← HRR.out, E4.out]; rfl), HB1.out.trans (HC2.out.below.mono HB1.out.size)⟩
        · have z : (lt == 0) = false := by simpa using h1
          clear h1 hkv
          go_wp2_with fail
          go_ret
          exact ⟨ret_int (by rw [← HRR.out, E4.out]; rfl), HB1.out.trans (HC2.out.below.mono HB1.out.size)⟩
        · have z : (lt == 0) = false := by simpa using h1
          have z2 : ¬ x < lt := by omega
          clear h1 hkv
          go_wp2_with fail
          go_ret
          exact ⟨ret_int (by rw [← HRR.out, E4.out]; rfl), HB1.out.trans (HC2.out.below.mono HB1.out.size)⟩
        · have hb := isB_iff.1 h1
          have hcall := hkv true h1 h2
          have z : (lt == 0) = false := by simpa using hb.1
          have z2 : ¬ x < lt := by omega
          have z3 : ¬ lt < -x := by omega
          clear h1 h2 hkv hb
          go_wp2_with (go_at_call 78; refine hcall.mono ?_; clear hcall; rintro e w' ⟨rfl, rfl⟩)
          go_ret
          exact ⟨ret_int (by rw [← HRR.out, E4.out]; rfl), HB1.out.trans (HC2.out.below.mono HB1.out.size)⟩
        · have hb := isB_iff.1 h1
          have hcall := hkv false h1 h2
          have z : (lt == 0) = false := by simpa using hb.1
          have z2 : ¬ x < lt := by omega
          have z3 : ¬ lt < -x := by omega
          clear h1 h2 hkv hb
          go_wp2_with (go_at_call 78; refine hcall.mono ?_; clear hcall; rintro e w' ⟨rfl, rfl⟩)
          go_ret
          exact ⟨ret_int (by rw [← HRR.out, E4.out]; rfl), HB1.out.trans (HC2.out.below.mono HB1.out.size)⟩
        · have hb := isB_iff.1 h1
          have hcall := hkv false h1 h2
          have z : (lt == 0) = false := by simpa using hb.1
          have z2 : ¬ x < lt := by omega
          have z3 : ¬ lt < -x := by omega
          have z4 : ¬ wy < -1 := by omega
          clear h1 h2 h3 hkv hb
          go_wp2_with (go_at_call 78; refine hcall.mono ?_; clear hcall; rintro e w' ⟨rfl, rfl⟩)
          go_ret
          exact ⟨ret_int (by rw [← HRR.out, E4.out]; rfl), HB1.out.trans (HC2.out.below.mono HB1.out.size)⟩
        · have hb := isB_iff.1 h1
          have hcall := hkv false h1 h2
          have z : (lt == 0) = false := by simpa using hb.1
          have z2 : ¬ x < lt := by omega
          have z3 : ¬ lt < -x := by omega
          have z4 : ¬ wy < -1 := by omega
          have z5 : ¬ (n : Int) ≤ wy := by omega
          obtain ⟨j, rfl⟩ : ∃ j : Nat, wy = j := ⟨wy.toNat, by omega⟩
          obtain ⟨b2, off2, rfl, hb2, hc2⟩ := (HR1.out.below HC2.out.below).cells (by omega)
          obtain ⟨a3, n3, c3, hc3, hr3⟩ := hc2 j (by omega)
          rw [Int.toNat_natCast] at h5
          have hcon := contains_val false a3 n3 c3 _ lt _ hr3 h5
          clear h1 h2 h5 hkv hb hc2 hr3
          go_wp2_with (first | (go_at_call 78; refine hcall.mono ?_; clear hcall; rintro e w' ⟨rfl, rfl⟩) | (go_at_call 80; refine hcon.mono ?_; clear hcon; rintro e w' ⟨rfl, rfl⟩))
          go_ret
          exact ⟨ret_int (by rw [← HRR.out, E4.out]; rfl), HB1.out.trans (HC2.out.below.mono HB1.out.size)⟩
        · have hb := isB_iff.1 h1
          have hcall := hkv false h1 h2
          have z : (lt == 0) = false := by simpa using hb.1
          have z2 : ¬ x < lt := by omega
          have z3 : ¬ lt < -x := by omega
          have z4 : ¬ wy < -1 := by omega
          have z5 : ¬ (n : Int) ≤ wy := by omega
          obtain ⟨j, rfl⟩ : ∃ j : Nat, wy = j := ⟨wy.toNat, by omega⟩
          obtain ⟨b2, off2, rfl, hb2, hc2⟩ := (HR1.out.below HC2.out.below).cells (by omega)
          obtain ⟨a3, n3, c3, hc3, hr3⟩ := hc2 j (by omega)
          rw [Int.toNat_natCast] at h5 h6
          have hokl := HK.out _ (ell_mem (ls := ls) (k := j) (by rw [HLN.out]; omega))
          have hcon := contains_val true a3 n3 c3 _ lt _ hr3 h5
          have hany := containsI_any 79 #[.pointer (some ⟨wr.heap.size, 0, none⟩), .pointer (some ⟨w1.heap.size + 1, 0, none⟩)] (fun y => (y != lt) && !(hasB (slitsOf (ts.take k)) (-y))) enters79 a3 n3 c3 _ _ hr3 (fun y hy => check1p_any wr.heap.size (w1.heap.size + 1) w1.heap.size k _ ⟨lt, (j : Int)⟩ y _ HX.out d0 HC2.out.set (hokl y hy).2.1 (hokl y hy).2.2)
          rw [h6] at hany
          clear h1 h2 h5 h6 hkv hb hc2 hr3 hokl
          go_wp2_with (first | (go_at_call 78; refine hcall.mono ?_; clear hcall; rintro e w' ⟨rfl, rfl⟩) | (go_at_call 80; refine hcon.mono ?_; clear hcon; rintro e w' ⟨rfl, rfl⟩) | (go_at_call 53; refine hany.mono ?_; clear hany; rintro e w' ⟨rfl, rfl⟩))
          go_ret
          exact ⟨ret_int (by rw [← HRR.out, E4.out]; rfl), HB1.out.trans (HC2.out.below.mono HB1.out.size)⟩
      | true =>
        have E4 : Hid (trailTo x ls ts (k + 1) = true) := Lib.hid (by rw [E1.out, HT.out, hok]; rfl)
        obtain ⟨h1, h2, h3, h4, h5⟩ := step_yes hok
        dsimp only at h1 h2 h3 h4 h5
        rw [HLN.out] at h4
        have hb := isB_iff.1 h1
        have hcall := known_val false _ _ (slitsOf (ts.take k)) lt _ HC2.out.set (by omega) (by omega) h2
        have hstep := fun W (hs : SetM W w1.heap.size k (slitsOf (ts.take k))) => step56_any _ _ _ lt W hs (by unfold maxLen; omega) (wfI_lit (by omega) (by omega))
        have z : (lt == 0) = false := by simpa using hb.1
        have z2 : ¬ x < lt := by omega
        have z3 : ¬ lt < -x := by omega
        have z4 : ¬ wy < -1 := by omega
        have z5 : ¬ (n : Int) ≤ wy := by omega
        clear h1 h2 E1 E3 hok hb
        by_cases hw0 : 0 ≤ wy
        · obtain ⟨j, rfl⟩ : ∃ j : Nat, wy = j := ⟨wy.toNat, by omega⟩
          obtain ⟨h6, h7⟩ := h5 hw0
          obtain ⟨b2, off2, rfl, hb2, hc2⟩ := (HR1.out.below HC2.out.below).cells (by omega)
          obtain ⟨a3, n3, c3, hc3, hr3⟩ := hc2 j (by omega)
          rw [Int.toNat_natCast] at h6 h7
          have hokl := HK.out _ (ell_mem (ls := ls) (k := j) (by rw [HLN.out]; omega))
          have hcon := contains_val true a3 n3 c3 _ lt _ hr3 h6
          have hany := containsI_any 79 #[.pointer (some ⟨wr.heap.size, 0, none⟩), .pointer (some ⟨w1.heap.size + 1, 0, none⟩)] (fun y => (y != lt) && !(hasB (slitsOf (ts.take k)) (-y))) enters79 a3 n3 c3 _ _ hr3 (fun y hy => check1p_any wr.heap.size (w1.heap.size + 1) w1.heap.size k _ ⟨lt, (j : Int)⟩ y _ HX.out d0 HC2.out.set (hokl y hy).2.1 (hokl y hy).2.2)
          rw [h7] at hany
          clear h5 h6 h7 hc2 hr3 hokl
          go_wp2_with (first | (go_at_call 78; refine hcall.mono ?_; clear hcall; rintro e w' ⟨rfl, rfl⟩) | (go_at_call 80; refine hcon.mono ?_; clear hcon; rintro e w' ⟨rfl, rfl⟩) | (go_at_call 53; refine hany.mono ?_; clear hany; rintro e w' ⟨rfl, rfl⟩) | (go_at_call 62; refine (hstep _ HC2.out.set).mono ?_; clear hstep; rintro e w4 ⟨rfl, hs4, ht4⟩; have HC4 := Lib.hid (HC2.out.turn hs4 ht4); clear hs4 ht4))
          go_roundw
          case rel => exact ⟨k + 1, by omega, by go_num, E4.out, by rw [E2.out]; exact HC4.out⟩
          case measure => simp [intOf]; omega
        · clear h5
          go_wp2_with (first | (go_at_call 78; refine hcall.mono ?_; clear hcall; rintro e w' ⟨rfl, rfl⟩) | (go_at_call 62; refine (hstep _ HC2.out.set).mono ?_; clear hstep; rintro e w4 ⟨rfl, hs4, ht4⟩; have HC4 := Lib.hid (HC2.out.turn hs4 ht4); clear hs4 ht4))
          go_roundw
          case rel => exact ⟨k + 1, by omega, by go_num, E4.out, by rw [E2.out]; exact HC4.out⟩
          case measure => simp [intOf]; omega
    · have E : Hid (trailB x ls ts = true) := Lib.hid (by unfold trailB; rw [show ts.length = k by rw [HS.out.len]; omega]; exact HT.out)
      go_wp2_with fail
      go_ret
      exact ⟨ret_int (by rw [← HRR.out, E.out]; rfl), HB1.out.trans (HC.out.below.mono HB1.out.size)⟩

set_option maxRecDepth 100000 in
set_option maxHeartbeats 1000000 in
theorem pcheck_out (x : Int) (A : Option Addr) (n c : Nat) (ls : List (List Int)) (A' : Option Addr) (n' c' : Nat) (w : World) (h : RL w A n c ls) (hE : checkE x ls ≠ 0) :
    Calls Try.prog 60 #[.agg #[.int .i64 x, .slice A n c], .slice A' n' c'] w fun e w' => e = .returned (.int .i64 (checkE x ls)) ∧ Below w.heap.size w w' := by
  have hcall := check_any x A n c ls (w.alloc (.cells #[.int .i64 x, .slice A n c] 29)) (h.alloc _)
  generalize checkE x ls = r at hcall hE ⊢
  have hr : (r != 0) = true := by simpa using hE
  clear hE h
  go_enter Try.func60, Try.ntmps60
  go_wp2_with (go_at_call 25; refine hcall.mono ?_; clear hcall; rintro e w1 ⟨rfl, hb⟩)
  go_ret
  exact ⟨rfl, ((Below.refl _ w).alloc (Nat.le_refl _) _).trans (hb.mono (by simp))⟩

theorem pcheck_any (x : Int) (A : Option Addr) (n c : Nat) (ls : List (List Int)) (A' : Option Addr) (n' c' : Nat) (ts : List Stp) (w : World) (h : RL w A n c ls) (h' : RS w A' n' c' ts) (hn' : n' ≤ 1000000) :
    Calls Try.prog 60 #[.agg #[.int .i64 x, .slice A n c], .slice A' n' c'] w fun e w' => e = .returned (.int .i64 (propE x ls ts)) ∧ Below w.heap.size w w' := by
  unfold propE
  by_cases hE : checkE x ls = 0
  · rw [if_neg (by simpa using hE)]; exact pcheck_in x A n c ls A' n' c' ts w h h' hE hn' _ rfl
  · rw [if_pos hE]; exact pcheck_out x A n c ls A' n' c' w h hE

theorem pcheck_val (r : Int) (x : Int) (A : Option Addr) (n c : Nat) (ls : List (List Int)) (A' : Option Addr) (n' c' : Nat) (ts : List Stp) (w : World) (h : RL w A n c ls) (h' : RS w A' n' c' ts) (hn' : n' ≤ 1000000) (hr : propE x ls ts = r) :
    Calls Try.prog 60 #[.agg #[.int .i64 x, .slice A n c], .slice A' n' c'] w fun e w' => e = .returned (.int .i64 r) ∧ Below w.heap.size w w' := by
  have := pcheck_any x A n c ls A' n' c' ts w h h' hn'
  rw [hr] at this; exact this

/-- the place of a literal; -1 if it is not there -/
def plcI (ts : List Stp) (x : Int) : Int := if plc ts x < ts.length then (plc ts x : Int) else -1

/-- what Check says of a trail -/
structure Tr (x : Int) (ls : List (List Int)) (ts : List Stp) : Prop where
  lit : ∀ k, k < ts.length → isB (stp ts k).lit x = true
  apart : ∀ j k, j < k → k < ts.length → (stp ts j).lit ≠ (stp ts k).lit ∧ (stp ts j).lit ≠ -(stp ts k).lit
  why : ∀ k, k < ts.length → -1 ≤ (stp ts k).why ∧ (stp ts k).why < (ls.length : Int)
  reason : ∀ k, k < ts.length → 0 ≤ (stp ts k).why → (stp ts k).lit ∈ ell ls (stp ts k).why.toNat ∧ ∀ y ∈ ell ls (stp ts k).why.toNat, y ≠ (stp ts k).lit → ∃ j, j < k ∧ (stp ts j).lit = -y

theorem mem_litsTake {ts : List Stp} {k : Nat} (hk : k ≤ ts.length) {y : Int} : y ∈ slitsOf (ts.take k) ↔ ∃ j, j < k ∧ (stp ts j).lit = y := by
  unfold slitsOf
  rw [List.mem_map]
  constructor
  · rintro ⟨s, hs, rfl⟩
    obtain ⟨j, hj, rfl⟩ := List.mem_iff_getElem.1 hs
    have hj' : j < k := by rw [List.length_take] at hj; omega
    exact ⟨j, hj', by rw [List.getElem_take, stp_lt (by omega)]⟩
  · rintro ⟨j, hj, rfl⟩
    refine ⟨stp ts j, ?_, rfl⟩
    rw [stp_lt (by omega)]
    exact List.mem_take_iff_getElem.2 ⟨j, by omega, rfl⟩

theorem trail_tr {x : Int} {ls : List (List Int)} {ts : List Stp} (h : trailB x ls ts = true) : Tr x ls ts := by
  have hk : ∀ k, k < ts.length → stepOk x ls (slitsOf (ts.take k)) (stp ts k) = true := fun k hk => by
    unfold trailB trailTo at h
    exact List.all_eq_true.1 h k (List.mem_range.2 hk)
  refine ⟨fun k h1 => (step_yes (hk k h1)).1, fun j k hjk h1 => ?_, fun k h1 => ⟨(step_yes (hk k h1)).2.2.1, (step_yes (hk k h1)).2.2.2.1⟩, fun k h1 h2 => ?_⟩
  · have h2 := (step_yes (hk k h1)).2.1
    obtain ⟨h3, h4⟩ := Bool.or_eq_false_iff.1 h2
    rw [hasB_false, mem_litsTake (by omega)] at h3 h4
    exact ⟨fun e => h3 ⟨j, hjk, e⟩, fun e => h4 ⟨j, hjk, e⟩⟩
  · obtain ⟨h3, h4⟩ := (step_yes (hk k h1)).2.2.2.2 h2
    refine ⟨hasB_iff.1 h3, fun y hy hne => ?_⟩
    rw [List.any_eq_false] at h4
    have := h4 y hy
    have h5 : (y != (stp ts k).lit) = true := by simpa using hne
    rw [h5] at this
    have h6 : hasB (slitsOf (ts.take k)) (-y) = true := by simpa using this
    rw [hasB_iff, mem_litsTake (by omega)] at h6
    exact h6

theorem propE_zero {x : Int} {ls : List (List Int)} {ts : List Stp} (h : propE x ls ts = 0) : checkE x ls = 0 ∧ trailB x ls ts = true := by
  unfold propE at h
  by_cases h1 : checkE x ls = 0
  · rw [if_neg (by simpa using h1)] at h
    refine ⟨h1, ?_⟩
    cases h2 : trailB x ls ts with
    | true => rfl
    | false => rw [h2] at h; simp at h
  · rw [if_pos h1] at h; exact absurd h h1

theorem Tr.plc {x : Int} {ls : List (List Int)} {ts : List Stp} (h : Tr x ls ts) {k : Nat} (hk : k < ts.length) : plc ts (stp ts k).lit = k :=
  plc_at hk rfl fun j hj => (h.apart j k hj hk).1

/-- what the index holds -/
def atTo (ts : List Stp) (k : Nat) : Int → Option Int := fun y => if plc ts y < k then some (plc ts y : Int) else none

def atF (ts : List Stp) : Int → Option Int := atTo ts ts.length

abbrev IntM (w : World) (b n : Nat) (f : Int → Option Int) : Prop := MF 3 edI w b n f

section

variable {w w' : World} {B : Nat} {x : Int} {A : Option Addr} {n c : Nat} {A' : Option Addr} {n' c' : Nat} {A2 : Option Addr} {n2 q2 : Nat} {m : Option Nat}

end

end Go.Proofs.Ytalcnkoidmoibaa
