/-
  Words for memory; a region that draws its order and only makes memory. Turned from this repo's texts of chapter 22. No condition.
-/
import Derived.Test.YtenpenelikpeeaaRows
import Derived.WalkKit
import Derived.WalkSpells
import Derived.WalkLawsBesides
import Derived.Lib.Hide
import Derived.Below
import Derived.Laws.OwnMore
import Derived.Calls
import Derived.Deep.Quiet
import Derived.Deep.QuietTactic
import Derived.BigQuiet
import Derived.Shelf.Abstract
namespace Go.Proofs.Ytenpenelikpeeaa
open Go.RowKit Go.Shelf
set_option linter.unusedVariables false
set_option linter.unusedSimpArgs false

/- YtalcnkoidmoibaaMem -/
/-- the element at a place; 0 behind the end -/
def elt (zs : List Int) (k : Nat) : Int := zs.getD k 0

theorem elt_lt {zs : List Int} {k : Nat} (h : k < zs.length) : elt zs k = zs[k] := by simp [elt, List.getD_eq_getElem?_getD, List.getElem?_eq_getElem h]

theorem take_snoc (zs : List Int) (k : Nat) (h : k < zs.length) : zs.take (k + 1) = zs.take k ++ [elt zs k] := by
  rw [List.take_succ_eq_append_getElem h, elt_lt h]

/-- what a slice value reads as in a world -/
structure RI (w : World) (A : Option Addr) (n c : Nat) (zs : List Int) : Prop where
  len : zs.length = n
  cap : n ≤ c
  big : n * 8 ≤ 140737488355328
  cmax : c ≤ maxLen
  cells : 0 < n → ∃ b off, A = some ⟨b, off, none⟩ ∧ b < w.heap.size ∧ ∀ j, j < n → w.cell? ⟨b, off + j, none⟩ = some (.int .i64 (elt zs j))

theorem RI.below {w w' : World} {A : Option Addr} {n c : Nat} {zs : List Int} (h : RI w A n c zs) (hb : Below w.heap.size w w') : RI w' A n c zs :=
  ⟨h.len, h.cap, h.big, h.cmax, fun hn => by
    obtain ⟨b, off, rfl, hlt, hc⟩ := h.cells hn
    exact ⟨b, off, rfl, Nat.lt_of_lt_of_le hlt hb.size, fun j hj => (hb.cell (p := ⟨b, off + j, none⟩) hlt).trans (hc j hj)⟩⟩

theorem RI.nil (w : World) (A : Option Addr) (c : Nat) (hc : c ≤ maxLen) : RI w A 0 c [] := ⟨rfl, Nat.zero_le _, by omega, hc, fun h => absurd h (by omega)⟩

theorem RI.drew {w : World} {A : Option Addr} {n c : Nat} {zs : List Int} (h : RI w A n c zs) : RI w.drew A n c zs := h.below ((Below.refl _ _).drew)

theorem RI.alloc {w : World} {A : Option Addr} {n c : Nat} {zs : List Int} (h : RI w A n c zs) (o : Obj) : RI (w.alloc o) A n c zs := h.below ((Below.refl _ _).alloc (Nat.le_refl _) _)

theorem RI.small {w : World} {A : Option Addr} {n c : Nat} {zs : List Int} (h : RI w A n c zs) : n ≤ 17592186044416 := by have := h.big; omega

theorem bcell {W w1 : World} (hb : Below W.heap.size W w1) : (∀ b o, b < W.heap.size → w1.cell? ⟨b, o, none⟩ = W.cell? ⟨b, o, none⟩) ∧ (∀ b o, b < W.heap.size → w1.frozen? ⟨b, o, none⟩ = W.frozen? ⟨b, o, none⟩) :=
  ⟨fun b o h => hb.cell (p := ⟨b, o, none⟩) h, fun b o h => hb.frozen (p := ⟨b, o, none⟩) h⟩

theorem ret_bool {a b : Bool} (h : a = b) : Ending.returned (.bool a) = .returned (.bool b) := by rw [h]

theorem ret_int {k : IntKind} {a b : Int} (h : a = b) : Ending.returned (.int k a) = .returned (.int k b) := by rw [h]

/- plain functions -/

/-- a row of the call's own reads as its list -/
theorem RI.of_own {w : World} {base : Nat} {A : Option Addr} {n c : Nat} {zs : List Int} (h : w.ownsRow base 3 1 (.slice A n c) n (zs.map (Value.int .i64))) (hbig : n * 8 ≤ 140737488355328) : RI w A n c zs := by
  obtain ⟨h1, h2⟩ := h
  have hl : zs.length = n := by simpa using h1
  rcases h2 with ⟨hv, hn⟩ | ⟨g, cap, cur, hv, hg, hh, hnc, hcm, hcs, htk⟩
  · simp only [Value.slice.injEq] at hv
    obtain ⟨rfl, _, rfl⟩ := hv
    subst hn
    exact ⟨hl, Nat.le_refl _, hbig, Nat.zero_le _, fun h => absurd h (by omega)⟩
  · simp only [Value.slice.injEq] at hv
    obtain ⟨rfl, _, rfl⟩ := hv
    refine ⟨hl, hnc, hbig, hcm, fun hn => ⟨g, 0, rfl, ?_, fun j hj => ?_⟩⟩
    · rcases Nat.lt_or_ge g w.heap.size with hlt | hge
      · exact hlt
      · rw [Array.getElem?_eq_none hge] at hh; cases hh
    · have hj' : j < cur.size := by omega
      have e : cur[j]? = some (.int .i64 (elt zs j)) := by
        have h3 : (cur.toList.take (n * 1))[j]? = (zs.map (Value.int .i64))[j]? := by rw [htk]
        rw [List.getElem?_take_of_lt (by omega), List.getElem?_map, List.getElem?_eq_getElem (by omega : j < zs.length)] at h3
        rw [← Array.getElem?_toList, h3, elt_lt (by omega)]
        rfl
      simp [World.cell?, hh, e]

def hasB (zs : List Int) (x : Int) : Bool := zs.contains x

theorem hasB_iff {zs : List Int} {x : Int} : hasB zs x = true ↔ x ∈ zs := by simp [hasB]

theorem hasB_nil (x : Int) : hasB [] x = false := rfl

theorem hasB_snoc (zs : List Int) (x y : Int) : hasB (zs ++ [y]) x = (hasB zs x || (y == x)) := by
  rw [Bool.eq_iff_iff, hasB_iff, Bool.or_eq_true, hasB_iff, beq_iff_eq, List.mem_append, List.mem_singleton]
  exact ⟨fun h => h.imp id Eq.symm, fun h => h.imp id Eq.symm⟩

theorem hasB_of_at {zs : List Int} {x : Int} {k : Nat} (h : k < zs.length) (e : (elt zs k == x) = true) : hasB zs x = true := by
  rw [hasB_iff]; rw [elt_lt h] at e; have : zs[k] = x := by simpa using e
  rw [← this]; exact List.getElem_mem h

theorem hasB_step {zs : List Int} {x : Int} {k : Nat} (h : k < zs.length) (e : (elt zs k == x) = false) (h0 : hasB (zs.take k) x = false) : hasB (zs.take (k + 1)) x = false := by
  rw [take_snoc zs k h, hasB_snoc, h0, e]; rfl

theorem hasB_full {zs : List Int} {x : Int} {k n : Nat} (hl : zs.length = n) (h : ¬ k < n) (h0 : hasB (zs.take k) x = false) : hasB zs x = false := by
  rw [List.take_of_length_le (by omega)] at h0; exact h0

def sameB (a b : List Int) : Bool := a == b

theorem sameB_iff {a b : List Int} : sameB a b = true ↔ a = b := by simp [sameB]

theorem sameB_len {a b : List Int} (h : a.length ≠ b.length) : sameB a b = false := by
  unfold sameB; rw [beq_eq_false_iff_ne]; intro e; exact h (by rw [e])

theorem sameB_at {a b : List Int} {k : Nat} (ha : k < a.length) (hb : k < b.length) (h : elt a k ≠ elt b k) : sameB a b = false := by
  unfold sameB; rw [beq_eq_false_iff_ne]; intro e; subst e; exact h rfl

theorem take_eq_step {a b : List Int} {k : Nat} (ha : k < a.length) (hb : k < b.length) (h : a.take k = b.take k) (e : elt a k = elt b k) : a.take (k + 1) = b.take (k + 1) := by
  rw [take_snoc a k ha, take_snoc b k hb, h, e]

theorem sameB_full {a b : List Int} {k n : Nat} (ha : a.length = n) (hb : b.length = n) (hk : ¬ k < n) (h : a.take k = b.take k) : sameB a b = true := by
  rw [List.take_of_length_le (by omega), List.take_of_length_le (by omega)] at h
  rw [sameB_iff]; exact h

/-- the list at a place; empty behind the end -/
def ell (ls : List (List Int)) (k : Nat) : List Int := ls.getD k []

theorem ell_lt {ls : List (List Int)} {k : Nat} (h : k < ls.length) : ell ls k = ls[k] := by simp [ell, List.getD_eq_getElem?_getD, List.getElem?_eq_getElem h]

theorem takel_snoc (ls : List (List Int)) (k : Nat) (h : k < ls.length) : ls.take (k + 1) = ls.take k ++ [ell ls k] := by
  rw [List.take_succ_eq_append_getElem h, ell_lt h]

theorem ell_mem {ls : List (List Int)} {k : Nat} (h : k < ls.length) : ell ls k ∈ ls := by rw [ell_lt h]; exact List.getElem_mem h

theorem elt_mem {zs : List Int} {k : Nat} (h : k < zs.length) : elt zs k ∈ zs := by rw [elt_lt h]; exact List.getElem_mem h

/-- a slice of slices of ints that reads as a list of lists in a world -/
structure RL (w : World) (A : Option Addr) (n c : Nat) (ls : List (List Int)) : Prop where
  len : ls.length = n
  cap : n ≤ c
  big : n * 24 ≤ 140737488355328
  cmax : c ≤ maxLen
  cells : 0 < n → ∃ b off, A = some ⟨b, off, none⟩ ∧ b < w.heap.size ∧ ∀ j, j < n → ∃ A' n' c', w.cell? ⟨b, off + j, none⟩ = some (.slice A' n' c') ∧ RI w A' n' c' (ell ls j)

theorem RL.below {w w' : World} {A : Option Addr} {n c : Nat} {ls : List (List Int)} (h : RL w A n c ls) (hb : Below w.heap.size w w') : RL w' A n c ls :=
  ⟨h.len, h.cap, h.big, h.cmax, fun hn => by
    obtain ⟨b, off, rfl, hlt, hc⟩ := h.cells hn
    refine ⟨b, off, rfl, Nat.lt_of_lt_of_le hlt hb.size, fun j hj => ?_⟩
    obtain ⟨A', n', c', h1, h2⟩ := hc j hj
    exact ⟨A', n', c', (hb.cell (p := ⟨b, off + j, none⟩) hlt).trans h1, h2.below hb⟩⟩

theorem RL.nil (w : World) (A : Option Addr) (c : Nat) (hc : c ≤ maxLen) : RL w A 0 c [] := ⟨rfl, Nat.zero_le _, by omega, hc, fun h => absurd h (by omega)⟩

theorem RL.drew {w : World} {A : Option Addr} {n c : Nat} {ls : List (List Int)} (h : RL w A n c ls) : RL w.drew A n c ls := h.below ((Below.refl _ _).drew)

theorem RL.alloc {w : World} {A : Option Addr} {n c : Nat} {ls : List (List Int)} (h : RL w A n c ls) (o : Obj) : RL (w.alloc o) A n c ls := h.below ((Below.refl _ _).alloc (Nat.le_refl _) _)

theorem RL.small {w : World} {A : Option Addr} {n c : Nat} {ls : List (List Int)} (h : RL w A n c ls) : n ≤ 5864062014806 := by have := h.big; omega

/- YtalcnkoidmoibaaGrow -/
/-- a world in which all that lay in w lies as it did -/
structure Gr (w : World) where
  val : World
  ok : Below w.heap.size w val

instance (w : World) : Nonempty (Gr w) := ⟨⟨w, Below.refl _ _⟩⟩

theorem wp_region_grow {P : Program} {id : Nat} {Q : Exit → Act → World → Prop} {a : Act} {w : World} {l : List Oper} (hm : P.follows .mixedOrders = true) (hB : Region.lexB .any l.toArray = true)
    (h : wpQuiet P l.toArray (fun w' => ∃ u : Gr w, w' = u.val) (fun a' => ∀ w', (∃ u : Gr w, w' = u.val) → Q .normal a' w') l a) : (Code.region id l.toArray true).wp P Q a w :=
  wp_region_quiet (C := fun w' => ∃ u : Gr w, w' = u.val) hm hB ⟨⟨w.drew, (Below.refl _ _).drew⟩, rfl⟩ (by simpa using h)

theorem Gr.call {P : Program} {f : FuncId} {args : Array Value} {w : World} {v : Value} (u : Gr w) (h : Calls P f args u.val fun e w' => e = .returned v ∧ Below u.val.heap.size u.val w') :
    Calls P f args u.val fun e w' => e = .returned v ∧ ∃ u' : Gr w, w' = u'.val :=
  h.mono fun _ w' ⟨he, hb⟩ => ⟨he, ⟨w', u.ok.trans (hb.mono u.ok.size)⟩, rfl⟩

theorem Gr.same {P : Program} {f : FuncId} {args : Array Value} {w : World} {v : Value} (u : Gr w) (h : Calls P f args u.val fun e w' => e = .returned v ∧ u.val = w') :
    Calls P f args u.val fun e w' => e = .returned v ∧ ∃ u' : Gr w, w' = u'.val :=
  h.mono fun _ _ ⟨he, hb⟩ => ⟨he, u, hb.symm⟩

theorem Gr.cell {w : World} {p : Addr} {v : Value} (u : Gr w) (hp : p.block < w.heap.size) (h : w.cell? p = some v) : u.val.cell? p = some v := (u.ok.cell hp).trans h

theorem Gr.out {w w' : World} (h : ∃ u : Gr w, w' = u.val) : Below w.heap.size w w' := by
  obtain ⟨u, rfl⟩ := h; exact u.ok

end Go.Proofs.Ytenpenelikpeeaa
