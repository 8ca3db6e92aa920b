/-
  The normal form of a clause, in plain words. No program in sight. No condition.
  Five layings of the shelf at this program, written by the kit's tools lay-shelf.mjs and lay-plain.mjs: slices.Compact, Clone, DeleteFunc, SortFunc at ints. No condition.
  What slices.Clone, DeleteFunc, SortFunc, Compact leave, joined: the plain half of cnf.Norm. No condition.
  What Compact makes of a sorted row of literals: strictly ascending, with the same members. No program in sight. No condition.
  Filter, sort, compact: the normal form. No program in sight. No condition.
  cnf.Norm up to its last loop: DeleteFunc, SortFunc, Compact over a row of the call's own. No condition.
  slices.Compact over a row of the call's own; cnf.Norm. No condition.
-/
import Derived.Test.YtalcnkoidmoibaaZA1
import Derived.Shelf.SlicesE.Compact
import Derived.Shelf.SlicesE.Clone
import Derived.Shelf.SlicesE.DeleteFunc
import Derived.Shelf.SlSortCmp.Whole1
import Derived.Shelf.SlSortCmp.NoneTotal
import Derived.Test.YtalcnkoidmoibaaProg
import Derived.Test.YtalcnkoidmoibaaZA2
import Derived.Lib.OwnBridge
import Derived.Lib.AppendIntMem

namespace Go.Proofs.Ytalcnkoidmoibaa
set_option linter.unusedVariables false
set_option linter.unusedSimpArgs false

/-- a sorts before b -/
def litLt (a b : Int) : Bool := decide (absI a < absI b) || (decide (absI a = absI b) && decide (b < a))
theorem litLt_iff {a b : Int} : litLt a b = true ↔ absI a < absI b ∨ (absI a = absI b ∧ b < a) := by simp [litLt]
theorem litLt_irrefl (a : Int) : ¬ litLt a a = true := by rw [litLt_iff]; omega
theorem litLt_trans {a b c : Int} (h1 : litLt a b = true) (h2 : litLt b c = true) : litLt a c = true := by rw [litLt_iff] at *; omega
theorem litLt_asymm {a b : Int} (h1 : litLt a b = true) : ¬ litLt b a = true := by rw [litLt_iff] at *; omega
theorem litLt_total {a b : Int} (h : a ≠ b) : litLt a b = true ∨ litLt b a = true := by rw [litLt_iff, litLt_iff]; omega

/-- strictly ascending -/
def Asc (l : List Int) : Prop := l.Pairwise fun a b => litLt a b = true

theorem asc_ext : ∀ {l m : List Int}, Asc l → Asc m → (∀ x, x ∈ l ↔ x ∈ m) → l = m
  | [], [], _, _, _ => rfl
  | [], y :: m, _, _, h => by have := (h y).2 (by simp); simp at this
  | x :: l, [], _, _, h => by have := (h x).1 (by simp); simp at this
  | x :: l, y :: m, h1, h2, h => by
    have h1' := List.pairwise_cons.1 h1
    have h2' := List.pairwise_cons.1 h2
    have e : x = y := by
      have hx := (h x).1 (by simp)
      have hy := (h y).2 (by simp)
      rcases List.mem_cons.1 hx with hx | hx
      · exact hx
      · rcases List.mem_cons.1 hy with hy | hy
        · exact hy.symm
        · exact absurd (h1'.1 y hy) (litLt_asymm (h2'.1 x hx))
    subst e
    congr 1
    refine asc_ext h1'.2 h2'.2 fun z => ?_
    have hz := h z
    simp only [List.mem_cons] at hz
    constructor
    · intro hm
      rcases hz.1 (Or.inr hm) with e | e
      · subst e; exact absurd (h1'.1 z hm) (litLt_irrefl z)
      · exact e
    · intro hm
      rcases hz.2 (Or.inr hm) with e | e
      · subst e; exact absurd (h2'.1 z hm) (litLt_irrefl z)
      · exact e

/-- put a literal at its place -/
def insR (x : Int) : List Int → List Int
  | [] => [x]
  | y :: l => if litLt y x = true then y :: insR x l else x :: y :: l
theorem mem_insR {x z : Int} : ∀ {l : List Int}, z ∈ insR x l ↔ z = x ∨ z ∈ l
  | [] => by simp [insR]
  | y :: l => by
    unfold insR
    split
    · simp only [List.mem_cons, mem_insR]; constructor
      · rintro (h | h | h)
        · exact Or.inr (Or.inl h)
        · exact Or.inl h
        · exact Or.inr (Or.inr h)
      · rintro (h | h | h)
        · exact Or.inr (Or.inl h)
        · exact Or.inl h
        · exact Or.inr (Or.inr h)
    · simp
theorem asc_insR {x : Int} : ∀ {l : List Int}, Asc l → x ∉ l → Asc (insR x l)
  | [], _, _ => by simp [insR, Asc]
  | y :: l, h, hx => by
    have h' := List.pairwise_cons.1 h
    simp only [List.mem_cons, not_or] at hx
    unfold insR
    split
    · rename_i hlt
      refine List.pairwise_cons.2 ⟨fun z hz => ?_, asc_insR h'.2 hx.2⟩
      rcases mem_insR.1 hz with e | e
      · subst e; exact hlt
      · exact h'.1 z e
    · rename_i hlt
      have hxy : litLt x y = true := (litLt_total hx.1).resolve_right hlt
      refine List.pairwise_cons.2 ⟨fun z hz => ?_, h⟩
      rcases List.mem_cons.1 hz with e | e
      · subst e; exact hxy
      · exact litLt_trans hxy (h'.1 z e)

def normStep (out : List Int) (x : Int) : List Int := if isB x 65536 = true ∧ hasB out x = false then insR x out else out
/-- the normal form of a clause -/
def normP (l : List Int) : List Int := l.foldl normStep []

theorem normP_snoc (l : List Int) (x : Int) : normP (l ++ [x]) = normStep (normP l) x := by simp [normP]
theorem norm_fold : ∀ (l out : List Int), Asc out → (Asc (l.foldl normStep out) ∧ ∀ x, x ∈ l.foldl normStep out ↔ x ∈ out ∨ (x ∈ l ∧ isB x 65536 = true))
  | [], out, h => ⟨h, fun x => by simp⟩
  | y :: l, out, h => by
    have hs : Asc (normStep out y) ∧ ∀ x, x ∈ normStep out y ↔ x ∈ out ∨ (x = y ∧ isB x 65536 = true) := by
      unfold normStep
      split
      · rename_i hc
        have hn : y ∉ out := fun hm => by have := hasB_iff.2 hm; rw [hc.2] at this; cases this
        refine ⟨asc_insR h hn, fun x => ?_⟩
        rw [mem_insR]
        constructor
        · rintro (e | e)
          · subst e; exact Or.inr ⟨rfl, hc.1⟩
          · exact Or.inl e
        · rintro (e | ⟨e, _⟩)
          · exact Or.inr e
          · exact Or.inl e
      · rename_i hc
        refine ⟨h, fun x => ⟨Or.inl, ?_⟩⟩
        rintro (e | ⟨e, hb⟩)
        · exact e
        · subst e
          cases hh : hasB out x with
          | true => exact hasB_iff.1 hh
          | false => exact absurd ⟨hb, hh⟩ hc
    obtain ⟨h1, h2⟩ := norm_fold l (normStep out y) hs.1
    refine ⟨h1, fun x => ?_⟩
    rw [List.foldl_cons, h2, hs.2, List.mem_cons]
    constructor
    · rintro ((e | ⟨e, hb⟩) | ⟨e, hb⟩)
      · exact Or.inl e
      · exact Or.inr ⟨Or.inl e, hb⟩
      · exact Or.inr ⟨Or.inr e, hb⟩
    · rintro (e | ⟨e | e, hb⟩)
      · exact Or.inl (Or.inl e)
      · exact Or.inl (Or.inr ⟨e, hb⟩)
      · exact Or.inr ⟨e, hb⟩
theorem normP_asc (l : List Int) : Asc (normP l) := (norm_fold l [] (by simp [Asc])).1
theorem mem_normP {l : List Int} {x : Int} : x ∈ normP l ↔ x ∈ l ∧ isB x 65536 = true := by
  have := (norm_fold l [] (by simp [Asc])).2 x
  simpa [normP] using this
/-- whatever is strictly ascending and holds the clause's literals is its normal form -/
theorem normP_eq {l m : List Int} (h : Asc m) (hm : ∀ x, x ∈ m ↔ x ∈ l ∧ isB x 65536 = true) : m = normP l :=
  asc_ext h (normP_asc l) fun x => by rw [hm, mem_normP]

end Go.Proofs.Ytalcnkoidmoibaa

namespace Go.Proofs
open Go.Shelf
def Try.laysSlE43_f52_ren : Go.Shelf.Ren := ⟨fun | 43 => 52 | n => n, fun | 22 => 31 | 23 => 3 | 3 => 3 | 4 => 4 | 0 => 0 | n => n, fun | n => n⟩
theorem Try.laysSlE43_f52 : Go.Proofs.SlLaysE.n43 Try.prog Try.laysSlE43_f52_ren := {
  mixed := by kernel_rfl
  f43 := ⟨Try.f52.name, by decide, Try.func52.trans (congrArg some (by kernel_rfl))⟩
  t0 := Try.underlying0
  a0 := Try.isAgg0
  z0 := Try.sizeOf0
  v0 := Try.zeroValue0
  t3 := Try.underlying3
  a3 := Try.isAgg3
  z3 := Try.sizeOf3
  v3 := Try.zeroValue3
  t4 := Try.underlying4
  a4 := Try.isAgg4
  z4 := Try.sizeOf4
  v4 := Try.zeroValue4
  t22 := Try.underlying31
  a22 := Try.isAgg31
  z22 := Try.sizeOf31
  v22 := Try.zeroValue31
  a23 := Try.isAgg3
  z23 := Try.sizeOf3 }
open Go.RowKit Go.Lib Go.Sort in
/-- slices.Compact: "Compact replaces consecutive runs of equal elements with a single copy. .. Compact zeroes the elements between the new length and the original length.": IT RETURNS THE SLICE CUT TO 'compactUpTo d d.size'; ITS CELLS HOLD THAT, THEN ZERO VALUES up to the old length; the library's two loops are walked. (LAID AT THE INSTANCE 'slices.Compact[[]int,int]': no walk: one application.) -/
theorem Try.slices_Compact {α : Type} [Inhabited α] [DecidableEq α] (enc : α → Value) (hO : OneCell enc) (heq : EqlAt Try.prog 3 enc (fun x y => decide (x = y))) (hne : NeqAt Try.prog 3 enc (fun x y => decide (x = y))) (zr : α) (v23 : ∀ w, (zeroValue 3).run Try.prog w = .ok (enc zr) w) (blk off cap : Nat) (d : Array α) (w : World) (hH : Holds enc w blk off d) (hsz : d.size ≤ 9223372036854775807) (hcap : d.size ≤ cap) :
    Calls Try.prog 52 #[.slice (some ⟨blk, off, none⟩) d.size cap] w fun e w' => e = .returned (.slice (some ⟨blk, off, none⟩) (compactUpTo d d.size).length cap) ∧ ∃ q, w' = putRow enc (Sort.ahead w q) blk off (compactUpTo d d.size ++ List.replicate (d.size - (compactUpTo d d.size).length) zr).toArray := AnyE.slices_Compact Try.laysSlE43_f52 enc hO heq hne zr v23 blk off cap d w hH hsz hcap
def Try.laysSlE041_f45_ren : Go.Shelf.Ren := ⟨fun | 41 => 45 | n => n, fun | 22 => 31 | 23 => 3 | 4 => 4 | n => n, fun | n => n⟩
theorem Try.laysSlE041_f45 : Go.Proofs.SlLaysE0.n41 Try.prog Try.laysSlE041_f45_ren := {
  mixed := by kernel_rfl
  f41 := ⟨Try.f45.name, by decide, Try.func45.trans (congrArg some (by kernel_rfl))⟩
  t4 := Try.underlying4
  a4 := Try.isAgg4
  z4 := Try.sizeOf4
  v4 := Try.zeroValue4
  t22 := Try.underlying31
  a22 := Try.isAgg31
  z22 := Try.sizeOf31
  v22 := Try.zeroValue31 }
open Go.RowKit Go.Lib in
/-- slices.Clone: "Clone returns a copy of the slice. The elements are copied using assignment, so this is a shallow clone. The result may have additional unused capacity. The result preserves the nilness of s.": OF A SLICE THAT IS NOT nil IT RETURNS A SLICE THAT IS NOT nil, OF THE SAME CELLS, IN MEMORY OF THE CALL's OWN ('ownsRow': the how-to's 6f); below the heap's size at the call all is as it was. (LAID AT THE INSTANCE 'slices.Clone[[]int,int]': no walk: one application.) -/
theorem Try.slices_Clone (i0 : TypeInfo) (z : Value) (size bytes : Nat) (hi : Try.prog.info? 3 = some i0) (hz0 : i0.zero = some z) (hz1 : i0.size = size) (hz2 : i0.bytes = bytes) (hzs : z.cells.size = size) (hsz : 0 < size) (z23 : ∀ w, (Go.sizeOf 3).run Try.prog w = .ok size w) (b off n c : Nat) (news : List Value) (w : World) (hl : news.length = n * size) (hn : n ≤ maxLen) (hbig : n * bytes ≤ 140737488355328) (hc : ∀ j u, news[j]? = some u → w.cell? ⟨b, off + j, none⟩ = some u) (h1 : ∀ u ∈ news, u.oneCell' = true) :
    Calls Try.prog 45 #[.slice (some ⟨b, off, none⟩) n c] w fun e w' => ∃ v', e = .returned v' ∧ w'.ownsRow w.heap.size 3 size v' n news ∧ v' ≠ .slice none 0 0 ∧ Below w.heap.size w w' := AnyE.slices_Clone Try.laysSlE041_f45 i0 z size bytes hi hz0 hz1 hz2 hzs hsz z23 b off n c news w hl hn hbig hc h1
open Go.RowKit Go.Lib in
/-- The same at nil: nil comes back; the world is as it was; nothing is asked of the element's type. (LAID AT THE INSTANCE 'slices.Clone[[]int,int]': no walk: one application.) -/
theorem Try.slices_Clone_nil (n c : Nat) (w : World) :
    Calls Try.prog 45 #[.slice none n c] w fun e w' => e = .returned (.slice none 0 0) ∧ w' = w := AnyE.slices_Clone_nil Try.laysSlE041_f45 n c w
def Try.laysSlH10_f47_ren : Go.Shelf.Ren := ⟨fun | 10 => 47 | 6 => 75 | n => n, fun | 22 => 31 | 23 => 3 | 25 => 72 | 3 => 3 | 4 => 4 | 0 => 0 | n => n, fun | n => n⟩
theorem Try.laysSlH10_f47 : Go.Proofs.SlLaysH.n10 Try.prog Try.laysSlH10_f47_ren := {
  mixed := by kernel_rfl
  f6 := ⟨Try.f75.name, by decide, Try.func75.trans (congrArg some (by kernel_rfl))⟩
  f10 := ⟨Try.f47.name, by decide, Try.func47.trans (congrArg some (by kernel_rfl))⟩
  t0 := Try.underlying0
  a0 := Try.isAgg0
  z0 := Try.sizeOf0
  v0 := Try.zeroValue0
  t3 := Try.underlying3
  a3 := Try.isAgg3
  z3 := Try.sizeOf3
  v3 := Try.zeroValue3
  t4 := Try.underlying4
  a4 := Try.isAgg4
  z4 := Try.sizeOf4
  v4 := Try.zeroValue4
  t22 := Try.underlying31
  a22 := Try.isAgg31
  z22 := Try.sizeOf31
  v22 := Try.zeroValue31
  a23 := Try.isAgg3
  z23 := Try.sizeOf3
  t25 := Try.underlying72
  a25 := Try.isAgg72
  z25 := Try.sizeOf72
  v25 := Try.zeroValue72 }
open Go.RowKit Go.Lib Go.Sort in
theorem Try.slices_DeleteFunc {α : Type} [Inhabited α] (enc : α → Value) (hO : OneCell enc) (p : α → Bool) (g : Nat) (lb : Array Value) (eg : ∀ args w, (callFunc g args).run Try.prog w = .ok (.enter g args) w) (zr : α) (v23 : ∀ w, (zeroValue 3).run Try.prog w = .ok (enc zr) w) (blk off cap : Nat) (d : Array α) (w : World) (hp : PredAt Try.prog g lb enc p w) (hpo : PredOver Try.prog g lb enc p blk off d.size w) (hH : Holds enc w blk off d) (hsz : d.size ≤ 9223372036854775807) (hcap : d.size ≤ cap) :
    Calls Try.prog 47 #[.slice (some ⟨blk, off, none⟩) d.size cap, .func (.func g) #[] lb] w fun e w' => e = .returned (.slice (some ⟨blk, off, none⟩) (d.toList.filter fun x => !p x).length cap) ∧ ∃ q, w' = putRow enc (Sort.ahead w q) blk off ((d.toList.filter fun x => !p x) ++ List.replicate (d.size - (d.toList.filter fun x => !p x).length) zr).toArray := AnyE.slices_DeleteFunc Try.laysSlH10_f47 enc hO p g lb eg zr v23 blk off cap d w hp hpo hH hsz hcap
def Try.laysSlF6_f31_ren : Go.Shelf.Ren := ⟨fun | 6 => 31 | 15 => 65 | 14 => 64 | 28 => 90 | 29 => 91 | 20 => 82 | 21 => 83 | 22 => 84 | 23 => 85 | 24 => 86 | 25 => 87 | 26 => 88 | 27 => 89 | 46 => 94 | 47 => 95 | 48 => 96 | 49 => 97 | 50 => 98 | 57 => 99 | n => n, fun | 22 => 31 | 24 => 3 | 25 => 58 | 3 => 3 | 39 => 46 | 0 => 0 | 53 => 106 | 55 => 108 | 4 => 4 | 46 => 100 | 45 => 99 | 50 => 90 | 5 => 5 | 9 => 9 | 66 => 110 | 70 => 114 | 76 => 116 | 77 => 117 | n => n, fun | n => n⟩
theorem Try.laysSlF6_f31 : Go.Proofs.SlLaysF.n6 Try.prog Try.laysSlF6_f31_ren := {
  mixed := by kernel_rfl
  f6 := ⟨Try.f31.name, by decide, Try.func31.trans (congrArg some (by kernel_rfl))⟩
  f14 := ⟨Try.f64.name, by decide, Try.func64.trans (congrArg some (by kernel_rfl))⟩
  f15 := Try.func65.trans (congrArg some (by kernel_rfl))
  f20 := ⟨Try.f82.name, by decide, Try.func82.trans (congrArg some (by kernel_rfl))⟩
  f21 := ⟨Try.f83.name, by decide, Try.func83.trans (congrArg some (by kernel_rfl))⟩
  f22 := ⟨Try.f84.name, by decide, Try.func84.trans (congrArg some (by kernel_rfl))⟩
  f23 := ⟨Try.f85.name, by decide, Try.func85.trans (congrArg some (by kernel_rfl))⟩
  f24 := ⟨Try.f86.name, by decide, Try.func86.trans (congrArg some (by kernel_rfl))⟩
  f25 := ⟨Try.f87.name, by decide, Try.func87.trans (congrArg some (by kernel_rfl))⟩
  f26 := ⟨Try.f88.name, by decide, Try.func88.trans (congrArg some (by kernel_rfl))⟩
  f27 := ⟨Try.f89.name, by decide, Try.func89.trans (congrArg some (by kernel_rfl))⟩
  f28 := Try.func90.trans (congrArg some (by kernel_rfl))
  f29 := Try.func91.trans (congrArg some (by kernel_rfl))
  f46 := ⟨Try.f94.name, by decide, Try.func94.trans (congrArg some (by kernel_rfl))⟩
  f47 := Try.func95.trans (congrArg some (by kernel_rfl))
  f48 := Try.func96.trans (congrArg some (by kernel_rfl))
  f49 := ⟨Try.f97.name, by decide, Try.func97.trans (congrArg some (by kernel_rfl))⟩
  f50 := ⟨Try.f98.name, by decide, Try.func98.trans (congrArg some (by kernel_rfl))⟩
  f57 := ⟨Try.f99.name, by decide, Try.func99.trans (congrArg some (by kernel_rfl))⟩
  t0 := Try.underlying0
  a0 := Try.isAgg0
  z0 := Try.sizeOf0
  v0 := Try.zeroValue0
  t3 := Try.underlying3
  a3 := Try.isAgg3
  z3 := Try.sizeOf3
  v3 := Try.zeroValue3
  t4 := Try.underlying4
  a4 := Try.isAgg4
  z4 := Try.sizeOf4
  v4 := Try.zeroValue4
  t5 := Try.underlying5
  a5 := Try.isAgg5
  z5 := Try.sizeOf5
  v5 := Try.zeroValue5
  t9 := Try.underlying9
  a9 := Try.isAgg9
  z9 := Try.sizeOf9
  v9 := Try.zeroValue9
  t22 := Try.underlying31
  a22 := Try.isAgg31
  z22 := Try.sizeOf31
  v22 := Try.zeroValue31
  a24 := Try.isAgg3
  z24 := Try.sizeOf3
  t25 := Try.underlying58
  a25 := Try.isAgg58
  z25 := Try.sizeOf58
  v25 := Try.zeroValue58
  t39 := Try.underlying46
  a39 := Try.isAgg46
  z39 := Try.sizeOf46
  v39 := Try.zeroValue46
  t45 := Try.underlying99
  a45 := Try.isAgg99
  z45 := Try.sizeOf99
  v45 := Try.zeroValue99
  t46 := Try.underlying100
  a46 := Try.isAgg100
  z46 := Try.sizeOf100
  v46 := Try.zeroValue100
  t50 := Try.underlying90
  a50 := Try.isAgg90
  z50 := Try.sizeOf90
  v50 := Try.zeroValue90
  t53 := Try.underlying106
  a53 := Try.isAgg106
  z53 := Try.sizeOf106
  v53 := Try.zeroValue106
  t55 := Try.underlying108
  a55 := Try.isAgg108
  z55 := Try.sizeOf108
  v55 := Try.zeroValue108
  t66 := Try.underlying110
  a66 := Try.isAgg110
  z66 := Try.sizeOf110
  v66 := Try.zeroValue110
  t70 := Try.underlying114
  a70 := Try.isAgg114
  z70 := Try.sizeOf114
  v70 := Try.zeroValue114
  t76 := Try.underlying116
  a76 := Try.isAgg116
  z76 := Try.sizeOf116
  v76 := Try.zeroValue116
  t77 := Try.underlying117
  a77 := Try.isAgg117
  z77 := Try.sizeOf117
  v77 := Try.zeroValue117 }
def Try.laysSlF06_f31_ren : Go.Shelf.Ren := ⟨fun | 6 => 31 | 15 => 65 | 14 => 64 | 28 => 90 | 29 => 91 | 20 => 82 | 21 => 83 | 22 => 84 | 23 => 85 | 24 => 86 | 25 => 87 | 26 => 88 | 27 => 89 | 46 => 94 | 47 => 95 | 48 => 96 | 49 => 97 | 50 => 98 | 57 => 99 | n => n, fun | 22 => 31 | 24 => 3 | 25 => 58 | 3 => 3 | 39 => 46 | 0 => 0 | 53 => 106 | 55 => 108 | 4 => 4 | 46 => 100 | 45 => 99 | 50 => 90 | 5 => 5 | 9 => 9 | 66 => 110 | 70 => 114 | 76 => 116 | 77 => 117 | n => n, fun | n => n⟩
theorem Try.laysSlF06_f31 : Go.Proofs.SlLaysF0.n6 Try.prog Try.laysSlF06_f31_ren := {
  mixed := by kernel_rfl
  f6 := ⟨Try.f31.name, by decide, Try.func31.trans (congrArg some (by kernel_rfl))⟩
  f14 := ⟨Try.f64.name, by decide, Try.func64.trans (congrArg some (by kernel_rfl))⟩
  f15 := Try.func65.trans (congrArg some (by kernel_rfl))
  f20 := ⟨Try.f82.name, by decide, Try.func82.trans (congrArg some (by kernel_rfl))⟩
  f21 := ⟨Try.f83.name, by decide, Try.func83.trans (congrArg some (by kernel_rfl))⟩
  f22 := ⟨Try.f84.name, by decide, Try.func84.trans (congrArg some (by kernel_rfl))⟩
  f23 := ⟨Try.f85.name, by decide, Try.func85.trans (congrArg some (by kernel_rfl))⟩
  f24 := ⟨Try.f86.name, by decide, Try.func86.trans (congrArg some (by kernel_rfl))⟩
  f25 := ⟨Try.f87.name, by decide, Try.func87.trans (congrArg some (by kernel_rfl))⟩
  f26 := ⟨Try.f88.name, by decide, Try.func88.trans (congrArg some (by kernel_rfl))⟩
  f27 := ⟨Try.f89.name, by decide, Try.func89.trans (congrArg some (by kernel_rfl))⟩
  f28 := Try.func90.trans (congrArg some (by kernel_rfl))
  f29 := Try.func91.trans (congrArg some (by kernel_rfl))
  f46 := ⟨Try.f94.name, by decide, Try.func94.trans (congrArg some (by kernel_rfl))⟩
  f47 := Try.func95.trans (congrArg some (by kernel_rfl))
  f48 := Try.func96.trans (congrArg some (by kernel_rfl))
  f49 := ⟨Try.f97.name, by decide, Try.func97.trans (congrArg some (by kernel_rfl))⟩
  f50 := ⟨Try.f98.name, by decide, Try.func98.trans (congrArg some (by kernel_rfl))⟩
  f57 := ⟨Try.f99.name, by decide, Try.func99.trans (congrArg some (by kernel_rfl))⟩
  t0 := Try.underlying0
  a0 := Try.isAgg0
  z0 := Try.sizeOf0
  v0 := Try.zeroValue0
  t3 := Try.underlying3
  a3 := Try.isAgg3
  z3 := Try.sizeOf3
  v3 := Try.zeroValue3
  t4 := Try.underlying4
  a4 := Try.isAgg4
  z4 := Try.sizeOf4
  v4 := Try.zeroValue4
  t5 := Try.underlying5
  a5 := Try.isAgg5
  z5 := Try.sizeOf5
  v5 := Try.zeroValue5
  t9 := Try.underlying9
  a9 := Try.isAgg9
  z9 := Try.sizeOf9
  v9 := Try.zeroValue9
  t22 := Try.underlying31
  a22 := Try.isAgg31
  z22 := Try.sizeOf31
  v22 := Try.zeroValue31
  t25 := Try.underlying58
  a25 := Try.isAgg58
  z25 := Try.sizeOf58
  v25 := Try.zeroValue58
  t39 := Try.underlying46
  a39 := Try.isAgg46
  z39 := Try.sizeOf46
  v39 := Try.zeroValue46
  t45 := Try.underlying99
  a45 := Try.isAgg99
  z45 := Try.sizeOf99
  v45 := Try.zeroValue99
  t46 := Try.underlying100
  a46 := Try.isAgg100
  z46 := Try.sizeOf100
  v46 := Try.zeroValue100
  t50 := Try.underlying90
  a50 := Try.isAgg90
  z50 := Try.sizeOf90
  v50 := Try.zeroValue90
  t53 := Try.underlying106
  a53 := Try.isAgg106
  z53 := Try.sizeOf106
  v53 := Try.zeroValue106
  t55 := Try.underlying108
  a55 := Try.isAgg108
  z55 := Try.sizeOf108
  v55 := Try.zeroValue108
  t66 := Try.underlying110
  a66 := Try.isAgg110
  z66 := Try.sizeOf110
  v66 := Try.zeroValue110
  t70 := Try.underlying114
  a70 := Try.isAgg114
  z70 := Try.sizeOf114
  v70 := Try.zeroValue114
  t76 := Try.underlying116
  a76 := Try.isAgg116
  z76 := Try.sizeOf116
  v76 := Try.zeroValue116
  t77 := Try.underlying117
  a77 := Try.isAgg117
  z77 := Try.sizeOf117
  v77 := Try.zeroValue117 }
open Go.RowKit Go.Lib Go.Sort in
/-- **slices.SortFunc AT NO ELEMENT, A nil SLICE TOO: nothing turns.** (LAID AT THE INSTANCE 'slices.SortFunc[[]int,int]': no walk: one application.) -/
theorem Try.slices_SortFunc_none {α : Type} [Inhabited α] (p : Option Addr) (cap : Nat) (fv : Value) (w : World) :
    Calls Try.prog 31 #[.slice p 0 cap, fv] w fun e w' => e = .returned (.tuple #[]) ∧ w' = w := AnyF.slices_SortFunc_none Try.laysSlF06_f31 p cap fv w
open Go.RowKit Go.Lib Go.Sort in
/-- **slices.SortFunc AT ONE CELL, UNDER A 'cmp' THAT PARTS WHATEVER TWO THAT ARE NOT ONE: THE ROW HOLDS core's 'mergeSort'.** (LAID AT THE INSTANCE 'slices.SortFunc[[]int,int]': no walk: one application.) -/
theorem Try.slices_SortFunc_total {α : Type} [Inhabited α] (enc : α → Value) (h1 : OneCell enc) (cf : α → α → Int) (hO : SWO (ltOf cf)) (g : Nat) (cb : Array Value) (blk off cap : Nat) (d : Array α) (w : World) (eg : ∀ args w, (callFunc g args).run Try.prog w = .ok (.enter g args) w) (hcmp : CmpLays1 Try.prog g cb enc cf blk off d.size w) (hH : Holds enc w blk off d) (hblk : blk < w.heap.size) (hsz : d.size < 4611686018427387904) (hT : ∀ x y, (ltOf cf) x y = false → (ltOf cf) y x = false → x = y) :
    Calls Try.prog 31 #[.slice (some ⟨blk, off, none⟩) d.size cap, .func (.func g) #[] cb] w fun e w' =>
      e = .returned (.tuple #[]) ∧ ∃ n os, w' = sortWorld enc w blk off n (d.toList.mergeSort fun x y => !(ltOf cf) y x).toArray os := Any.slices_SortFunc_total Try.laysSlF6_f31 enc h1 cf hO g cb blk off cap d w eg hcmp hH hblk hsz hT
end Go.Proofs

namespace Go.Proofs.Ytalcnkoidmoibaa
open Go.RowKit Go.Shelf Go.Sort Go.Lib
set_option linter.unusedVariables false
set_option linter.unusedSimpArgs false

/-- a literal -/
abbrev LitT := { x : Int // x ≠ 0 ∧ -65536 ≤ x ∧ x ≤ 65536 }
instance : Inhabited LitT := ⟨⟨1, by decide⟩⟩
def encZ (x : Int) : Value := .int .i64 x
def encL (x : LitT) : Value := .int .i64 x.1
def cfL (x y : LitT) : Int := litI x.1 y.1

theorem litI_neg {x y : Int} : litI x y < 0 ↔ litLt x y = true := by
  rw [litLt_iff]; unfold litI orI cmpI; (repeat' split) <;> omega
theorem ltOf_cfL (x y : LitT) : ltOf cfL x y = litLt x.1 y.1 := by
  unfold ltOf cfL
  rw [Bool.eq_iff_iff, decide_eq_true_eq, litI_neg]
theorem swoL : SWO (ltOf cfL) where
  irrefl x := by rw [ltOf_cfL]; simpa using litLt_irrefl x.1
  trans x y z h1 h2 := by rw [ltOf_cfL] at *; exact litLt_trans h1 h2
  ntrans x y z h1 h2 := by
    rw [ltOf_cfL] at *
    cases h : litLt x.1 z.1 with
    | false => rfl
    | true =>
      exfalso
      have a : ¬ litLt x.1 y.1 = true := by rw [h1]; exact Bool.noConfusion
      have b : ¬ litLt y.1 z.1 = true := by rw [h2]; exact Bool.noConfusion
      rw [litLt_iff] at *
      omega
theorem totL (x y : LitT) (h1 : ltOf cfL x y = false) (h2 : ltOf cfL y x = false) : x = y := by
  rw [ltOf_cfL] at *
  rcases Classical.em (x.1 = y.1) with e | e
  · exact Subtype.ext e
  · rcases litLt_total e with h | h
    · rw [h1] at h; cases h
    · rw [h2] at h; cases h

theorem cmpL (blk off size : Nat) (w : World) : CmpLays1 Try.prog 50 #[] encL cfL blk off size w := by
  intro m os dk hs x y
  refine (norm2_any x.1 y.1 _ x.2.2.1 x.2.2.2 y.2.2.1 y.2.2.2).mono ?_
  rintro e w' ⟨rfl, rfl⟩
  exact ⟨rfl, 0, #[_], by rw [alloc_eq_grow]; rfl⟩

def badL (x : Int) : Bool := !(isB x 65536)
theorem predZ (w : World) : PredAt Try.prog 48 #[] encZ badL w := by
  intro W x _
  unfold FnGives
  exact (norm1_any x W).mono fun _ _ ⟨he, hw⟩ => ⟨he, 0, by rw [← hw]; rfl⟩
theorem predOverZ (blk off size : Nat) (w : World) : PredOver Try.prog 48 #[] encZ badL blk off size w := by
  intro n os dk x _
  unfold FnGives
  exact (norm1_any x _).mono fun _ _ ⟨he, hw⟩ => ⟨he, 0, by rw [← hw]; rfl⟩
theorem oneZ : OneCell encZ := fun _ => rfl
theorem oneL : OneCell encL := fun _ => rfl

theorem filter_eq (zs : List Int) : (zs.filter fun x => !badL x) = zs.filter fun x => isB x 65536 := by
  congr 1; funext x; simp [badL]

/-- the literals of a clause, each with its proof -/
def litsOf (zs : List Int) : List LitT := zs.filterMap fun x => if h : x ≠ 0 ∧ -65536 ≤ x ∧ x ≤ 65536 then some ⟨x, h⟩ else none
theorem litsOf_val (zs : List Int) : (litsOf zs).map (·.1) = zs.filter fun x => isB x 65536 := by
  induction zs with
  | nil => rfl
  | cons x l ih =>
    unfold litsOf at *
    by_cases h : x ≠ 0 ∧ -65536 ≤ x ∧ x ≤ 65536
    · have hb : isB x 65536 = true := isB_iff.2 h
      rw [List.filterMap_cons, List.filter_cons, hb, dif_pos h]
      simpa using ih
    · have hb : isB x 65536 = false := by
        cases hh : isB x 65536 with
        | false => rfl
        | true => exact absurd (isB_iff.1 hh) h
      rw [List.filterMap_cons, List.filter_cons, hb, dif_neg h]
      simpa using ih

end Go.Proofs.Ytalcnkoidmoibaa

namespace Go.Proofs.Ytalcnkoidmoibaa
open Go.Sort Go.Lib
set_option linter.unusedVariables false
set_option linter.unusedSimpArgs false

/-- not descending up to place m -/
def UpTo (d : Array LitT) (m : Nat) : Prop := ∀ i j, i < j → j < m → litLt d[j]!.1 d[i]!.1 = false

theorem compact_up (d : Array LitT) : ∀ m, UpTo d m →
    Asc ((compactUpTo d m).map (·.1)) ∧ (∀ x, x ∈ compactUpTo d m ↔ ∃ i, i < m ∧ d[i]! = x)
  | 0, _ => ⟨by simp [compactUpTo, Asc], fun x => by simp [compactUpTo]⟩
  | m + 1, h => by
    obtain ⟨h1, h2⟩ := compact_up d m (fun i j hi hj => h i j hi (by omega))
    rw [compactUpTo_succ]
    by_cases hk : keeps d m = true
    · rw [if_pos hk]
      constructor
      · rw [List.map_append]
        refine List.pairwise_append.2 ⟨h1, by simp, fun a ha b hb => ?_⟩
        simp only [List.map_cons, List.map_nil, List.mem_singleton] at hb
        subst hb
        obtain ⟨y, hy, rfl⟩ := List.mem_map.1 ha
        obtain ⟨i, hi, rfl⟩ := (h2 y).1 hy
        have hne : d[m]! ≠ d[m - 1]! := by
          have := of_decide_eq_true hk
          rcases this with e | e
          · omega
          · exact e
        have a1 : litLt d[m]!.1 d[m - 1]!.1 = false := h (m - 1) m (by omega) (by omega)
        have a2 : litLt d[m - 1]!.1 d[m]!.1 = true := (litLt_total (fun e => hne (Subtype.ext e.symm))).resolve_right (by rw [a1]; exact Bool.noConfusion)
        rcases Nat.lt_or_ge i (m - 1) with hlt | hge
        · have a3 : litLt d[m - 1]!.1 d[i]!.1 = false := h i (m - 1) hlt (by omega)
          rcases Classical.em (d[i]!.1 = d[m - 1]!.1) with e | e
          · rw [e]; exact a2
          · exact litLt_trans ((litLt_total e).resolve_right (by rw [a3]; exact Bool.noConfusion)) a2
        · have : i = m - 1 := by omega
          subst this; exact a2
      · intro x
        rw [List.mem_append, h2, List.mem_singleton]
        constructor
        · rintro (⟨i, hi, e⟩ | e)
          · exact ⟨i, by omega, e⟩
          · exact ⟨m, by omega, e.symm⟩
        · rintro ⟨i, hi, e⟩
          rcases Nat.lt_or_ge i m with hlt | hge
          · exact Or.inl ⟨i, hlt, e⟩
          · have : i = m := by omega
            subst this; exact Or.inr e.symm
    · rw [if_neg hk, List.append_nil]
      refine ⟨h1, fun x => ?_⟩
      rw [h2]
      constructor
      · rintro ⟨i, hi, e⟩; exact ⟨i, by omega, e⟩
      · rintro ⟨i, hi, e⟩
        rcases Nat.lt_or_ge i m with hlt | hge
        · exact ⟨i, hlt, e⟩
        · have him : i = m := by omega
          subst him
          have hk' : ¬ (i = 0 ∨ d[i]! ≠ d[i - 1]!) := fun hh => hk (decide_eq_true hh)
          have h0 : i ≠ 0 := fun e => hk' (Or.inl e)
          have he : d[i]! = d[i - 1]! := Classical.byContradiction fun e => hk' (Or.inr e)
          exact ⟨i - 1, by omega, by rw [← he]; exact e⟩

end Go.Proofs.Ytalcnkoidmoibaa

namespace Go.Proofs.Ytalcnkoidmoibaa
open Go.Sort Go.Lib
set_option linter.unusedVariables false
set_option linter.unusedSimpArgs false

def sortedL (zs : List Int) : List LitT := (litsOf zs).mergeSort fun x y => !(ltOf cfL) y x

theorem mem_litsOf {zs : List Int} {x : LitT} : x ∈ litsOf zs ↔ x.1 ∈ zs := by
  unfold litsOf
  rw [List.mem_filterMap]
  constructor
  · rintro ⟨a, ha, h⟩
    split at h
    · injection h with h; rw [← h]; exact ha
    · cases h
  · intro h
    exact ⟨x.1, h, by rw [dif_pos x.2]⟩

theorem sortedL_up (zs : List Int) : UpTo (sortedL zs).toArray (sortedL zs).length := by
  have h : (sortedL zs).Pairwise fun x y => (!(ltOf cfL) y x) = true := by
    refine List.pairwise_mergeSort ?_ ?_ _
    · intro a b c h1 h2
      simp only [Bool.not_eq_true'] at *
      exact swoL.ntrans c b a h2 h1
    · intro a b
      simp only [Bool.or_eq_true, Bool.not_eq_true']
      cases h1 : ltOf cfL b a with
      | false => exact Or.inl rfl
      | true =>
        right
        cases h2 : ltOf cfL a b with
        | false => rfl
        | true => have := swoL.trans _ _ _ h1 h2; rw [swoL.irrefl] at this; cases this
  intro i j hij hj
  have := List.pairwise_iff_getElem.1 h i j (by omega) hj hij
  simp only [Bool.not_eq_true', ltOf_cfL] at this
  rw [getElem!_pos _ _ (by simpa using hj), getElem!_pos _ _ (by simp; omega)]
  simpa using this

theorem norm_all (zs : List Int) : (compactUpTo (sortedL zs).toArray (sortedL zs).length).map (·.1) = normP zs := by
  obtain ⟨h1, h2⟩ := compact_up (sortedL zs).toArray (sortedL zs).length (sortedL_up zs)
  refine normP_eq h1 fun x => ?_
  rw [List.mem_map]
  have hm : ∀ y : LitT, y ∈ compactUpTo (sortedL zs).toArray (sortedL zs).length ↔ y.1 ∈ zs := by
    intro y
    rw [h2, ← mem_litsOf, ← List.mem_mergeSort (le := fun x y => !(ltOf cfL) y x)]
    show _ ↔ y ∈ sortedL zs
    rw [List.mem_iff_getElem]
    constructor
    · rintro ⟨i, hi, e⟩
      rw [getElem!_pos _ _ (by simpa using hi)] at e
      exact ⟨i, hi, by simpa using e⟩
    · rintro ⟨i, hi, e⟩
      exact ⟨i, hi, by rw [getElem!_pos _ _ (by simpa using hi)]; simpa using e⟩
  constructor
  · rintro ⟨y, hy, rfl⟩
    exact ⟨(hm y).1 hy, isB_iff.2 y.2⟩
  · rintro ⟨hx, hb⟩
    exact ⟨⟨x, isB_iff.1 hb⟩, (hm _).2 hx, rfl⟩

end Go.Proofs.Ytalcnkoidmoibaa

namespace Go.Proofs.Ytalcnkoidmoibaa
open Go.RowKit Go.Shelf Go.Sort Go.Lib
set_option linter.unusedVariables false
set_option linter.unusedSimpArgs false

/-- a row of one's own that reads as a list -/
def Own (w : World) (base g n cap : Nat) (zs : List Int) : Prop := w.ownsRow base 3 1 (.slice (some ⟨g, 0, none⟩) n cap) n (zs.map (Value.int .i64))

theorem below_grow {B : Nat} {a w : World} (h : Below B a w) (hB : B ≤ w.heap.size) (os : Array Obj) : Below B a (grow w os) :=
  ⟨h.os, h.tape, h.output, by simp only [grow, Array.size_append]; have := h.size; omega, fun k hk => by
    rw [← h.block k hk]; simp only [grow]; rw [Array.getElem?_append_left (by omega)]⟩

theorem map_encL (l : List LitT) : l.map encL = (l.map (·.1)).map (Value.int .i64) := by rw [List.map_map]; rfl

set_option maxRecDepth 4000 in
theorem delete_own (w : World) (base g n cap : Nat) (zs : List Int) (h : Own w base g n cap zs) (hb : base ≤ g) :
    Calls Try.prog 47 #[.slice (some ⟨g, 0, none⟩) n cap, .func (.func 48) #[] #[]] w fun e w' =>
      ∃ m, e = .returned (.slice (some ⟨g, 0, none⟩) m cap) ∧ Own w' base g m cap (zs.filter fun x => isB x 65536) ∧ Below base w w' := by
  have h' : w.ownsRow base 3 1 (.slice (some ⟨g, 0, none⟩) n cap) n (zs.map encZ) := h
  obtain ⟨g', cap', he, h1, h2, h3, h4, h5, h6⟩ := holds_of_ownsRow h' (by intro e; cases e)
  cases he
  have hn : n ≤ 9223372036854775807 := by unfold maxLen at h4; omega
  have hc := Try.slices_DeleteFunc encZ oneZ badL 48 #[] enters48 0 Try.zeroValue3 g 0 cap zs.toArray w (predZ w) (predOverZ _ _ _ w) h6 (by simpa [h5] using hn) (by simpa [h5] using h3)
  have hs : zs.toArray.size = n := by simp [h5]
  rw [hs] at hc
  refine hc.mono ?_
  rintro e w' ⟨rfl, q, rfl⟩
  have hf : zs.toArray.toList.filter (fun x => !badL x) = zs.filter fun x => isB x 65536 := filter_eq zs
  rw [hf]
  have hle := List.length_filter_le (fun x => isB x 65536) zs
  refine ⟨_, rfl, ?_, below_putRow (Below.refl _ _) hb⟩
  have := ownsRow_putRow (q := q) (k := (zs.filter fun x => isB x 65536).length) (ys := (zs.filter fun x => isB x 65536) ++ List.replicate (n - (zs.filter fun x => isB x 65536).length) 0) h' (by simp; omega) (by omega)
  rw [List.take_left' rfl] at this
  exact this

set_option maxRecDepth 4000 in
theorem sort_own (w : World) (base g m cap : Nat) (ls : List LitT) (h : Own w base g m cap (ls.map (·.1))) (hb : base ≤ g) (hm : m * 8 ≤ 140737488355328) :
    Calls Try.prog 31 #[.slice (some ⟨g, 0, none⟩) m cap, .func (.func 50) #[] #[]] w fun e w' =>
      e = .returned (.tuple #[]) ∧ Own w' base g m cap ((ls.mergeSort fun x y => !(ltOf cfL) y x).map (·.1)) ∧ Below base w w' := by
  have h' : w.ownsRow base 3 1 (.slice (some ⟨g, 0, none⟩) m cap) m (ls.map encL) := by rw [map_encL]; exact h
  obtain ⟨g', cap', he, h1, h2, h3, h4, h5, h6⟩ := holds_of_ownsRow h' (by intro e; cases e)
  cases he
  have hn : m < 4611686018427387904 := by omega
  have hc := Try.slices_SortFunc_total encL oneL cfL swoL 50 #[] g 0 cap ls.toArray w enters50 (cmpL _ _ _ w) h6 h2 (by simpa [h5] using hn) totL
  have hs : ls.toArray.size = m := by simp [h5]
  rw [hs] at hc
  refine hc.mono ?_
  rintro e w' ⟨rfl, q, os, rfl⟩
  have hown := ownsRow_putRow (q := q) (k := m) (ys := ls.mergeSort fun x y => !(ltOf cfL) y x) h' (by simp [h5]) (Nat.le_refl _)
  rw [List.take_of_length_le (by simp [h5]), map_encL] at hown
  refine ⟨rfl, ?_, ?_⟩
  · have := ownsRow_grow hown 0 os
    exact this
  · have hbp := below_putRow (enc := encL) (q := q) (d := (ls.mergeSort fun x y => !(ltOf cfL) y x).toArray) (Below.refl base w) hb
    exact below_grow hbp (by simp [putRow, mapBlock, Sort.ahead]; omega) os

end Go.Proofs.Ytalcnkoidmoibaa

namespace Go.Proofs.Ytalcnkoidmoibaa
open Go.RowKit Go.Shelf Go.Sort Go.Lib
set_option linter.unusedVariables false
set_option linter.unusedSimpArgs false

theorem compact_map (ls : List LitT) : ∀ m, m ≤ ls.length → compactUpTo (ls.map (·.1)).toArray m = (compactUpTo ls.toArray m).map (·.1)
  | 0, _ => by simp [compactUpTo]
  | m + 1, h => by
    have at' : ∀ j, j < ls.length → (ls.map (·.1)).toArray[j]! = (ls.toArray[j]!).1 := by
      intro j hj
      rw [getElem!_pos _ _ (by simpa using hj), getElem!_pos _ _ (by simpa using hj)]; simp
    rw [compactUpTo_succ, compactUpTo_succ, List.map_append, compact_map ls m (by omega)]
    congr 1
    have hk : keeps (ls.map (·.1)).toArray m = keeps ls.toArray m := by
      unfold keeps
      rw [at' m (by omega), at' (m - 1) (by omega)]
      congr 1
      rw [ne_eq, ne_eq, Subtype.ext_iff]
    rw [hk, at' m (by omega)]
    split <;> simp

set_option maxRecDepth 4000 in
theorem compact_own (w : World) (base g n cap : Nat) (ls : List LitT) (h : Own w base g n cap (ls.map (·.1))) (hb : base ≤ g) :
    Calls Try.prog 52 #[.slice (some ⟨g, 0, none⟩) n cap] w fun e w' =>
      ∃ m, e = .returned (.slice (some ⟨g, 0, none⟩) m cap) ∧ Own w' base g m cap ((compactUpTo ls.toArray ls.length).map (·.1)) ∧ Below base w w' := by
  have h' : w.ownsRow base 3 1 (.slice (some ⟨g, 0, none⟩) n cap) n ((ls.map (·.1)).map encZ) := h
  obtain ⟨g', cap', he, h1, h2, h3, h4, h5, h6⟩ := holds_of_ownsRow h' (by intro e; cases e)
  cases he
  have hn : n ≤ 9223372036854775807 := by unfold maxLen at h4; omega
  have hl : ls.length = n := by simpa using h5
  have hs : (ls.map (·.1)).toArray.size = n := by simp [hl]
  have hc := Try.slices_Compact encZ oneZ (EqlAt.intD _ _ _) ⟨fun x y w => by rw [encZ, encZ, (NeqAt.int Try.prog 3 .i64).1 x y w]; congr 1, .int _ _ _⟩ 0 Try.zeroValue3 g 0 cap (ls.map (·.1)).toArray w h6 (by rw [hs]; exact hn) (by rw [hs]; exact h3)
  rw [hs] at hc
  refine hc.mono ?_
  rintro e w' ⟨rfl, q, rfl⟩
  rw [← hl, compact_map ls ls.length (Nat.le_refl _)]
  have hle : ((compactUpTo ls.toArray ls.length).map (·.1)).length ≤ n := by
    rw [List.length_map]; unfold compactUpTo; rw [List.length_map]
    refine Nat.le_trans (List.length_filter_le _ _) (by simp [hl])
  refine ⟨_, rfl, ?_, below_putRow (Below.refl _ _) hb⟩
  have := ownsRow_putRow (q := q) (k := ((compactUpTo ls.toArray ls.length).map (·.1)).length) (ys := ((compactUpTo ls.toArray ls.length).map (·.1)) ++ List.replicate (n - ((compactUpTo ls.toArray ls.length).map (·.1)).length) 0) h' (by simp at hle ⊢; omega) hle
  rw [List.take_left' rfl] at this
  rw [hl] at this ⊢
  exact this

end Go.Proofs.Ytalcnkoidmoibaa
