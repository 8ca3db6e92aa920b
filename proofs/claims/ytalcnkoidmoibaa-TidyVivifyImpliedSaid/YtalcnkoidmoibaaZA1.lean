/-
  Words for memory: a slice value that reads as a list of ints, in a world that only grows. No condition.
  Contracts of slices.Clone at ints. No condition.
  Words for a map[int]bool of a function's own that is used as a set. No condition.
  Contracts of small functions. No condition.
  A region that draws its order, whose operations only read and whose callees only make memory, walked once, in the order of the text. No condition.
  Contracts of the reference's small functions over lists. No condition.
-/
import Derived.Test.YtalcnkoidmoibaaRows
import Derived.WalkKit
import Derived.WalkSpells
import Derived.WalkLawsBesides
import Derived.Lib.Hide
import Derived.Below
import Derived.Laws.OwnMore
import Derived.Deep.QuietTactic
import Derived.BigQuiet
import Derived.Maps.OwnOps
import Derived.Maps.OwnSet
import Derived.Maps.Views
import Derived.StillTailTactics
import Derived.Calls
import Derived.Deep.Quiet

namespace Go.Proofs.Ytalcnkoidmoibaa
open Go.RowKit
set_option linter.unusedVariables false
set_option linter.unusedSimpArgs false

/-- the element at a place; 0 behind the end -/
def elt (zs : List Int) (k : Nat) : Int := zs.getD k 0

theorem elt_lt {zs : List Int} {k : Nat} (h : k < zs.length) : elt zs k = zs[k] := by simp [elt, List.getD_eq_getElem?_getD, List.getElem?_eq_getElem h]

theorem take_snoc (zs : List Int) (k : Nat) (h : k < zs.length) : zs.take (k + 1) = zs.take k ++ [elt zs k] := by
  rw [List.take_succ_eq_append_getElem h, elt_lt h]

/-- what a slice value reads as in a world -/
structure RI (w : World) (A : Option Addr) (n c : Nat) (zs : List Int) : Prop where
  len : zs.length = n
  cap : n ≤ c
  big : n * 8 ≤ 140737488355328
  cmax : c ≤ maxLen
  cells : 0 < n → ∃ b off, A = some ⟨b, off, none⟩ ∧ b < w.heap.size ∧ ∀ j, j < n → w.cell? ⟨b, off + j, none⟩ = some (.int .i64 (elt zs j))

theorem RI.below {w w' : World} {A : Option Addr} {n c : Nat} {zs : List Int} (h : RI w A n c zs) (hb : Below w.heap.size w w') : RI w' A n c zs :=
  ⟨h.len, h.cap, h.big, h.cmax, fun hn => by
    obtain ⟨b, off, rfl, hlt, hc⟩ := h.cells hn
    exact ⟨b, off, rfl, Nat.lt_of_lt_of_le hlt hb.size, fun j hj => (hb.cell (p := ⟨b, off + j, none⟩) hlt).trans (hc j hj)⟩⟩

theorem RI.nil (w : World) (A : Option Addr) (c : Nat) (hc : c ≤ maxLen) : RI w A 0 c [] := ⟨rfl, Nat.zero_le _, by omega, hc, fun h => absurd h (by omega)⟩

theorem RI.drew {w : World} {A : Option Addr} {n c : Nat} {zs : List Int} (h : RI w A n c zs) : RI w.drew A n c zs := h.below ((Below.refl _ _).drew)
theorem RI.alloc {w : World} {A : Option Addr} {n c : Nat} {zs : List Int} (h : RI w A n c zs) (o : Obj) : RI (w.alloc o) A n c zs := h.below ((Below.refl _ _).alloc (Nat.le_refl _) _)

theorem RI.small {w : World} {A : Option Addr} {n c : Nat} {zs : List Int} (h : RI w A n c zs) : n ≤ 17592186044416 := by have := h.big; omega

theorem bcell {W w1 : World} (hb : Below W.heap.size W w1) : (∀ b o, b < W.heap.size → w1.cell? ⟨b, o, none⟩ = W.cell? ⟨b, o, none⟩) ∧ (∀ b o, b < W.heap.size → w1.frozen? ⟨b, o, none⟩ = W.frozen? ⟨b, o, none⟩) :=
  ⟨fun b o h => hb.cell (p := ⟨b, o, none⟩) h, fun b o h => hb.frozen (p := ⟨b, o, none⟩) h⟩

theorem ret_bool {a b : Bool} (h : a = b) : Ending.returned (.bool a) = .returned (.bool b) := by rw [h]
theorem ret_int {k : IntKind} {a b : Int} (h : a = b) : Ending.returned (.int k a) = .returned (.int k b) := by rw [h]

/- plain functions -/
/-- a row of the call's own reads as its list -/
theorem RI.of_own {w : World} {base : Nat} {A : Option Addr} {n c : Nat} {zs : List Int} (h : w.ownsRow base 3 1 (.slice A n c) n (zs.map (Value.int .i64))) (hbig : n * 8 ≤ 140737488355328) : RI w A n c zs := by
  obtain ⟨h1, h2⟩ := h
  have hl : zs.length = n := by simpa using h1
  rcases h2 with ⟨hv, hn⟩ | ⟨g, cap, cur, hv, hg, hh, hnc, hcm, hcs, htk⟩
  · simp only [Value.slice.injEq] at hv
    obtain ⟨rfl, _, rfl⟩ := hv
    subst hn
    exact ⟨hl, Nat.le_refl _, hbig, Nat.zero_le _, fun h => absurd h (by omega)⟩
  · simp only [Value.slice.injEq] at hv
    obtain ⟨rfl, _, rfl⟩ := hv
    refine ⟨hl, hnc, hbig, hcm, fun hn => ⟨g, 0, rfl, ?_, fun j hj => ?_⟩⟩
    · rcases Nat.lt_or_ge g w.heap.size with hlt | hge
      · exact hlt
      · rw [Array.getElem?_eq_none hge] at hh; cases hh
    · have hj' : j < cur.size := by omega
      have e : cur[j]? = some (.int .i64 (elt zs j)) := by
        have h3 : (cur.toList.take (n * 1))[j]? = (zs.map (Value.int .i64))[j]? := by rw [htk]
        rw [List.getElem?_take_of_lt (by omega), List.getElem?_map, List.getElem?_eq_getElem (by omega : j < zs.length)] at h3
        rw [← Array.getElem?_toList, h3, elt_lt (by omega)]
        rfl
      simp [World.cell?, hh, e]

def hasB (zs : List Int) (x : Int) : Bool := zs.contains x
theorem hasB_iff {zs : List Int} {x : Int} : hasB zs x = true ↔ x ∈ zs := by simp [hasB]
theorem hasB_nil (x : Int) : hasB [] x = false := rfl
theorem hasB_snoc (zs : List Int) (x y : Int) : hasB (zs ++ [y]) x = (hasB zs x || (y == x)) := by
  rw [Bool.eq_iff_iff, hasB_iff, Bool.or_eq_true, hasB_iff, beq_iff_eq, List.mem_append, List.mem_singleton]
  exact ⟨fun h => h.imp id Eq.symm, fun h => h.imp id Eq.symm⟩
theorem hasB_of_at {zs : List Int} {x : Int} {k : Nat} (h : k < zs.length) (e : (elt zs k == x) = true) : hasB zs x = true := by
  rw [hasB_iff]; rw [elt_lt h] at e; have : zs[k] = x := by simpa using e
  rw [← this]; exact List.getElem_mem h
theorem hasB_step {zs : List Int} {x : Int} {k : Nat} (h : k < zs.length) (e : (elt zs k == x) = false) (h0 : hasB (zs.take k) x = false) : hasB (zs.take (k + 1)) x = false := by
  rw [take_snoc zs k h, hasB_snoc, h0, e]; rfl
theorem hasB_full {zs : List Int} {x : Int} {k n : Nat} (hl : zs.length = n) (h : ¬ k < n) (h0 : hasB (zs.take k) x = false) : hasB zs x = false := by
  rw [List.take_of_length_le (by omega)] at h0; exact h0

def sameB (a b : List Int) : Bool := a == b
theorem sameB_iff {a b : List Int} : sameB a b = true ↔ a = b := by simp [sameB]
theorem sameB_len {a b : List Int} (h : a.length ≠ b.length) : sameB a b = false := by
  unfold sameB; rw [beq_eq_false_iff_ne]; intro e; exact h (by rw [e])
theorem sameB_at {a b : List Int} {k : Nat} (ha : k < a.length) (hb : k < b.length) (h : elt a k ≠ elt b k) : sameB a b = false := by
  unfold sameB; rw [beq_eq_false_iff_ne]; intro e; subst e; exact h rfl
theorem take_eq_step {a b : List Int} {k : Nat} (ha : k < a.length) (hb : k < b.length) (h : a.take k = b.take k) (e : elt a k = elt b k) : a.take (k + 1) = b.take (k + 1) := by
  rw [take_snoc a k ha, take_snoc b k hb, h, e]
theorem sameB_full {a b : List Int} {k n : Nat} (ha : a.length = n) (hb : b.length = n) (hk : ¬ k < n) (h : a.take k = b.take k) : sameB a b = true := by
  rw [List.take_of_length_le (by omega), List.take_of_length_le (by omega)] at h
  rw [sameB_iff]; exact h

/-- the list at a place; empty behind the end -/
def ell (ls : List (List Int)) (k : Nat) : List Int := ls.getD k []
theorem ell_lt {ls : List (List Int)} {k : Nat} (h : k < ls.length) : ell ls k = ls[k] := by simp [ell, List.getD_eq_getElem?_getD, List.getElem?_eq_getElem h]
theorem takel_snoc (ls : List (List Int)) (k : Nat) (h : k < ls.length) : ls.take (k + 1) = ls.take k ++ [ell ls k] := by
  rw [List.take_succ_eq_append_getElem h, ell_lt h]
theorem ell_mem {ls : List (List Int)} {k : Nat} (h : k < ls.length) : ell ls k ∈ ls := by rw [ell_lt h]; exact List.getElem_mem h
theorem elt_mem {zs : List Int} {k : Nat} (h : k < zs.length) : elt zs k ∈ zs := by rw [elt_lt h]; exact List.getElem_mem h

/-- a slice of slices of ints that reads as a list of lists in a world -/
structure RL (w : World) (A : Option Addr) (n c : Nat) (ls : List (List Int)) : Prop where
  len : ls.length = n
  cap : n ≤ c
  big : n * 24 ≤ 140737488355328
  cmax : c ≤ maxLen
  cells : 0 < n → ∃ b off, A = some ⟨b, off, none⟩ ∧ b < w.heap.size ∧ ∀ j, j < n → ∃ A' n' c', w.cell? ⟨b, off + j, none⟩ = some (.slice A' n' c') ∧ RI w A' n' c' (ell ls j)

theorem RL.below {w w' : World} {A : Option Addr} {n c : Nat} {ls : List (List Int)} (h : RL w A n c ls) (hb : Below w.heap.size w w') : RL w' A n c ls :=
  ⟨h.len, h.cap, h.big, h.cmax, fun hn => by
    obtain ⟨b, off, rfl, hlt, hc⟩ := h.cells hn
    refine ⟨b, off, rfl, Nat.lt_of_lt_of_le hlt hb.size, fun j hj => ?_⟩
    obtain ⟨A', n', c', h1, h2⟩ := hc j hj
    exact ⟨A', n', c', (hb.cell (p := ⟨b, off + j, none⟩) hlt).trans h1, h2.below hb⟩⟩
theorem RL.nil (w : World) (A : Option Addr) (c : Nat) (hc : c ≤ maxLen) : RL w A 0 c [] := ⟨rfl, Nat.zero_le _, by omega, hc, fun h => absurd h (by omega)⟩
theorem RL.drew {w : World} {A : Option Addr} {n c : Nat} {ls : List (List Int)} (h : RL w A n c ls) : RL w.drew A n c ls := h.below ((Below.refl _ _).drew)
theorem RL.alloc {w : World} {A : Option Addr} {n c : Nat} {ls : List (List Int)} (h : RL w A n c ls) (o : Obj) : RL (w.alloc o) A n c ls := h.below ((Below.refl _ _).alloc (Nat.le_refl _) _)
theorem RL.small {w : World} {A : Option Addr} {n c : Nat} {ls : List (List Int)} (h : RL w A n c ls) : n ≤ 5864062014806 := by have := h.big; omega

end Go.Proofs.Ytalcnkoidmoibaa

namespace Go.Proofs.Ytalcnkoidmoibaa
open Go.RowKit
set_option linter.unusedVariables false
set_option linter.unusedSimpArgs false

theorem infoInt : (Try.prog.info? 3).map (fun i => (i.zero, i.size, i.bytes)) = some (some (.int .i64 0), 1, 8) := by kernel_rfl

/-- what Clone leaves: a row of the call's own -/
def Cloned (zs : List Int) (w : World) (e : Ending) (w' : World) : Prop :=
  ∃ A c, e = .returned (.slice A zs.length c) ∧ w'.ownsRow w.heap.size 3 1 (.slice A zs.length c) zs.length (zs.map (Value.int .i64)) ∧ Below w.heap.size w w'

set_option maxRecDepth 4000 in
set_option maxHeartbeats 1000000 in
theorem clone_any (A : Option Addr) (n c : Nat) (zs : List Int) (w : World) (h : RI w A n c zs) :
    Calls Try.prog 45 #[.slice A n c] w (Cloned zs w) := by
  obtain ⟨i0, hi, hz0, hz1, hz2⟩ := info_parts infoInt
  have q22 : ∀ (w : World) (a : Option Addr) (n c n' c' : Nat), (binOp .eql 31 (.slice a n c) (.slice none n' c')).run Try.prog w = .ok (.bool a.isNone) w := fun w a n c n' c' => Lib.run_eql_slice_nil w _ _ a n c n' c' Try.underlying31
  have hlen := h.len
  have hbig := h.big
  have H := Lib.hid h
  clear h
  cases A with
  | none =>
    have hn : n = 0 := by
      rcases Nat.eq_zero_or_pos n with h0 | h0
      · exact h0
      · obtain ⟨b, off, he, _⟩ := H.out.cells h0; cases he
    subst hn
    have hzs : zs = [] := List.eq_nil_of_length_eq_zero hlen
    subst hzs
    clear hlen
    go_enter Try.func45, Try.ntmps45
    go_wp2
    go_ret
    exact ⟨none, 0, rfl, World.ownsRow_nil _ _ _ _, Below.refl _ _⟩
  | some a =>
    have HL := Lib.hid hlen
    clear hlen
    go_enter Try.func45, Try.ntmps45
    go_wp2_with (at_builtin; refine wpList_append_own _ rfl _ _ 31 rfl w.heap.size 3 i0 (.int .i64 0) 1 8 Try.underlying31 hi hz0 hz1 hz2 rfl (by decide) _ _ _ rfl (World.ownsRow_made w #[] 0 (Nat.le_refl _) (Nat.zero_le _) rfl) a n c (zs.map (Value.int .i64)) rfl ?qc1 ?qc2 ?qc3 ?qc4 ?qc5 ?qc6 ?_)
    case qc1 => simp [HL.out]
    case qc2 =>
      intro j u hj
      have hjn : j < n := by have := (List.getElem?_eq_some_iff.1 hj).1; simpa [HL.out] using this
      obtain ⟨b, off, he, hb, hc⟩ := H.out.cells (by omega)
      injection he with he
      subst he
      rw [Addr.add_lit]
      rw [World.cell?_alloc_lt _ _ _ (by exact hb), hc j hjn]
      rw [List.getElem?_map, List.getElem?_eq_getElem (by rw [HL.out]; exact hjn)] at hj
      rw [elt_lt (by rw [HL.out]; exact hjn)]
      exact hj
    case qc3 => intro u hu; obtain ⟨x, _, rfl⟩ := List.mem_map.1 hu; rfl
    case qc4 => unfold maxLen; omega
    case qc5 => omega
    case qc6 => simp
    intro v' w1 hown hgrow hnil
    go_wp2
    go_ret
    have hb : Below w.heap.size w w1 := ((Below.refl _ w).alloc (Nat.le_refl _) _).grown hgrow (by simp) (by intro k hk; simp [Value.ownBlock] at hk; omega)
    have hl := HL.out
    subst hl
    rcases hown.2 with ⟨hv, h0⟩ | ⟨g, cap, cur, hv, hr⟩
    · subst hv
      refine ⟨none, 0, ?_, ?_, hb⟩
      · rw [h0]; rfl
      · rw [h0] at hown ⊢; exact hown
    · subst hv
      exact ⟨_, _, rfl, hown, hb⟩

end Go.Proofs.Ytalcnkoidmoibaa

namespace Go.Proofs.Ytalcnkoidmoibaa
open Go.RowKit
set_option linter.unusedVariables false
set_option linter.unusedSimpArgs false

theorem elem_bool_inv {P : Program} {e : TypeId} (he : P.underlying e = some .bool) {v : Value} {x : Bool} {ps : List MemPlace} (h : plainElem (H := Unit) P e v = some (.lit (.bool x), ps)) : v = .bool x := by
  unfold plainElem at h
  rw [he] at h
  cases v <;> simp at h
  rw [h.1]

/-- the block is a map that holds 'true' at the elements of S, and at no other key -/
def SM (w : World) (b n : Nat) (S : List Int) : Prop :=
  ∃ D : DataW Unit, w.ownsMap Try.prog 3 (plainElem Try.prog 4) b n D ∧ ∀ x, (Lit.int .i64 x).wf = true → D.atKey (.int .i64 x) (.lit (.bool false)) = .lit (.bool (hasB S x))

theorem SM.made (w : World) : SM (w.alloc (.map #[] 0)) w.heap.size 0 [] :=
  ⟨_, World.ownsMap_made w _ _ _, fun x _ => rfl⟩
theorem SM.mono {w : World} {b n n' : Nat} {S : List Int} (h : SM w b n S) (hn : n ≤ n') : SM w b n' S := by
  obtain ⟨D, h1, h2⟩ := h; exact ⟨D, h1.mono hn, h2⟩
theorem SM.lt {w : World} {b n : Nat} {S : List Int} (h : SM w b n S) : b < w.heap.size := by
  obtain ⟨D, h1, h2⟩ := h; exact h1.lt
theorem SM.kept {w w' : World} {b n : Nat} {S : List Int} {row : Option Nat} (h : SM w b n S) (hg : w.grownBy w' row) (hne : some b ≠ row) : SM w' b n S := by
  obtain ⟨D, h1, h2⟩ := h; exact ⟨D, h1.kept hg hne, h2⟩
theorem SM.alloc {w : World} {b n : Nat} {S : List Int} (h : SM w b n S) (o : Obj) : SM (w.alloc o) b n S := by
  obtain ⟨D, h1, h2⟩ := h; exact ⟨D, h1.alloc o, h2⟩
theorem SM.drew {w : World} {b n : Nat} {S : List Int} (h : SM w b n S) : SM w.drew b n S := by
  obtain ⟨D, h1, h2⟩ := h; exact ⟨D, h1.drew, h2⟩
theorem SM.below {w w' : World} {b n B : Nat} {S : List Int} (h : SM w b n S) (hb : Below B w w') (hB : b < B) : SM w' b n S := by
  obtain ⟨D, ⟨es, clock, h1, h3⟩, h2⟩ := h; exact ⟨D, ⟨es, clock, (hb.block b hB).trans h1, h3⟩, h2⟩
theorem SM.look {w : World} {b n : Nat} {S : List Int} (h : SM w b n S) {x : Int} (hx : (Lit.int .i64 x).wf = true) :
    (Instr.lookup 59 (.map (some b)) (.int .i64 x) false).run Try.prog w = .ok (.bool (hasB S x)) w := by
  obtain ⟨D, h1, h2⟩ := h
  obtain ⟨v, ps, hrun, hv⟩ := h1.lookup (Maps.int_keyed Try.underlying3) Try.underlying59 (z := .bool false) (Try.zeroValue4 w) (plainElem_bool Try.underlying4 false) (Maps.keyOf_int_mk Try.underlying3 hx)
  rw [h2 x hx] at hv
  have hv' := elem_bool_inv Try.underlying4 hv
  rw [hrun, hv']
theorem SM.put {w : World} {b n : Nat} {S : List Int} (h : SM w b n S) (hn : n < maxLen) {x : Int} (hx : (Lit.int .i64 x).wf = true) :
    ∃ w', (Instr.mapUpdate 59 (.map (some b)) (.int .i64 x) (.bool true)).run Try.prog w = .ok () w' ∧ SM w' b (n + 1) (S ++ [x]) ∧ w.grownBy w' (some b) := by
  obtain ⟨D, h1, h2⟩ := h
  obtain ⟨w', hrun, ho, hg⟩ := h1.update (Maps.int_keyed Try.underlying3) Try.underlying59 hn (Maps.keyOf_int_mk Try.underlying3 hx) (plainElem_bool Try.underlying4 true)
  refine ⟨w', hrun, ⟨_, ho, fun y hy => ?_⟩, hg⟩
  by_cases e : y = x
  · subst e
    rw [Maps.atKey_put_same h1.isMap (by simp [WideAt.IsKeyLit]), hasB_snoc]
    simp
  · rw [Maps.atKey_put_other (by simpa using e), h2 y hy, hasB_snoc]
    have : (x == y) = false := by simpa using Ne.symm e
    rw [this, Bool.or_false]

end Go.Proofs.Ytalcnkoidmoibaa

namespace Go.Proofs.Ytalcnkoidmoibaa
open Go.RowKit
set_option linter.unusedVariables false
set_option linter.unusedSimpArgs false

set_option maxHeartbeats 400000 in
theorem has_any (A : Option Addr) (n c : Nat) (zs : List Int) (x : Int) (w : World) (h : RI w A n c zs) :
    Calls Try.prog 42 #[.slice A n c, .int .i64 x] w fun e w' => e = .returned (.bool (hasB zs x)) ∧ w = w' := by
  have hn := h.small
  have H := Lib.hid h
  clear h
  go_enter Try.func42, Try.ntmps42
  go_wp2
  go_loop [5] (fun i => ∃ k : Nat, k ≤ n ∧ i = .int .i64 k ∧ hasB (zs.take k) x = false) (fun i => n - (intOf i).toNat)
  case atStart => exact ⟨0, Nat.zero_le _, rfl, rfl⟩
  case round =>
    obtain ⟨k, hk, rfl, hno⟩ := hrel
    have HN := Lib.hid hno
    clear hno
    by_cases hlt : k < n
    · obtain ⟨b, off, rfl, hb, hc⟩ := H.out.cells (by omega)
      have hck := hc k hlt
      clear hc
      go_wp2
      · go_ret
        exact ⟨ret_bool (hasB_of_at (by rw [H.out.len]; exact hlt) (by assumption)).symm, rfl⟩
      · go_round
        case rel => exact ⟨k + 1, by omega, by go_num, hasB_step (by rw [H.out.len]; exact hlt) (by assumption) HN.out⟩
        case measure => simp [intOf]; omega
    · go_wp2
      go_ret
      exact ⟨ret_bool (hasB_full H.out.len hlt HN.out).symm, rfl⟩

set_option maxHeartbeats 400000 in
theorem ints_any (A : Option Addr) (n c : Nat) (zs : List Int) (A' : Option Addr) (n' c' : Nat) (zs' : List Int) (w : World) (h : RI w A n c zs) (h' : RI w A' n' c' zs') :
    Calls Try.prog 18 #[.slice A n c, .slice A' n' c'] w fun e w' => e = .returned (.bool (sameB zs zs')) ∧ ∃ q, w' = w.drewN q := by
  have hn := h.small
  have hn' := h'.small
  have H := Lib.hid h
  have H' := Lib.hid h'
  clear h h'
  by_cases hne : n = n'
  · subst hne
    go_enter Try.func18, Try.ntmps18
    go_wp2
    go_loopw [5] (fun i wr => ∃ k q : Nat, k ≤ n ∧ i = .int .i64 k ∧ zs.take k = zs'.take k ∧ wr = w.drewN q) (fun i _ => n - (intOf i).toNat)
    case atStart => exact ⟨0, 0, Nat.zero_le _, rfl, rfl, rfl⟩
    case round =>
      obtain ⟨k, q, hk, rfl, hno, rfl⟩ := hrel
      have HN := Lib.hid hno
      clear hno
      by_cases hlt : k < n
      · obtain ⟨b, off, rfl, hb, hc⟩ := H.out.cells (by omega)
        have hck := hc k hlt
        clear hc
        obtain ⟨b', off', rfl, hb', hc'⟩ := H'.out.cells (by omega)
        have hck' := hc' k hlt
        clear hc'
        have hl1 : (k : Int) < (n : Int) := by omega
        go_wp2_with fail
        go_quiet (fail)
        go_wp2
        · have hne : (elt zs k != elt zs' k) = true := by assumption
          go_ret
          exact ⟨ret_bool (sameB_at (by rw [H.out.len]; exact hlt) (by rw [H'.out.len]; exact hlt) (by simpa using hne)).symm, _, World.drewN_drewN ..⟩
        · have heq : (elt zs k != elt zs' k) = false := by assumption
          go_roundw
          case rel => exact ⟨k + 1, _, by omega, by go_num, take_eq_step (by rw [H.out.len]; exact hlt) (by rw [H'.out.len]; exact hlt) HN.out (by simpa using heq), rfl⟩
          case measure => simp [intOf]; omega
      · go_wp2
        go_ret
        exact ⟨ret_bool (sameB_full H.out.len H'.out.len hlt HN.out).symm, q, rfl⟩
  · have hb : ((n : Int) != (n' : Int)) = true := by rw [bne_iff_ne]; omega
    go_enter Try.func18, Try.ntmps18
    go_wp2
    go_ret
    exact ⟨ret_bool (sameB_len (by rw [H.out.len, H'.out.len]; exact hne)).symm, 0, rfl⟩

/-- the three-way comparison -/
def cmpI (x y : Int) : Int := if x < y then -1 else if y < x then 1 else 0

set_option maxHeartbeats 400000 in
theorem nan_any (x : Int) (w : World) : Calls Try.prog 66 #[.int .i64 x] w fun e w' => e = .returned (.bool false) ∧ w = w' := by
  go_enter Try.func66, Try.ntmps66
  go_wp2
  go_ret
  exact ⟨ret_bool (by simp), rfl⟩



set_option maxHeartbeats 400000 in
theorem compare_any (x y : Int) (w : World) : Calls Try.prog 34 #[.int .i64 x, .int .i64 y] w fun e w' => e = .returned (.int .i64 (cmpI x y)) ∧ w = w' := by
  by_cases h1 : x < y
  · go_enter Try.func34, Try.ntmps34
    go_wp2_with (go_at_call 66; refine (nan_any _ _).mono ?_; rintro e w' ⟨rfl, rfl⟩)
    go_ret
    exact ⟨ret_int (by simp [cmpI, h1]), rfl⟩
  · by_cases h2 : y < x
    all_goals
      go_enter Try.func34, Try.ntmps34
      go_wp2_with (go_at_call 66; refine (nan_any _ _).mono ?_; rintro e w' ⟨rfl, rfl⟩)
      go_ret
      exact ⟨ret_int (by unfold cmpI; split <;> (try split) <;> omega), rfl⟩

/-- the first that is not 0 -/
def orI (x y : Int) : Int := if x = 0 then y else x

set_option maxHeartbeats 400000 in
theorem or_any (g : Nat) (x y : Int) (w : World) (h0 : w.cell? ⟨g, 0, none⟩ = some (.int .i64 x)) (h1 : w.cell? ⟨g, 1, none⟩ = some (.int .i64 y)) :
    Calls Try.prog 33 #[.slice (some ⟨g, 0, none⟩) 2 2] w fun e w' => e = .returned (.int .i64 (orI x y)) ∧ w = w' := by
  by_cases hx : x = 0
  · have hx1 : (x != 0) = false := by simp [hx]
    have HX := Lib.hid hx
    clear hx
    by_cases hy : y = 0
    · have hy1 : (y != 0) = false := by simp [hy]
      have HY := Lib.hid hy
      clear hy
      go_enter Try.func33, Try.ntmps33
      go_wp2
      refine wp_loop_rounds 3 ?_
      rw [rounds_succ]
      go_wp2
      rw [rounds_succ]
      go_wp2
      rw [rounds_succ]
      go_wp2
      go_ret
      exact ⟨ret_int (by rw [orI, if_pos HX.out, HY.out]), rfl⟩
    · have hy1 : (y != 0) = true := by simpa using hy
      clear hy
      go_enter Try.func33, Try.ntmps33
      go_wp2
      refine wp_loop_rounds 2 ?_
      rw [rounds_succ]
      go_wp2
      rw [rounds_succ]
      go_wp2
      go_ret
      exact ⟨ret_int (by rw [orI, if_pos HX.out]), rfl⟩
  · have hx1 : (x != 0) = true := by simpa using hx
    have HX := Lib.hid hx
    clear hx
    go_enter Try.func33, Try.ntmps33
    go_wp2
    refine wp_loop_rounds 1 ?_
    rw [rounds_succ]
    go_wp2
    go_ret
    exact ⟨ret_int (by rw [orI, if_neg HX.out]), rfl⟩


def isB (x n : Int) : Bool := decide (x ≠ 0) && decide (-n ≤ x) && decide (x ≤ n)
theorem isB_iff {x n : Int} : isB x n = true ↔ x ≠ 0 ∧ -n ≤ x ∧ x ≤ n := by simp [isB, and_assoc]

theorem neg_small {n : Int} (h0 : 0 ≤ n) (h1 : n ≤ 65536) : wrap64 (-n) = -n := by unfold wrap64; omega
theorem sub_small {n : Int} (h0 : 0 ≤ n) (h1 : n ≤ 65536) : wrap64 (0 - n) = -n := by unfold wrap64; omega

set_option maxHeartbeats 400000 in
theorem is_any (x n : Int) (w : World) (h0 : 0 ≤ n) (h1 : n ≤ 65536) : Calls Try.prog 69 #[.int .i64 x, .int .i64 n] w fun e w' => e = .returned (.bool (isB x n)) ∧ w = w' := by
  have hw := sub_small h0 h1
  by_cases hx : x = 0
  · have hx1 : (x != 0) = false := by simp [hx]
    have HX := Lib.hid hx
    clear hx
    go_enter Try.func69, Try.ntmps69
    go_wp2
    go_ret
    exact ⟨ret_bool (by simp [isB, HX.out]), rfl⟩
  · have hx1 : (x != 0) = true := by simpa using hx
    have HX := Lib.hid hx
    clear hx
    by_cases h2 : -n ≤ x
    · by_cases h3 : x ≤ n
      all_goals
        go_enter Try.func69, Try.ntmps69
        go_wp2
        go_ret
        exact ⟨ret_bool (by simp [isB, HX.out, h2, h3]), rfl⟩
    · go_enter Try.func69, Try.ntmps69
      go_wp2
      go_ret
      exact ⟨ret_bool (by rw [isB, decide_eq_false (show ¬ -n ≤ x by omega), Bool.and_false, Bool.false_and]), rfl⟩

set_option maxHeartbeats 400000 in
theorem may_any (x n : Int) (w : World) (h0 : 0 ≤ n) (h1 : n ≤ 65536) : Calls Try.prog 49 #[.int .i64 x, .int .i64 n] w fun e w' => e = .returned (.bool (isB x n)) ∧ w = w' := by
  have hw := neg_small h0 h1
  by_cases hx : x = 0
  · have hx1 : (x != 0) = false := by simp [hx]
    have HX := Lib.hid hx
    clear hx
    go_enter Try.func49, Try.ntmps49
    go_wp2
    go_ret
    exact ⟨ret_bool (by simp [isB, HX.out]), rfl⟩
  · have hx1 : (x != 0) = true := by simpa using hx
    have HX := Lib.hid hx
    clear hx
    by_cases h2 : -n ≤ x
    · by_cases h3 : x ≤ n
      all_goals
        go_enter Try.func49, Try.ntmps49
        go_wp2
        go_ret
        exact ⟨ret_bool (by simp [isB, HX.out, h2, h3]), rfl⟩
    · go_enter Try.func49, Try.ntmps49
      go_wp2
      go_ret
      exact ⟨ret_bool (by rw [isB, decide_eq_false (show ¬ -n ≤ x by omega), Bool.and_false, Bool.false_and]), rfl⟩

def absI (x : Int) : Int := if x < 0 then -x else x

set_option maxHeartbeats 400000 in
theorem of_any (x : Int) (w : World) (h0 : -65536 ≤ x) (h1 : x ≤ 65536) : Calls Try.prog 51 #[.int .i64 x] w fun e w' => e = .returned (.int .i64 (absI x)) ∧ w = w' := by
  have hw : wrap64 (-x) = -x := by unfold wrap64; omega
  go_enter Try.func51, Try.ntmps51
  go_wp2
  all_goals
    go_ret
    exact ⟨ret_int (by unfold absI; split <;> omega), rfl⟩

end Go.Proofs.Ytalcnkoidmoibaa

namespace Go.Proofs.Ytalcnkoidmoibaa
open Go.RowKit
set_option linter.unusedVariables false

/-- a world in which all that lay in w lies as it did -/
structure Gr (w : World) where
  val : World
  ok : Below w.heap.size w val

instance (w : World) : Nonempty (Gr w) := ⟨⟨w, Below.refl _ _⟩⟩

theorem wp_region_grow {P : Program} {id : Nat} {Q : Exit → Act → World → Prop} {a : Act} {w : World} {l : List Oper} (hm : P.follows .mixedOrders = true) (hB : Region.lexB .any l.toArray = true)
    (h : wpQuiet P l.toArray (fun w' => ∃ u : Gr w, w' = u.val) (fun a' => ∀ w', (∃ u : Gr w, w' = u.val) → Q .normal a' w') l a) : (Code.region id l.toArray true).wp P Q a w :=
  wp_region_quiet (C := fun w' => ∃ u : Gr w, w' = u.val) hm hB ⟨⟨w.drew, (Below.refl _ _).drew⟩, rfl⟩ (by simpa using h)

theorem Gr.call {P : Program} {f : FuncId} {args : Array Value} {w : World} {v : Value} (u : Gr w) (h : Calls P f args u.val fun e w' => e = .returned v ∧ Below u.val.heap.size u.val w') :
    Calls P f args u.val fun e w' => e = .returned v ∧ ∃ u' : Gr w, w' = u'.val :=
  h.mono fun _ w' ⟨he, hb⟩ => ⟨he, ⟨w', u.ok.trans (hb.mono u.ok.size)⟩, rfl⟩
theorem Gr.same {P : Program} {f : FuncId} {args : Array Value} {w : World} {v : Value} (u : Gr w) (h : Calls P f args u.val fun e w' => e = .returned v ∧ u.val = w') :
    Calls P f args u.val fun e w' => e = .returned v ∧ ∃ u' : Gr w, w' = u'.val :=
  h.mono fun _ _ ⟨he, hb⟩ => ⟨he, u, hb.symm⟩
theorem Gr.cell {w : World} {p : Addr} {v : Value} (u : Gr w) (hp : p.block < w.heap.size) (h : w.cell? p = some v) : u.val.cell? p = some v := (u.ok.cell hp).trans h
theorem Gr.out {w w' : World} (h : ∃ u : Gr w, w' = u.val) : Below w.heap.size w w' := by
  obtain ⟨u, rfl⟩ := h; exact u.ok

end Go.Proofs.Ytalcnkoidmoibaa

namespace Go.Proofs.Ytalcnkoidmoibaa
open Go.RowKit
set_option linter.unusedVariables false
set_option linter.unusedSimpArgs false

theorem drewN_below (w : World) (q : Nat) : Below w.heap.size w (w.drewN q) := ⟨rfl, rfl, rfl, Nat.le_refl _, fun _ _ => rfl⟩

theorem all_at {zs : List Int} {p : Int → Bool} {k : Nat} (h : k < zs.length) (e : p (elt zs k) = false) : zs.all p = false := by
  rw [elt_lt h] at e
  rw [List.all_eq_false]; exact ⟨_, List.getElem_mem h, by simp [e]⟩
theorem all_step {zs : List Int} {p : Int → Bool} {k : Nat} (h : k < zs.length) (e : p (elt zs k) = true) (h0 : (zs.take k).all p = true) : (zs.take (k + 1)).all p = true := by
  rw [take_snoc zs k h, List.all_append, h0]; simp [e]
theorem all_full {zs : List Int} {p : Int → Bool} {k n : Nat} (hl : zs.length = n) (h : ¬ k < n) (h0 : (zs.take k).all p = true) : zs.all p = true := by
  rw [List.take_of_length_le (by omega)] at h0; exact h0
theorem drop_at {zs : List Int} {k : Nat} (h : k < zs.length) : zs.drop k = elt zs k :: zs.drop (k + 1) := by
  rw [List.drop_eq_getElem_cons h, elt_lt h]

/-- all are literals -/
def Okl (zs : List Int) : Prop := ∀ x ∈ zs, x ≠ 0 ∧ -65536 ≤ x ∧ x ≤ 65536
theorem Okl.at {zs : List Int} {k : Nat} (h : Okl zs) (hk : k < zs.length) : elt zs k ≠ 0 ∧ -65536 ≤ elt zs k ∧ elt zs k ≤ 65536 := h _ (elt_mem hk)
theorem lit_neg {x : Int} (h0 : -65536 ≤ x) (h1 : x ≤ 65536) : wrap64 (0 - x) = -x := by unfold wrap64; omega
theorem lit_neg' {x : Int} (h0 : -65536 ≤ x) (h1 : x ≤ 65536) : wrap64 (-x) = -x := by unfold wrap64; omega

def subB (a b : List Int) : Bool := a.all (hasB b)

set_option maxHeartbeats 400000 in
theorem subsumesR_any (A : Option Addr) (n c : Nat) (zs : List Int) (A' : Option Addr) (n' c' : Nat) (zs' : List Int) (w : World) (h : RI w A n c zs) (h' : RI w A' n' c' zs') :
    Calls Try.prog 74 #[.slice A n c, .slice A' n' c'] w fun e w' => e = .returned (.bool (subB zs zs')) ∧ w = w' := by
  have hn := h.small
  have H := Lib.hid h
  clear h
  go_enter Try.func74, Try.ntmps74
  go_wp2
  go_loop [5] (fun i => ∃ k : Nat, k ≤ n ∧ i = .int .i64 k ∧ (zs.take k).all (hasB zs') = true) (fun i => n - (intOf i).toNat)
  case atStart => exact ⟨0, Nat.zero_le _, rfl, rfl⟩
  case round =>
    obtain ⟨k, hk, rfl, hno⟩ := hrel
    have HN := Lib.hid hno
    clear hno
    by_cases hlt : k < n
    · obtain ⟨b, off, rfl, hb, hc⟩ := H.out.cells (by omega)
      have hck := hc k hlt
      clear hc
      generalize ho : hasB zs' (elt zs k) = o
      have HO := Lib.hid ho
      clear ho
      cases o
      · go_wp2_with (go_at_call 42; refine (has_any _ _ _ _ _ _ h').mono ?_; rintro e w' ⟨rfl, rfl⟩; rw [HO.out])
        go_ret
        exact ⟨ret_bool (all_at (by rw [H.out.len]; exact hlt) HO.out).symm, rfl⟩
      · go_wp2_with (go_at_call 42; refine (has_any _ _ _ _ _ _ h').mono ?_; rintro e w' ⟨rfl, rfl⟩; rw [HO.out])
        go_round
        case rel => exact ⟨k + 1, by omega, by go_num, all_step (by rw [H.out.len]; exact hlt) HO.out HN.out⟩
        case measure => simp [intOf]; omega
    · go_wp2
      go_ret
      exact ⟨ret_bool (all_full H.out.len hlt HN.out).symm, rfl⟩

def falseB (l known : List Int) : Bool := l.all fun x => hasB known (-x)

set_option maxHeartbeats 400000 in
theorem false_any (A : Option Addr) (n c : Nat) (zs : List Int) (A' : Option Addr) (n' c' : Nat) (zs' : List Int) (w : World) (h : RI w A n c zs) (h' : RI w A' n' c' zs') (hz : Okl zs) :
    Calls Try.prog 71 #[.slice A n c, .slice A' n' c'] w fun e w' => e = .returned (.bool (falseB zs zs')) ∧ w = w' := by
  have hn := h.small
  have H := Lib.hid h
  clear h
  have HZ := Lib.hid hz
  clear hz
  go_enter Try.func71, Try.ntmps71
  go_wp2
  go_loop [5] (fun i => ∃ k : Nat, k ≤ n ∧ i = .int .i64 k ∧ (zs.take k).all (fun x => hasB zs' (-x)) = true) (fun i => n - (intOf i).toNat)
  case atStart => exact ⟨0, Nat.zero_le _, rfl, rfl⟩
  case round =>
    obtain ⟨k, hk, rfl, hno⟩ := hrel
    have HN := Lib.hid hno
    clear hno
    by_cases hlt : k < n
    · obtain ⟨b, off, rfl, hb, hc⟩ := H.out.cells (by omega)
      have hck := hc k hlt
      clear hc
      have hx := HZ.out.at (k := k) (by rw [H.out.len]; exact hlt)
      have hneg := lit_neg' hx.2.1 hx.2.2
      clear hx
      generalize ho : hasB zs' (-(elt zs k)) = o
      have HO := Lib.hid ho
      clear ho
      cases o
      · go_wp2_with (go_at_call 42; refine (has_any _ _ _ _ _ _ h').mono ?_; rintro e w' ⟨rfl, rfl⟩; rw [HO.out])
        go_ret
        exact ⟨ret_bool (all_at (p := fun x => hasB zs' (-x)) (by rw [H.out.len]; exact hlt) HO.out).symm, rfl⟩
      · go_wp2_with (go_at_call 42; refine (has_any _ _ _ _ _ _ h').mono ?_; rintro e w' ⟨rfl, rfl⟩; rw [HO.out])
        go_round
        case rel => exact ⟨k + 1, by omega, by go_num, all_step (p := fun x => hasB zs' (-x)) (by rw [H.out.len]; exact hlt) HO.out HN.out⟩
        case measure => simp [intOf]; omega
    · go_wp2
      go_ret
      exact ⟨ret_bool (all_full H.out.len hlt HN.out).symm, rfl⟩

/-- the literal that a clause implies, as the reference reckons it -/
def unitR (known : List Int) : List Int → Int → Int
  | [], one => one
  | x :: l, one => if hasB known x = true then 0 else if hasB known (-x) = true ∨ x = one then unitR known l one else if one ≠ 0 then 0 else unitR known l x

set_option maxHeartbeats 800000 in
theorem unitR_any (A : Option Addr) (n c : Nat) (zs : List Int) (A' : Option Addr) (n' c' : Nat) (zs' : List Int) (w : World) (h : RI w A n c zs) (h' : RI w A' n' c' zs') (hz : Okl zs) :
    Calls Try.prog 72 #[.slice A n c, .slice A' n' c'] w fun e w' => e = .returned (.int .i64 (unitR zs' zs 0)) ∧ w = w' := by
  have hn := h.small
  have H := Lib.hid h
  clear h
  have HZ := Lib.hid hz
  clear hz
  go_enter Try.func72, Try.ntmps72
  go_wp2
  go_loop [5, 6] (fun o i => ∃ (k : Nat) (one : Int), k ≤ n ∧ o = .int .i64 one ∧ i = .int .i64 k ∧ unitR zs' zs 0 = unitR zs' (zs.drop k) one) (fun _ i => n - (intOf i).toNat)
  case atStart => exact ⟨0, 0, Nat.zero_le _, rfl, rfl, rfl⟩
  case round =>
    obtain ⟨k, one, hk, rfl, rfl, hno⟩ := hrel
    have HN := Lib.hid hno
    clear hno
    by_cases hlt : k < n
    · obtain ⟨b, off, rfl, hb, hc⟩ := H.out.cells (by omega)
      have hck := hc k hlt
      clear hc
      have hl : k < zs.length := by rw [H.out.len]; exact hlt
      have hx := HZ.out.at hl
      have hneg := lit_neg' hx.2.1 hx.2.2
      have HX := Lib.hid hx
      clear hx
      have HN2 := HN.out
      rw [drop_at hl, unitR] at HN2
      replace HN2 := Lib.hid HN2
      by_cases h1 : hasB zs' (elt zs k) = true
      · go_wp2_with (go_at_call 42; refine (has_any _ _ _ _ _ _ h').mono ?_; rintro e w' ⟨rfl, rfl⟩; rw [h1])
        go_ret
        exact ⟨ret_int (by rw [HN2.out, if_pos h1]), rfl⟩
      · have h1' : hasB zs' (elt zs k) = false := by simpa using h1
        by_cases h2 : hasB zs' (-(elt zs k)) = true
        · go_wp2_with (go_at_call 42; refine (has_any _ _ _ _ _ _ h').mono ?_; rintro e w' ⟨rfl, rfl⟩; first | rw [h1'] | rw [h2])
          go_round
          case rel => exact ⟨k + 1, one, by omega, rfl, by go_num, by rw [HN2.out, if_neg h1, if_pos (Or.inl h2)]⟩
          case measure => simp [intOf]; omega
        · have h2' : hasB zs' (-(elt zs k)) = false := by simpa using h2
          by_cases h3 : elt zs k = one
          · have h3' : (elt zs k == one) = true := by simpa using h3
            have H3 := Lib.hid h3
            clear h3
            go_wp2_with (go_at_call 42; refine (has_any _ _ _ _ _ _ h').mono ?_; rintro e w' ⟨rfl, rfl⟩; first | rw [h1'] | rw [h2'])
            go_round
            case rel => exact ⟨k + 1, one, by omega, rfl, by go_num, by rw [HN2.out, if_neg h1, if_pos (Or.inr H3.out)]⟩
            case measure => simp [intOf]; omega
          · have h3' : (elt zs k == one) = false := by simpa using h3
            have H3 := Lib.hid h3
            clear h3
            by_cases h4 : one = 0
            · have h4' : (one != 0) = false := by simp [h4]
              have H4 := Lib.hid h4
              clear h4
              go_wp2_with (go_at_call 42; refine (has_any _ _ _ _ _ _ h').mono ?_; rintro e w' ⟨rfl, rfl⟩; first | rw [h1'] | rw [h2'])
              go_round
              case rel => exact ⟨k + 1, elt zs k, by omega, rfl, by go_num, by rw [HN2.out, if_neg h1, if_neg (by intro h; exact h.elim h2 H3.out), if_neg (by simpa using H4.out)]⟩
              case measure => simp [intOf]; omega
            · have h4' : (one != 0) = true := by simpa using h4
              have H4 := Lib.hid h4
              clear h4
              go_wp2_with (go_at_call 42; refine (has_any _ _ _ _ _ _ h').mono ?_; rintro e w' ⟨rfl, rfl⟩; first | rw [h1'] | rw [h2'])
              go_ret
              exact ⟨ret_int (by rw [HN2.out, if_neg h1, if_neg (by intro h; exact h.elim h2 H3.out), if_pos H4.out]), rfl⟩
    · go_wp2
      go_ret
      exact ⟨ret_int (by rw [HN.out, List.drop_of_length_le (by rw [H.out.len]; omega), unitR]), rfl⟩

end Go.Proofs.Ytalcnkoidmoibaa
