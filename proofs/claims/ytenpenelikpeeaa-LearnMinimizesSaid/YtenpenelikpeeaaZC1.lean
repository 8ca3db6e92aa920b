/-
  Words for memory; a region that draws its order and only makes memory. Turned from this repo's texts of chapter 22. No condition.
  Contracts of small functions, of both Checks of a formula, of ContainsFunc at ints; a map used as a set. Turned from this repo's texts of chapter 22. No condition.
-/
import Derived.Test.YtenpenelikpeeaaRows
import Derived.WalkKit
import Derived.WalkSpells
import Derived.WalkLawsBesides
import Derived.Lib.Hide
import Derived.Below
import Derived.Laws.OwnMore
import Derived.Calls
import Derived.Deep.Quiet
import Derived.Deep.QuietTactic
import Derived.BigQuiet
import Derived.Shelf.Abstract
import Derived.StillTailTactics
import Derived.Maps.OwnOps
import Derived.Maps.OwnSet
import Derived.Maps.Views

namespace Go.Proofs.Ytenpenelikpeeaa
open Go.RowKit Go.Shelf
set_option linter.unusedVariables false
set_option linter.unusedSimpArgs false

/- YtalcnkoidmoibaaMem -/
/-- the element at a place; 0 behind the end -/
def elt (zs : List Int) (k : Nat) : Int := zs.getD k 0

theorem elt_lt {zs : List Int} {k : Nat} (h : k < zs.length) : elt zs k = zs[k] := by simp [elt, List.getD_eq_getElem?_getD, List.getElem?_eq_getElem h]

theorem take_snoc (zs : List Int) (k : Nat) (h : k < zs.length) : zs.take (k + 1) = zs.take k ++ [elt zs k] := by
  rw [List.take_succ_eq_append_getElem h, elt_lt h]

/-- what a slice value reads as in a world -/
structure RI (w : World) (A : Option Addr) (n c : Nat) (zs : List Int) : Prop where
  len : zs.length = n
  cap : n ≤ c
  big : n * 8 ≤ 140737488355328
  cmax : c ≤ maxLen
  cells : 0 < n → ∃ b off, A = some ⟨b, off, none⟩ ∧ b < w.heap.size ∧ ∀ j, j < n → w.cell? ⟨b, off + j, none⟩ = some (.int .i64 (elt zs j))

theorem RI.below {w w' : World} {A : Option Addr} {n c : Nat} {zs : List Int} (h : RI w A n c zs) (hb : Below w.heap.size w w') : RI w' A n c zs :=
  ⟨h.len, h.cap, h.big, h.cmax, fun hn => by
    obtain ⟨b, off, rfl, hlt, hc⟩ := h.cells hn
    exact ⟨b, off, rfl, Nat.lt_of_lt_of_le hlt hb.size, fun j hj => (hb.cell (p := ⟨b, off + j, none⟩) hlt).trans (hc j hj)⟩⟩

theorem RI.nil (w : World) (A : Option Addr) (c : Nat) (hc : c ≤ maxLen) : RI w A 0 c [] := ⟨rfl, Nat.zero_le _, by omega, hc, fun h => absurd h (by omega)⟩

theorem RI.drew {w : World} {A : Option Addr} {n c : Nat} {zs : List Int} (h : RI w A n c zs) : RI w.drew A n c zs := h.below ((Below.refl _ _).drew)

theorem RI.alloc {w : World} {A : Option Addr} {n c : Nat} {zs : List Int} (h : RI w A n c zs) (o : Obj) : RI (w.alloc o) A n c zs := h.below ((Below.refl _ _).alloc (Nat.le_refl _) _)

theorem RI.small {w : World} {A : Option Addr} {n c : Nat} {zs : List Int} (h : RI w A n c zs) : n ≤ 17592186044416 := by have := h.big; omega

theorem bcell {W w1 : World} (hb : Below W.heap.size W w1) : (∀ b o, b < W.heap.size → w1.cell? ⟨b, o, none⟩ = W.cell? ⟨b, o, none⟩) ∧ (∀ b o, b < W.heap.size → w1.frozen? ⟨b, o, none⟩ = W.frozen? ⟨b, o, none⟩) :=
  ⟨fun b o h => hb.cell (p := ⟨b, o, none⟩) h, fun b o h => hb.frozen (p := ⟨b, o, none⟩) h⟩

theorem ret_bool {a b : Bool} (h : a = b) : Ending.returned (.bool a) = .returned (.bool b) := by rw [h]

theorem ret_int {k : IntKind} {a b : Int} (h : a = b) : Ending.returned (.int k a) = .returned (.int k b) := by rw [h]

/- plain functions -/

/-- a row of the call's own reads as its list -/
theorem RI.of_own {w : World} {base : Nat} {A : Option Addr} {n c : Nat} {zs : List Int} (h : w.ownsRow base 3 1 (.slice A n c) n (zs.map (Value.int .i64))) (hbig : n * 8 ≤ 140737488355328) : RI w A n c zs := by
  obtain ⟨h1, h2⟩ := h
  have hl : zs.length = n := by simpa using h1
  rcases h2 with ⟨hv, hn⟩ | ⟨g, cap, cur, hv, hg, hh, hnc, hcm, hcs, htk⟩
  · simp only [Value.slice.injEq] at hv
    obtain ⟨rfl, _, rfl⟩ := hv
    subst hn
    exact ⟨hl, Nat.le_refl _, hbig, Nat.zero_le _, fun h => absurd h (by omega)⟩
  · simp only [Value.slice.injEq] at hv
    obtain ⟨rfl, _, rfl⟩ := hv
    refine ⟨hl, hnc, hbig, hcm, fun hn => ⟨g, 0, rfl, ?_, fun j hj => ?_⟩⟩
    · rcases Nat.lt_or_ge g w.heap.size with hlt | hge
      · exact hlt
      · rw [Array.getElem?_eq_none hge] at hh; cases hh
    · have hj' : j < cur.size := by omega
      have e : cur[j]? = some (.int .i64 (elt zs j)) := by
        have h3 : (cur.toList.take (n * 1))[j]? = (zs.map (Value.int .i64))[j]? := by rw [htk]
        rw [List.getElem?_take_of_lt (by omega), List.getElem?_map, List.getElem?_eq_getElem (by omega : j < zs.length)] at h3
        rw [← Array.getElem?_toList, h3, elt_lt (by omega)]
        rfl
      simp [World.cell?, hh, e]

def hasB (zs : List Int) (x : Int) : Bool := zs.contains x

theorem hasB_iff {zs : List Int} {x : Int} : hasB zs x = true ↔ x ∈ zs := by simp [hasB]

theorem hasB_nil (x : Int) : hasB [] x = false := rfl

theorem hasB_snoc (zs : List Int) (x y : Int) : hasB (zs ++ [y]) x = (hasB zs x || (y == x)) := by
  rw [Bool.eq_iff_iff, hasB_iff, Bool.or_eq_true, hasB_iff, beq_iff_eq, List.mem_append, List.mem_singleton]
  exact ⟨fun h => h.imp id Eq.symm, fun h => h.imp id Eq.symm⟩

theorem hasB_of_at {zs : List Int} {x : Int} {k : Nat} (h : k < zs.length) (e : (elt zs k == x) = true) : hasB zs x = true := by
  rw [hasB_iff]; rw [elt_lt h] at e; have : zs[k] = x := by simpa using e
  rw [← this]; exact List.getElem_mem h

theorem hasB_step {zs : List Int} {x : Int} {k : Nat} (h : k < zs.length) (e : (elt zs k == x) = false) (h0 : hasB (zs.take k) x = false) : hasB (zs.take (k + 1)) x = false := by
  rw [take_snoc zs k h, hasB_snoc, h0, e]; rfl

theorem hasB_full {zs : List Int} {x : Int} {k n : Nat} (hl : zs.length = n) (h : ¬ k < n) (h0 : hasB (zs.take k) x = false) : hasB zs x = false := by
  rw [List.take_of_length_le (by omega)] at h0; exact h0

def sameB (a b : List Int) : Bool := a == b

theorem sameB_iff {a b : List Int} : sameB a b = true ↔ a = b := by simp [sameB]

theorem sameB_len {a b : List Int} (h : a.length ≠ b.length) : sameB a b = false := by
  unfold sameB; rw [beq_eq_false_iff_ne]; intro e; exact h (by rw [e])

theorem sameB_at {a b : List Int} {k : Nat} (ha : k < a.length) (hb : k < b.length) (h : elt a k ≠ elt b k) : sameB a b = false := by
  unfold sameB; rw [beq_eq_false_iff_ne]; intro e; subst e; exact h rfl

theorem take_eq_step {a b : List Int} {k : Nat} (ha : k < a.length) (hb : k < b.length) (h : a.take k = b.take k) (e : elt a k = elt b k) : a.take (k + 1) = b.take (k + 1) := by
  rw [take_snoc a k ha, take_snoc b k hb, h, e]

theorem sameB_full {a b : List Int} {k n : Nat} (ha : a.length = n) (hb : b.length = n) (hk : ¬ k < n) (h : a.take k = b.take k) : sameB a b = true := by
  rw [List.take_of_length_le (by omega), List.take_of_length_le (by omega)] at h
  rw [sameB_iff]; exact h

/-- the list at a place; empty behind the end -/
def ell (ls : List (List Int)) (k : Nat) : List Int := ls.getD k []

theorem ell_lt {ls : List (List Int)} {k : Nat} (h : k < ls.length) : ell ls k = ls[k] := by simp [ell, List.getD_eq_getElem?_getD, List.getElem?_eq_getElem h]

theorem takel_snoc (ls : List (List Int)) (k : Nat) (h : k < ls.length) : ls.take (k + 1) = ls.take k ++ [ell ls k] := by
  rw [List.take_succ_eq_append_getElem h, ell_lt h]

theorem ell_mem {ls : List (List Int)} {k : Nat} (h : k < ls.length) : ell ls k ∈ ls := by rw [ell_lt h]; exact List.getElem_mem h

theorem elt_mem {zs : List Int} {k : Nat} (h : k < zs.length) : elt zs k ∈ zs := by rw [elt_lt h]; exact List.getElem_mem h

/-- a slice of slices of ints that reads as a list of lists in a world -/
structure RL (w : World) (A : Option Addr) (n c : Nat) (ls : List (List Int)) : Prop where
  len : ls.length = n
  cap : n ≤ c
  big : n * 24 ≤ 140737488355328
  cmax : c ≤ maxLen
  cells : 0 < n → ∃ b off, A = some ⟨b, off, none⟩ ∧ b < w.heap.size ∧ ∀ j, j < n → ∃ A' n' c', w.cell? ⟨b, off + j, none⟩ = some (.slice A' n' c') ∧ RI w A' n' c' (ell ls j)

theorem RL.below {w w' : World} {A : Option Addr} {n c : Nat} {ls : List (List Int)} (h : RL w A n c ls) (hb : Below w.heap.size w w') : RL w' A n c ls :=
  ⟨h.len, h.cap, h.big, h.cmax, fun hn => by
    obtain ⟨b, off, rfl, hlt, hc⟩ := h.cells hn
    refine ⟨b, off, rfl, Nat.lt_of_lt_of_le hlt hb.size, fun j hj => ?_⟩
    obtain ⟨A', n', c', h1, h2⟩ := hc j hj
    exact ⟨A', n', c', (hb.cell (p := ⟨b, off + j, none⟩) hlt).trans h1, h2.below hb⟩⟩

theorem RL.nil (w : World) (A : Option Addr) (c : Nat) (hc : c ≤ maxLen) : RL w A 0 c [] := ⟨rfl, Nat.zero_le _, by omega, hc, fun h => absurd h (by omega)⟩

theorem RL.drew {w : World} {A : Option Addr} {n c : Nat} {ls : List (List Int)} (h : RL w A n c ls) : RL w.drew A n c ls := h.below ((Below.refl _ _).drew)

theorem RL.alloc {w : World} {A : Option Addr} {n c : Nat} {ls : List (List Int)} (h : RL w A n c ls) (o : Obj) : RL (w.alloc o) A n c ls := h.below ((Below.refl _ _).alloc (Nat.le_refl _) _)

theorem RL.small {w : World} {A : Option Addr} {n c : Nat} {ls : List (List Int)} (h : RL w A n c ls) : n ≤ 5864062014806 := by have := h.big; omega

/- YtalcnkoidmoibaaGrow -/
/-- a world in which all that lay in w lies as it did -/
structure Gr (w : World) where
  val : World
  ok : Below w.heap.size w val

instance (w : World) : Nonempty (Gr w) := ⟨⟨w, Below.refl _ _⟩⟩

theorem wp_region_grow {P : Program} {id : Nat} {Q : Exit → Act → World → Prop} {a : Act} {w : World} {l : List Oper} (hm : P.follows .mixedOrders = true) (hB : Region.lexB .any l.toArray = true)
    (h : wpQuiet P l.toArray (fun w' => ∃ u : Gr w, w' = u.val) (fun a' => ∀ w', (∃ u : Gr w, w' = u.val) → Q .normal a' w') l a) : (Code.region id l.toArray true).wp P Q a w :=
  wp_region_quiet (C := fun w' => ∃ u : Gr w, w' = u.val) hm hB ⟨⟨w.drew, (Below.refl _ _).drew⟩, rfl⟩ (by simpa using h)

theorem Gr.call {P : Program} {f : FuncId} {args : Array Value} {w : World} {v : Value} (u : Gr w) (h : Calls P f args u.val fun e w' => e = .returned v ∧ Below u.val.heap.size u.val w') :
    Calls P f args u.val fun e w' => e = .returned v ∧ ∃ u' : Gr w, w' = u'.val :=
  h.mono fun _ w' ⟨he, hb⟩ => ⟨he, ⟨w', u.ok.trans (hb.mono u.ok.size)⟩, rfl⟩

theorem Gr.same {P : Program} {f : FuncId} {args : Array Value} {w : World} {v : Value} (u : Gr w) (h : Calls P f args u.val fun e w' => e = .returned v ∧ u.val = w') :
    Calls P f args u.val fun e w' => e = .returned v ∧ ∃ u' : Gr w, w' = u'.val :=
  h.mono fun _ _ ⟨he, hb⟩ => ⟨he, u, hb.symm⟩

theorem Gr.cell {w : World} {p : Addr} {v : Value} (u : Gr w) (hp : p.block < w.heap.size) (h : w.cell? p = some v) : u.val.cell? p = some v := (u.ok.cell hp).trans h

theorem Gr.out {w w' : World} (h : ∃ u : Gr w, w' = u.val) : Below w.heap.size w w' := by
  obtain ⟨u, rfl⟩ := h; exact u.ok

end Go.Proofs.Ytenpenelikpeeaa

namespace Go.Proofs.Ytenpenelikpeeaa
open Go.RowKit Go.Shelf
set_option linter.unusedVariables false
set_option linter.unusedSimpArgs false

/- YtalcnkoidmoibaaA1 -/
set_option maxHeartbeats 400000 in
theorem has_any (A : Option Addr) (n c : Nat) (zs : List Int) (x : Int) (w : World) (h : RI w A n c zs) :
    Calls Try.prog 72 #[.slice A n c, .int .i64 x] w fun e w' => e = .returned (.bool (hasB zs x)) ∧ w = w' := by
  have hn := h.small
  have H := Lib.hid h
  clear h
  go_enter Try.func72, Try.ntmps72
  go_wp2
  go_loop [5] (fun i => ∃ k : Nat, k ≤ n ∧ i = .int .i64 k ∧ hasB (zs.take k) x = false) (fun i => n - (intOf i).toNat)
  case atStart => exact ⟨0, Nat.zero_le _, rfl, rfl⟩
  case round =>
    obtain ⟨k, hk, rfl, hno⟩ := hrel
    have HN := Lib.hid hno
    clear hno
    by_cases hlt : k < n
    · obtain ⟨b, off, rfl, hb, hc⟩ := H.out.cells (by omega)
      have hck := hc k hlt
      clear hc
      go_wp2
      · go_ret
        exact ⟨ret_bool (hasB_of_at (by rw [H.out.len]; exact hlt) (by assumption)).symm, rfl⟩
      · go_round
        case rel => exact ⟨k + 1, by omega, by go_num, hasB_step (by rw [H.out.len]; exact hlt) (by assumption) HN.out⟩
        case measure => simp [intOf]; omega
    · go_wp2
      go_ret
      exact ⟨ret_bool (hasB_full H.out.len hlt HN.out).symm, rfl⟩

set_option maxHeartbeats 400000 in
theorem ints_any (A : Option Addr) (n c : Nat) (zs : List Int) (A' : Option Addr) (n' c' : Nat) (zs' : List Int) (w : World) (h : RI w A n c zs) (h' : RI w A' n' c' zs') :
    Calls Try.prog 15 #[.slice A n c, .slice A' n' c'] w fun e w' => e = .returned (.bool (sameB zs zs')) ∧ ∃ q, w' = w.drewN q := by
  have hn := h.small
  have hn' := h'.small
  have H := Lib.hid h
  have H' := Lib.hid h'
  clear h h'
  by_cases hne : n = n'
  · subst hne
    go_enter Try.func15, Try.ntmps15
    go_wp2
    go_loopw [5] (fun i wr => ∃ k q : Nat, k ≤ n ∧ i = .int .i64 k ∧ zs.take k = zs'.take k ∧ wr = w.drewN q) (fun i _ => n - (intOf i).toNat)
    case atStart => exact ⟨0, 0, Nat.zero_le _, rfl, rfl, rfl⟩
    case round =>
      obtain ⟨k, q, hk, rfl, hno, rfl⟩ := hrel
      have HN := Lib.hid hno
      clear hno
      by_cases hlt : k < n
      · obtain ⟨b, off, rfl, hb, hc⟩ := H.out.cells (by omega)
        have hck := hc k hlt
        clear hc
        obtain ⟨b', off', rfl, hb', hc'⟩ := H'.out.cells (by omega)
        have hck' := hc' k hlt
        clear hc'
        have hl1 : (k : Int) < (n : Int) := by omega
        go_wp2_with fail
        go_quiet (fail)
        go_wp2
        · have hne : (elt zs k != elt zs' k) = true := by assumption
          go_ret
          exact ⟨ret_bool (sameB_at (by rw [H.out.len]; exact hlt) (by rw [H'.out.len]; exact hlt) (by simpa using hne)).symm, _, World.drewN_drewN ..⟩
        · have heq : (elt zs k != elt zs' k) = false := by assumption
          go_roundw
          case rel => exact ⟨k + 1, _, by omega, by go_num, take_eq_step (by rw [H.out.len]; exact hlt) (by rw [H'.out.len]; exact hlt) HN.out (by simpa using heq), rfl⟩
          case measure => simp [intOf]; omega
      · go_wp2
        go_ret
        exact ⟨ret_bool (sameB_full H.out.len H'.out.len hlt HN.out).symm, q, rfl⟩
  · have hb : ((n : Int) != (n' : Int)) = true := by rw [bne_iff_ne]; omega
    go_enter Try.func15, Try.ntmps15
    go_wp2
    go_ret
    exact ⟨ret_bool (sameB_len (by rw [H.out.len, H'.out.len]; exact hne)).symm, 0, rfl⟩

/-- the three-way comparison -/
def cmpI (x y : Int) : Int := if x < y then -1 else if y < x then 1 else 0

set_option maxHeartbeats 400000 in
theorem nan_any (x : Int) (w : World) : Calls Try.prog 84 #[.int .i64 x] w fun e w' => e = .returned (.bool false) ∧ w = w' := by
  go_enter Try.func84, Try.ntmps84
  go_wp2
  go_ret
  exact ⟨ret_bool (by simp), rfl⟩

set_option maxHeartbeats 400000 in
theorem compare_any (x y : Int) (w : World) : Calls Try.prog 68 #[.int .i64 x, .int .i64 y] w fun e w' => e = .returned (.int .i64 (cmpI x y)) ∧ w = w' := by
  by_cases h1 : x < y
  · go_enter Try.func68, Try.ntmps68
    go_wp2_with (go_at_call 84; refine (nan_any _ _).mono ?_; rintro e w' ⟨rfl, rfl⟩)
    go_ret
    exact ⟨ret_int (by simp [cmpI, h1]), rfl⟩
  · by_cases h2 : y < x
    all_goals
      go_enter Try.func68, Try.ntmps68
      go_wp2_with (go_at_call 84; refine (nan_any _ _).mono ?_; rintro e w' ⟨rfl, rfl⟩)
      go_ret
      exact ⟨ret_int (by unfold cmpI; split <;> (try split) <;> omega), rfl⟩

/-- the first that is not 0 -/
def orI (x y : Int) : Int := if x = 0 then y else x

def isB (x n : Int) : Bool := decide (x ≠ 0) && decide (-n ≤ x) && decide (x ≤ n)

theorem isB_iff {x n : Int} : isB x n = true ↔ x ≠ 0 ∧ -n ≤ x ∧ x ≤ n := by simp [isB, and_assoc]

theorem neg_small {n : Int} (h0 : 0 ≤ n) (h1 : n ≤ 65536) : wrap64 (-n) = -n := by unfold wrap64; omega

theorem sub_small {n : Int} (h0 : 0 ≤ n) (h1 : n ≤ 65536) : wrap64 (0 - n) = -n := by unfold wrap64; omega

set_option maxHeartbeats 400000 in
theorem is_any (x n : Int) (w : World) (h0 : 0 ≤ n) (h1 : n ≤ 65536) : Calls Try.prog 71 #[.int .i64 x, .int .i64 n] w fun e w' => e = .returned (.bool (isB x n)) ∧ w = w' := by
  have hw := sub_small h0 h1
  by_cases hx : x = 0
  · have hx1 : (x != 0) = false := by simp [hx]
    have HX := Lib.hid hx
    clear hx
    go_enter Try.func71, Try.ntmps71
    go_wp2
    go_ret
    exact ⟨ret_bool (by simp [isB, HX.out]), rfl⟩
  · have hx1 : (x != 0) = true := by simpa using hx
    have HX := Lib.hid hx
    clear hx
    by_cases h2 : -n ≤ x
    · by_cases h3 : x ≤ n
      all_goals
        go_enter Try.func71, Try.ntmps71
        go_wp2
        go_ret
        exact ⟨ret_bool (by simp [isB, HX.out, h2, h3]), rfl⟩
    · go_enter Try.func71, Try.ntmps71
      go_wp2
      go_ret
      exact ⟨ret_bool (by rw [isB, decide_eq_false (show ¬ -n ≤ x by omega), Bool.and_false, Bool.false_and]), rfl⟩

set_option maxHeartbeats 400000 in
theorem may_any (x n : Int) (w : World) (h0 : 0 ≤ n) (h1 : n ≤ 65536) : Calls Try.prog 62 #[.int .i64 x, .int .i64 n] w fun e w' => e = .returned (.bool (isB x n)) ∧ w = w' := by
  have hw := neg_small h0 h1
  by_cases hx : x = 0
  · have hx1 : (x != 0) = false := by simp [hx]
    have HX := Lib.hid hx
    clear hx
    go_enter Try.func62, Try.ntmps62
    go_wp2
    go_ret
    exact ⟨ret_bool (by simp [isB, HX.out]), rfl⟩
  · have hx1 : (x != 0) = true := by simpa using hx
    have HX := Lib.hid hx
    clear hx
    by_cases h2 : -n ≤ x
    · by_cases h3 : x ≤ n
      all_goals
        go_enter Try.func62, Try.ntmps62
        go_wp2
        go_ret
        exact ⟨ret_bool (by simp [isB, HX.out, h2, h3]), rfl⟩
    · go_enter Try.func62, Try.ntmps62
      go_wp2
      go_ret
      exact ⟨ret_bool (by rw [isB, decide_eq_false (show ¬ -n ≤ x by omega), Bool.and_false, Bool.false_and]), rfl⟩

def absI (x : Int) : Int := if x < 0 then -x else x

set_option maxHeartbeats 400000 in
theorem of_any (x : Int) (w : World) (h0 : -65536 ≤ x) (h1 : x ≤ 65536) : Calls Try.prog 80 #[.int .i64 x] w fun e w' => e = .returned (.int .i64 (absI x)) ∧ w = w' := by
  have hw : wrap64 (-x) = -x := by unfold wrap64; omega
  go_enter Try.func80, Try.ntmps80
  go_wp2
  all_goals
    go_ret
    exact ⟨ret_int (by unfold absI; split <;> omega), rfl⟩

/- YtalcnkoidmoibaaA2 -/
theorem drewN_below (w : World) (q : Nat) : Below w.heap.size w (w.drewN q) := ⟨rfl, rfl, rfl, Nat.le_refl _, fun _ _ => rfl⟩

theorem all_at {zs : List Int} {p : Int → Bool} {k : Nat} (h : k < zs.length) (e : p (elt zs k) = false) : zs.all p = false := by
  rw [elt_lt h] at e
  rw [List.all_eq_false]; exact ⟨_, List.getElem_mem h, by simp [e]⟩

theorem all_step {zs : List Int} {p : Int → Bool} {k : Nat} (h : k < zs.length) (e : p (elt zs k) = true) (h0 : (zs.take k).all p = true) : (zs.take (k + 1)).all p = true := by
  rw [take_snoc zs k h, List.all_append, h0]; simp [e]

theorem all_full {zs : List Int} {p : Int → Bool} {k n : Nat} (hl : zs.length = n) (h : ¬ k < n) (h0 : (zs.take k).all p = true) : zs.all p = true := by
  rw [List.take_of_length_le (by omega)] at h0; exact h0

theorem drop_at {zs : List Int} {k : Nat} (h : k < zs.length) : zs.drop k = elt zs k :: zs.drop (k + 1) := by
  rw [List.drop_eq_getElem_cons h, elt_lt h]

/-- all are literals -/
def Okl (zs : List Int) : Prop := ∀ x ∈ zs, x ≠ 0 ∧ -65536 ≤ x ∧ x ≤ 65536

theorem Okl.at {zs : List Int} {k : Nat} (h : Okl zs) (hk : k < zs.length) : elt zs k ≠ 0 ∧ -65536 ≤ elt zs k ∧ elt zs k ≤ 65536 := h _ (elt_mem hk)

theorem lit_neg {x : Int} (h0 : -65536 ≤ x) (h1 : x ≤ 65536) : wrap64 (0 - x) = -x := by unfold wrap64; omega

theorem lit_neg' {x : Int} (h0 : -65536 ≤ x) (h1 : x ≤ 65536) : wrap64 (-x) = -x := by unfold wrap64; omega

def subB (a b : List Int) : Bool := a.all (hasB b)

def falseB (l known : List Int) : Bool := l.all fun x => hasB known (-x)

/-- the literal that a clause implies, as the reference reckons it -/
def unitR (known : List Int) : List Int → Int → Int
  | [], one => one
  | x :: l, one => if hasB known x = true then 0 else if hasB known (-x) = true ∨ x = one then unitR known l one else if one ≠ 0 then 0 else unitR known l x

/- YtalcnkoidmoibaaA4 -/
/-- all elements are literals of the variables 1 to n -/
def litsB (n : Int) (l : List Int) : Bool := l.all fun x => isB x n

def allB (n : Int) (ls : List (List Int)) : Bool := ls.all (litsB n)

/-- the error of a formula -/
def checkE (n : Int) (ls : List (List Int)) : Int := if n < 0 ∨ 65536 < n then 1 else if allB n ls = false then 1 else if 65536 < ls.length then 2 else 0

theorem allB_at {n : Int} {ls : List (List Int)} {k : Nat} (h : k < ls.length) (e : litsB n (ell ls k) = false) : allB n ls = false := by
  rw [ell_lt h] at e
  unfold allB; rw [List.all_eq_false]; exact ⟨_, List.getElem_mem h, by simp [e]⟩

theorem allB_step {n : Int} {ls : List (List Int)} {k : Nat} (h : k < ls.length) (e : litsB n (ell ls k) = true) (h0 : allB n (ls.take k) = true) : allB n (ls.take (k + 1)) = true := by
  unfold allB at *; rw [takel_snoc ls k h, List.all_append, h0]; simp [e]

theorem allB_full {n : Int} {ls : List (List Int)} {k m : Nat} (hl : ls.length = m) (h : ¬ k < m) (h0 : allB n (ls.take k) = true) : allB n ls = true := by
  rw [List.take_of_length_le (by omega)] at h0; exact h0

theorem checkE_out {n : Int} {ls : List (List Int)} (h : n < 0 ∨ 65536 < n) : checkE n ls = 1 := if_pos h

theorem checkE_arg {n : Int} {ls : List (List Int)} (h : allB n ls = false) : checkE n ls = 1 := by unfold checkE; split <;> simp [h]

theorem checkE_bound {n : Int} {ls : List (List Int)} (h0 : 0 ≤ n ∧ n ≤ 65536) (h : allB n ls = true) (hl : 65536 < ls.length) : checkE n ls = 2 := by
  unfold checkE; rw [if_neg (by omega), if_neg (by rw [h]; exact Bool.noConfusion), if_pos hl]

theorem checkE_ok {n : Int} {ls : List (List Int)} (h0 : 0 ≤ n ∧ n ≤ 65536) (h : allB n ls = true) (hl : ¬ 65536 < ls.length) : checkE n ls = 0 := by
  unfold checkE; rw [if_neg (by omega), if_neg (by rw [h]; exact Bool.noConfusion), if_neg hl]

/-- an api.Cnf in a box -/
structure BoxC (w : World) (B : Nat) (x : Int) (A : Option Addr) (n c : Nat) : Prop where
  lt : B < w.heap.size
  c0 : w.cell? ⟨B, 0, none⟩ = some (.int .i64 x)
  c1 : w.cell? ⟨B, 1, none⟩ = some (.slice A n c)

theorem BoxC.below {w w' : World} {B : Nat} {x : Int} {A : Option Addr} {n c : Nat} (h : BoxC w B x A n c) (hb : Below w.heap.size w w') : BoxC w' B x A n c :=
  ⟨Nat.lt_of_lt_of_le h.lt hb.size, (hb.cell (p := ⟨B, 0, none⟩) h.lt).trans h.c0, (hb.cell (p := ⟨B, 1, none⟩) h.lt).trans h.c1⟩

theorem BoxC.new (w : World) (x : Int) (A : Option Addr) (n c : Nat) : BoxC (w.alloc (.cells #[.int .i64 x, .slice A n c] 24)) w.heap.size x A n c :=
  ⟨by simp, by simp, by simp⟩

theorem is_val (r : Bool) (x n : Int) (w : World) (h0 : 0 ≤ n) (h1 : n ≤ 65536) (hr : isB x n = r) : Calls Try.prog 71 #[.int .i64 x, .int .i64 n] w fun e w' => e = .returned (.bool r) ∧ w = w' :=
  (is_any x n w h0 h1).mono fun _ _ ⟨he, hw⟩ => ⟨by rw [he, hr], hw⟩

set_option maxHeartbeats 1600000 in
theorem checkR_in (x : Int) (A : Option Addr) (n c : Nat) (ls : List (List Int)) (w : World) (h : RL w A n c ls) (h0 : 0 ≤ x) (h1 : x ≤ 65536) :
    Calls Try.prog 69 #[.agg #[.int .i64 x, .slice A n c]] w fun e w' => e = .returned (.int .i64 (checkE x ls)) ∧ Below w.heap.size w w' := by
  have hn := h.small
  have H := Lib.hid h
  clear h
  have z1 : ¬ x < 0 := by omega
  have z2 : ¬ 65536 < x := by omega
  have HX := Lib.hid (And.intro h0 h1)
  clear h0 h1
  go_enter Try.func69, Try.ntmps69
  go_wp2
  have hbw : Below w.heap.size w (w.alloc (.cells #[.int .i64 x, .slice A n c] 24)) := (Below.refl _ _).alloc (Nat.le_refl _) _
  have hbx := BoxC.new w x A n c
  generalize hW : w.alloc (.cells #[.int .i64 x, .slice A n c] 24) = W at hbw hbx ⊢
  clear hW
  have HBW := Lib.hid hbw
  have BX := Lib.hid hbx
  have HB0 : w.heap.size < W.heap.size := BX.out.lt
  clear hbw hbx
  go_loopw [3] (fun i wr => ∃ k : Nat, k ≤ n ∧ i = .int .i64 k ∧ allB x (ls.take k) = true ∧ Below W.heap.size W wr) (fun i _ => n - (intOf i).toNat)
  case atStart => exact ⟨0, Nat.zero_le _, rfl, rfl, Below.refl _ _⟩
  case round =>
    obtain ⟨k, hk, rfl, hno, hbl⟩ := hrel
    have HN := Lib.hid hno
    have HB := Lib.hid hbl
    clear hno hbl
    have p0 := (BX.out.below HB.out).c0
    have p1 := (BX.out.below HB.out).c1
    by_cases hlt : k < n
    · obtain ⟨b, off, rfl, hb, hc⟩ := ((H.out.below HBW.out).below HB.out).cells (by omega)
      obtain ⟨a1, n1, c1, hck, hr1⟩ := hc k hlt
      clear hc
      have R1 := Lib.hid hr1
      have hn1 := hr1.small
      clear hr1
      have hl1 : (k : Int) < (n : Int) := by omega
      rename World => V
      go_wp2_with fail
      go_loopw [4] (fun i wq => ∃ j : Nat, j ≤ n1 ∧ i = .int .i64 j ∧ ((ell ls k).take j).all (fun y => isB y x) = true ∧ Below V.heap.size V wq) (fun i _ => n1 - (intOf i).toNat)
      case atStart => exact ⟨0, Nat.zero_le _, rfl, rfl, Below.refl _ _⟩
      case round =>
        obtain ⟨j, hj, rfl, hno2, hbl2⟩ := hrel
        have HN2 := Lib.hid hno2
        have HB2 := Lib.hid hbl2
        clear hno2 hbl2
        have hBr : w.heap.size < V.heap.size := (BX.out.below HB.out).lt
        have q0 := (HB2.out.cell (p := ⟨w.heap.size, 0, none⟩) hBr).trans p0
        have q1 := (HB2.out.cell (p := ⟨w.heap.size, 1, none⟩) hBr).trans p1
        have qk := (HB2.out.cell (p := ⟨b, off + k, none⟩) hb).trans hck
        have hBF : Below w.heap.size w wr := HBW.out.trans ((HB.out.trans (HB2.out.mono HB.out.size)).mono HBW.out.size)
        have HBF := Lib.hid hBF
        clear hBF
        by_cases hlt2 : j < n1
        · obtain ⟨b1, off1, rfl, hb1, hc1⟩ := (R1.out.below HB2.out).cells (by omega)
          have hcj := hc1 j hlt2
          clear hc1
          have hB2 : w.heap.size < wr.heap.size := Nat.lt_of_lt_of_le hBr HB2.out.size
          have hb2 : b < wr.heap.size := Nat.lt_of_lt_of_le hb HB2.out.size
          have hl2 : (j : Int) < (n1 : Int) := by omega
          generalize ho : isB (elt (ell ls k) j) x = o
          have HO := Lib.hid ho
          clear ho p0 p1 hck
          cases o
          · go_wp2_with fail
            refine wp_region_grow (by kernel_rfl) (by kernel_rfl) ?_
            have g0 := fun u : Gr wr => u.cell (p := ⟨w.heap.size, 0, none⟩) hB2 q0
            have g1 := fun u : Gr wr => u.cell (p := ⟨w.heap.size, 1, none⟩) hB2 q1
            have gk := fun u : Gr wr => u.cell (p := ⟨b, off + k, none⟩) hb2 qk
            have gj := fun u : Gr wr => u.cell (p := ⟨b1, off1 + j, none⟩) hb1 hcj
            repeat (go_big_quiet_step ((go_at_call 71; exact Gr.same _ (is_val false _ _ _ HX.out.1 HX.out.2 HO.out))))
            refine wpQuiet_nil ?_
            rintro _ ⟨⟨w2, hb2⟩, rfl⟩
            go_wp2_with fail
            go_ret
            exact ⟨ret_int (checkE_arg (allB_at (k := k) (by rw [H.out.len]; exact hlt) (all_at (p := fun y => isB y x) (by rw [R1.out.len]; exact hlt2) HO.out))).symm, HBF.out.trans (hb2.mono HBF.out.size)⟩
          · go_wp2_with fail
            refine wp_region_grow (by kernel_rfl) (by kernel_rfl) ?_
            have g0 := fun u : Gr wr => u.cell (p := ⟨w.heap.size, 0, none⟩) hB2 q0
            have g1 := fun u : Gr wr => u.cell (p := ⟨w.heap.size, 1, none⟩) hB2 q1
            have gk := fun u : Gr wr => u.cell (p := ⟨b, off + k, none⟩) hb2 qk
            have gj := fun u : Gr wr => u.cell (p := ⟨b1, off1 + j, none⟩) hb1 hcj
            repeat (go_big_quiet_step ((go_at_call 71; exact Gr.same _ (is_val true _ _ _ HX.out.1 HX.out.2 HO.out))))
            refine wpQuiet_nil ?_
            rintro _ ⟨⟨w2, hb2⟩, rfl⟩
            go_wp2_with fail
            go_roundw
            case rel => exact ⟨j + 1, by omega, by go_num, all_step (p := fun y => isB y x) (by rw [R1.out.len]; exact hlt2) HO.out HN2.out, HB2.out.trans (hb2.mono HB2.out.size)⟩
            case measure => simp [intOf]; omega
        · go_wp2_with fail
          go_roundw
          case rel => exact ⟨k + 1, by omega, by go_num, allB_step (by rw [H.out.len]; exact hlt) (all_full R1.out.len hlt2 HN2.out) HN.out, HB.out.trans (HB2.out.mono HB.out.size)⟩
          case measure => simp [intOf]; omega
    · have hfu := allB_full H.out.len hlt HN.out
      have HF := Lib.hid hfu
      clear hfu
      have hl1 : ¬ (k : Int) < (n : Int) := by omega
      by_cases hbig : (65536 : Int) < n
      · go_wp2_with fail
        go_ret
        exact ⟨ret_int (checkE_bound HX.out HF.out (by rw [H.out.len]; omega)).symm, HBW.out.trans (HB.out.mono HBW.out.size)⟩
      · go_wp2_with fail
        go_ret
        exact ⟨ret_int (checkE_ok HX.out HF.out (by rw [H.out.len]; omega)).symm, HBW.out.trans (HB.out.mono HBW.out.size)⟩

set_option maxHeartbeats 400000 in
theorem checkR_out (x : Int) (A : Option Addr) (n c : Nat) (w : World) (h : x < 0 ∨ 65536 < x) :
    Calls Try.prog 69 #[.agg #[.int .i64 x, .slice A n c]] w fun e w' => e = .returned (.int .i64 1) ∧ Below w.heap.size w w' := by
  by_cases h0 : x < 0
  · clear h
    go_enter Try.func69, Try.ntmps69
    go_wp2
    go_ret
    exact ⟨rfl, (Below.refl _ _).alloc (Nat.le_refl _) _⟩
  · have h1 : 65536 < x := by omega
    clear h
    go_enter Try.func69, Try.ntmps69
    go_wp2
    go_ret
    exact ⟨rfl, (Below.refl _ _).alloc (Nat.le_refl _) _⟩

theorem checkR_any (x : Int) (A : Option Addr) (n c : Nat) (ls : List (List Int)) (w : World) (h : RL w A n c ls) :
    Calls Try.prog 69 #[.agg #[.int .i64 x, .slice A n c]] w fun e w' => e = .returned (.int .i64 (checkE x ls)) ∧ Below w.heap.size w w' := by
  by_cases hx : x < 0 ∨ 65536 < x
  · rw [checkE_out hx]; exact checkR_out x A n c w hx
  · exact checkR_in x A n c ls w h (by omega) (by omega)

/- YtalcnkoidmoibaaM1 -/
theorem elem_bool_inv {P : Program} {e : TypeId} (he : P.underlying e = some .bool) {v : Value} {x : Bool} {ps : List MemPlace} (h : plainElem (H := Unit) P e v = some (.lit (.bool x), ps)) : v = .bool x := by
  unfold plainElem at h
  rw [he] at h
  cases v <;> simp at h
  rw [h.1]

/-- the block is a map that holds 'true' at the elements of S, and at no other key -/
def SM (w : World) (b n : Nat) (S : List Int) : Prop :=
  ∃ D : DataW Unit, w.ownsMap Try.prog 3 (plainElem Try.prog 4) b n D ∧ ∀ x, (Lit.int .i64 x).wf = true → D.atKey (.int .i64 x) (.lit (.bool false)) = .lit (.bool (hasB S x))

theorem SM.made (w : World) : SM (w.alloc (.map #[] 0)) w.heap.size 0 [] :=
  ⟨_, World.ownsMap_made w _ _ _, fun x _ => rfl⟩

theorem SM.mono {w : World} {b n n' : Nat} {S : List Int} (h : SM w b n S) (hn : n ≤ n') : SM w b n' S := by
  obtain ⟨D, h1, h2⟩ := h; exact ⟨D, h1.mono hn, h2⟩

theorem SM.lt {w : World} {b n : Nat} {S : List Int} (h : SM w b n S) : b < w.heap.size := by
  obtain ⟨D, h1, h2⟩ := h; exact h1.lt

theorem SM.kept {w w' : World} {b n : Nat} {S : List Int} {row : Option Nat} (h : SM w b n S) (hg : w.grownBy w' row) (hne : some b ≠ row) : SM w' b n S := by
  obtain ⟨D, h1, h2⟩ := h; exact ⟨D, h1.kept hg hne, h2⟩

theorem SM.alloc {w : World} {b n : Nat} {S : List Int} (h : SM w b n S) (o : Obj) : SM (w.alloc o) b n S := by
  obtain ⟨D, h1, h2⟩ := h; exact ⟨D, h1.alloc o, h2⟩

theorem SM.drew {w : World} {b n : Nat} {S : List Int} (h : SM w b n S) : SM w.drew b n S := by
  obtain ⟨D, h1, h2⟩ := h; exact ⟨D, h1.drew, h2⟩

theorem SM.below {w w' : World} {b n B : Nat} {S : List Int} (h : SM w b n S) (hb : Below B w w') (hB : b < B) : SM w' b n S := by
  obtain ⟨D, ⟨es, clock, h1, h3⟩, h2⟩ := h; exact ⟨D, ⟨es, clock, (hb.block b hB).trans h1, h3⟩, h2⟩

theorem SM.look {w : World} {b n : Nat} {S : List Int} (h : SM w b n S) {x : Int} (hx : (Lit.int .i64 x).wf = true) :
    (Instr.lookup 61 (.map (some b)) (.int .i64 x) false).run Try.prog w = .ok (.bool (hasB S x)) w := by
  obtain ⟨D, h1, h2⟩ := h
  obtain ⟨v, ps, hrun, hv⟩ := h1.lookup (Maps.int_keyed Try.underlying3) Try.underlying61 (z := .bool false) (Try.zeroValue4 w) (plainElem_bool Try.underlying4 false) (Maps.keyOf_int_mk Try.underlying3 hx)
  rw [h2 x hx] at hv
  have hv' := elem_bool_inv Try.underlying4 hv
  rw [hrun, hv']

theorem SM.put {w : World} {b n : Nat} {S : List Int} (h : SM w b n S) (hn : n < maxLen) {x : Int} (hx : (Lit.int .i64 x).wf = true) :
    ∃ w', (Instr.mapUpdate 61 (.map (some b)) (.int .i64 x) (.bool true)).run Try.prog w = .ok () w' ∧ SM w' b (n + 1) (S ++ [x]) ∧ w.grownBy w' (some b) := by
  obtain ⟨D, h1, h2⟩ := h
  obtain ⟨w', hrun, ho, hg⟩ := h1.update (Maps.int_keyed Try.underlying3) Try.underlying61 hn (Maps.keyOf_int_mk Try.underlying3 hx) (plainElem_bool Try.underlying4 true)
  refine ⟨w', hrun, ⟨_, ho, fun y hy => ?_⟩, hg⟩
  by_cases e : y = x
  · subst e
    rw [Maps.atKey_put_same h1.isMap (by simp [WideAt.IsKeyLit]), hasB_snoc]
    simp
  · rw [Maps.atKey_put_other (by simpa using e), h2 y hy, hasB_snoc]
    have : (x == y) = false := by simpa using Ne.symm e
    rw [this, Bool.or_false]

/- YtalcnkoidmoibaaB1 -/
theorem any_at {zs : List Int} {p : Int → Bool} {k : Nat} (h : k < zs.length) (e : p (elt zs k) = true) : zs.any p = true := by
  rw [elt_lt h] at e
  rw [List.any_eq_true]; exact ⟨_, List.getElem_mem h, e⟩

theorem any_step {zs : List Int} {p : Int → Bool} {k : Nat} (h : k < zs.length) (e : p (elt zs k) = false) (h0 : (zs.take k).any p = false) : (zs.take (k + 1)).any p = false := by
  rw [take_snoc zs k h, List.any_append, h0]; simp [e]

theorem any_full {zs : List Int} {p : Int → Bool} {k n : Nat} (hl : zs.length = n) (h : ¬ k < n) (h0 : (zs.take k).any p = false) : zs.any p = false := by
  rw [List.take_of_length_le (by omega)] at h0; exact h0

def IdxP (p : Int → Bool) (zs : List Int) (w : World) (e : Ending) (w' : World) : Prop := ∃ r : Int, e = .returned (.int .i64 r) ∧ (decide (0 ≤ r) = zs.any p) ∧ w = w'

set_option maxHeartbeats 400000 in
theorem indexI_any (g : Nat) (lb : Array Value) (p : Int → Bool) (eg : ∀ args w, (callFunc g args).run Try.prog w = .ok (.enter g args) w) (A : Option Addr) (n c : Nat) (zs : List Int) (w : World) (h : RI w A n c zs)
    (hp : ∀ x ∈ zs, Calls Try.prog g (#[.int .i64 x] ++ lb) w fun e w' => e = .returned (.bool (p x)) ∧ w = w') :
    Calls Try.prog 77 #[.slice A n c, .func (.func g) #[] lb] w (IdxP p zs w) := by
  have hn := h.small
  have H := Lib.hid h
  clear h
  have HP := Lib.hid hp
  clear hp
  go_enter Try.func77, Try.ntmps77
  go_wp2
  go_loop [8] (fun i => ∃ k : Nat, k ≤ n ∧ i = .int .i64 k ∧ (zs.take k).any p = false) (fun i => n - (intOf i).toNat)
  case atStart => exact ⟨0, Nat.zero_le _, rfl, rfl⟩
  case round =>
    obtain ⟨k, hk, rfl, hno⟩ := hrel
    have HN := Lib.hid hno
    clear hno
    by_cases hlt : k < n
    · obtain ⟨b, off, rfl, hb, hc⟩ := H.out.cells (by omega)
      have hck := hc k hlt
      clear hc
      have hl : k < zs.length := by rw [H.out.len]; exact hlt
      have hcall := HP.out (elt zs k) (elt_mem hl)
      generalize ho : p (elt zs k) = o at hcall
      have HO := Lib.hid ho
      clear ho
      cases o
      · go_wp2_with (go_at_fn g; refine hcall.mono ?_; rintro e w' ⟨rfl, rfl⟩)
        go_round
        case rel => exact ⟨k + 1, by omega, by go_num, any_step hl HO.out HN.out⟩
        case measure => simp [intOf]; omega
      · go_wp2_with (go_at_fn g; refine hcall.mono ?_; rintro e w' ⟨rfl, rfl⟩)
        go_ret
        exact ⟨k, rfl, by rw [any_at hl HO.out]; simp, rfl⟩
    · go_wp2
      go_ret
      exact ⟨-1, rfl, by rw [any_full H.out.len hlt HN.out]; rfl, rfl⟩

set_option maxHeartbeats 400000 in
theorem containsI_any (g : Nat) (lb : Array Value) (p : Int → Bool) (eg : ∀ args w, (callFunc g args).run Try.prog w = .ok (.enter g args) w) (A : Option Addr) (n c : Nat) (zs : List Int) (w : World) (h : RI w A n c zs)
    (hp : ∀ x ∈ zs, Calls Try.prog g (#[.int .i64 x] ++ lb) w fun e w' => e = .returned (.bool (p x)) ∧ w = w') :
    Calls Try.prog 49 #[.slice A n c, .func (.func g) #[] lb] w fun e w' => e = .returned (.bool (zs.any p)) ∧ w = w' := by
  have hI := indexI_any g lb p eg A n c zs w h hp
  clear h hp
  go_enter Try.func49, Try.ntmps49
  go_wp2_with (go_at_call 77; refine hI.mono ?_; rintro e w' ⟨r, rfl, hr, rfl⟩)
  all_goals
    go_ret
    exact ⟨ret_bool (by rw [← hr]), rfl⟩

theorem enters61 : ∀ args w, (callFunc 61 args).run Try.prog w = .ok (.enter 61 args) w := enters_of Try.func61 (by kernel_rfl) rfl

set_option maxHeartbeats 400000 in
theorem check1_any (B : Nat) (n x : Int) (w : World) (hc : w.cell? ⟨B, 0, none⟩ = some (.int .i64 n)) (h0 : 0 ≤ n) (h1 : n ≤ 65536) :
    Calls Try.prog 61 #[.int .i64 x, .pointer (some ⟨B, 0, none⟩)] w fun e w' => e = .returned (.bool (!(isB x n))) ∧ w = w' := by
  go_enter Try.func61, Try.ntmps61
  go_wp2_with (go_at_call 62; refine (may_any x n w h0 h1).mono ?_; rintro e w' ⟨rfl, rfl⟩)
  go_ret
  exact ⟨rfl, rfl⟩

theorem any_not_all (n : Int) (l : List Int) : l.any (fun x => !(isB x n)) = !(litsB n l) := by
  unfold litsB; rw [List.not_all_eq_any_not]

set_option maxHeartbeats 800000 in
theorem check_in (x : Int) (A : Option Addr) (n c : Nat) (ls : List (List Int)) (w : World) (h : RL w A n c ls) (h0 : 0 ≤ x) (h1 : x ≤ 65536) :
    Calls Try.prog 23 #[.agg #[.int .i64 x, .slice A n c]] w fun e w' => e = .returned (.int .i64 (checkE x ls)) ∧ Below w.heap.size w w' := by
  have hn := h.small
  have H := Lib.hid h
  clear h
  have z1 : ¬ x < 0 := by omega
  have z2 : ¬ 65536 < x := by omega
  have HX := Lib.hid (And.intro h0 h1)
  clear h0 h1
  go_enter Try.func23, Try.ntmps23
  go_wp2
  have hbw : Below w.heap.size w (w.alloc (.cells #[.int .i64 x, .slice A n c] 24)) := (Below.refl _ _).alloc (Nat.le_refl _) _
  have hbx := BoxC.new w x A n c
  generalize hW : w.alloc (.cells #[.int .i64 x, .slice A n c] 24) = W at hbw hbx ⊢
  clear hW
  have HBW := Lib.hid hbw
  have BX := Lib.hid hbx
  have p0 := hbx.c0
  have p1 := hbx.c1
  clear hbw hbx
  go_loop [16] (fun i => ∃ k : Nat, k ≤ n ∧ i = .int .i64 k ∧ allB x (ls.take k) = true) (fun i => n - (intOf i).toNat)
  case atStart => exact ⟨0, Nat.zero_le _, rfl, rfl⟩
  case round =>
    obtain ⟨k, hk, rfl, hno⟩ := hrel
    have HN := Lib.hid hno
    clear hno
    by_cases hlt : k < n
    · obtain ⟨b, off, rfl, hb, hc⟩ := (H.out.below HBW.out).cells (by omega)
      obtain ⟨a1, n1, c1, hck, hr1⟩ := hc k hlt
      clear hc
      have hcall := containsI_any 61 #[.pointer (some ⟨w.heap.size, 0, none⟩)] (fun y => !(isB y x)) enters61 a1 n1 c1 (ell ls k) W hr1 (fun y _ => check1_any w.heap.size x y W p0 HX.out.1 HX.out.2)
      rw [any_not_all] at hcall
      clear hr1
      generalize ho : litsB x (ell ls k) = o at hcall
      have HO := Lib.hid ho
      clear ho
      cases o
      · go_wp2_with (go_at_call 49; refine hcall.mono ?_; rintro e w' ⟨rfl, rfl⟩)
        go_ret
        exact ⟨ret_int (checkE_arg (allB_at (k := k) (by rw [H.out.len]; exact hlt) HO.out)).symm, HBW.out⟩
      · go_wp2_with (go_at_call 49; refine hcall.mono ?_; rintro e w' ⟨rfl, rfl⟩)
        go_round
        case rel => exact ⟨k + 1, by omega, by go_num, allB_step (by rw [H.out.len]; exact hlt) HO.out HN.out⟩
        case measure => simp [intOf]; omega
    · have hfu := allB_full H.out.len hlt HN.out
      have HF := Lib.hid hfu
      clear hfu
      have hl1 : ¬ (k : Int) < (n : Int) := by omega
      by_cases hbig : (65536 : Int) < n
      · go_wp2
        go_ret
        exact ⟨ret_int (checkE_bound HX.out HF.out (by rw [H.out.len]; omega)).symm, HBW.out⟩
      · go_wp2
        go_ret
        exact ⟨ret_int (checkE_ok HX.out HF.out (by rw [H.out.len]; omega)).symm, HBW.out⟩

set_option maxHeartbeats 400000 in
theorem check_out (x : Int) (A : Option Addr) (n c : Nat) (w : World) (h : x < 0 ∨ 65536 < x) :
    Calls Try.prog 23 #[.agg #[.int .i64 x, .slice A n c]] w fun e w' => e = .returned (.int .i64 1) ∧ Below w.heap.size w w' := by
  by_cases h0 : x < 0
  · clear h
    go_enter Try.func23, Try.ntmps23
    go_wp2
    go_ret
    exact ⟨rfl, (Below.refl _ _).alloc (Nat.le_refl _) _⟩
  · have h1 : 65536 < x := by omega
    clear h
    go_enter Try.func23, Try.ntmps23
    go_wp2
    go_ret
    exact ⟨rfl, (Below.refl _ _).alloc (Nat.le_refl _) _⟩

theorem check_any (x : Int) (A : Option Addr) (n c : Nat) (ls : List (List Int)) (w : World) (h : RL w A n c ls) :
    Calls Try.prog 23 #[.agg #[.int .i64 x, .slice A n c]] w fun e w' => e = .returned (.int .i64 (checkE x ls)) ∧ Below w.heap.size w w' := by
  by_cases hx : x < 0 ∨ 65536 < x
  · rw [checkE_out hx]; exact check_out x A n c w hx
  · exact check_in x A n c ls w h (by omega) (by omega)

/- YtalcnkoidmoibaaB2 -/
theorem grown_cell {W W' : World} {b : Nat} (hg : W.grownBy W' (some b)) {p : Addr} {v : Value} (hne : p.block ≠ b) (h : W.cell? p = some v) : W'.cell? p = some v := by
  have hlt : p.block < W.heap.size := by
    rcases Nat.lt_or_ge p.block W.heap.size with hlt | hge
    · exact hlt
    · simp [World.cell?, Array.getElem?_eq_none hge] at h
  exact (World.cell?_of_block (w := W) (hg.block p.block hlt (by intro e; injection e with e; exact hne e))).trans h

/-- every element is within its range -/
def Wfl (zs : List Int) : Prop := ∀ x ∈ zs, (Lit.int .i64 x).wf = true

theorem any_not_sub (S l : List Int) : l.any (fun x => !(hasB S x)) = !(subB l S) := by
  unfold subB; rw [List.not_all_eq_any_not]

end Go.Proofs.Ytenpenelikpeeaa
