/-
  The reference's unlike. No condition.
  The index of a trail is made: looked of the package learn. No condition.
  The closure put of First: the literals of a clause come into the set, those of the last level are counted. No condition.
-/
import Derived.Test.YtenpenelikpeeaaZC9
import Derived.Test.YtenpenelikpeeaaZC6
import Derived.Test.YtenpenelikpeeaaZC8

namespace Go.Proofs.Ytenpenelikpeeaa
open Go.RowKit Go.Shelf
set_option linter.unusedVariables false
set_option linter.unusedSimpArgs false

/-- the variable of a literal, as int64 has it -/
def vW (y : Int) : Int := max y (wrap64 (-y))
theorem vW_in {y : Int} (h0 : -65536 ≤ y) (h1 : y ≤ 65536) : vW y = absI y := by unfold vW; rw [lit_neg' h0 h1]; unfold absI; split <;> omega
theorem vW_out {y : Int} (h0 : -9223372036854775808 ≤ y) (h1 : y ≤ 9223372036854775807) (h : y < -65536 ∨ 65536 < y) : vW y < 1 ∨ 65536 < vW y := by
  unfold vW wrap64; omega
theorem wfI_bd {y : Int} (h : wfI y = true) : -9223372036854775808 ≤ y ∧ y ≤ 9223372036854775807 := by
  have a : IntKind.i64.min = -9223372036854775808 := by decide
  have b : IntKind.i64.max = 9223372036854775807 := by decide
  unfold wfI Lit.wf at h; simp [a, b] at h; omega
theorem vW_isB {x y : Int} (hx : x ≤ 65536) (hw : wfI y = true) : isB y x = true ↔ 1 ≤ vW y ∧ vW y ≤ x := by
  obtain ⟨h0, h1⟩ := wfI_bd hw
  rw [isB_iff]
  by_cases hin : -65536 ≤ y ∧ y ≤ 65536
  · rw [vW_in hin.1 hin.2]; unfold absI; split <;> omega
  · have := vW_out h0 h1 (by omega)
    constructor
    · intro h; omega
    · intro h; omega

set_option maxHeartbeats 400000 in
theorem var20_w (y : Int) (w : World) : Calls Try.prog 76 #[.int .i64 y] w fun e w' => e = .returned (.int .i64 (vW y)) ∧ w = w' := by
  go_enter Try.func76, Try.ntmps76
  go_wp2
  go_ret
  exact ⟨rfl, rfl⟩
theorem var20_wv (r y : Int) (w : World) (h : vW y = r) : Calls Try.prog 76 #[.int .i64 y] w fun e w' => e = .returned (.int .i64 r) ∧ w = w' := by
  have := var20_w y w
  rw [h] at this; exact this
set_option maxHeartbeats 400000 in
theorem variable_w (y : Int) (w : World) : Calls Try.prog 46 #[.int .i64 y] w fun e w' => e = .returned (.int .i64 (vW y)) ∧ w = w' := by
  go_enter Try.func46, Try.ntmps46
  go_wp2
  go_ret
  exact ⟨rfl, rfl⟩

set_option maxRecDepth 100000 in
set_option maxHeartbeats 4000000 in
theorem unlike_val (rr : Bool) (A : Option Addr) (n c : Nat) (l : List Int) (x : Int) (w : World) (h : RI w A n c l) (hw : Wfl l) (h0 : 0 ≤ x) (h1 : x ≤ 65536) (hrr : unlB x l = rr) :
    Calls Try.prog 51 #[.slice A n c, .int .i64 x] w fun e w' => e = .returned (.bool rr) ∧ Below w.heap.size w w' := by
  have hn := h.small
  have hcap := h.cap
  have hcm := h.cmax
  unfold maxLen at hcm
  have H := Lib.hid h
  have HW := Lib.hid hw
  have HRR := Lib.hid hrr
  clear h hw hrr
  go_enter Try.func51, Try.ntmps51
  go_wp2
  go_loopw [5] (fun s5 W => ∃ k : Nat, k ≤ n ∧ s5 = .int .i64 k ∧ unlTo x l k = true ∧ Below w.heap.size w W) (fun s5 _ => n - (intOf s5).toNat)
  case atStart => exact ⟨0, Nat.zero_le _, rfl, rfl, Below.refl _ _⟩
  case round =>
    obtain ⟨k, hk, rfl, hun, hb⟩ := hrel
    have HU := Lib.hid hun
    have HB := Lib.hid hb
    clear hun hb
    by_cases hlt : k < n
    · have HR := Lib.hid (H.out.below HB.out)
      have hl : k < l.length := by rw [H.out.len]; exact hlt
      have hwy : wfI (elt l k) = true := HW.out _ (elt_mem hl)
      have HT := Lib.hid ((HR.out).take (k := k) (by omega))
      obtain ⟨b, off, rfl, hb, hc⟩ := HR.out.cells (by omega)
      have hck := hc k hlt
      have E1 : Hid (unlTo x l (k + 1) = unl x (l.take k) (elt l k)) := Lib.hid (by rw [unlTo_succ, HU.out, Bool.true_and])
      have E2 : Hid (unl x (l.take k) (elt l k) = false → unlB x l = false) := Lib.hid (fun e => unlB_no hl e)
      have hvi := vW_isB (x := x) h1 hwy
      clear hc hl
      obtain ⟨y, hy⟩ : ∃ y, elt l k = y := ⟨_, rfl⟩
      obtain ⟨pre, hpre⟩ : ∃ pre, l.take k = pre := ⟨_, rfl⟩
      rw [hy] at hck E1 E2 hvi hwy
      rw [hpre] at HT E1 E2
      clear hy hpre
      have d0 : (0 : Int) ≤ (k : Int) := by omega
      have d1 : (k : Int) < (n : Int) := by omega
      have d2 : (k : Int) ≤ (c : Int) := by omega
      have d3 : decide (k < n) = true := by simpa using hlt
      go_upto_region 4 with fail
      have g0 := fun u : Gr wr => u.cell (p := ⟨b, off + k, none⟩) hb hck
      obtain ⟨v, hv⟩ : ∃ v, vW y = v := ⟨_, rfl⟩
      have HV := Lib.hid hv
      rw [hv] at hvi
      clear hv
      cases hib : isB y x with
      | false =>
        have hno : v < 1 ∨ x < v := by
          rcases Int.lt_or_le v 1 with h2 | h2
          · exact Or.inl h2
          · rcases Int.lt_or_le x v with h3 | h3
            · exact Or.inr h3
            · rw [hvi.2 ⟨by omega, by omega⟩] at hib; cases hib
        have E3 := Lib.hid (E2.out (by unfold unl; rw [hib]; rfl))
        clear hvi hib
        by_cases hv1 : v < 1
        · clear hno
          refine wp_region_grow (by kernel_rfl) (by kernel_rfl) ?_
          repeat (go_big_quiet_step ((go_at_call 76; exact Gr.same _ (var20_wv v y _ HV.out))))
          refine wpQuiet_nil ?_
          rintro w7 ⟨⟨_, hb7⟩, rfl⟩
          have HB7 := Lib.hid (HB.out.trans (hb7.mono HB.out.size))
          clear hb7 g0
          go_wp2_with fail
          go_ret
          exact ⟨ret_bool (by rw [← HRR.out, E3.out]), HB7.out⟩
        · have hv2 : x < v := by omega
          have hv3 : ¬ v < 1 := hv1
          have hv4 : decide (v < 1) = false := by simpa using hv1
          clear hno
          refine wp_region_grow (by kernel_rfl) (by kernel_rfl) ?_
          repeat (go_big_quiet_step ((go_at_call 76; exact Gr.same _ (var20_wv v y _ HV.out))))
          refine wpQuiet_nil ?_
          rintro w7 ⟨⟨_, hb7⟩, rfl⟩
          have HB7 := Lib.hid (HB.out.trans (hb7.mono HB.out.size))
          clear hb7 g0
          go_wp2_with fail
          go_ret
          exact ⟨ret_bool (by rw [← HRR.out, E3.out]), HB7.out⟩
      | true =>
        obtain ⟨hv1, hv2⟩ := hvi.1 hib
        have hbb := isB_iff.1 hib
        have hneg := lit_neg' (x := y) (by omega) (by omega)
        have ww : IntKind.i64.wrap (-y) = -y := IntWalk.i64_in _ (by omega)
        have hv3 : ¬ v < 1 := by omega
        have hv4 : decide (v < 1) = false := by simpa using hv1
        have hv5 : decide (x < v) = false := by simpa using hv2
        clear hbb hvi
        cases h2 : hasB pre y with
        | true =>
          have E3 := Lib.hid (E2.out (by unfold unl; rw [hib, h2]; rfl))
          have Z2 := Lib.hid h2
          clear hib h2
          refine wp_region_grow (by kernel_rfl) (by kernel_rfl) ?_
          repeat (go_big_quiet_step ((first | (go_at_call 76; exact Gr.same _ (var20_wv v y _ HV.out)) | (go_at_call 74; exact Gr.same _ (has20_val true (some ⟨b, off, none⟩) k c pre y _ (HT.out.below (Gr.ok _)) Z2.out)))))
          refine wpQuiet_nil ?_
          rintro w7 ⟨⟨_, hb7⟩, rfl⟩
          have HB7 := Lib.hid (HB.out.trans (hb7.mono HB.out.size))
          clear hb7 g0
          go_wp2_with fail
          go_ret
          exact ⟨ret_bool (by rw [← HRR.out, E3.out]), HB7.out⟩
        | false =>
          have Z2 := Lib.hid h2
          cases h3 : hasB pre (-y) with
          | true =>
            have E3 := Lib.hid (E2.out (by unfold unl; rw [hib, h2, h3]; rfl))
            have Z3 := Lib.hid h3
            clear hib h2 h3
            refine wp_region_grow (by kernel_rfl) (by kernel_rfl) ?_
            repeat (go_big_quiet_step ((first | (go_at_call 76; exact Gr.same _ (var20_wv v y _ HV.out)) | (go_at_call 74; exact Gr.same _ (has20_val _ (some ⟨b, off, none⟩) k c pre _ _ (HT.out.below (Gr.ok _)) (by first | exact Z2.out | exact Z3.out))))))
            refine wpQuiet_nil ?_
            rintro w7 ⟨⟨_, hb7⟩, rfl⟩
            have HB7 := Lib.hid (HB.out.trans (hb7.mono HB.out.size))
            clear hb7 g0
            go_wp2_with fail
            go_ret
            exact ⟨ret_bool (by rw [← HRR.out, E3.out]), HB7.out⟩
          | false =>
            have E3 : Hid (unlTo x l (k + 1) = true) := Lib.hid (by rw [E1.out]; unfold unl; rw [hib, h2, h3]; rfl)
            have Z3 := Lib.hid h3
            clear hib h2 h3
            refine wp_region_grow (by kernel_rfl) (by kernel_rfl) ?_
            repeat (go_big_quiet_step ((first | (go_at_call 76; exact Gr.same _ (var20_wv v y _ HV.out)) | (go_at_call 74; exact Gr.same _ (has20_val false (some ⟨b, off, none⟩) k c pre _ _ (HT.out.below (Gr.ok _)) (by first | exact Z2.out | exact Z3.out))))))
            refine wpQuiet_nil ?_
            rintro w7 ⟨⟨_, hb7⟩, rfl⟩
            have HB7 := Lib.hid (HB.out.trans (hb7.mono HB.out.size))
            clear hb7 g0 ww
            go_wp2_with fail
            go_roundw
            case rel => exact ⟨k + 1, by omega, by go_num, E3.out, HB7.out⟩
            case measure => simp [intOf]; omega
    · obtain rfl : k = n := by omega
      have E : Hid (unlB x l = true) := Lib.hid (by unfold unlB; rw [H.out.len]; exact HU.out)
      go_wp2_with fail
      go_ret
      exact ⟨ret_bool (by rw [← HRR.out, E.out]), HB.out⟩

end Go.Proofs.Ytenpenelikpeeaa

namespace Go.Proofs.Ytenpenelikpeeaa
open Go.RowKit Go.Shelf
set_option linter.unusedVariables false
set_option linter.unusedSimpArgs false

/-- an index of the call's own -/
structure Lkd (w W : World) (ts : List Stp) (A2 : Option Addr) (n2 c2 b k : Nat) : Prop where
  lev : RI W A2 n2 c2 (levL ts)
  map : IntM W b k (atTo ts k)
  fresh : w.heap.size ≤ b
  below : Below w.heap.size w W
  row : ∀ b off, A2 = some ⟨b, off, none⟩ → w.heap.size ≤ b

/-- a block of five cells -/
def Blk5 (w : World) (B : Nat) (v0 v1 v2 v3 v4 : Value) : Prop := w.heap[B]? = some (.cells #[v0, v1, v2, v3, v4] 58 (0, 0))
theorem Blk5.lt {w : World} {B : Nat} {v0 v1 v2 v3 v4 : Value} (h : Blk5 w B v0 v1 v2 v3 v4) : B < w.heap.size := (Array.getElem?_eq_some_iff.1 h).1
theorem Blk5.below {w w' : World} {B : Nat} {v0 v1 v2 v3 v4 : Value} (h : Blk5 w B v0 v1 v2 v3 v4) (hb : Below w.heap.size w w') : Blk5 w' B v0 v1 v2 v3 v4 := (hb.block B h.lt).trans h
theorem Blk5.alloc {w : World} {B : Nat} {v0 v1 v2 v3 v4 : Value} (h : Blk5 w B v0 v1 v2 v3 v4) (o : Obj) : Blk5 (w.alloc o) B v0 v1 v2 v3 v4 := h.below ((Below.refl _ _).alloc (Nat.le_refl _) _)
theorem Blk5.set5 {w : World} {B : Nat} {v0 v1 v2 v3 v4 : Value} (h : Blk5 w B v0 v1 v2 v3 v4) (x0 x1 x2 x3 x4 : Value) :
    Blk5 (((((w.setCell ⟨B, 0, none⟩ x0).setCell ⟨B, 1, none⟩ x1).setCell ⟨B, 2, none⟩ x2).setCell ⟨B, 3, none⟩ x3).setCell ⟨B, 4, none⟩ x4) B x0 x1 x2 x3 x4 := by
  unfold Blk5 at *
  simp [World.setCell, Array.getElem?_modify, h]
theorem below_set5 {base : Nat} {a w : World} {B : Nat} (h : Below base a w) (hB : base ≤ B) (x0 x1 x2 x3 x4 : Value) :
    Below base a (((((w.setCell ⟨B, 0, none⟩ x0).setCell ⟨B, 1, none⟩ x1).setCell ⟨B, 2, none⟩ x2).setCell ⟨B, 3, none⟩ x3).setCell ⟨B, 4, none⟩ x4) :=
  ((((h.setCell (p := ⟨B, 0, none⟩) hB _).setCell (p := ⟨B, 1, none⟩) hB _).setCell (p := ⟨B, 2, none⟩) hB _).setCell (p := ⟨B, 3, none⟩) hB _).setCell (p := ⟨B, 4, none⟩) hB _
theorem MF.set5 {β : Type} {e : TypeId} {ed : β → DataW Unit} {w : World} {b k B : Nat} {f : Int → Option β} (h : MF e ed w b k f) (hB : b ≠ B) (x0 x1 x2 x3 x4 : Value) :
    MF e ed (((((w.setCell ⟨B, 0, none⟩ x0).setCell ⟨B, 1, none⟩ x1).setCell ⟨B, 2, none⟩ x2).setCell ⟨B, 3, none⟩ x3).setCell ⟨B, 4, none⟩ x4) b k f :=
  ((((h.setCell (a := ⟨B, 0, none⟩) hB _).setCell (a := ⟨B, 1, none⟩) hB _).setCell (a := ⟨B, 2, none⟩) hB _).setCell (a := ⟨B, 3, none⟩) hB _).setCell (a := ⟨B, 4, none⟩) hB _
/-- a row reads the same where one block has turned that is not its own -/
theorem RI.setOther {w : World} {A : Option Addr} {n c : Nat} {zs : List Int} (h : RI w A n c zs) {p : Addr} (v : Value) (hp : ∀ b off, A = some ⟨b, off, none⟩ → b ≠ p.block) : RI (w.setCell p v) A n c zs :=
  ⟨h.len, h.cap, h.big, h.cmax, fun hn => by
    obtain ⟨b, off, rfl, hlt, hc⟩ := h.cells hn
    refine ⟨b, off, rfl, by simp [World.setCell]; exact hlt, fun j hj => ?_⟩
    rw [← hc j hj]
    exact World.cell?_of_block (Below.heap_setCell _ _ _ _ (hp b off rfl))⟩
theorem RI.set5 {w : World} {A : Option Addr} {n c : Nat} {zs : List Int} (h : RI w A n c zs) {B : Nat} (hB : ∀ b off, A = some ⟨b, off, none⟩ → b ≠ B) (x0 x1 x2 x3 x4 : Value) :
    RI (((((w.setCell ⟨B, 0, none⟩ x0).setCell ⟨B, 1, none⟩ x1).setCell ⟨B, 2, none⟩ x2).setCell ⟨B, 3, none⟩ x3).setCell ⟨B, 4, none⟩ x4) A n c zs :=
  ((((h.setOther (p := ⟨B, 0, none⟩) _ hB).setOther (p := ⟨B, 1, none⟩) _ hB).setOther (p := ⟨B, 2, none⟩) _ hB).setOther (p := ⟨B, 3, none⟩) _ hB).setOther (p := ⟨B, 4, none⟩) _ hB

theorem Blk5.k0 {w : World} {B : Nat} {v0 v1 v2 v3 v4 : Value} (h : Blk5 w B v0 v1 v2 v3 v4) : w.cell? ⟨B, 0, none⟩ = some v0 := by simp [World.cell?, show w.heap[B]? = _ from h]
theorem Blk5.k1 {w : World} {B : Nat} {v0 v1 v2 v3 v4 : Value} (h : Blk5 w B v0 v1 v2 v3 v4) : w.cell? ⟨B, 1, none⟩ = some v1 := by simp [World.cell?, show w.heap[B]? = _ from h]
theorem Blk5.k2 {w : World} {B : Nat} {v0 v1 v2 v3 v4 : Value} (h : Blk5 w B v0 v1 v2 v3 v4) : w.cell? ⟨B, 2, none⟩ = some v2 := by simp [World.cell?, show w.heap[B]? = _ from h]
theorem Blk5.k3 {w : World} {B : Nat} {v0 v1 v2 v3 v4 : Value} (h : Blk5 w B v0 v1 v2 v3 v4) : w.cell? ⟨B, 3, none⟩ = some v3 := by simp [World.cell?, show w.heap[B]? = _ from h]
theorem Blk5.k4 {w : World} {B : Nat} {v0 v1 v2 v3 v4 : Value} (h : Blk5 w B v0 v1 v2 v3 v4) : w.cell? ⟨B, 4, none⟩ = some v4 := by simp [World.cell?, show w.heap[B]? = _ from h]
theorem Blk5.f {w : World} {B : Nat} {v0 v1 v2 v3 v4 : Value} (h : Blk5 w B v0 v1 v2 v3 v4) (k : Nat) : w.frozen? ⟨B, k, none⟩ = false := by simp [World.frozen?, show w.heap[B]? = _ from h]

abbrev zeroK : Obj := .cells #[.int .i64 0, .slice none 0 0, .slice none 0 0, .slice none 0 0, .map none] 58
abbrev Zero5 (w : World) (B : Nat) : Prop := Blk5 w B (.int .i64 0) (.slice none 0 0) (.slice none 0 0) (.slice none 0 0) (.map none)
theorem Zero5.new (w : World) : Zero5 (w.alloc zeroK) w.heap.size := World.alloc_heap_new w _

theorem atTo_zero (ts : List Stp) : atTo ts 0 = emptyF := by funext y; unfold atTo emptyF; rw [if_neg (by omega)]
theorem made_at (w : World) (b : Nat) (hb : b = w.heap.size) : IntM (w.alloc (.map #[] 0)) b 0 emptyF := by subst hb; exact MF.made w
theorem boxk_new_at (w : World) (B : Nat) (hB : B = w.heap.size) (x : Int) (A : Option Addr) (n c : Nat) (A' : Option Addr) (n' c' : Nat) (A2 : Option Addr) (n2 c2 : Nat) (m : Option Nat) :
    BoxK (w.alloc (.cells #[.int .i64 x, .slice A n c, .slice A' n' c', .slice A2 n2 c2, .map m] 58)) B x A n c A' n' c' A2 n2 c2 m := by subst hB; exact BoxK.new w x A n c A' n' c' A2 n2 c2 m
theorem zero_new_at (w : World) (B : Nat) (hB : B = w.heap.size) : Zero5 (w.alloc zeroK) B := by subst hB; exact Zero5.new w
theorem boxk_set5 {w : World} {B : Nat} (h : Zero5 w B) (x : Int) (A : Option Addr) (n c : Nat) (A' : Option Addr) (n' c' : Nat) (A2 : Option Addr) (n2 c2 : Nat) (m : Option Nat) :
    BoxK (((((w.setCell ⟨B, 0, none⟩ (.int .i64 x)).setCell ⟨B, 1, none⟩ (.slice A n c)).setCell ⟨B, 2, none⟩ (.slice A' n' c')).setCell ⟨B, 3, none⟩ (.slice A2 n2 c2)).setCell ⟨B, 4, none⟩ (.map m)) B x A n c A' n' c' A2 n2 c2 m := Blk5.set5 h _ _ _ _ _
theorem zero_facts {w : World} {B : Nat} (h : Zero5 w B) : w.cell? ⟨B, 0, none⟩ = some (.int .i64 0) ∧ w.cell? ⟨B, 1, none⟩ = some (.slice none 0 0) ∧ w.cell? ⟨B, 2, none⟩ = some (.slice none 0 0) ∧ w.cell? ⟨B, 3, none⟩ = some (.slice none 0 0) ∧ w.cell? ⟨B, 4, none⟩ = some (.map none) ∧
    w.frozen? ⟨B, 0, none⟩ = false ∧ w.frozen? ⟨B, 1, none⟩ = false ∧ w.frozen? ⟨B, 2, none⟩ = false ∧ w.frozen? ⟨B, 3, none⟩ = false ∧ w.frozen? ⟨B, 4, none⟩ = false := ⟨h.k0, h.k1, h.k2, h.k3, h.k4, h.f 0, h.f 1, h.f 2, h.f 3, h.f 4⟩

/-- a row reads the same where a map has turned -/
theorem RI.turned {w w' : World} {A : Option Addr} {n c : Nat} {zs : List Int} {b : Nat} (h : RI w A n c zs) (ht : w.mapTurned w' b) : RI w' A n c zs :=
  ⟨h.len, h.cap, h.big, h.cmax, fun hn => by
    obtain ⟨bb, off, rfl, hlt, hc⟩ := h.cells hn
    have hg := ht.grown
    obtain ⟨es, clock, es', clock', he, hw⟩ := ht
    have hne : bb ≠ b := fun e => by
      have := hc 0 hn
      subst e
      simp [World.cell?, he] at this
    have hk := hg.block bb hlt (by simpa using hne)
    refine ⟨bb, off, rfl, Nat.lt_of_lt_of_le hlt hg.size, fun j hj => ?_⟩
    rw [← hc j hj]
    exact World.cell?_of_block hk⟩

/-- the index's box and what stands in it, however the region was ordered -/
def Made (Wb : World) (x : Int) (A : Option Addr) (n c : Nat) (A' : Option Addr) (n' c' : Nat) (ts : List Stp) (s : Value) (W : World) : Prop :=
  ∃ (B : Nat) (A2 : Option Addr) (c2 b : Nat), s = .pointer (some ⟨B, 0, none⟩) ∧ BoxK W B x A n c A' n' c' A2 n' c2 (some b) ∧ Lkd Wb W ts A2 n' c2 b 0 ∧ B ≠ b ∧ Wb.heap.size ≤ B

section
variable {Wb w2 : World} {x : Int} {A : Option Addr} {n c : Nat} {A' : Option Addr} {n' c' : Nat} {ts : List Stp} {A2 : Option Addr} {c2 N : Nat}
theorem made_cma (hr : RI w2 A2 n' c2 (levL ts)) (hf : ∀ b off, A2 = some ⟨b, off, none⟩ → N ≤ b) (hN : Wb.heap.size ≤ N) (hb : Below Wb.heap.size Wb w2) :
    Made Wb x A n c A' n' c' ts (.pointer (some ⟨w2.heap.size + 1, 0, none⟩)) ((w2.alloc (.map #[] 0)).alloc (.cells #[.int .i64 x, .slice A n c, .slice A' n' c', .slice A2 n' c2, .map (some w2.heap.size)] 58)) := by
  have hs := hb.size
  refine ⟨_, A2, c2, w2.heap.size, rfl, boxk_new_at _ _ (by simp) .., ⟨(hr.alloc _).alloc _, ?_, hs, (hb.alloc hs _).alloc (by simp; omega) _, fun b off e => Nat.le_trans (by omega) (hf b off e)⟩, by omega, by omega⟩
  rw [atTo_zero]
  exact (made_at _ _ rfl).alloc _
theorem made_cam (hr : RI w2 A2 n' c2 (levL ts)) (hf : ∀ b off, A2 = some ⟨b, off, none⟩ → N ≤ b) (hN : Wb.heap.size ≤ N) (hb : Below Wb.heap.size Wb w2) :
    Made Wb x A n c A' n' c' ts (.pointer (some ⟨w2.heap.size, 0, none⟩)) ((w2.alloc (.cells #[.int .i64 x, .slice A n c, .slice A' n' c', .slice A2 n' c2, .map (some (w2.heap.size + 1))] 58)).alloc (.map #[] 0)) := by
  have hs := hb.size
  refine ⟨_, A2, c2, w2.heap.size + 1, rfl, (boxk_new_at _ _ rfl ..).below ((Below.refl _ _).alloc (Nat.le_refl _) _), ⟨(hr.alloc _).alloc _, ?_, by omega, (hb.alloc hs _).alloc (by simp; omega) _, fun b off e => Nat.le_trans (by omega) (hf b off e)⟩, by omega, by omega⟩
  rw [atTo_zero]
  exact made_at _ _ (by simp)
theorem made_mca (hr : RI w2 A2 n' c2 (levL ts)) (hm : IntM w2 Wb.heap.size 0 emptyF) (hf : ∀ b off, A2 = some ⟨b, off, none⟩ → N ≤ b) (hN : Wb.heap.size ≤ N) (hb : Below Wb.heap.size Wb w2) (hlt : Wb.heap.size < w2.heap.size) :
    Made Wb x A n c A' n' c' ts (.pointer (some ⟨w2.heap.size, 0, none⟩)) (w2.alloc (.cells #[.int .i64 x, .slice A n c, .slice A' n' c', .slice A2 n' c2, .map (some Wb.heap.size)] 58)) := by
  refine ⟨_, A2, c2, Wb.heap.size, rfl, boxk_new_at _ _ rfl .., ⟨hr.alloc _, ?_, Nat.le_refl _, hb.alloc hb.size _, fun b off e => Nat.le_trans (by omega) (hf b off e)⟩, by omega, hb.size⟩
  rw [atTo_zero]
  exact hm.alloc _
theorem made_mac (hr : RI w2 A2 n' c2 (levL ts)) (hm : IntM w2 Wb.heap.size 0 emptyF) (hz : Zero5 w2 (Wb.heap.size + 1)) (hf : ∀ b off, A2 = some ⟨b, off, none⟩ → N ≤ b) (hN : Wb.heap.size + 2 ≤ N) (hb : Below Wb.heap.size Wb w2) :
    Made Wb x A n c A' n' c' ts (.pointer (some ⟨Wb.heap.size + 1, 0, none⟩)) (((((w2.setCell ⟨Wb.heap.size + 1, 0, none⟩ (.int .i64 x)).setCell ⟨Wb.heap.size + 1, 1, none⟩ (.slice A n c)).setCell ⟨Wb.heap.size + 1, 2, none⟩ (.slice A' n' c')).setCell ⟨Wb.heap.size + 1, 3, none⟩ (.slice A2 n' c2)).setCell ⟨Wb.heap.size + 1, 4, none⟩ (.map (some Wb.heap.size))) := by
  refine ⟨_, A2, c2, Wb.heap.size, rfl, boxk_set5 hz .., ⟨hr.set5 (fun b off e => by have := hf b off e; omega) .., ?_, Nat.le_refl _, below_set5 hb (by omega) .., fun b off e => Nat.le_trans (by omega) (hf b off e)⟩, by omega, by omega⟩
  rw [atTo_zero]
  exact hm.set5 (by omega) ..
theorem made_acm (hr : RI w2 A2 n' c2 (levL ts)) (hz : Zero5 w2 Wb.heap.size) (hf : ∀ b off, A2 = some ⟨b, off, none⟩ → N ≤ b) (hN : Wb.heap.size + 1 ≤ N) (hb : Below Wb.heap.size Wb w2) :
    Made Wb x A n c A' n' c' ts (.pointer (some ⟨Wb.heap.size, 0, none⟩)) ((((((w2.alloc (.map #[] 0)).setCell ⟨Wb.heap.size, 0, none⟩ (.int .i64 x)).setCell ⟨Wb.heap.size, 1, none⟩ (.slice A n c)).setCell ⟨Wb.heap.size, 2, none⟩ (.slice A' n' c')).setCell ⟨Wb.heap.size, 3, none⟩ (.slice A2 n' c2)).setCell ⟨Wb.heap.size, 4, none⟩ (.map (some w2.heap.size))) := by
  have hlt := hz.lt
  refine ⟨_, A2, c2, w2.heap.size, rfl, boxk_set5 (Blk5.alloc hz _) .., ⟨(hr.alloc _).set5 (fun b off e => by have := hf b off e; omega) .., ?_, hb.size, below_set5 (hb.alloc hb.size _) (by omega) .., fun b off e => Nat.le_trans (by omega) (hf b off e)⟩, by omega, by omega⟩
  rw [atTo_zero]
  exact (made_at _ _ rfl).set5 (by omega) ..
theorem made_amc (hr : RI w2 A2 n' c2 (levL ts)) (hm : IntM w2 (Wb.heap.size + 1) 0 emptyF) (hz : Zero5 w2 Wb.heap.size) (hf : ∀ b off, A2 = some ⟨b, off, none⟩ → N ≤ b) (hN : Wb.heap.size + 1 ≤ N) (hb : Below Wb.heap.size Wb w2) :
    Made Wb x A n c A' n' c' ts (.pointer (some ⟨Wb.heap.size, 0, none⟩)) (((((w2.setCell ⟨Wb.heap.size, 0, none⟩ (.int .i64 x)).setCell ⟨Wb.heap.size, 1, none⟩ (.slice A n c)).setCell ⟨Wb.heap.size, 2, none⟩ (.slice A' n' c')).setCell ⟨Wb.heap.size, 3, none⟩ (.slice A2 n' c2)).setCell ⟨Wb.heap.size, 4, none⟩ (.map (some (Wb.heap.size + 1)))) := by
  refine ⟨_, A2, c2, Wb.heap.size + 1, rfl, boxk_set5 hz .., ⟨hr.set5 (fun b off e => by have := hf b off e; omega) .., ?_, by omega, below_set5 hb (by omega) .., fun b off e => Nat.le_trans (by omega) (hf b off e)⟩, by omega, by omega⟩
  rw [atTo_zero]
  exact hm.set5 (by omega) ..
end

set_option maxRecDepth 100000 in
set_option maxHeartbeats 16000000 in
theorem looked_any (x : Int) (A : Option Addr) (n c : Nat) (ls : List (List Int)) (A' : Option Addr) (n' c' : Nat) (ts : List Stp) (w : World) (h' : RS w A' n' c' ts) (ht : Tr x ls ts) (hx1 : x ≤ 65536) (hn' : n' ≤ 1000000) :
    Calls Try.prog 31 #[.agg #[.int .i64 x, .slice A n c], .slice A' n' c'] w fun e w' => ∃ A2 c2 b, e = .returned (lookV x A n c A' n' c' A2 n' c2 (some b)) ∧ Lkd w w' ts A2 n' c2 b n' := by
  have hmm := @run_makeMap Try.prog
  have HB0 := Lib.hid (((Below.refl w.heap.size w).alloc (Nat.le_refl _) (.cells #[.int .i64 x, .slice A n c] 24)).alloc (by simp) zeroK)
  have HX := Lib.hid ((Two.new w (.int .i64 x) (.slice A n c)).below ((Below.refl _ _).alloc (Nat.le_refl _) zeroK))
  have HR : Hid (Zero5 ((w.alloc (.cells #[.int .i64 x, .slice A n c] 24)).alloc zeroK) (w.heap.size + 1)) := Lib.hid (by have := Zero5.new (w.alloc (.cells #[.int .i64 x, .slice A n c] 24)); simpa using this)
  have hsz : ((w.alloc (.cells #[.int .i64 x, .slice A n c] 24)).alloc zeroK).heap.size = w.heap.size + 1 + 1 := by simp
  have HS := Lib.hid (h'.below HB0.out)
  have HT := Lib.hid ht
  clear h' ht
  go_enter Try.func31, Try.ntmps31
  go_upto_region 1 with fail
  generalize hW : (w.alloc (.cells #[.int .i64 x, .slice A n c] 24)).alloc zeroK = Wb at *
  clear hW
  have q0 := HX.out.c0
  have q1 := HX.out.c1
  have HSZ := Lib.hid hsz
  have hxl := HX.out.lt
  clear hsz
  go_cut [5] (fun s W => Made Wb x A n c A' n' c' ts s W)
  case first =>
    have B0 : Hid (Below Wb.heap.size Wb Wb.drew) := Lib.hid ((Below.refl _ _).drew)
    have B1 : Hid (∀ o, Below Wb.heap.size Wb (Wb.drew.alloc o)) := Lib.hid (fun o => B0.out.alloc (Nat.le_refl _) o)
    have B2 : Hid (∀ o o', Below Wb.heap.size Wb ((Wb.drew.alloc o).alloc o')) := Lib.hid (fun o o' => (B1.out o).alloc (by simp) o')
    go_region_with (first
      | (go_at_call 18; refine (levels_new A' n' c' ts Wb.drew (HS.out.below B0.out) hn').mono ?_; rintro e w2 ⟨A2, c2, rfl, hr2, hf2, hb2⟩; have HR2 := Lib.hid hr2; have HF2 := Lib.hid hf2; have HB2 := Lib.hid (B0.out.trans (hb2.mono (Nat.le_refl _))); have p0 := (HX.out.below HB2.out).c0; have p1 := (HX.out.below HB2.out).c1; have l2 := (HX.out.below HB2.out).lt; have l3 := Nat.lt_succ_of_lt l2; obtain ⟨z0, z1, z2, z3, z4, y0, y1, y2, y3, y4⟩ := zero_facts ((Zero5.new w2).alloc (.map #[] 0)); clear hr2 hf2 hb2)
      | (go_at_call 18; refine (levels_new A' n' c' ts (Wb.drew.alloc (.map #[] 0)) (HS.out.below (B1.out _)) hn').mono ?_; rintro e w2 ⟨A2, c2, rfl, hr2, hf2, hb2⟩; have HR2 := Lib.hid hr2; have HF2 := Lib.hid hf2; have HB2 := Lib.hid ((B1.out _).trans (hb2.mono (by simp))); have HM2 : Hid (IntM w2 Wb.heap.size 0 emptyF) := Lib.hid ((MF.made Wb.drew).below hb2 (by simp)); have p0 := (HX.out.below HB2.out).c0; have p1 := (HX.out.below HB2.out).c1; have l2 := (HX.out.below HB2.out).lt; have l3 := Nat.lt_succ_of_lt l2; clear hr2 hf2 hb2)
      | (go_at_call 18; refine (levels_new A' n' c' ts (Wb.drew.alloc zeroK) (HS.out.below (B1.out _)) hn').mono ?_; rintro e w2 ⟨A2, c2, rfl, hr2, hf2, hb2⟩; have HR2 := Lib.hid hr2; have HF2 := Lib.hid hf2; have HB2 := Lib.hid ((B1.out _).trans (hb2.mono (by simp))); have HZ2 : Hid (Zero5 w2 Wb.heap.size) := Lib.hid ((Zero5.new Wb.drew).below hb2); have p0 := (HX.out.below HB2.out).c0; have p1 := (HX.out.below HB2.out).c1; have l2 := (HX.out.below HB2.out).lt; have l3 := Nat.lt_succ_of_lt l2; obtain ⟨z0, z1, z2, z3, z4, y0, y1, y2, y3, y4⟩ := zero_facts (HZ2.out.alloc (.map #[] 0)); clear hr2 hf2 hb2)
      | (go_at_call 18; refine (levels_new A' n' c' ts ((Wb.drew.alloc (.map #[] 0)).alloc zeroK) (HS.out.below (B2.out _ _)) hn').mono ?_; rintro e w2 ⟨A2, c2, rfl, hr2, hf2, hb2⟩; have HR2 := Lib.hid hr2; have HF2 := Lib.hid hf2; have HB2 := Lib.hid ((B2.out _ _).trans (hb2.mono (by simp; omega))); have HM2 : Hid (IntM w2 Wb.heap.size 0 emptyF) := Lib.hid (((MF.made Wb.drew).alloc zeroK).below hb2 (by simp; omega)); have HZ2 : Hid (Zero5 w2 (Wb.heap.size + 1)) := Lib.hid ((show Zero5 _ _ by have := Zero5.new (Wb.drew.alloc (.map #[] 0)); simpa using this).below hb2); have p0 := (HX.out.below HB2.out).c0; have p1 := (HX.out.below HB2.out).c1; have l2 := (HX.out.below HB2.out).lt; have l3 := Nat.lt_succ_of_lt l2; obtain ⟨z0, z1, z2, z3, z4, y0, y1, y2, y3, y4⟩ := zero_facts HZ2.out; clear hr2 hf2 hb2)
      | (go_at_call 18; refine (levels_new A' n' c' ts ((Wb.drew.alloc zeroK).alloc (.map #[] 0)) (HS.out.below (B2.out _ _)) hn').mono ?_; rintro e w2 ⟨A2, c2, rfl, hr2, hf2, hb2⟩; have HR2 := Lib.hid hr2; have HF2 := Lib.hid hf2; have HB2 := Lib.hid ((B2.out _ _).trans (hb2.mono (by simp; omega))); have HM2 : Hid (IntM w2 (Wb.heap.size + 1) 0 emptyF) := Lib.hid ((show IntM _ _ _ _ by have := MF.made (e := 3) (ed := edI) (Wb.drew.alloc zeroK); simpa using this).below hb2 (by simp)); have HZ2 : Hid (Zero5 w2 Wb.heap.size) := Lib.hid (((Zero5.new Wb.drew).alloc (.map #[] 0)).below hb2); have p0 := (HX.out.below HB2.out).c0; have p1 := (HX.out.below HB2.out).c1; have l2 := (HX.out.below HB2.out).lt; have l3 := Nat.lt_succ_of_lt l2; obtain ⟨z0, z1, z2, z3, z4, y0, y1, y2, y3, y4⟩ := zero_facts HZ2.out; clear hr2 hf2 hb2))
    all_goals go_wp2_with fail
    all_goals go_meet
    all_goals with_reducible first
      | exact made_cma HR2.out HF2.out (by simp) HB2.out
      | exact made_cam HR2.out HF2.out (by simp) HB2.out
      | exact made_mca HR2.out HM2.out HF2.out (by simp) HB2.out HM2.out.lt
      | exact made_mac HR2.out HM2.out HZ2.out HF2.out (by simp) HB2.out
      | exact made_acm HR2.out HZ2.out HF2.out (by simp) HB2.out
      | exact made_amc HR2.out HM2.out HZ2.out HF2.out (by simp) HB2.out
  case rest =>
    obtain ⟨B, A2, c2, b, rfl, hbox, hlk, hne, hBs⟩ := hcut
    have BX := Lib.hid hbox
    have LK := Lib.hid hlk
    clear hbox hlk
    go_wp2_with fail
    go_loopw [16] (fun s16 W => ∃ k : Nat, k ≤ n' ∧ s16 = .int .i64 k ∧ BoxK W B x A n c A' n' c' A2 n' c2 (some b) ∧ Lkd Wb W ts A2 n' c2 b k) (fun k _ => n' - (intOf k).toNat)
    case atStart => exact ⟨0, Nat.zero_le _, rfl, BX.out, LK.out⟩
    case round =>
      obtain ⟨k, hk, rfl, hbox, hlk⟩ := hrel
      have BXr := Lib.hid hbox
      have LKr := Lib.hid hlk
      have hsr := HS.out.below hlk.below
      have g0 := hbox.c4
      have gl := hbox.lt
      have gd := hlk.below.size
      have HSr := Lib.hid hsr
      have HRr := Lib.hid (HR.out.below hlk.below)
      clear hbox hlk
      by_cases hkn : k < n'
      · obtain ⟨bt, ot, rfl, hbt, hct⟩ := hsr.cells (by omega)
        obtain ⟨u0, u1⟩ := hct k hkn
        have hkl : k < ts.length := by rw [HSr.out.len]; exact hkn
        have hlo := isB_iff.1 (HT.out.lit k hkl)
        have E1 := Lib.hid (atTo_succ HT.out hkl)
        obtain ⟨w4, hrun, hm4, ht4⟩ := MF.put ekI Try.underlying56 (LKr.out.map.alloc (.cells #[.int .i64 (stp ts k).lit, .int .i64 (stp ts k).why] 41)) (by unfold maxLen; omega) (x := (stp ts k).lit) (wfI_lit (by omega) (by omega)) (v := (k : Int)) (wfI_of (by omega) (by omega))
        have HM4 := Lib.hid hm4
        have HT4 := Lib.hid ht4
        clear hsr hct hkl hlo hm4 ht4
        generalize (stp ts k).lit = lt at *
        generalize (stp ts k).why = wy at *
        go_wp2_with fail
        go_roundw
        case rel =>
          refine ⟨k + 1, by omega, by go_num, ((BXr.out.below ((Below.refl _ _).alloc (Nat.le_refl _) _)).kept HT4.out.grown (by simpa using hne)), ⟨(LKr.out.lev.alloc _).turned HT4.out, ?_, LKr.out.fresh, (LKr.out.below.alloc LKr.out.below.size _).grown HT4.out.grown (by simp; omega) (fun g e => by cases e; exact LKr.out.fresh), LKr.out.row⟩⟩
          rw [← E1.out]; exact HM4.out
        case measure => simp [intOf]; omega
      · obtain rfl : k = n' := by omega
        obtain ⟨z0, z1, z2, z3, z4, y0, y1, y2, y3, y4⟩ := zero_facts HRr.out
        have g1 := BXr.out.c0
        have g2 := BXr.out.c1
        have g3 := BXr.out.c2
        have g5 := BXr.out.c3
        have HS5 := Lib.hid (Blk5.set5 HRr.out (.int .i64 x) (.slice A n c) (.slice A' k c') (.slice A2 k c2) (.map (some b)))
        go_wp2_with fail
        have s0 := HS5.out.k0
        have s1 := HS5.out.k1
        have s2 := HS5.out.k2
        have s3 := HS5.out.k3
        have s4 := HS5.out.k4
        refine bodyPost_ret (v := lookV x A n c A' k c' A2 k c2 (some b)) (by simp [results, Try.results31, go_sem, lookV, s0, s1, s2, s3, s4]) rfl ⟨A2, c2, b, rfl, ?_⟩
        have hsw := HSZ.out
        have hfr := LKr.out.fresh
        refine ⟨LKr.out.lev.set5 (fun bb off e => by have := LKr.out.row bb off e; omega) .., LKr.out.map.set5 (by omega) .., by omega, below_set5 (HB0.out.trans (LKr.out.below.mono HB0.out.size)) (by omega) .., fun bb off e => by have := LKr.out.row bb off e; omega⟩

end Go.Proofs.Ytenpenelikpeeaa

namespace Go.Proofs.Ytenpenelikpeeaa
open Go.RowKit Go.Shelf
set_option linter.unusedVariables false
set_option linter.unusedSimpArgs false

/-- two blocks have turned, the rest lies as it did -/
structure Kept2 (W W' : World) (i j : Nat) : Prop where
  size : W.heap.size ≤ W'.heap.size
  same : ∀ k, k < W.heap.size → k ≠ i → k ≠ j → W'.heap[k]? = W.heap[k]?
theorem Kept2.refl (W : World) (i j : Nat) : Kept2 W W i j := ⟨Nat.le_refl _, fun _ _ _ _ => rfl⟩
theorem Kept2.trans {W W1 W2 : World} {i j : Nat} (h : Kept2 W W1 i j) (h' : Kept2 W1 W2 i j) : Kept2 W W2 i j :=
  ⟨Nat.le_trans h.size h'.size, fun k hk h1 h2 => (h'.same k (Nat.lt_of_lt_of_le hk h.size) h1 h2).trans (h.same k hk h1 h2)⟩
theorem Kept2.below {W W1 : World} (i j : Nat) (h : Below W.heap.size W W1) : Kept2 W W1 i j := ⟨h.size, fun k hk _ _ => h.block k hk⟩
theorem Kept2.grown {W W1 : World} {i j : Nat} {row : Option Nat} (h : W.grownBy W1 row) (hr : row = some i ∨ row = some j ∨ row = none) : Kept2 W W1 i j :=
  ⟨h.size, fun k hk h1 h2 => h.block k hk (fun e => by rcases hr with r | r | r <;> rw [r] at e <;> cases e <;> contradiction)⟩

theorem RI.grown {w w' : World} {A : Option Addr} {n c : Nat} {zs : List Int} {row : Option Nat} (h : RI w A n c zs) (hg : w.grownBy w' row) (hr : 0 < n → ∀ b off, A = some ⟨b, off, none⟩ → some b ≠ row) : RI w' A n c zs :=
  ⟨h.len, h.cap, h.big, h.cmax, fun hn => by
    obtain ⟨b, off, rfl, hlt, hc⟩ := h.cells hn
    refine ⟨b, off, rfl, Nat.lt_of_lt_of_le hlt hg.size, fun j hj => ?_⟩
    rw [← hc j hj]
    exact World.cell?_of_block (hg.block b hlt (hr hn b off rfl))⟩
/-- the arguments and the index of First -/
structure Fx where
  x : Int
  A : Option Addr
  n : Nat
  c : Nat
  A' : Option Addr
  n' : Nat
  c' : Nat
  ts : List Stp
  A2 : Option Addr
  c2 : Nat
  bi : Nat
  Bk : Nat
  Bm : Nat
  b : Nat
  Bl : Nat
  Bh : Nat
  last : Int

/-- what First has made: its boxes and the set -/
structure FS (w W : World) (F : Fx) (m : Nat) (S : List Int) (hi : Int) : Prop where
  box : BoxK W F.Bk F.x F.A F.n F.c F.A' F.n' F.c' F.A2 F.n' F.c2 (some F.bi)
  lev : RI W F.A2 F.n' F.c2 (levL F.ts)
  map : IntM W F.bi F.n' (atF F.ts)
  bm : Boxed W F.Bm 61 (.map (some F.b))
  bl : Boxed W F.Bl 3 (.int .i64 F.last)
  bh : Boxed W F.Bh 3 (.int .i64 hi)
  set : SetM W F.b m S
  ne1 : F.b ≠ F.bi
  ne2 : F.Bh ≠ F.Bl
  row : 0 < F.n' → ∀ b' off, F.A2 = some ⟨b', off, none⟩ → b' ≠ F.Bh
  lo1 : w.heap.size ≤ F.b
  lo2 : w.heap.size ≤ F.Bh
  below : Below w.heap.size w W

theorem map_block {β : Type} {e : TypeId} {ed : β → DataW Unit} {w : World} {b n : Nat} {f : Int → Option β} (h : MF e ed w b n f) : ∃ es clock, w.heap[b]? = some (.map es clock) := by
  obtain ⟨D, ⟨es, clock, h1, h3⟩, h2⟩ := h; exact ⟨es, clock, h1⟩
theorem boxed_ne_map {β : Type} {e : TypeId} {ed : β → DataW Unit} {w : World} {b n B : Nat} {f : Int → Option β} {t : TypeId} {v : Value} (h : MF e ed w b n f) (hB : Boxed w B t v) : B ≠ b := fun e1 => by
  obtain ⟨es, clock, h1⟩ := map_block h
  rw [← e1, show w.heap[B]? = _ from hB] at h1; cases h1
theorem boxk_ne_map {β : Type} {e : TypeId} {ed : β → DataW Unit} {w : World} {b k B : Nat} {f : Int → Option β} {x : Int} {A : Option Addr} {n c : Nat} {A' : Option Addr} {n' c' : Nat} {A2 : Option Addr} {n2 q2 : Nat} {m : Option Nat}
    (h : MF e ed w b k f) (hB : BoxK w B x A n c A' n' c' A2 n2 q2 m) : B ≠ b := fun e1 => by
  obtain ⟨es, clock, h1⟩ := map_block h
  rw [← e1, show w.heap[B]? = _ from hB] at h1; cases h1
theorem boxed_ne_boxk {w : World} {B B' : Nat} {x : Int} {A : Option Addr} {n c : Nat} {A' : Option Addr} {n' c' : Nat} {A2 : Option Addr} {n2 q2 : Nat} {m : Option Nat} {t : TypeId} {v : Value}
    (hB : BoxK w B x A n c A' n' c' A2 n2 q2 m) (h : Boxed w B' t v) : B ≠ B' := fun e1 => by
  have h1 : w.heap[B]? = _ := hB
  rw [e1, show w.heap[B']? = _ from h] at h1
  simp at h1
theorem boxed_ne_boxed {w : World} {B B' : Nat} {t t' : TypeId} {v v' : Value} (h : Boxed w B t v) (h' : Boxed w B' t' v') (ht : t ≠ t') : B ≠ B' := fun e1 => by
  have h1 : w.heap[B]? = _ := h
  rw [e1, show w.heap[B']? = _ from h'] at h1
  simp at h1
  exact ht h1.2.symm

section
variable {w W W' : World} {F : Fx} {m : Nat} {S : List Int} {hi : Int}
theorem FS.mono (h : FS w W F m S hi) {m' : Nat} (hm : m ≤ m') : FS w W F m' S hi := { h with set := h.set.mono hm }
theorem FS.grow (h : FS w W F m S hi) (hb : Below W.heap.size W W') : FS w W' F m S hi where
  box := h.box.below hb
  lev := h.lev.below hb
  map := h.map.below hb h.map.lt
  bm := boxed_below h.bm hb
  bl := boxed_below h.bl hb
  bh := boxed_below h.bh hb
  set := h.set.below hb h.set.lt
  ne1 := h.ne1
  ne2 := h.ne2
  row := h.row
  lo1 := h.lo1
  lo2 := h.lo2
  below := h.below.trans (hb.mono h.below.size)
theorem FS.turn (h : FS w W F m S hi) {m' : Nat} {S' : List Int} (hs : SetM W' F.b m' S') (ht : W.mapTurned W' F.b) : FS w W' F m' S' hi where
  box := h.box.kept ht.grown (fun e => boxk_ne_map h.set h.box (by injection e))
  lev := h.lev.turned ht
  map := h.map.kept ht.grown (fun e => h.ne1 (by injection e with e; exact e.symm))
  bm := h.bm.kept ht.grown (fun e => boxed_ne_map h.set h.bm (by injection e))
  bl := h.bl.kept ht.grown (fun e => boxed_ne_map h.set h.bl (by injection e))
  bh := h.bh.kept ht.grown (fun e => boxed_ne_map h.set h.bh (by injection e))
  set := hs
  ne1 := h.ne1
  ne2 := h.ne2
  row := h.row
  lo1 := h.lo1
  lo2 := h.lo2
  below := h.below.grown ht.grown h.below.size (fun g e => by cases e; exact h.lo1)
theorem FS.setHi (h : FS w W F m S hi) (v : Int) : FS w (W.setCell ⟨F.Bh, 0, none⟩ (.int .i64 v)) F m S v where
  box := h.box.kept (grownBy_setCell' W _ _) (fun e => boxed_ne_boxk h.box h.bh (by injection e))
  lev := h.lev.grown (grownBy_setCell' W _ _) (fun h0 b off e e2 => h.row h0 b off e (by injection e2))
  map := h.map.setCell (fun e => boxed_ne_map h.map h.bh e.symm) _
  bm := h.bm.kept (grownBy_setCell' W _ _) (fun e => boxed_ne_boxed h.bm h.bh (by decide) (by injection e))
  bl := h.bl.kept (grownBy_setCell' W _ _) (fun e => h.ne2 (by injection e with e; exact e.symm))
  bh := h.bh.set _
  set := h.set.setCell (fun e => boxed_ne_map h.set h.bh e.symm) _
  ne1 := h.ne1
  ne2 := h.ne2
  row := h.row
  lo1 := h.lo1
  lo2 := h.lo2
  below := h.below.setCell (p := ⟨F.Bh, 0, none⟩) h.lo2 _
end

set_option maxRecDepth 100000 in
set_option maxHeartbeats 2000000 in
theorem put_any (w W : World) (F : Fx) (m : Nat) (S : List Int) (A3 : Option Addr) (n3 c3 : Nat) (l : List Int) (but : Int) (h : FS w W F m S (hiN F.ts F.last S : Int)) (hS : S.length ≤ 100000000) (h3 : RI w A3 n3 c3 l) (hz : Okl l) (hd : ∀ y ∈ l, y ≠ but → plc F.ts (-y) < F.ts.length)
    (hm : m + n3 ≤ 100000000) (hn3 : n3 ≤ 100000) :
    Calls Try.prog 33 #[.slice A3 n3 c3, .int .i64 but, .pointer (some ⟨F.Bm, 0, none⟩), .pointer (some ⟨F.Bk, 0, none⟩), .pointer (some ⟨F.Bl, 0, none⟩), .pointer (some ⟨F.Bh, 0, none⟩)] W
      fun e W' => e = .returned (.tuple #[]) ∧ FS w W' F (m + n3) (moreL S but l) (hiN F.ts F.last (moreL S but l) : Int) ∧ Kept2 W W' F.b F.Bh := by
  have H := Lib.hid h
  have H3 := Lib.hid h3
  have HZ := Lib.hid hz
  have HD := Lib.hid hd
  clear h h3 hz hd
  go_enter Try.func33, Try.ntmps33
  go_wp2
  go_loopw [9, 12] (fun s9 s12 V => ∃ k : Nat, k ≤ n3 ∧ s12 = .int .i64 k ∧ FS w V F (m + k) (moreL S but (l.take k)) (hiN F.ts F.last (moreL S but (l.take k)) : Int) ∧ Kept2 W V F.b F.Bh) (fun _ s12 _ => n3 - (intOf s12).toNat)
  case atStart => exact ⟨0, Nat.zero_le _, rfl, H.out, Kept2.refl _ _ _⟩
  case round =>
    obtain ⟨k, hk, rfl, hfs, hkp⟩ := hrel
    have HF := Lib.hid hfs
    have HK := Lib.hid hkp
    have hhl : hiN F.ts F.last (moreL S but (l.take k)) ≤ 200000000 := by
      have h1 : hiN F.ts F.last (moreL S but (l.take k)) ≤ (moreL S but (l.take k)).length := List.length_filter_le _ _
      have h2 := moreL_len (l.take k) S but
      rw [List.length_take] at h2
      omega
    clear hfs hkp
    by_cases hlt : k < n3
    · obtain ⟨b3, o3, rfl, hb3, hc3⟩ := (H3.out.below HF.out.below).cells (by omega)
      have hck := hc3 k hlt
      have hl : k < l.length := by rw [H3.out.len]; exact hlt
      have hx := HZ.out.at hl
      have hmm := elt_mem hl
      have hdd := HD.out _ hmm
      have E1 : Hid (moreL S but (l.take (k + 1)) = if (elt l k == but || hasB (moreL S but (l.take k)) (elt l k)) = true then moreL S but (l.take k) else moreL S but (l.take k) ++ [elt l k]) := Lib.hid (by rw [take_snoc l k hl, moreL_snoc])
      clear hc3 hl hmm
      generalize elt l k = y at *
      generalize moreL S but (l.take k) = S0 at *
      have q0 := HF.out.bm.cell
      by_cases hyb : (y == but || hasB S0 y) = true
      · have E2 : Hid (moreL S but (l.take (k + 1)) = S0) := Lib.hid (by rw [E1.out, if_pos hyb])
        cases hyb1 : (y == but) with
        | true =>
          clear hyb hdd E1
          go_wp2_with fail
          go_roundw
          case rel => exact ⟨k + 1, by omega, by go_num, by rw [E2.out]; exact HF.out.mono (by omega), HK.out⟩
          case measure => simp [intOf]; omega
        | false =>
          rw [hyb1, Bool.false_or] at hyb
          have hlk := HF.out.set.look Try.underlying61 (x := y) (wfI_lit (by omega) (by omega))
          rw [hyb] at hlk
          clear hyb hdd E1
          go_wp2_with fail
          go_roundw
          case rel => exact ⟨k + 1, by omega, by go_num, by rw [E2.out]; exact HF.out.mono (by omega), HK.out⟩
          case measure => simp [intOf]; omega
      · obtain ⟨hyb1, hyb2⟩ := Bool.or_eq_false_iff.1 (by simpa only [Bool.not_eq_true] using hyb)
        have E2 : Hid (moreL S but (l.take (k + 1)) = S0 ++ [y]) := Lib.hid (by rw [E1.out, if_neg hyb])
        have hlk := HF.out.set.look Try.underlying61 (x := y) (wfI_lit (by omega) (by omega))
        rw [hyb2] at hlk
        obtain ⟨V1, hrun, hs1, ht1⟩ := HF.out.set.put (by unfold maxLen; omega) Try.underlying61 (x := y) (wfI_lit (by omega) (by omega))
        have HF1 := Lib.hid (HF.out.turn hs1 ht1)
        have HK1 := Lib.hid (HK.out.trans (Kept2.grown ht1.grown (Or.inl rfl)))
        have E3 := Lib.hid (hiN_snoc F.ts F.last S0 y)
        have hpl : plc F.ts (-y) < F.ts.length := hdd (by intro e; rw [e] at hyb1; simp at hyb1)
        have HPL := Lib.hid hpl
        obtain ⟨r, hr⟩ : ∃ r, lvlT F.ts y = r := ⟨_, rfl⟩
        have HR := Lib.hid hr
        rw [hr] at E3
        clear hyb hdd E1 hyb2 hs1 ht1 hpl hr
        go_upto_region 5 with fail
        have g0 := fun u : Gr V1 => u.cell (p := ⟨F.Bk, 0, none⟩) HF1.out.box.lt HF1.out.box.c0
        have g1 := fun u : Gr V1 => u.cell (p := ⟨F.Bk, 1, none⟩) HF1.out.box.lt HF1.out.box.c1
        have g2 := fun u : Gr V1 => u.cell (p := ⟨F.Bk, 2, none⟩) HF1.out.box.lt HF1.out.box.c2
        have g3 := fun u : Gr V1 => u.cell (p := ⟨F.Bk, 3, none⟩) HF1.out.box.lt HF1.out.box.c3
        have g4 := fun u : Gr V1 => u.cell (p := ⟨F.Bk, 4, none⟩) HF1.out.box.lt HF1.out.box.c4
        have g5 := fun u : Gr V1 => u.cell (p := ⟨F.Bl, 0, none⟩) HF1.out.bl.lt HF1.out.bl.cell
        refine wp_region_grow (by kernel_rfl) (by kernel_rfl) ?_
        repeat (go_big_quiet_step ((go_at_call 34; exact Gr.call _ (llevel_any F.x F.A F.n F.c F.A' F.n' F.c' F.A2 F.n' F.c2 F.bi F.n' F.ts y _ (HF1.out.map.below (Gr.ok _) HF1.out.map.lt) (HF1.out.lev.below (Gr.ok _)) hx.2.1 hx.2.2 HPL.out r HR.out))))
        refine wpQuiet_nil ?_
        rintro V2 ⟨⟨_, hb2⟩, rfl⟩
        have HF2 := Lib.hid (HF1.out.grow hb2)
        have HK2 := Lib.hid (HK1.out.trans (Kept2.below _ _ hb2))
        clear hb2 g0 g1 g2 g3 g4 g5 q0 hlk hrun
        have q1 := HF2.out.bh.cell
        have q2 := HF2.out.bh.frozen
        by_cases hrl : r = F.last
        · have E4 : Hid (hiN F.ts F.last (S0 ++ [y]) = hiN F.ts F.last S0 + 1) := Lib.hid (by rw [E3.out, if_pos hrl])
          have hrb : (r == F.last) = true := by simpa using hrl
          clear hrl
          go_wp2_with fail
          go_roundw
          case rel => exact ⟨k + 1, by omega, by go_num, by rw [E2.out, E4.out]; exact HF2.out.setHi _, HK2.out.trans (Kept2.grown (grownBy_setCell' _ _ _) (Or.inr (Or.inl rfl)))⟩
          case measure => simp [intOf]; omega
        · have E4 : Hid (hiN F.ts F.last (S0 ++ [y]) = hiN F.ts F.last S0) := Lib.hid (by rw [E3.out, if_neg hrl]; rfl)
          have hrb : (r == F.last) = false := by simpa using hrl
          clear hrl
          go_wp2_with fail
          go_roundw
          case rel => exact ⟨k + 1, by omega, by go_num, by rw [E2.out, E4.out]; exact HF2.out, HK2.out⟩
          case measure => simp [intOf]; omega
    · obtain rfl : k = n3 := by omega
      have E1 : Hid (moreL S but l = moreL S but (l.take k)) := Lib.hid (by rw [List.take_of_length_le (by rw [H3.out.len]; omega)])
      go_wp2_with fail
      go_end0
      exact ⟨rfl, by rw [E1.out]; exact HF.out, HK.out⟩

end Go.Proofs.Ytenpenelikpeeaa
