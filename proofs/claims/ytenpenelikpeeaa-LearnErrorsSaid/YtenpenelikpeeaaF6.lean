/-
  Less of the package learn: its words for memory; dead at any literal. No condition.
-/
import Derived.Test.YtenpenelikpeeaaF5
import Derived.Test.YtenpenelikpeeaaF4
import Derived.Test.YtenpenelikpeeaaD3
namespace Go.Proofs.Ytenpenelikpeeaa
open Go.RowKit Go.Shelf
set_option linter.unusedVariables false
set_option linter.unusedSimpArgs false

def isW (ts : List Stp) (y : Int) : Bool := decide (plc ts (wrap64 (-y)) < ts.length)
def whereW (ts : List Stp) (y : Int) : Int := if plc ts (wrap64 (-y)) < ts.length then (plc ts (wrap64 (-y)) : Int) else 0
theorem wfI_wrap (y : Int) : wfI (wrap64 y) = true := wfI_of (by unfold wrap64; omega) (by unfold wrap64; omega)
theorem isW_in {ts : List Stp} {y : Int} (h0 : -65536 ≤ y) (h1 : y ≤ 65536) : isW ts y = decide (plc ts (-y) < ts.length) := by unfold isW; rw [lit_neg' h0 h1]
theorem isW_out {x : Int} {ls : List (List Int)} {ts : List Stp} (h : Tr x ls ts) (hx : x ≤ 65536) {y : Int} (hw : wfI y = true) (hy : y < -65536 ∨ 65536 < y) : isW ts y = false := by
  obtain ⟨h0, h1⟩ := wfI_bd hw
  unfold isW
  rw [decide_eq_false_iff_not]
  intro hlt
  have h2 := (plc_lt hlt).1
  have h3 := isB_iff.1 (h.lit _ hlt)
  rw [h2] at h3
  unfold wrap64 at h3
  omega

set_option maxRecDepth 100000 in
set_option maxHeartbeats 400000 in
theorem lstepW_any (x : Int) (A : Option Addr) (n c : Nat) (A' : Option Addr) (n' c' : Nat) (A2 : Option Addr) (n2 c2 : Nat) (b k : Nat) (ts : List Stp) (y : Int) (w : World) (h : IntM w b k (atF ts)) (r : Bool) (q : Int) (hr : isW ts y = r) (hq : whereW ts y = q) :
    Calls Try.prog 48 #[.agg #[.int .i64 x, .slice A n c, .slice A' n' c', .slice A2 n2 c2, .map (some b)], .int .i64 y] w fun e w' => e = .returned (.tuple #[.int .i64 q, .bool r]) ∧ Below w.heap.size w w' := by
  have hl := MF.lookOk ekI Try.underlying56 (h.alloc (.cells #[.int .i64 x, .slice A n c, .slice A' n' c', .slice A2 n2 c2, .map (some b)] 58)) (x := wrap64 (-y)) (wfI_wrap _)
  have e1 : (atF ts (wrap64 (-y))).getD 0 = q := by rw [← hq]; unfold atF atTo whereW; split <;> rfl
  have e2 : (atF ts (wrap64 (-y))).isSome = r := by rw [← hr]; unfold atF atTo isW; split <;> simp_all
  rw [e1, e2] at hl
  clear h e1 e2 hr hq
  go_enter Try.func48, Try.ntmps48
  go_wp2
  go_ret2
  exact ⟨rfl, (Below.refl _ _).alloc (Nat.le_refl _) _⟩

/-- one literal -/
theorem one_ri (w : World) (y : Int) : RI (w.alloc (.cells #[.int .i64 y] 3)) (some ⟨w.heap.size, 0, none⟩) 1 1 [y] := by
  refine ⟨rfl, Nat.le_refl _, by omega, by unfold maxLen; omega, fun _ => ⟨w.heap.size, 0, rfl, by simp, fun j hj => ?_⟩⟩
  obtain rfl : j = 0 := by omega
  exact cell_new_at w (.int .i64 y) 3 w.heap.size rfl 0 _ rfl

set_option maxRecDepth 100000 in
set_option maxHeartbeats 1000000 in
theorem deadW_any (x : Int) (A : Option Addr) (n c : Nat) (A' : Option Addr) (n' c' : Nat) (A2 : Option Addr) (n2 c2 : Nat) (b k : Nat) (ts : List Stp) (b3 : Nat) (y : Int) (w : World) (h : IntM w b k (atF ts)) (h3 : RI w (some ⟨b3, 0, none⟩) 1 1 [y]) (r : Bool) (hr : isW ts y = r) :
    Calls Try.prog 32 #[.agg #[.int .i64 x, .slice A n c, .slice A' n' c', .slice A2 n2 c2, .map (some b)], .slice (some ⟨b3, 0, none⟩) 1 1] w fun e w' => e = .returned (.bool r) ∧ Below w.heap.size w w' := by
  have HB0 := Lib.hid ((Below.refl w.heap.size w).alloc (Nat.le_refl _) (.cells #[.int .i64 x, .slice A n c, .slice A' n' c', .slice A2 n2 c2, .map (some b)] 58))
  have HX := Lib.hid (BoxK.new w x A n c A' n' c' A2 n2 c2 (some b))
  have HM := Lib.hid (h.alloc (.cells #[.int .i64 x, .slice A n c, .slice A' n' c', .slice A2 n2 c2, .map (some b)] 58))
  have H3 := Lib.hid (h3.alloc (.cells #[.int .i64 x, .slice A n c, .slice A' n' c', .slice A2 n2 c2, .map (some b)] 58))
  have HRR := Lib.hid hr
  clear h h3 hr
  go_enter Try.func32, Try.ntmps32
  go_wp2
  generalize hW : w.alloc (.cells #[.int .i64 x, .slice A n c, .slice A' n' c', .slice A2 n2 c2, .map (some b)] 58) = W0 at *
  clear hW
  go_loopw [11] (fun s11 W => ∃ j : Nat, j ≤ 1 ∧ s11 = .int .i64 j ∧ (j = 1 → isW ts y = true) ∧ Below W0.heap.size W0 W) (fun s11 _ => 1 - (intOf s11).toNat)
  case atStart => exact ⟨0, Nat.zero_le _, rfl, fun h => by omega, Below.refl _ _⟩
  case round =>
    obtain ⟨j, hj, rfl, hd, hb⟩ := hrel
    have HD := Lib.hid hd
    have HB := Lib.hid hb
    clear hd hb
    by_cases hlt : j < 1
    · obtain rfl : j = 0 := by omega
      obtain ⟨b4, off4, e4, hb4, hc4⟩ := (H3.out.below HB.out).cells (by omega)
      have hck := hc4 0 (by omega)
      simp only [Option.some.injEq, Addr.mk.injEq, and_true] at e4
      obtain ⟨rfl, rfl⟩ := e4
      have ey : elt [y] 0 = y := rfl
      rw [ey] at hck
      have hxk := HX.out.below HB.out
      have q0 := hxk.c0
      have q1 := hxk.c1
      have q2 := hxk.c2
      have q3 := hxk.c3
      have q4 := hxk.c4
      have hm := HM.out.below HB.out HM.out.lt
      have hcall := lstepW_any x A n c A' n' c' A2 n2 c2 b k ts y wr hm r _ HRR.out rfl
      generalize whereW ts y = q at hcall
      clear hc4 hxk hm ey
      cases r
      · go_wp2_with (go_at_call 48; refine hcall.mono ?_; clear hcall; rintro e w2 ⟨rfl, hb2⟩; have HB2 := Lib.hid (HB.out.trans (hb2.mono HB.out.size)); clear hb2)
        go_ret
        exact ⟨rfl, HB0.out.trans (HB2.out.mono HB0.out.size)⟩
      · go_wp2_with (go_at_call 48; refine hcall.mono ?_; clear hcall; rintro e w2 ⟨rfl, hb2⟩; have HB2 := Lib.hid (HB.out.trans (hb2.mono HB.out.size)); clear hb2)
        go_roundw
        case rel => exact ⟨1, by omega, by first | rfl | go_num, fun _ => HRR.out, HB2.out⟩
        case measure => simp [intOf]
    · obtain rfl : j = 1 := by omega
      go_wp2
      go_ret
      exact ⟨ret_bool (by rw [← HRR.out]; exact (HD.out (by first | rfl | trivial)).symm), HB0.out.trans (HB.out.mono HB0.out.size)⟩

/-- Less's first loop under way -/
structure L1 (w W : World) (F : Lx) (bv k : Nat) : Prop where
  two : Two W F.B3 (.int .i64 F.x) (.slice F.A F.n F.c)
  bt : Boxed W F.Bt 25 (.slice F.A' F.n' F.c')
  box : BoxK W F.Bk F.x F.A F.n F.c F.A' F.n' F.c' F.A2 F.n' F.c2 (some F.bi)
  lev : RI W F.A2 F.n' F.c2 (levL F.ts)
  map : IntM W F.bi F.n' (atF F.ts)
  bin : Boxed W F.Bin 61 (.map (some F.bin))
  inn : SetM W F.bin k (F.l.take k)
  var : SetM W bv k ((F.l.take k).map absI)
  ne1 : F.bin ≠ bv
  ne2 : F.bin ≠ F.bi
  ne3 : bv ≠ F.bi
  lo1 : w.heap.size ≤ F.bin
  lo2 : w.heap.size ≤ bv
  below : Below w.heap.size w W
theorem L1.grow {w W W' : World} {F : Lx} {bv k : Nat} (h : L1 w W F bv k) (hb : Below W.heap.size W W') : L1 w W' F bv k where
  two := h.two.below hb
  bt := boxed_below h.bt hb
  box := h.box.below hb
  lev := h.lev.below hb
  map := h.map.below hb h.map.lt
  bin := boxed_below h.bin hb
  inn := h.inn.below hb h.inn.lt
  var := h.var.below hb h.var.lt
  ne1 := h.ne1
  ne2 := h.ne2
  ne3 := h.ne3
  lo1 := h.lo1
  lo2 := h.lo2
  below := h.below.trans (hb.mono h.below.size)
/-- both maps have turned -/
theorem L1.both {w W W' : World} {F : Lx} {bv k : Nat} (h : L1 w W F bv k) (hi : SetM W' F.bin (k + 1) (F.l.take (k + 1))) (hv : SetM W' bv (k + 1) ((F.l.take (k + 1)).map absI)) (hk : Kept2 W W' F.bin bv) (hb : Below w.heap.size w W') : L1 w W' F bv (k + 1) :=
  have nb : ∀ {B : Nat} {t : TypeId} {v : Value}, Boxed W B t v → B ≠ F.bin ∧ B ≠ bv := fun hB => ⟨boxed_ne_map h.inn hB, boxed_ne_map h.var hB⟩
  have nr : 0 < F.n' → ∀ b off, F.A2 = some ⟨b, off, none⟩ → b ≠ F.bin ∧ b ≠ bv := fun h0 b off e => by
    obtain ⟨b', off', e1, e2, e3⟩ := h.lev.cells h0
    rw [e1] at e; cases e
    have hc := e3 0 h0
    constructor
    · intro e4; obtain ⟨es, ck, h1⟩ := map_block h.inn; subst e4; simp [World.cell?, h1] at hc
    · intro e4; obtain ⟨es, ck, h1⟩ := map_block h.var; subst e4; simp [World.cell?, h1] at hc
  { two := h.two.kept22 hk (fun e => by obtain ⟨es, ck, h1⟩ := map_block h.inn; have h2 : W.heap[F.B3]? = _ := h.two; rw [e, h1] at h2; cases h2) (fun e => by obtain ⟨es, ck, h1⟩ := map_block h.var; have h2 : W.heap[F.B3]? = _ := h.two; rw [e, h1] at h2; cases h2)
    bt := (hk.same _ h.bt.lt (nb h.bt).1 (nb h.bt).2).trans h.bt
    box := (hk.same _ h.box.lt (boxk_ne_map h.inn h.box) (boxk_ne_map h.var h.box)).trans h.box
    lev := h.lev.kept2 hk nr
    map := by
      obtain ⟨D, ⟨es, clock, h1, h3⟩, h2⟩ := h.map
      exact ⟨D, ⟨es, clock, (hk.same _ h.map.lt (Ne.symm h.ne2) (Ne.symm h.ne3)).trans h1, h3⟩, h2⟩
    bin := (hk.same _ h.bin.lt (nb h.bin).1 (nb h.bin).2).trans h.bin
    inn := hi
    var := hv
    ne1 := h.ne1
    ne2 := h.ne2
    ne3 := h.ne3
    lo1 := h.lo1
    lo2 := h.lo2
    below := hb }

end Go.Proofs.Ytenpenelikpeeaa
