/-
  First of the package learn: the ways that end in an error. No condition.
  Less of the package learn: its words for memory; dead at any literal. No condition.
  The state of First between its loops; Backward. No condition.
-/
import Derived.Test.YtenpenelikpeeaaZC13
import Derived.Test.YtenpenelikpeeaaZC9
import Derived.Sort.MapsRangeIn
import Derived.Test.YtenpenelikpeeaaZC12
import Derived.Laws.EntriesVeiled

namespace Go.Proofs.Ytenpenelikpeeaa
open Go.RowKit Go.Shelf
set_option linter.unusedVariables false
set_option linter.unusedSimpArgs false

set_option maxRecDepth 100000 in
set_option maxHeartbeats 2000000 in
theorem first_bad (x : Int) (A : Option Addr) (n c : Nat) (ls : List (List Int)) (A' : Option Addr) (n' c' : Nat) (ts : List Stp) (q : Int) (w : World) (h : RL w A n c ls) (h' : RS w A' n' c' ts) (hn' : n' ≤ 1000000) (hE : propE x ls ts ≠ 0) :
    Calls Try.prog 13 #[.agg #[.int .i64 x, .slice A n c], .slice A' n' c', .int .i64 q] w (FirstP [] 0 (propE x ls ts) w) := by
  have hcall := pcheck_val (propE x ls ts) x A n c ls A' n' c' ts _ (h.alloc (.cells #[.int .i64 x, .slice A n c] 24)) (h'.alloc (.cells #[.int .i64 x, .slice A n c] 24)) hn' rfl
  generalize propE x ls ts = r at hcall hE ⊢
  have hr : (r != 0) = true := by simpa using hE
  clear hE h h'
  go_enter Try.func13, Try.ntmps13
  go_wp2_with fail
  go_step3
  go_wp2_with (go_at_call 20; refine hcall.mono ?_; clear hcall; rintro e w1 ⟨rfl, hb⟩)
  try rw [Exit.noGoto_ret]
  go_ret3
  exact FirstP.none (((Below.refl _ w).alloc (Nat.le_refl _) _).trans (hb.mono (by simp)))

/-- what stands behind the index's making -/
structure Fi (w V : World) (x : Int) (A : Option Addr) (n c : Nat) (A' : Option Addr) (n' c' : Nat) (ts : List Stp) (A2 : Option Addr) (c2 bi Bk : Nat) : Prop where
  two : Two V w.heap.size (.int .i64 x) (.slice A n c)
  box : BoxK V Bk x A n c A' n' c' A2 n' c2 (some bi)
  lev : RI V A2 n' c2 (levL ts)
  map : IntM V bi n' (atF ts)
  lo : w.heap.size ≤ bi
  lok : w.heap.size ≤ Bk
  below : Below w.heap.size w V
theorem Fi.grow {w V V' : World} {x : Int} {A : Option Addr} {n c : Nat} {A' : Option Addr} {n' c' : Nat} {ts : List Stp} {A2 : Option Addr} {c2 bi Bk : Nat} (h : Fi w V x A n c A' n' c' ts A2 c2 bi Bk) (hb : Below V.heap.size V V') : Fi w V' x A n c A' n' c' ts A2 c2 bi Bk :=
  ⟨h.two.below hb, h.box.below hb, h.lev.below hb, h.map.below hb h.map.lt, h.lo, h.lok, h.below.trans (hb.mono h.below.size)⟩
theorem fi_of {w w1 V0 : World} {x : Int} {A : Option Addr} {n c : Nat} {A' : Option Addr} {n' c' : Nat} {ts : List Stp} {A2 : Option Addr} {c2 bi : Nat} (hn : ts.length = n') (hb : Below w.heap.size w w1) (ht : Two w1 w.heap.size (.int .i64 x) (.slice A n c)) (hl : Lkd w1 V0 ts A2 n' c2 bi n') :
    Fi w (V0.alloc (.cells #[.int .i64 x, .slice A n c, .slice A' n' c', .slice A2 n' c2, .map (some bi)] 58)) x A n c A' n' c' ts A2 c2 bi V0.heap.size := by
  have hs := hb.size
  have hs2 := hl.below.size
  have hfr := hl.fresh
  refine ⟨(ht.below hl.below).below ((Below.refl _ _).alloc (Nat.le_refl _) _), BoxK.new V0 x A n c A' n' c' A2 n' c2 (some bi), hl.lev.alloc _, ?_, by omega, by omega, (hb.trans (hl.below.mono hs)).alloc (by omega) _⟩
  have := hl.map
  rw [show atTo ts n' = atF ts by unfold atF; rw [hn]] at this
  exact this.alloc _

set_option maxRecDepth 100000 in
set_option maxHeartbeats 4000000 in
theorem first_arg (x : Int) (A : Option Addr) (n c : Nat) (ls : List (List Int)) (A' : Option Addr) (n' c' : Nat) (ts : List Stp) (q : Int) (w : World) (h : RL w A n c ls) (h' : RS w A' n' c' ts) (hn' : n' ≤ 1000000) (hE : propE x ls ts = 0)
    (hq : q < 0 ∨ (ls.length : Int) ≤ q ∨ deadB ts (ell ls q.toNat) = false) :
    Calls Try.prog 13 #[.agg #[.int .i64 x, .slice A n c], .slice A' n' c', .int .i64 q] w (FirstP [] 0 1 w) := by
  have hcall := pcheck_val 0 x A n c ls A' n' c' ts _ (h.alloc (.cells #[.int .i64 x, .slice A n c] 24)) (h'.alloc (.cells #[.int .i64 x, .slice A n c] 24)) hn' hE
  have H := Lib.hid h
  have H' := Lib.hid h'
  have BX := Lib.hid (Two.new w (.int .i64 x) (.slice A n c))
  have HB0 := Lib.hid ((Below.refl w.heap.size w).alloc (Nat.le_refl _) (.cells #[.int .i64 x, .slice A n c] 24))
  obtain ⟨hce, htr⟩ := propE_zero hE
  have HK := Lib.hid (checkE_lits hce)
  have hxx := checkE_n hce
  have HT := Lib.hid (trail_tr htr)
  have hlen := h.len
  rw [hlen] at hq
  have HLN := Lib.hid hlen
  have HTS := Lib.hid h'.len
  clear h h' hE hlen hce htr
  go_enter Try.func13, Try.ntmps13
  go_wp2_with fail
  go_step3
  go_upto_region 5 with (first
    | (go_at_call 20; refine hcall.mono ?_; clear hcall; rintro e w1 ⟨rfl, hb⟩; have HB1 := Lib.hid (HB0.out.trans (hb.mono HB0.out.size)); have BX1 := Lib.hid (BX.out.below hb); have t0 := BX1.out.c0; have t1 := BX1.out.c1; clear hb)
    | (go_at_call 31; refine (looked_any x A n c ls A' n' c' ts _ (H'.out.below HB1.out) HT.out hxx.2 hn').mono ?_; rintro e V0 ⟨A2, c2, bi, rfl, hlk⟩; have FI := Lib.hid (fi_of (A' := A') (c' := c') HTS.out HB1.out BX1.out hlk); unfold lookV; clear hlk))
  generalize hW : V0.alloc (.cells #[.int .i64 x, .slice A n c, .slice A' n' c', .slice A2 n' c2, .map (some bi)] 58) = V at *
  generalize hBk : V0.heap.size = Bk at *
  clear hW hBk t0 t1
  have g1 := fun u : Gr V => u.cell (p := ⟨w.heap.size, 1, none⟩) FI.out.two.lt FI.out.two.c1
  by_cases q0 : q < 0
  · clear hq
    refine wp_region_grow (by kernel_rfl) (by kernel_rfl) ?_
    repeat (go_big_quiet_step (fail))
    refine wpQuiet_nil ?_
    rintro V2 ⟨⟨_, hb2⟩, rfl⟩
    have HB2 := Lib.hid (FI.out.grow hb2).below
    clear hb2 g1
    go_wp2_with fail
    try rw [Exit.noGoto_ret]
    go_ret3
    exact FirstP.none HB2.out
  · have q0' : (0 : Int) ≤ q := by omega
    have d0 : decide (q < 0) = false := by simpa using q0
    by_cases q1 : (n : Int) ≤ q
    · clear hq
      refine wp_region_grow (by kernel_rfl) (by kernel_rfl) ?_
      repeat (go_big_quiet_step (fail))
      refine wpQuiet_nil ?_
      rintro V2 ⟨⟨_, hb2⟩, rfl⟩
      have HB2 := Lib.hid (FI.out.grow hb2).below
      clear hb2 g1
      go_wp2_with fail
      try rw [Exit.noGoto_ret]
      go_ret3
      exact FirstP.none HB2.out
    · obtain ⟨j, rfl⟩ : ∃ j : Nat, q = j := ⟨q.toNat, by omega⟩
      have hd : deadB ts (ell ls j) = false := by
        rcases hq with h1 | h1 | h1
        · omega
        · omega
        · rwa [Int.toNat_natCast] at h1
      have hjn : j < n := by omega
      have HD := Lib.hid hd
      obtain ⟨b2, off2, rfl, hb2, hc2⟩ := (H.out.below FI.out.below).cells (by omega)
      obtain ⟨a3, n3, c3, hc3, hr3⟩ := hc2 j (by omega)
      have HR3 := Lib.hid hr3
      have HO3 := Lib.hid (HK.out _ (ell_mem (ls := ls) (k := j) (by rw [HLN.out]; omega)))
      have d1 : decide ((n : Int) ≤ (j : Int)) = false := by simpa using q1
      have d2 : decide (n ≤ j) = false := by simpa using hjn
      have g2 := fun u : Gr V => u.cell (p := ⟨Bk, 0, none⟩) FI.out.box.lt FI.out.box.c0
      have g3 := fun u : Gr V => u.cell (p := ⟨Bk, 1, none⟩) FI.out.box.lt FI.out.box.c1
      have g4 := fun u : Gr V => u.cell (p := ⟨Bk, 2, none⟩) FI.out.box.lt FI.out.box.c2
      have g5 := fun u : Gr V => u.cell (p := ⟨Bk, 3, none⟩) FI.out.box.lt FI.out.box.c3
      have g6 := fun u : Gr V => u.cell (p := ⟨Bk, 4, none⟩) FI.out.box.lt FI.out.box.c4
      have g7 := fun u : Gr V => u.cell (p := ⟨b2, off2 + j, none⟩) hb2 hc3
      clear hq hd hc2 hr3
      refine wp_region_grow (by kernel_rfl) (by kernel_rfl) ?_
      repeat (go_big_quiet_step ((go_at_call 32; exact Gr.call _ (dead_any x (some ⟨b2, off2, none⟩) n c A' n' c' A2 n' c2 bi n' ts a3 n3 c3 (ell ls j) _ (FI.out.map.below (Gr.ok _) FI.out.map.lt) (HR3.out.below (Gr.ok _)) HO3.out false HD.out))))
      refine wpQuiet_nil ?_
      rintro V2 ⟨⟨_, hb9⟩, rfl⟩
      have HB2 := Lib.hid (FI.out.grow hb9).below
      clear hb9 g1 g2 g3 g4 g5 g6 g7
      go_wp2_with fail
      try rw [Exit.noGoto_ret]
      go_ret3
      exact FirstP.none HB2.out

end Go.Proofs.Ytenpenelikpeeaa

namespace Go.Proofs.Ytenpenelikpeeaa
open Go.RowKit Go.Shelf
set_option linter.unusedVariables false
set_option linter.unusedSimpArgs false

def isW (ts : List Stp) (y : Int) : Bool := decide (plc ts (wrap64 (-y)) < ts.length)
def whereW (ts : List Stp) (y : Int) : Int := if plc ts (wrap64 (-y)) < ts.length then (plc ts (wrap64 (-y)) : Int) else 0
theorem wfI_wrap (y : Int) : wfI (wrap64 y) = true := wfI_of (by unfold wrap64; omega) (by unfold wrap64; omega)
theorem isW_in {ts : List Stp} {y : Int} (h0 : -65536 ≤ y) (h1 : y ≤ 65536) : isW ts y = decide (plc ts (-y) < ts.length) := by unfold isW; rw [lit_neg' h0 h1]
theorem isW_out {x : Int} {ls : List (List Int)} {ts : List Stp} (h : Tr x ls ts) (hx : x ≤ 65536) {y : Int} (hw : wfI y = true) (hy : y < -65536 ∨ 65536 < y) : isW ts y = false := by
  obtain ⟨h0, h1⟩ := wfI_bd hw
  unfold isW
  rw [decide_eq_false_iff_not]
  intro hlt
  have h2 := (plc_lt hlt).1
  have h3 := isB_iff.1 (h.lit _ hlt)
  rw [h2] at h3
  unfold wrap64 at h3
  omega

set_option maxRecDepth 100000 in
set_option maxHeartbeats 400000 in
theorem lstepW_any (x : Int) (A : Option Addr) (n c : Nat) (A' : Option Addr) (n' c' : Nat) (A2 : Option Addr) (n2 c2 : Nat) (b k : Nat) (ts : List Stp) (y : Int) (w : World) (h : IntM w b k (atF ts)) (r : Bool) (q : Int) (hr : isW ts y = r) (hq : whereW ts y = q) :
    Calls Try.prog 48 #[.agg #[.int .i64 x, .slice A n c, .slice A' n' c', .slice A2 n2 c2, .map (some b)], .int .i64 y] w fun e w' => e = .returned (.tuple #[.int .i64 q, .bool r]) ∧ Below w.heap.size w w' := by
  have hl := MF.lookOk ekI Try.underlying56 (h.alloc (.cells #[.int .i64 x, .slice A n c, .slice A' n' c', .slice A2 n2 c2, .map (some b)] 58)) (x := wrap64 (-y)) (wfI_wrap _)
  have e1 : (atF ts (wrap64 (-y))).getD 0 = q := by rw [← hq]; unfold atF atTo whereW; split <;> rfl
  have e2 : (atF ts (wrap64 (-y))).isSome = r := by rw [← hr]; unfold atF atTo isW; split <;> simp_all
  rw [e1, e2] at hl
  clear h e1 e2 hr hq
  go_enter Try.func48, Try.ntmps48
  go_wp2
  go_ret2
  exact ⟨rfl, (Below.refl _ _).alloc (Nat.le_refl _) _⟩

/-- one literal -/
theorem one_ri (w : World) (y : Int) : RI (w.alloc (.cells #[.int .i64 y] 3)) (some ⟨w.heap.size, 0, none⟩) 1 1 [y] := by
  refine ⟨rfl, Nat.le_refl _, by omega, by unfold maxLen; omega, fun _ => ⟨w.heap.size, 0, rfl, by simp, fun j hj => ?_⟩⟩
  obtain rfl : j = 0 := by omega
  exact cell_new_at w (.int .i64 y) 3 w.heap.size rfl 0 _ rfl

set_option maxRecDepth 100000 in
set_option maxHeartbeats 1000000 in
theorem deadW_any (x : Int) (A : Option Addr) (n c : Nat) (A' : Option Addr) (n' c' : Nat) (A2 : Option Addr) (n2 c2 : Nat) (b k : Nat) (ts : List Stp) (b3 : Nat) (y : Int) (w : World) (h : IntM w b k (atF ts)) (h3 : RI w (some ⟨b3, 0, none⟩) 1 1 [y]) (r : Bool) (hr : isW ts y = r) :
    Calls Try.prog 32 #[.agg #[.int .i64 x, .slice A n c, .slice A' n' c', .slice A2 n2 c2, .map (some b)], .slice (some ⟨b3, 0, none⟩) 1 1] w fun e w' => e = .returned (.bool r) ∧ Below w.heap.size w w' := by
  have HB0 := Lib.hid ((Below.refl w.heap.size w).alloc (Nat.le_refl _) (.cells #[.int .i64 x, .slice A n c, .slice A' n' c', .slice A2 n2 c2, .map (some b)] 58))
  have HX := Lib.hid (BoxK.new w x A n c A' n' c' A2 n2 c2 (some b))
  have HM := Lib.hid (h.alloc (.cells #[.int .i64 x, .slice A n c, .slice A' n' c', .slice A2 n2 c2, .map (some b)] 58))
  have H3 := Lib.hid (h3.alloc (.cells #[.int .i64 x, .slice A n c, .slice A' n' c', .slice A2 n2 c2, .map (some b)] 58))
  have HRR := Lib.hid hr
  clear h h3 hr
  go_enter Try.func32, Try.ntmps32
  go_wp2
  generalize hW : w.alloc (.cells #[.int .i64 x, .slice A n c, .slice A' n' c', .slice A2 n2 c2, .map (some b)] 58) = W0 at *
  clear hW
  go_loopw [11] (fun s11 W => ∃ j : Nat, j ≤ 1 ∧ s11 = .int .i64 j ∧ (j = 1 → isW ts y = true) ∧ Below W0.heap.size W0 W) (fun s11 _ => 1 - (intOf s11).toNat)
  case atStart => exact ⟨0, Nat.zero_le _, rfl, fun h => by omega, Below.refl _ _⟩
  case round =>
    obtain ⟨j, hj, rfl, hd, hb⟩ := hrel
    have HD := Lib.hid hd
    have HB := Lib.hid hb
    clear hd hb
    by_cases hlt : j < 1
    · obtain rfl : j = 0 := by omega
      obtain ⟨b4, off4, e4, hb4, hc4⟩ := (H3.out.below HB.out).cells (by omega)
      have hck := hc4 0 (by omega)
      simp only [Option.some.injEq, Addr.mk.injEq, and_true] at e4
      obtain ⟨rfl, rfl⟩ := e4
      have ey : elt [y] 0 = y := rfl
      rw [ey] at hck
      have hxk := HX.out.below HB.out
      have q0 := hxk.c0
      have q1 := hxk.c1
      have q2 := hxk.c2
      have q3 := hxk.c3
      have q4 := hxk.c4
      have hm := HM.out.below HB.out HM.out.lt
      have hcall := lstepW_any x A n c A' n' c' A2 n2 c2 b k ts y wr hm r _ HRR.out rfl
      generalize whereW ts y = q at hcall
      clear hc4 hxk hm ey
      cases r
      · go_wp2_with (go_at_call 48; refine hcall.mono ?_; clear hcall; rintro e w2 ⟨rfl, hb2⟩; have HB2 := Lib.hid (HB.out.trans (hb2.mono HB.out.size)); clear hb2)
        go_ret
        exact ⟨rfl, HB0.out.trans (HB2.out.mono HB0.out.size)⟩
      · go_wp2_with (go_at_call 48; refine hcall.mono ?_; clear hcall; rintro e w2 ⟨rfl, hb2⟩; have HB2 := Lib.hid (HB.out.trans (hb2.mono HB.out.size)); clear hb2)
        go_roundw
        case rel => exact ⟨1, by omega, by first | rfl | go_num, fun _ => HRR.out, HB2.out⟩
        case measure => simp [intOf]
    · obtain rfl : j = 1 := by omega
      go_wp2
      go_ret
      exact ⟨ret_bool (by rw [← HRR.out]; exact (HD.out (by first | rfl | trivial)).symm), HB0.out.trans (HB.out.mono HB0.out.size)⟩

/-- Less's first loop under way -/
structure L1 (w W : World) (F : Lx) (bv k : Nat) : Prop where
  two : Two W F.B3 (.int .i64 F.x) (.slice F.A F.n F.c)
  bt : Boxed W F.Bt 25 (.slice F.A' F.n' F.c')
  box : BoxK W F.Bk F.x F.A F.n F.c F.A' F.n' F.c' F.A2 F.n' F.c2 (some F.bi)
  lev : RI W F.A2 F.n' F.c2 (levL F.ts)
  map : IntM W F.bi F.n' (atF F.ts)
  bin : Boxed W F.Bin 61 (.map (some F.bin))
  inn : SetM W F.bin k (F.l.take k)
  var : SetM W bv k ((F.l.take k).map absI)
  ne1 : F.bin ≠ bv
  ne2 : F.bin ≠ F.bi
  ne3 : bv ≠ F.bi
  lo1 : w.heap.size ≤ F.bin
  lo2 : w.heap.size ≤ bv
  below : Below w.heap.size w W
theorem L1.grow {w W W' : World} {F : Lx} {bv k : Nat} (h : L1 w W F bv k) (hb : Below W.heap.size W W') : L1 w W' F bv k where
  two := h.two.below hb
  bt := boxed_below h.bt hb
  box := h.box.below hb
  lev := h.lev.below hb
  map := h.map.below hb h.map.lt
  bin := boxed_below h.bin hb
  inn := h.inn.below hb h.inn.lt
  var := h.var.below hb h.var.lt
  ne1 := h.ne1
  ne2 := h.ne2
  ne3 := h.ne3
  lo1 := h.lo1
  lo2 := h.lo2
  below := h.below.trans (hb.mono h.below.size)
/-- both maps have turned -/
theorem L1.both {w W W' : World} {F : Lx} {bv k : Nat} (h : L1 w W F bv k) (hi : SetM W' F.bin (k + 1) (F.l.take (k + 1))) (hv : SetM W' bv (k + 1) ((F.l.take (k + 1)).map absI)) (hk : Kept2 W W' F.bin bv) (hb : Below w.heap.size w W') : L1 w W' F bv (k + 1) :=
  have nb : ∀ {B : Nat} {t : TypeId} {v : Value}, Boxed W B t v → B ≠ F.bin ∧ B ≠ bv := fun hB => ⟨boxed_ne_map h.inn hB, boxed_ne_map h.var hB⟩
  have nr : 0 < F.n' → ∀ b off, F.A2 = some ⟨b, off, none⟩ → b ≠ F.bin ∧ b ≠ bv := fun h0 b off e => by
    obtain ⟨b', off', e1, e2, e3⟩ := h.lev.cells h0
    rw [e1] at e; cases e
    have hc := e3 0 h0
    constructor
    · intro e4; obtain ⟨es, ck, h1⟩ := map_block h.inn; subst e4; simp [World.cell?, h1] at hc
    · intro e4; obtain ⟨es, ck, h1⟩ := map_block h.var; subst e4; simp [World.cell?, h1] at hc
  { two := h.two.kept22 hk (fun e => by obtain ⟨es, ck, h1⟩ := map_block h.inn; have h2 : W.heap[F.B3]? = _ := h.two; rw [e, h1] at h2; cases h2) (fun e => by obtain ⟨es, ck, h1⟩ := map_block h.var; have h2 : W.heap[F.B3]? = _ := h.two; rw [e, h1] at h2; cases h2)
    bt := (hk.same _ h.bt.lt (nb h.bt).1 (nb h.bt).2).trans h.bt
    box := (hk.same _ h.box.lt (boxk_ne_map h.inn h.box) (boxk_ne_map h.var h.box)).trans h.box
    lev := h.lev.kept2 hk nr
    map := by
      obtain ⟨D, ⟨es, clock, h1, h3⟩, h2⟩ := h.map
      exact ⟨D, ⟨es, clock, (hk.same _ h.map.lt (Ne.symm h.ne2) (Ne.symm h.ne3)).trans h1, h3⟩, h2⟩
    bin := (hk.same _ h.bin.lt (nb h.bin).1 (nb h.bin).2).trans h.bin
    inn := hi
    var := hv
    ne1 := h.ne1
    ne2 := h.ne2
    ne3 := h.ne3
    lo1 := h.lo1
    lo2 := h.lo2
    below := hb }

end Go.Proofs.Ytenpenelikpeeaa

namespace Go.Proofs.Ytenpenelikpeeaa
open Go.RowKit Go.Shelf
set_option linter.unusedVariables false
set_option linter.unusedSimpArgs false

abbrev fnV (F : Fx) : Value := .func (.func 33) #[] #[.pointer (some ⟨F.Bm, 0, none⟩), .pointer (some ⟨F.Bk, 0, none⟩), .pointer (some ⟨F.Bl, 0, none⟩), .pointer (some ⟨F.Bh, 0, none⟩)]
/-- First's state before its loop -/
structure FU (w W : World) (F : Fx) (B13 : Nat) (m : Nat) (S : List Int) (hi : Int) : Prop where
  fs : FS w W F m S hi
  two : Two W w.heap.size (.int .i64 F.x) (.slice F.A F.n F.c)
  fn : Boxed W B13 63 (fnV F)
/-- First's state in its loops -/
structure FT (w W : World) (F : Fx) (B13 Bf : Nat) (m : Nat) (S : List Int) (hi fi : Int) : Prop where
  fu : FU w W F B13 m S hi
  bf : Boxed W Bf 3 (.int .i64 fi)
  ne1 : Bf ≠ F.Bl
  ne2 : Bf ≠ F.Bh
  lo : w.heap.size ≤ Bf

theorem two_ne_boxed {w : World} {B B' : Nat} {u v x : Value} {t : TypeId} (h : Two w B u v) (h' : Boxed w B' t x) : B ≠ B' := fun e => by
  have h1 : w.heap[B]? = _ := h
  rw [e, show w.heap[B']? = _ from h'] at h1
  simp at h1
theorem two_ne_map {β : Type} {e : TypeId} {ed : β → DataW Unit} {w : World} {b n B : Nat} {f : Int → Option β} {u v : Value} (h : MF e ed w b n f) (hB : Two w B u v) : B ≠ b := fun e1 => by
  obtain ⟨es, clock, h1⟩ := map_block h
  rw [← e1, show w.heap[B]? = _ from hB] at h1; cases h1
theorem Two.kept2 {W W' : World} {B i j : Nat} {u v : Value} (h : Two W B u v) (hk : Kept2 W W' i j) (h1 : B ≠ i) (h2 : B ≠ j) : Two W' B u v := (hk.same B h.lt h1 h2).trans h
theorem boxed_kept2 {W W' : World} {B i j : Nat} {t : TypeId} {v : Value} (h : Boxed W B t v) (hk : Kept2 W W' i j) (h1 : B ≠ i) (h2 : B ≠ j) : Boxed W' B t v := (hk.same B h.lt h1 h2).trans h

section
variable {w W W' : World} {F : Fx} {B13 Bf m : Nat} {S : List Int} {hi fi : Int}
theorem FU.kept2 (h : FU w W F B13 m S hi) {m' : Nat} {S' : List Int} {hi' : Int} (hf : FS w W' F m' S' hi') (hk : Kept2 W W' F.b F.Bh) : FU w W' F B13 m' S' hi' :=
  ⟨hf, h.two.kept2 hk (two_ne_map h.fs.set h.two) (two_ne_boxed h.two h.fs.bh), boxed_kept2 h.fn hk (boxed_ne_map h.fs.set h.fn) (boxed_ne_boxed h.fn h.fs.bh (by decide))⟩
theorem FT.kept2 (h : FT w W F B13 Bf m S hi fi) {m' : Nat} {S' : List Int} {hi' : Int} (hf : FS w W' F m' S' hi') (hk : Kept2 W W' F.b F.Bh) : FT w W' F B13 Bf m' S' hi' fi :=
  ⟨h.fu.kept2 hf hk, boxed_kept2 h.bf hk (boxed_ne_map h.fu.fs.set h.bf) h.ne2, h.ne1, h.ne2, h.lo⟩
theorem FU.grow (h : FU w W F B13 m S hi) (hb : Below W.heap.size W W') : FU w W' F B13 m S hi := ⟨h.fs.grow hb, h.two.below hb, boxed_below h.fn hb⟩
theorem FT.grow (h : FT w W F B13 Bf m S hi fi) (hb : Below W.heap.size W W') : FT w W' F B13 Bf m S hi fi := ⟨h.fu.grow hb, boxed_below h.bf hb, h.ne1, h.ne2, h.lo⟩
theorem FT.turn (h : FT w W F B13 Bf m S hi fi) {m' : Nat} {S' : List Int} (hs : SetM W' F.b m' S') (ht : W.mapTurned W' F.b) : FT w W' F B13 Bf m' S' hi fi :=
  h.kept2 (h.fu.fs.turn hs ht) (Kept2.grown ht.grown (Or.inl rfl))
theorem FT.setHi (h : FT w W F B13 Bf m S hi fi) (v : Int) : FT w (W.setCell ⟨F.Bh, 0, none⟩ (.int .i64 v)) F B13 Bf m S v fi :=
  h.kept2 (h.fu.fs.setHi v) (Kept2.grown (grownBy_setCell' _ _ _) (Or.inr (Or.inl rfl)))
theorem FS.other (h : FS w W F m S hi) {Bf : Nat} {f0 : Int} (hb : Boxed W Bf 3 (.int .i64 f0)) (h1 : Bf ≠ F.Bl) (h2 : Bf ≠ F.Bh) (hA : 0 < F.n' → ∀ b' off, F.A2 = some ⟨b', off, none⟩ → b' ≠ Bf) (lo : w.heap.size ≤ Bf) (v : Value) : FS w (W.setCell ⟨Bf, 0, none⟩ v) F m S hi where
  box := h.box.kept (grownBy_setCell' W _ _) (fun e => boxed_ne_boxk h.box hb (by injection e))
  lev := h.lev.grown (grownBy_setCell' W _ _) (fun h0 b off e e2 => hA h0 b off e (by injection e2))
  map := h.map.setCell (fun e => boxed_ne_map h.map hb e.symm) _
  bm := h.bm.kept (grownBy_setCell' W _ _) (fun e => boxed_ne_boxed h.bm hb (by decide) (by injection e))
  bl := h.bl.kept (grownBy_setCell' W _ _) (fun e => h1 (by injection e with e; exact e.symm))
  bh := h.bh.kept (grownBy_setCell' W _ _) (fun e => h2 (by injection e with e; exact e.symm))
  set := h.set.setCell (fun e => boxed_ne_map h.set hb e.symm) _
  ne1 := h.ne1
  ne2 := h.ne2
  row := h.row
  lo1 := h.lo1
  lo2 := h.lo2
  below := h.below.setCell (p := ⟨Bf, 0, none⟩) lo _
theorem FT.setFi (h : FT w W F B13 Bf m S hi fi) (hA : 0 < F.n' → ∀ b' off, F.A2 = some ⟨b', off, none⟩ → b' ≠ Bf) (v : Int) : FT w (W.setCell ⟨Bf, 0, none⟩ (.int .i64 v)) F B13 Bf m S hi v :=
  ⟨⟨h.fu.fs.other h.bf h.ne1 h.ne2 hA h.lo _, h.fu.two.kept (grownBy_setCell' _ _ _) (fun e => two_ne_boxed h.fu.two h.bf (by injection e)), h.fu.fn.kept (grownBy_setCell' _ _ _) (fun e => boxed_ne_boxed h.fu.fn h.bf (by decide) (by injection e))⟩, h.bf.set _, h.ne1, h.ne2, h.lo⟩
end

/-- all of First's own blocks lie below D -/
structure Low (w : World) (F : Fx) (B13 Bf D : Nat) : Prop where
  k : F.Bk < D
  i : F.bi < D
  m : F.Bm < D
  b : F.b < D
  l : F.Bl < D
  h : F.Bh < D
  f : Bf < D
  fn : B13 < D
  w : w.heap.size < D
  row : 0 < F.n' → ∃ b off, F.A2 = some ⟨b, off, none⟩ ∧ b < D
theorem FT.low {w W : World} {F : Fx} {B13 Bf m : Nat} {S : List Int} {hi fi : Int} (h : FT w W F B13 Bf m S hi fi) : Low w F B13 Bf W.heap.size :=
  ⟨h.fu.fs.box.lt, h.fu.fs.map.lt, h.fu.fs.bm.lt, h.fu.fs.set.lt, h.fu.fs.bl.lt, h.fu.fs.bh.lt, h.bf.lt, h.fu.fn.lt, h.fu.two.lt, fun h0 => by
    obtain ⟨b, off, e1, e2, _⟩ := h.fu.fs.lev.cells h0; exact ⟨b, off, e1, e2⟩⟩
theorem Low.mono {w : World} {F : Fx} {B13 Bf D D' : Nat} (h : Low w F B13 Bf D) (hD : D ≤ D') : Low w F B13 Bf D' :=
  ⟨Nat.lt_of_lt_of_le h.k hD, Nat.lt_of_lt_of_le h.i hD, Nat.lt_of_lt_of_le h.m hD, Nat.lt_of_lt_of_le h.b hD, Nat.lt_of_lt_of_le h.l hD, Nat.lt_of_lt_of_le h.h hD, Nat.lt_of_lt_of_le h.f hD, Nat.lt_of_lt_of_le h.fn hD, Nat.lt_of_lt_of_le h.w hD, fun h0 => by
    obtain ⟨b, off, e1, e2⟩ := h.row h0; exact ⟨b, off, e1, Nat.lt_of_lt_of_le e2 hD⟩⟩
theorem FT.far {w W W' : World} {F : Fx} {B13 Bf m D : Nat} {S : List Int} {hi fi : Int} {row : Option Nat} (h : FT w W F B13 Bf m S hi fi) (hL : Low w F B13 Bf D) (hg : W.grownBy W' row) (hr : ∀ r, row = some r → D ≤ r) : FT w W' F B13 Bf m S hi fi :=
  have ne : ∀ {B : Nat}, B < D → some B ≠ row := fun hB e => by have := hr _ e.symm; omega
  ⟨⟨{ box := h.fu.fs.box.kept hg (ne hL.k)
      lev := h.fu.fs.lev.grown hg (fun h0 b off e => by obtain ⟨b', off', e1, e2⟩ := hL.row h0; rw [e1] at e; cases e; exact ne e2)
      map := h.fu.fs.map.kept hg (ne hL.i)
      bm := h.fu.fs.bm.kept hg (ne hL.m)
      bl := h.fu.fs.bl.kept hg (ne hL.l)
      bh := h.fu.fs.bh.kept hg (ne hL.h)
      set := h.fu.fs.set.kept hg (ne hL.b)
      ne1 := h.fu.fs.ne1
      ne2 := h.fu.fs.ne2
      row := h.fu.fs.row
      lo1 := h.fu.fs.lo1
      lo2 := h.fu.fs.lo2
      below := h.fu.fs.below.grown hg h.fu.fs.below.size (fun g e => by have := hr g e; have := hL.w; omega) }, h.fu.two.kept hg (ne hL.w), h.fu.fn.kept hg (ne hL.fn)⟩, h.bf.kept hg (ne hL.f), h.ne1, h.ne2, h.lo⟩

theorem boxed_at (w : World) (t : TypeId) (v : Value) (B : Nat) (h : B = w.heap.size) : Boxed (w.alloc (.cells #[v] t)) B t v := by subst h; exact Boxed.new w t v
/-- the boxes of First are made -/
theorem fu_made {w V1 : World} {x : Int} {A : Option Addr} {n c : Nat} {A' : Option Addr} {n' c' : Nat} {ts : List Stp} {A2 : Option Addr} {c2 bi Bk : Nat} (h : Fi w V1 x A n c A' n' c' ts A2 c2 bi Bk) (last : Int) :
    FU w (((((V1.alloc (.cells #[.int .i64 last] 3)).alloc (.map #[] 0)).alloc (.cells #[.map (some (V1.heap.size + 1))] 61)).alloc (.cells #[.int .i64 0] 3)).alloc
      (.cells #[fnV ⟨x, A, n, c, A', n', c', ts, A2, c2, bi, Bk, V1.heap.size + 1 + 1, V1.heap.size + 1, V1.heap.size, V1.heap.size + 1 + 1 + 1, last⟩] 63))
      ⟨x, A, n, c, A', n', c', ts, A2, c2, bi, Bk, V1.heap.size + 1 + 1, V1.heap.size + 1, V1.heap.size, V1.heap.size + 1 + 1 + 1, last⟩ (V1.heap.size + 1 + 1 + 1 + 1) 0 [] 0 := by
  have b1 : Below V1.heap.size V1 (V1.alloc (.cells #[.int .i64 last] 3)) := (Below.refl _ _).alloc (Nat.le_refl _) _
  have hs := h.below.size
  have hbi := h.map.lt
  have al : ∀ {β : Type} {e : TypeId} {ed : β → DataW Unit} {W : World} {b k : Nat} {f : Int → Option β} (o : Obj), MF e ed W b k f → MF e ed (W.alloc o) b k f := fun o h => h.alloc o
  have hall : Below V1.heap.size V1 (((((V1.alloc (.cells #[.int .i64 last] 3)).alloc (.map #[] 0)).alloc (.cells #[.map (some (V1.heap.size + 1))] 61)).alloc (.cells #[.int .i64 0] 3)).alloc
      (.cells #[fnV ⟨x, A, n, c, A', n', c', ts, A2, c2, bi, Bk, V1.heap.size + 1 + 1, V1.heap.size + 1, V1.heap.size, V1.heap.size + 1 + 1 + 1, last⟩] 63)) :=
    (((b1.alloc (by simp) _).alloc (by simp; omega) _).alloc (by simp; omega) _).alloc (by simp; omega) _
  have hg := h.grow hall
  have hset : SetM (((((V1.alloc (.cells #[.int .i64 last] 3)).alloc (.map #[] 0)).alloc (.cells #[.map (some (V1.heap.size + 1))] 61)).alloc (.cells #[.int .i64 0] 3)).alloc
      (.cells #[fnV ⟨x, A, n, c, A', n', c', ts, A2, c2, bi, Bk, V1.heap.size + 1 + 1, V1.heap.size + 1, V1.heap.size, V1.heap.size + 1 + 1 + 1, last⟩] 63)) (V1.heap.size + 1) 0 [] := by
    have h1 : SetM ((V1.alloc (.cells #[.int .i64 last] 3)).alloc (.map #[] 0)) (V1.heap.size + 1) 0 [] := by
      have := MF.made (e := 4) (ed := edB) (V1.alloc (.cells #[.int .i64 last] 3))
      rw [emptyF_set] at this
      simpa using this
    exact ((h1.alloc _).alloc _).alloc _
  refine ⟨{
    box := hg.box
    lev := hg.lev
    map := hg.map
    bm := ((boxed_at _ _ _ _ (by simp)).alloc _).alloc _
    bl := ((((Boxed.new V1 _ _).alloc _).alloc _).alloc _).alloc _
    bh := (boxed_at _ _ _ _ (by simp)).alloc _
    set := hset
    ne1 := (by show V1.heap.size + 1 ≠ bi; omega)
    ne2 := (by show V1.heap.size + 1 + 1 + 1 ≠ V1.heap.size; omega)
    row := (fun h0 b off e => (by obtain ⟨q, o1, e1, e2, _⟩ := h.lev.cells h0; have e3 : some (⟨q, o1, none⟩ : Addr) = some ⟨b, off, none⟩ := e1.symm.trans e; simp only [Option.some.injEq, Addr.mk.injEq] at e3; have e4 := e3.1; show b ≠ V1.heap.size + 1 + 1 + 1; omega))
    lo1 := (by show w.heap.size ≤ V1.heap.size + 1; omega)
    lo2 := (by show w.heap.size ≤ V1.heap.size + 1 + 1 + 1; omega)
    below := hg.below }, hg.two, boxed_at _ _ _ _ (by simp)⟩

set_option maxHeartbeats 400000 in
theorem backward_any (A : Option Addr) (n c : Nat) (w : World) : Calls Try.prog 35 #[.slice A n c] w fun e w' => e = .returned (.func (.func 65) #[] #[.pointer (some ⟨w.heap.size, 0, none⟩)]) ∧ w' = w.alloc (.cells #[.slice A n c] 25) := by
  go_enter Try.func35, Try.ntmps35
  go_wp2
  go_ret
  exact ⟨rfl, rfl⟩

end Go.Proofs.Ytenpenelikpeeaa
