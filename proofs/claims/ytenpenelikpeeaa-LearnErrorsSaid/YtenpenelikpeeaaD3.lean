/-
  First of the package learn: the ways that end in an error. No condition.
-/
import Derived.Test.YtenpenelikpeeaaD2
import Derived.Test.YtenpenelikpeeaaE4
import Derived.Sort.MapsRangeIn
namespace Go.Proofs.Ytenpenelikpeeaa
open Go.RowKit Go.Shelf
set_option linter.unusedVariables false
set_option linter.unusedSimpArgs false

set_option maxRecDepth 100000 in
set_option maxHeartbeats 2000000 in
theorem first_bad (x : Int) (A : Option Addr) (n c : Nat) (ls : List (List Int)) (A' : Option Addr) (n' c' : Nat) (ts : List Stp) (q : Int) (w : World) (h : RL w A n c ls) (h' : RS w A' n' c' ts) (hn' : n' ≤ 1000000) (hE : propE x ls ts ≠ 0) :
    Calls Try.prog 13 #[.agg #[.int .i64 x, .slice A n c], .slice A' n' c', .int .i64 q] w (FirstP [] 0 (propE x ls ts) w) := by
  have hcall := pcheck_val (propE x ls ts) x A n c ls A' n' c' ts _ (h.alloc (.cells #[.int .i64 x, .slice A n c] 24)) (h'.alloc (.cells #[.int .i64 x, .slice A n c] 24)) hn' rfl
  generalize propE x ls ts = r at hcall hE ⊢
  have hr : (r != 0) = true := by simpa using hE
  clear hE h h'
  go_enter Try.func13, Try.ntmps13
  go_wp2_with fail
  go_step3
  go_wp2_with (go_at_call 20; refine hcall.mono ?_; clear hcall; rintro e w1 ⟨rfl, hb⟩)
  try rw [Exit.noGoto_ret]
  go_ret3
  exact FirstP.none (((Below.refl _ w).alloc (Nat.le_refl _) _).trans (hb.mono (by simp)))

/-- what stands behind the index's making -/
structure Fi (w V : World) (x : Int) (A : Option Addr) (n c : Nat) (A' : Option Addr) (n' c' : Nat) (ts : List Stp) (A2 : Option Addr) (c2 bi Bk : Nat) : Prop where
  two : Two V w.heap.size (.int .i64 x) (.slice A n c)
  box : BoxK V Bk x A n c A' n' c' A2 n' c2 (some bi)
  lev : RI V A2 n' c2 (levL ts)
  map : IntM V bi n' (atF ts)
  lo : w.heap.size ≤ bi
  lok : w.heap.size ≤ Bk
  below : Below w.heap.size w V
theorem Fi.grow {w V V' : World} {x : Int} {A : Option Addr} {n c : Nat} {A' : Option Addr} {n' c' : Nat} {ts : List Stp} {A2 : Option Addr} {c2 bi Bk : Nat} (h : Fi w V x A n c A' n' c' ts A2 c2 bi Bk) (hb : Below V.heap.size V V') : Fi w V' x A n c A' n' c' ts A2 c2 bi Bk :=
  ⟨h.two.below hb, h.box.below hb, h.lev.below hb, h.map.below hb h.map.lt, h.lo, h.lok, h.below.trans (hb.mono h.below.size)⟩
theorem fi_of {w w1 V0 : World} {x : Int} {A : Option Addr} {n c : Nat} {A' : Option Addr} {n' c' : Nat} {ts : List Stp} {A2 : Option Addr} {c2 bi : Nat} (hn : ts.length = n') (hb : Below w.heap.size w w1) (ht : Two w1 w.heap.size (.int .i64 x) (.slice A n c)) (hl : Lkd w1 V0 ts A2 n' c2 bi n') :
    Fi w (V0.alloc (.cells #[.int .i64 x, .slice A n c, .slice A' n' c', .slice A2 n' c2, .map (some bi)] 58)) x A n c A' n' c' ts A2 c2 bi V0.heap.size := by
  have hs := hb.size
  have hs2 := hl.below.size
  have hfr := hl.fresh
  refine ⟨(ht.below hl.below).below ((Below.refl _ _).alloc (Nat.le_refl _) _), BoxK.new V0 x A n c A' n' c' A2 n' c2 (some bi), hl.lev.alloc _, ?_, by omega, by omega, (hb.trans (hl.below.mono hs)).alloc (by omega) _⟩
  have := hl.map
  rw [show atTo ts n' = atF ts by unfold atF; rw [hn]] at this
  exact this.alloc _

set_option maxRecDepth 100000 in
set_option maxHeartbeats 4000000 in
theorem first_arg (x : Int) (A : Option Addr) (n c : Nat) (ls : List (List Int)) (A' : Option Addr) (n' c' : Nat) (ts : List Stp) (q : Int) (w : World) (h : RL w A n c ls) (h' : RS w A' n' c' ts) (hn' : n' ≤ 1000000) (hE : propE x ls ts = 0)
    (hq : q < 0 ∨ (ls.length : Int) ≤ q ∨ deadB ts (ell ls q.toNat) = false) :
    Calls Try.prog 13 #[.agg #[.int .i64 x, .slice A n c], .slice A' n' c', .int .i64 q] w (FirstP [] 0 1 w) := by
  have hcall := pcheck_val 0 x A n c ls A' n' c' ts _ (h.alloc (.cells #[.int .i64 x, .slice A n c] 24)) (h'.alloc (.cells #[.int .i64 x, .slice A n c] 24)) hn' hE
  have H := Lib.hid h
  have H' := Lib.hid h'
  have BX := Lib.hid (Two.new w (.int .i64 x) (.slice A n c))
  have HB0 := Lib.hid ((Below.refl w.heap.size w).alloc (Nat.le_refl _) (.cells #[.int .i64 x, .slice A n c] 24))
  obtain ⟨hce, htr⟩ := propE_zero hE
  have HK := Lib.hid (checkE_lits hce)
  have hxx := checkE_n hce
  have HT := Lib.hid (trail_tr htr)
  have hlen := h.len
  rw [hlen] at hq
  have HLN := Lib.hid hlen
  have HTS := Lib.hid h'.len
  clear h h' hE hlen hce htr
  go_enter Try.func13, Try.ntmps13
  go_wp2_with fail
  go_step3
  go_upto_region 5 with (first
    | (go_at_call 20; refine hcall.mono ?_; clear hcall; rintro e w1 ⟨rfl, hb⟩; have HB1 := Lib.hid (HB0.out.trans (hb.mono HB0.out.size)); have BX1 := Lib.hid (BX.out.below hb); have t0 := BX1.out.c0; have t1 := BX1.out.c1; clear hb)
    | (go_at_call 31; refine (looked_any x A n c ls A' n' c' ts _ (H'.out.below HB1.out) HT.out hxx.2 hn').mono ?_; rintro e V0 ⟨A2, c2, bi, rfl, hlk⟩; have FI := Lib.hid (fi_of (A' := A') (c' := c') HTS.out HB1.out BX1.out hlk); unfold lookV; clear hlk))
  generalize hW : V0.alloc (.cells #[.int .i64 x, .slice A n c, .slice A' n' c', .slice A2 n' c2, .map (some bi)] 58) = V at *
  generalize hBk : V0.heap.size = Bk at *
  clear hW hBk t0 t1
  have g1 := fun u : Gr V => u.cell (p := ⟨w.heap.size, 1, none⟩) FI.out.two.lt FI.out.two.c1
  by_cases q0 : q < 0
  · clear hq
    refine wp_region_grow (by kernel_rfl) (by kernel_rfl) ?_
    repeat (go_big_quiet_step (fail))
    refine wpQuiet_nil ?_
    rintro V2 ⟨⟨_, hb2⟩, rfl⟩
    have HB2 := Lib.hid (FI.out.grow hb2).below
    clear hb2 g1
    go_wp2_with fail
    try rw [Exit.noGoto_ret]
    go_ret3
    exact FirstP.none HB2.out
  · have q0' : (0 : Int) ≤ q := by omega
    have d0 : decide (q < 0) = false := by simpa using q0
    by_cases q1 : (n : Int) ≤ q
    · clear hq
      refine wp_region_grow (by kernel_rfl) (by kernel_rfl) ?_
      repeat (go_big_quiet_step (fail))
      refine wpQuiet_nil ?_
      rintro V2 ⟨⟨_, hb2⟩, rfl⟩
      have HB2 := Lib.hid (FI.out.grow hb2).below
      clear hb2 g1
      go_wp2_with fail
      try rw [Exit.noGoto_ret]
      go_ret3
      exact FirstP.none HB2.out
    · obtain ⟨j, rfl⟩ : ∃ j : Nat, q = j := ⟨q.toNat, by omega⟩
      have hd : deadB ts (ell ls j) = false := by
        rcases hq with h1 | h1 | h1
        · omega
        · omega
        · rwa [Int.toNat_natCast] at h1
      have hjn : j < n := by omega
      have HD := Lib.hid hd
      obtain ⟨b2, off2, rfl, hb2, hc2⟩ := (H.out.below FI.out.below).cells (by omega)
      obtain ⟨a3, n3, c3, hc3, hr3⟩ := hc2 j (by omega)
      have HR3 := Lib.hid hr3
      have HO3 := Lib.hid (HK.out _ (ell_mem (ls := ls) (k := j) (by rw [HLN.out]; omega)))
      have d1 : decide ((n : Int) ≤ (j : Int)) = false := by simpa using q1
      have d2 : decide (n ≤ j) = false := by simpa using hjn
      have g2 := fun u : Gr V => u.cell (p := ⟨Bk, 0, none⟩) FI.out.box.lt FI.out.box.c0
      have g3 := fun u : Gr V => u.cell (p := ⟨Bk, 1, none⟩) FI.out.box.lt FI.out.box.c1
      have g4 := fun u : Gr V => u.cell (p := ⟨Bk, 2, none⟩) FI.out.box.lt FI.out.box.c2
      have g5 := fun u : Gr V => u.cell (p := ⟨Bk, 3, none⟩) FI.out.box.lt FI.out.box.c3
      have g6 := fun u : Gr V => u.cell (p := ⟨Bk, 4, none⟩) FI.out.box.lt FI.out.box.c4
      have g7 := fun u : Gr V => u.cell (p := ⟨b2, off2 + j, none⟩) hb2 hc3
      clear hq hd hc2 hr3
      refine wp_region_grow (by kernel_rfl) (by kernel_rfl) ?_
      repeat (go_big_quiet_step ((go_at_call 32; exact Gr.call _ (dead_any x (some ⟨b2, off2, none⟩) n c A' n' c' A2 n' c2 bi n' ts a3 n3 c3 (ell ls j) _ (FI.out.map.below (Gr.ok _) FI.out.map.lt) (HR3.out.below (Gr.ok _)) HO3.out false HD.out))))
      refine wpQuiet_nil ?_
      rintro V2 ⟨⟨_, hb9⟩, rfl⟩
      have HB2 := Lib.hid (FI.out.grow hb9).below
      clear hb9 g1 g2 g3 g4 g5 g6 g7
      go_wp2_with fail
      try rw [Exit.noGoto_ret]
      go_ret3
      exact FirstP.none HB2.out

end Go.Proofs.Ytenpenelikpeeaa
