/-
  First of the package learn: a clause that is false. No condition.
-/
import Derived.Test.YtenpenelikpeeaaZC15

namespace Go.Proofs.Ytenpenelikpeeaa
open Go.RowKit Go.Shelf
set_option linter.unusedVariables false
set_option linter.unusedSimpArgs false
attribute [local go_sem] Oper.semAt_some

theorem below_mid {n : Nat} {w W V : World} (h1 : Below n w W) (h2 : Below n w V) (hs : W.heap.size ≤ V.heap.size) : Below n W V :=
  ⟨h2.os.trans h1.os.symm, h2.tape.trans h1.tape.symm, h2.output.trans h1.output.symm, hs, fun k hk => (h2.block k hk).trans (h1.block k hk).symm⟩
theorem kpb_of {w W V : World} {i j Bs : Nat} (h1 : Below w.heap.size w W) (h2 : Below w.heap.size w V) (hk : Kept2 W V i j) (hi : Bs ≠ i) (hj : Bs ≠ j) : KpB w.heap.size Bs W V :=
  ⟨below_mid h1 h2 hk.size, fun v hv => by
    obtain ⟨o, ho, _⟩ := cells_of_cell hv
    exact (World.cell?_of_block (hk.same Bs (Array.getElem?_eq_some_iff.1 ho).1 hi hj)).trans hv⟩
theorem keepsFrom_kept2 {W V : World} {i j D : Nat} (hk : Kept2 W V i j) (hi : i < D) (hj : j < D) : KeepsFrom D W V :=
  ⟨hk.size, fun k o hD ho _ => (hk.same k (Array.getElem?_eq_some_iff.1 ho).1 (by omega) (by omega)).trans ho⟩

/-- First's state at the head of a round over the trail backwards -/
def LpI (w : World) (F : Fx) (B13 Bf n3 : Nat) (ls : List (List Int)) (S0 : List Int) (pre : List Nat) (V : World) : Prop :=
  ∃ S, FT w V F B13 Bf (n3 + pre.length * 1000) S (hiN F.ts F.last S : Int) 0 ∧ Road ls F.ts F.last S0 (F.n' - pre.length) S ∧ pre.length ≤ F.n'
def LpX (w : World) (F : Fx) (B13 Bf : Nat) (R : List Int) (z : Int) (c : Code) (pre : List Nat) (V : World) : Prop :=
  c = .exit 0 ∧ ∃ m, m ≤ 1000000 ∧ FT w V F B13 Bf m R 1 z
theorem FT.mono {w V : World} {F : Fx} {B13 Bf m m' : Nat} {S : List Int} {hi fi : Int} (h : FT w V F B13 Bf m S hi fi) (hm : m ≤ m') : FT w V F B13 Bf m' S hi fi := { h with fu := { h.fu with fs := h.fu.fs.mono hm } }
theorem lpI_next {w V : World} {F : Fx} {B13 Bf n3 m k : Nat} {ls : List (List Int)} {S0 S : List Int} {pre : List Nat} (h : FT w V F B13 Bf m S (hiN F.ts F.last S : Int) 0) (hm : m ≤ n3 + pre.length * 1000 + 1000) (hr : Road ls F.ts F.last S0 k S) (hk : F.n' - (pre.length + 1) = k) (hl : pre.length + 1 ≤ F.n') :
    LpI w F B13 Bf n3 ls S0 (pre ++ [k]) V := by
  have e : (pre ++ [k]).length = pre.length + 1 := by simp
  refine ⟨S, by rw [e]; exact h.mono (by omega), by rw [e, hk]; exact hr, by rw [e]; exact hl⟩
theorem lpI_own {w : World} {F : Fx} {B13 Bf n3 D : Nat} {ls : List (List Int)} {S0 : List Int} (hL : Low w F B13 Bf D) : OwnFrom D (LpI w F B13 Bf n3 ls S0) := by
  rintro pre W W' row ⟨S, h1, h2, h3⟩ hg hr
  exact ⟨S, h1.far hL hg (fun r e => (hr r e).1), h2, h3⟩
theorem lpX_own {w : World} {F : Fx} {B13 Bf D : Nat} {R : List Int} {z : Int} (hL : Low w F B13 Bf D) (c : Code) : OwnFrom D (LpX w F B13 Bf R z c) := by
  rintro pre W W' row ⟨h0, m, h1, h2⟩ hg hr
  exact ⟨h0, m, h1, h2.far hL hg (fun r e => (hr r e).1)⟩

set_option maxRecDepth 100000 in
set_option maxHeartbeats 8000000 in
theorem first_ok (x : Int) (A : Option Addr) (n c : Nat) (ls : List (List Int)) (A' : Option Addr) (n' c' : Nat) (ts : List Stp) (j : Nat) (w : World) (h : RL w A n c ls) (h' : RS w A' n' c' ts) (hn' : n' ≤ 900) (hE : propE x ls ts = 0) (hj : j < n) (hd : deadB ts (ell ls j) = true) (hlong : ∀ l ∈ ls, l.length ≤ 1000) (zs : List Int) (bk e' : Int)
    (hz : lastT ts = 0 ∨ hiN ts (lastT ts) (start ls j) = 0 → zs = [] ∧ bk = 0 ∧ e' = 200)
    (hz2 : ¬ (lastT ts = 0 ∨ hiN ts (lastT ts) (start ls j) = 0) → zs = risL (highs ts (roadEnd ls ts j)) ∧ bk = backL ts (firstX ls ts j) (roadEnd ls ts j) ∧ e' = 0) :
    Calls Try.prog 13 #[.agg #[.int .i64 x, .slice A n c], .slice A' n' c', .int .i64 j] w (FirstP zs bk e' w) := by
  have hcall := pcheck_val 0 x A n c ls A' n' c' ts _ (h.alloc (.cells #[.int .i64 x, .slice A n c] 24)) (h'.alloc (.cells #[.int .i64 x, .slice A n c] 24)) (by omega) hE
  have H := Lib.hid h
  have H' := Lib.hid h'
  have BX := Lib.hid (Two.new w (.int .i64 x) (.slice A n c))
  have HB0 := Lib.hid ((Below.refl w.heap.size w).alloc (Nat.le_refl _) (.cells #[.int .i64 x, .slice A n c] 24))
  obtain ⟨hce, htr⟩ := propE_zero hE
  have HK := Lib.hid (checkE_lits hce)
  have hxx := checkE_n hce
  have HT := Lib.hid (trail_tr htr)
  have HLN := Lib.hid h.len
  have HTS := Lib.hid h'.len
  have HLONG := Lib.hid hlong
  have HD := Lib.hid hd
  have hnb := h.small
  have hmm := @run_makeMap Try.prog
  have HZ := Lib.hid hz
  have HZ2 := Lib.hid hz2
  obtain ⟨b2, off2, rfl, hb2, hc2⟩ := h.cells (by omega)
  have HC2 := Lib.hid hc2
  obtain ⟨a3, n3, c3, hc3, hr3⟩ := hc2 j (by omega)
  have hn3 : n3 ≤ 1000 := by rw [← hr3.len]; exact hlong _ (ell_mem (by rw [h.len]; omega))
  have HR3 := Lib.hid hr3
  have HO3 := Lib.hid (HK.out _ (ell_mem (ls := ls) (k := j) (by rw [HLN.out]; omega)))
  have HC3 := Lib.hid hc3
  clear h h' hE hce htr hlong hd hz hz2 hc2 hr3 hc3
  refine calls_of_wp_marks Try.func13 rfl ?_
  simp only [Try.ntmps13, List.size_toArray, List.length_cons, List.length_nil, Nat.reduceAdd, Nat.reduceSub, Array.replicate_succ, Array.replicate_zero, List.push_toArray, List.append_toArray, List.nil_append, List.cons_append]
  go_wp2_with fail
  go_step3
  go_upto_region 5 with (first
    | (go_at_call 20; refine hcall.mono ?_; clear hcall; rintro e w1 ⟨rfl, hb⟩; have HB1 := Lib.hid (HB0.out.trans (hb.mono HB0.out.size)); have BX1 := Lib.hid (BX.out.below hb); have t0 := BX1.out.c0; have t1 := BX1.out.c1; clear hb)
    | (go_at_call 31; refine (looked_any x (some ⟨b2, off2, none⟩) n c ls A' n' c' ts _ (H'.out.below HB1.out) HT.out hxx.2 (by omega)).mono ?_; rintro e V0 ⟨A2, c2, bi, rfl, hlk⟩; have FI := Lib.hid (fi_of (A' := A') (c' := c') HTS.out HB1.out BX1.out hlk); unfold lookV; clear hlk))
  generalize hW : V0.alloc (.cells #[.int .i64 x, .slice (some ⟨b2, off2, none⟩) n c, .slice A' n' c', .slice A2 n' c2, .map (some bi)] 58) = V at *
  generalize hBk : V0.heap.size = Bk at *
  clear hW hBk t0 t1
  have hbV : b2 < V.heap.size := Nat.lt_of_lt_of_le hb2 FI.out.below.size
  have hc3 := (FI.out.below.cell (p := ⟨b2, off2 + j, none⟩) hb2).trans HC3.out
  have d0 : decide ((j : Int) < 0) = false := by simp
  have d1 : decide ((n : Int) ≤ (j : Int)) = false := by simpa using hj
  have d2 : decide (n ≤ j) = false := by simpa using hj
  have g1 := fun u : Gr V => u.cell (p := ⟨w.heap.size, 1, none⟩) FI.out.two.lt FI.out.two.c1
  have g2 := fun u : Gr V => u.cell (p := ⟨Bk, 0, none⟩) FI.out.box.lt FI.out.box.c0
  have g3 := fun u : Gr V => u.cell (p := ⟨Bk, 1, none⟩) FI.out.box.lt FI.out.box.c1
  have g4 := fun u : Gr V => u.cell (p := ⟨Bk, 2, none⟩) FI.out.box.lt FI.out.box.c2
  have g5 := fun u : Gr V => u.cell (p := ⟨Bk, 3, none⟩) FI.out.box.lt FI.out.box.c3
  have g6 := fun u : Gr V => u.cell (p := ⟨Bk, 4, none⟩) FI.out.box.lt FI.out.box.c4
  have g7 := fun u : Gr V => u.cell (p := ⟨b2, off2 + j, none⟩) hbV hc3
  refine wp_region_grow (by kernel_rfl) (by kernel_rfl) ?_
  repeat (go_big_quiet_step ((go_at_call 32; exact Gr.call _ (dead_any x (some ⟨b2, off2, none⟩) n c A' n' c' A2 n' c2 bi n' ts a3 n3 c3 (ell ls j) _ (FI.out.map.below (Gr.ok _) FI.out.map.lt) (HR3.out.below (FI.out.below.trans ((Gr.ok _).mono FI.out.below.size))) HO3.out true HD.out))))
  refine wpQuiet_nil ?_
  rintro V1 ⟨⟨_, hb9⟩, rfl⟩
  have FI1 := Lib.hid (FI.out.grow hb9)
  clear hb9 g1 g2 g3 g4 g5 g6 g7 d0 d1 d2 hc3
  have q2 := FI1.out.box.c3
  have ql := FI1.out.box.lt
  have hlast : 0 < n' → ∃ bl ol, A2 = some ⟨bl, ol, none⟩ ∧ bl < V1.heap.size ∧ V1.cell? ⟨bl, ol + (n' - 1), none⟩ = some (.int .i64 (lastT ts)) := fun h0 => by
    obtain ⟨bl, ol, e1, e2, e3⟩ := FI1.out.lev.cells h0
    refine ⟨bl, ol, e1, e2, ?_⟩
    rw [e3 (n' - 1) (by omega), lastT_lev (by rw [HTS.out]; exact h0), HTS.out, levL_at (by rw [HTS.out]; omega)]
  have HLA := Lib.hid hlast
  clear hlast
  go_upto_if 49 with (fail)
  go_cut [50] from 50 to 56 (fun _ W => W = V1.alloc (.cells #[.int .i64 (lastT ts)] 3))
  case first =>
    by_cases h0 : 0 < n'
    · obtain ⟨bl, ol, rfl, hbl, hcl⟩ := HLA.out h0
      have e1 : (n' : Int) - 1 = ((n' - 1 : Nat) : Int) := by omega
      go_wp2_with fail
      go_meet
      rfl
    · obtain rfl : n' = 0 := by omega
      have e1 : Hid (lastT ts = 0) := Lib.hid (by unfold lastT cntD; rw [List.eq_nil_of_length_eq_zero HTS.out]; rfl)
      go_wp2_with fail
      go_meet
      rw [e1.out]
  case rest =>
    subst hcut
    go_upto_region 12 with fail
    have FU0 := Lib.hid (fu_made FI1.out (lastT ts))
    generalize hB13 : V1.heap.size + 1 + 1 + 1 + 1 = B13 at *
    generalize hBh : V1.heap.size + 1 + 1 + 1 = Bh at *
    generalize hBm : V1.heap.size + 1 + 1 = Bm at *
    generalize hb0 : V1.heap.size + 1 = b0 at *
    generalize hBl : V1.heap.size = Bl at *
    generalize hV3 : ((((V1.alloc (.cells #[.int .i64 (lastT ts)] 3)).alloc (.map #[] 0)).alloc (.cells #[.map (some b0)] 61)).alloc (.cells #[.int .i64 0] 3)).alloc (.cells #[.func (.func 33) #[] #[.pointer (some ⟨Bm, 0, none⟩), .pointer (some ⟨Bk, 0, none⟩), .pointer (some ⟨Bl, 0, none⟩), .pointer (some ⟨Bh, 0, none⟩)]] 63) = V3 at *
    clear hV3 hB13 hBh hBm hb0 hBl HLA FI1 FI q2 ql
    have q1 : V3.cell? ⟨B13, 0, none⟩ = some (.func (.func 33) #[] #[.pointer (some ⟨Bm, 0, none⟩), .pointer (some ⟨Bk, 0, none⟩), .pointer (some ⟨Bl, 0, none⟩), .pointer (some ⟨Bh, 0, none⟩)]) := FU0.out.fn.cell
    have q2 : V3.cell? ⟨w.heap.size, 1, none⟩ = some (.slice (some ⟨b2, off2, none⟩) n c) := FU0.out.two.c1
    have q3 := (FU0.out.fs.below.cell (p := ⟨b2, off2 + j, none⟩) hb2).trans HC3.out
    have hput := put_any w V3.drew ⟨x, some ⟨b2, off2, none⟩, n, c, A', n', c', ts, A2, c2, bi, Bk, Bm, b0, Bl, Bh, lastT ts⟩ 0 [] a3 n3 c3 (ell ls j) 0 (FU0.out.fs.grow ((Below.refl _ _).drew)) (by simp) HR3.out HO3.out (fun y hy _ => by have := dead_under.1 HD.out y hy; exact this) (by omega) (by omega)
    have hs0 : moreL [] 0 (ell ls j) = start ls j := by unfold start; rw [Int.toNat_natCast]
    rw [hs0] at hput
    clear hs0
    go_still_tail 6, (by kernel_rfl)
    go_upto_region 13 with (go_at_call 33; refine hput.mono ?_; clear hput; rintro e V4 ⟨rfl, hfs4, hk4⟩; have FU4 := Lib.hid ((FU0.out.grow ((Below.refl _ _).drew)).kept2 hfs4 hk4); clear hfs4 hk4 q1 q2 q3)
    have r1 : V4.cell? ⟨Bl, 0, none⟩ = some (.int .i64 (lastT ts)) := FU4.out.fs.bl.cell
    have r2 : V4.cell? ⟨Bh, 0, none⟩ = some (.int .i64 (hiN ts (lastT ts) (start ls j))) := FU4.out.fs.bh.cell
    have hZB := FU4.out.fs.below
    obtain ⟨lv, hlv⟩ : ∃ lv, lastT ts = lv := ⟨_, rfl⟩
    obtain ⟨S0, hS0⟩ : ∃ S0, start ls j = S0 := ⟨_, rfl⟩
    obtain ⟨hn, hhn⟩ : ∃ hn, hiN ts lv S0 = hn := ⟨_, rfl⟩
    rw [hlv] at HZ HZ2 FU4 r1 r2
    rw [hS0] at HZ HZ2 FU4 r2
    rw [hhn] at HZ HZ2 FU4 r2
    have HLV := Lib.hid hlv
    have HS0 := Lib.hid hS0
    have HHN := Lib.hid hhn
    have HZB := Lib.hid hZB
    clear hlv hS0 hhn hZB
    by_cases h1 : lv = 0
    · obtain ⟨rfl, rfl, rfl⟩ := HZ.out (Or.inl h1)
      have h1' : (lv == 0) = true := by simpa using h1
      clear h1
      go_wp2_with fail
      try rw [Exit.noGoto_ret]
      refine postM_ret (results_tmp3 rfl _ _ _) rfl ?_
      exact FirstP.none HZB.out
    · by_cases h2 : hn = 0
      · obtain ⟨rfl, rfl, rfl⟩ := HZ.out (Or.inr h2)
        have h1' : (lv == 0) = false := by simpa using h1
        have h2' : ((hn : Int) == 0) = true := by simpa using h2
        clear h1 h2
        go_wp2_with fail
        try rw [Exit.noGoto_ret]
        refine postM_ret (results_tmp3 rfl _ _ _) rfl ?_
        exact FirstP.none HZB.out
      · obtain ⟨hz1, hz2, rfl⟩ := HZ2.out (fun h => h.elim h1 h2)
        have h1' : (lv == 0) = false := by simpa using h1
        have h2' : ((hn : Int) == 0) = false := by simpa using h2
        have HH2 := Lib.hid h2
        have HL0 := Lib.hid h1
        have HZS := Lib.hid (And.intro hz1 hz2)
        clear h1 h2 hz1 hz2
        go_wp2_with fail
        go_step3
        clear h1' h2' r1 r2
        go_wp2_with (go_at_call 35; refine (backward_any A' n' c' _).mono ?_; rintro e w' ⟨rfl, rfl⟩)
        have hV4 := FU4.out.fs.below.size
        have HA2 : Hid (0 < n' → ∀ b' off, A2 = some ⟨b', off, none⟩ → b' ≠ V4.heap.size) := Lib.hid (fun h0 b' off e => by
          obtain ⟨q, o, e1, e2, _⟩ := FU4.out.fs.lev.cells h0
          have e4 : A2 = some ⟨q, o, none⟩ := e1
          rw [e4] at e
          simp only [Option.some.injEq, Addr.mk.injEq] at e
          omega)
        have FT0 : Hid (FT w ((V4.alloc (.cells #[.int .i64 0] 3)).alloc (.cells #[.slice A' n' c'] 25)) ⟨x, some ⟨b2, off2, none⟩, n, c, A', n', c', ts, A2, c2, bi, Bk, Bm, b0, Bl, Bh, lv⟩ B13 V4.heap.size n3 S0 hn 0) := Lib.hid (by
          have h := (FU4.out.grow (W' := V4.alloc (.cells #[.int .i64 0] 3)) ((Below.refl _ _).alloc (Nat.le_refl _) _))
          rw [Nat.zero_add] at h
          exact FT.grow ⟨h, Boxed.new _ _ _, Nat.ne_of_gt FU4.out.fs.bl.lt, Nat.ne_of_gt FU4.out.fs.bh.lt, hV4⟩ ((Below.refl _ _).alloc (Nat.le_refl _) _))
        have hBs : Boxed ((V4.alloc (.cells #[.int .i64 0] 3)).alloc (.cells #[.slice A' n' c'] 25)) (V4.heap.size + 1) 25 (.slice A' n' c') := boxed_at _ _ _ _ (by simp)
        obtain ⟨Bf, hBf⟩ : ∃ Bf, V4.heap.size = Bf := ⟨_, rfl⟩
        have hsz : ((V4.alloc (.cells #[.int .i64 0] 3)).alloc (.cells #[.slice A' n' c'] 25)).heap.size = Bf + 2 := by simp [hBf]
        rw [hBf] at FT0 hBs HA2
        rw [hBf]
        generalize hW5 : (V4.alloc (.cells #[.int .i64 0] 3)).alloc (.cells #[.slice A' n' c'] 25) = W5 at *
        clear hW5 hBf FU4 hV4
        have HBS := Lib.hid hBs
        have HSZ := Lib.hid hsz
        have LW2 := Lib.hid FT0.out.low
        have hroad0 : Road ls ts lv S0 n' S0 := ⟨by rw [← HTS.out], by rw [← HTS.out, ← HS0.out]; exact start_under (by rw [Int.toNat_natCast]; exact HD.out), by rw [← HS0.out]; exact start_nodup _ _, by rw [HHN.out]; have := HH2.out; omega⟩
        have HR0 := Lib.hid hroad0
        clear hBs hsz hroad0
        refine (wpIn_wide (n := 6)).1 ?_
        refine wpIn_rangeFunc_next (F := Fence.wide) (w0 := W5) rfl (by omega) (gf := 65) (lb := #[.pointer (some ⟨Bf + 1, 0, none⟩)]) rfl trivial enters65
          (back_next Fence.wide (6 - 1) trivial rfl (by omega) (Bf + 1) A' n' c' ts w W5 H'.out (by omega) FT0.out.fu.fs.below HBS.out.lt HBS.out.cell)
          (fun h k => KpB.trans h k) (fun V l o o' hl hv ho _ => ⟨belowK_b (w := W5) FT0.out.fu.fs.below.size V l o o' hl hv ho (by assumption), fun v hv' => (World.cell?_of_block (w := V) (World.putObj_heap_other (by have := HSZ.out; show Bf + 1 ≠ l; omega))).trans hv'⟩) (Below.refl _ _) (fun _ => rfl)
          (LpI w ⟨x, some ⟨b2, off2, none⟩, n, c, A', n', c', ts, A2, c2, bi, Bk, Bm, b0, Bl, Bh, lv⟩ B13 Bf n3 ls S0) (LpX w ⟨x, some ⟨b2, off2, none⟩, n, c, A', n', c', ts, A2, c2, bi, Bk, Bm, b0, Bl, Bh, lv⟩ B13 Bf (roadEnd ls ts j) (firstX ls ts j))
          (lpI_own LW2.out) (lpX_own LW2.out) ⟨S0, by rw [List.length_nil, Nat.zero_mul, Nat.add_zero, show hiN ts lv S0 = hn from HHN.out]; exact FT0.out, by rw [List.length_nil]; exact HR0.out, Nat.zero_le _⟩
          ?a1 ?w1 ?assign ?kw1 ?body ?done ?stop
        case assign =>
          intro l pre k W K hI hnx hK
          unfold stepV
          gi_wp2
          exact hK
        case kw1 =>
          rintro pre k W ⟨S, hft, _, _⟩
          exact ⟨(KeepsOthers.alloc W _).from _, (Below.refl _ W).alloc hft.fu.fs.below.size _, fun v hv => by
            obtain ⟨o, ho, _⟩ := cells_of_cell hv
            exact (World.cell?_of_block (Below.heap_alloc _ _ _ (Array.getElem?_eq_some_iff.1 ho).1)).trans hv⟩
        case body =>
          rintro l pre k W0 W ⟨S, hft, hroad, hpl⟩ ⟨o, hW, ho⟩ ⟨hpre, hk⟩ hlt0
          have hlen : pre.length = n' - (k + 1) := by rw [hpre, downTo_len]
          have ekk : n' - pre.length = k + 1 := by omega
          have hpl2 : pre.length ≤ 1000 := by omega
          dsimp only at hroad
          rw [ekk] at hroad
          have g1 : W0.grownBy (W0.alloc (.cells #[.int .i64 (stp ts k).lit, .int .i64 (stp ts k).why] 41)) none := World.grownBy_alloc W0 _ none
          have g2 : (W0.alloc (.cells #[.int .i64 (stp ts k).lit, .int .i64 (stp ts k).why] 41)).grownBy W (some (W5.heap.size + 1)) := by rw [hW]; exact grownBy_putObj' _ _ _
          have ft := ((hft.far LW2.out g1 (fun r e => by cases e)).far LW2.out g2 (fun r e => by cases e; omega))
          have hbs : BoxS W W0.heap.size (stp ts k) := (BoxS.new W0 _ _).kept g2 (by simp; omega)
          have hk0 : Kept2 W0 W (W5.heap.size + 1) (W5.heap.size + 1) := (Kept2.grown g1 (Or.inr (Or.inr rfl))).trans (Kept2.grown g2 (Or.inl rfl))
          have HFT := Lib.hid ft
          have HRD := Lib.hid hroad
          have HPR := Lib.hid hpre
          clear hft hroad hpre ho hW g1 g2 hk0
          have hkt : k < ts.length := by rw [HTS.out]; exact hk
          have hlo := isB_iff.1 (HT.out.lit k hkt)
          have hneg := lit_neg' (x := (stp ts k).lit) (by omega) (by omega)
          have c0 := hbs.c0
          have c1 := hbs.c1
          have c2' : W.cell? ⟨Bm, 0, none⟩ = some (.map (some b0)) := HFT.out.fu.fs.bm.cell
          have c3' : W.cell? ⟨Bh, 0, none⟩ = some (.int .i64 (hiN ts lv S)) := HFT.out.fu.fs.bh.cell
          have hlk := HFT.out.fu.fs.set.look Try.underlying61 (x := -(stp ts k).lit) (wfI_lit (by omega) (by omega))
          dsimp only at hlk
          have HBX := Lib.hid hbs
          have HKT := Lib.hid hkt
          obtain ⟨hl, hhl⟩ : ∃ hl, hiN ts lv S = hl := ⟨_, rfl⟩
          rw [hhl] at c3'
          have HHL := Lib.hid hhl
          clear hbs hkt hhl
          obtain ⟨lt, hlt⟩ : ∃ lt, (stp ts k).lit = lt := ⟨_, rfl⟩
          obtain ⟨wy, hwy⟩ : ∃ wy, (stp ts k).why = wy := ⟨_, rfl⟩
          rw [hlt] at c0 hneg hlk hlo
          rw [hwy] at c1
          have HLT := Lib.hid hlt
          have HWY := Lib.hid hwy
          clear hlt hwy
          have hbf := HFT.out.bf.cell
          have hff := HFT.out.bf.frozen
          have hL := LW2.out
          have hbW0 : b0 < W5.heap.size := hL.b
          have hhW0 : Bh < W5.heap.size := hL.h
          have hfW0 : Bf < W5.heap.size := hL.f
          have hBs1 : Bf + 1 ≠ b0 := boxed_ne_map FT0.out.fu.fs.set HBS.out
          have hBs2 : Bf + 1 ≠ Bh := boxed_ne_boxed HBS.out FT0.out.fu.fs.bh (by decide)
          have hnlev : lv = levAt ts (ts.length - 1) := by rw [← HLV.out]; exact lastT_lev (by have := HKT.out; omega)
          have HNL := Lib.hid hnlev
          have hxe : n' - (pre.length + 1) = k := by omega
          have hpl3 : pre.length + 1 ≤ n' := by omega
          clear hnlev hL
          cases hin : hasB S (-lt) with
          | false =>
            rw [hin] at hlk
            have HIN := Lib.hid hin
            clear hin
            gi_wp2
            exact ⟨KeepsFrom.refl _ _, KpB.refl _ _ _, lpI_next (F := ⟨x, some ⟨b2, off2, none⟩, n, c, A', n', c', ts, A2, c2, bi, Bk, Bm, b0, Bl, Bh, lv⟩) (HFT.out) (by omega) (HRD.out.stay HT.out HNL.out HKT.out (by rw [HLT.out]; exact HIN.out)) hxe hpl3⟩
          | true =>
            rw [hin] at hlk
            have HIN := Lib.hid hin
            clear hin
            by_cases h1 : hl = 1
            · subst h1
              gi_wp2
              obtain ⟨d1, d2⟩ := HRD.out.done HT.out HNL.out HKT.out (by rw [HLT.out]; exact HIN.out) HHL.out
              rw [HLT.out] at d2
              have hend : roadEnd ls ts j = S := by unfold roadEnd; rw [HLV.out, HS0.out]; exact d1
              refine ⟨KeepsFrom.of_grownBy (grownBy_setCell' _ _ _) (fun j e => by cases e; exact hfW0), rfl, n3 + pre.length * 1000, by omega, ?_⟩
              have hfx : firstX ls ts j = -lt := by unfold firstX; rw [hend, HLV.out]; exact d2
              rw [hend, hfx]
              have hq := HFT.out
              try dsimp only at hq
              rw [HHL.out] at hq
              exact hq.setFi HA2.out _
            · have h1' : ((hl : Int) == 1) = false := by rw [beq_eq_false_iff_ne]; omega
              obtain ⟨e1, e2, e3⟩ := HRD.out.next HT.out HNL.out HKT.out (by rw [HLT.out]; exact HIN.out) (by rw [HHL.out]; exact h1)
              rw [HLT.out] at e1 e3
              rw [HWY.out] at e2
              obtain ⟨jj, rfl⟩ : ∃ jj : Nat, wy = jj := ⟨wy.toNat, by omega⟩
              have hjw := (HT.out.why k HKT.out).2
              rw [HWY.out, HLN.out] at hjw
              have hjj : jj < n := by omega
              have hpk : plc ts lt = k := by rw [← HLT.out]; exact HT.out.plc HKT.out
              have hstep : stepU ls ts S (-lt) = moreL (without S (-lt)) lt (ell ls jj) := by unfold stepU; rw [Int.neg_neg, hpk, HWY.out, Int.toNat_natCast]
              rw [hstep] at e3
              have hre := HT.out.reason k HKT.out (by rw [HWY.out]; omega)
              rw [HWY.out, HLT.out, Int.toNat_natCast] at hre
              have hwi := without_hi (ts := ts) (n := lv) HRD.out.nd (hasB_iff.1 HIN.out) e1
              rw [HHL.out] at hwi
              obtain ⟨a4, n4, c4, hc4, hr4⟩ := HC2.out jj hjj
              have hn4 : n4 ≤ 1000 := by rw [← hr4.len]; exact HLONG.out _ (ell_mem (by rw [HLN.out]; omega))
              have hok4 := HK.out _ (ell_mem (ls := ls) (k := jj) (by rw [HLN.out]; omega))
              obtain ⟨U1, hrun, hm1, ht1⟩ := MF.drop Try.underlying61 HFT.out.fu.fs.set (x := -lt) (wfI_lit (by omega) (by omega)) 0
              rw [setF_drop] at hm1
              dsimp only at hrun hm1 ht1
              have ft1 := HFT.out.turn (S' := without S (-lt)) hm1 ht1
              dsimp only at ft1
              rw [HHL.out] at ft1
              have ft2 := ft1.setHi ((hl : Int) - 1)
              have hk2 : Kept2 W (U1.setCell ⟨Bh, 0, none⟩ (.int .i64 ((hl : Int) - 1))) b0 Bh := (Kept2.grown ht1.grown (Or.inl rfl)).trans (Kept2.grown (grownBy_setCell' _ _ _) (Or.inr (Or.inl rfl)))
              have bs1 := HBX.out.kept ht1.grown (by simp; omega)
              have u0 := bs1.c0
              rw [HLT.out] at u0
              have bs2 := bs1.kept (grownBy_setCell' U1 Bh (.int .i64 ((hl : Int) - 1))) (by simp; omega)
              have u1 := bs2.c0
              have u2 := bs2.c1
              rw [HLT.out] at u1
              rw [HWY.out] at u2
              have k1 : U1.cell? ⟨Bm, 0, none⟩ = some (.map (some b0)) := ft1.fu.fs.bm.cell
              have k2 : U1.cell? ⟨Bh, 0, none⟩ = some (.int .i64 hl) := ft1.fu.fs.bh.cell
              have k3 : U1.frozen? ⟨Bh, 0, none⟩ = false := ft1.fu.fs.bh.frozen
              have FT2 := Lib.hid ft2
              have K2 := Lib.hid hk2
              have HWI := Lib.hid hwi
              have HST := Lib.hid e3
              have HRE := Lib.hid hre
              have HR4 := Lib.hid hr4
              have HOK4 := Lib.hid hok4
              have HC4 := Lib.hid hc4
              have hl1 : 1 ≤ hl := by omega
              have hhb : hl ≤ 1000 := by
                have q1 := List.length_filter_le (fun y => lvlT ts y == lv) S
                have q2 := under_len (HRD.out.under.mono (by have := HKT.out; omega)) HRD.out.nd
                have q3 : (S.filter fun y => lvlT ts y == lv).length = hl := HHL.out
                have q4 := HTS.out
                omega
              clear h1 e1 e2 e3 hjw hpk hstep hre hwi hc4 hr4 hok4 hm1 ht1 ft1 ft2 hk2 bs1 bs2
              gi_wp2
              have p1 : (U1.setCell ⟨Bh, 0, none⟩ (.int .i64 ((hl : Int) - 1))).cell? ⟨B13, 0, none⟩ = some (.func (.func 33) #[] #[.pointer (some ⟨Bm, 0, none⟩), .pointer (some ⟨Bk, 0, none⟩), .pointer (some ⟨Bl, 0, none⟩), .pointer (some ⟨Bh, 0, none⟩)]) := FT2.out.fu.fn.cell
              have p2 : (U1.setCell ⟨Bh, 0, none⟩ (.int .i64 ((hl : Int) - 1))).cell? ⟨w.heap.size, 1, none⟩ = some (.slice (some ⟨b2, off2, none⟩) n c) := FT2.out.fu.two.c1
              have p3 := (FT2.out.fu.fs.below.cell (p := ⟨b2, off2 + jj, none⟩) hb2).trans HC4.out
              generalize hU2 : U1.setCell ⟨Bh, 0, none⟩ (.int .i64 ((hl : Int) - 1)) = U2 at *
              clear hU2 u0 k1 k2 k3 hrun c0 c1 c2' c3' hlk h1' hbf hff
              have ftd := FT2.out.grow (W' := U2.drew) ((Below.refl _ _).drew)
              rw [show ((hl : Int) - 1) = ((hiN ts lv (without S (-lt)) : Nat) : Int) by have := HWI.out; omega] at ftd
              have hput := put_any w U2.drew ⟨x, some ⟨b2, off2, none⟩, n, c, A', n', c', ts, A2, c2, bi, Bk, Bm, b0, Bl, Bh, lv⟩ (n3 + pre.length * 1000) (without S (-lt)) a4 n4 c4 (ell ls jj) lt ftd.fu.fs (by have h1 := List.length_filter_le (fun y => y != -lt) S; have h2 := under_len (HRD.out.under.mono (by have := HKT.out; omega)) HRD.out.nd; unfold without; have := HTS.out; omega) HR4.out HOK4.out (fun y hy hne => by obtain ⟨q, h1, h2⟩ := HRE.out.2 y hy hne; have h3 := HT.out.plc (k := q) (by have := HKT.out; omega); rw [h2] at h3; show plc ts (-y) < ts.length; have := HKT.out; omega) (by omega) (by omega)
              refine wpIn_round_still_tail 9 (by kernel_rfl) (by kernel_rfl) (by rintro ⟨_, _, h⟩; exact h) (by kernel_rfl) ?_
              simp only [List.take_succ_cons, List.take_zero, List.drop_succ_cons, List.drop_zero]
              repeat still_step
              refine wpStill_nil ?_
              go_wp2_with (go_at_call 33; refine hput.mono ?_; clear hput; rintro e U3 ⟨rfl, hfs3, hk3⟩)
              have ft3 := ftd.kept2 hfs3 hk3
              have hk4 := K2.out.trans ((Kept2.below b0 Bh ((Below.refl _ _).drew)).trans hk3)
              exact ⟨keepsFrom_kept2 hk4 hbW0 hhW0, kpb_of HFT.out.fu.fs.below ft3.fu.fs.below hk4 hBs1 hBs2, lpI_next (F := ⟨x, some ⟨b2, off2, none⟩, n, c, A', n', c', ts, A2, c2, bi, Bk, Bm, b0, Bl, Bh, lv⟩) ft3 (by omega) HST.out hxe hpl3⟩
        case done =>
          rintro D ys V hD rfl ⟨S, h1, h2, h3⟩ _
          rw [downTo_len] at h2
          dsimp only at h2
          rw [show n' - (n' - 0) = 0 by omega] at h2
          exact h2.never.elim
        case stop =>
          rintro D cc pre V hD hpf ⟨rfl, m, hm, hft⟩ hDm
          have HFT := Lib.hid hft
          have HDM := Lib.hid hDm
          have hDV : D < V.heap.size := (Array.getElem?_eq_some_iff.1 hDm).1
          obtain ⟨R, hR⟩ : ∃ R, roadEnd ls ts j = R := ⟨_, rfl⟩
          obtain ⟨z, hzz⟩ : ∃ z, firstX ls ts j = z := ⟨_, rfl⟩
          rw [hR, hzz] at HFT HZS
          have HRE := Lib.hid hR
          clear hft hDm hR hzz
          have c2' : V.cell? ⟨Bm, 0, none⟩ = some (.map (some b0)) := HFT.out.fu.fs.bm.cell
          have HSET : Hid (SetM V b0 m R) := Lib.hid HFT.out.fu.fs.set
          obtain ⟨hfn0, hap⟩ := fn_of HFT.out HDM.out
          have HFN0 := Lib.hid hfn0
          have HAP := Lib.hid hap
          have hlen : 0 < ts.length := by
            rcases Nat.eq_zero_or_pos ts.length with h0 | h0
            · have h1 := HLV.out
              have h2 := HFT.out.fu.fs.bl
              unfold lastT cntD at h1
              rw [List.eq_nil_of_length_eq_zero h0] at h1
              exact absurd h1.symm HL0.out
            · exact h0
          obtain ⟨hu1, hu2, hu3⟩ := road_end HT.out ts.length S0 (by rw [← HTS.out] at HR0; exact HR0.out.under) HR0.out.nd (by rw [HLV.out]; exact HR0.out.pos) (by rw [← HTS.out] at HR0; exact HR0.out.under) (Nat.le_refl _)
          have hRe : uipL ls ts (lastT ts) ts.length S0 = R := by rw [← HRE.out, ← HS0.out]; rfl
          rw [hRe] at hu1 hu2 hu3
          have hcons := under_cons HT.out hxx.2 hu1
          have HU1 := Lib.hid hu1
          have HU2 := Lib.hid hu2
          have HCO := Lib.hid hcons
          have HWF : Hid (∀ y ∈ R, wfI y = true) := Lib.hid (fun y hy => wfI_lit (hcons.1 y hy).2.1 (hcons.1 y hy).2.2)
          have hFb := HAP.out.top
          clear hfn0 hap hlen hu1 hu2 hu3 hRe hcons
          refine (wpIn_wide (n := 6)).2 ?_
          go_wp2_with (at_range; refine wpList_range_mf _ rfl _ 61 rfl Try.underlying61 b0 m _ rfl HSET.out ?_; intro w0 cnt0 hrg0 hle0 hg0 hs0)
          have LF0 := Lib.hid (lf_start (F := ⟨x, some ⟨b2, off2, none⟩, n, c, A', n', c', ts, A2, c2, bi, Bk, Bm, b0, Bl, Bh, lv⟩) HFN0.out HAP.out hg0 hrg0 HWF.out)
          clear hrg0 hle0 hg0 hs0 c2'
          go_frame
          go_loopw [7] (fun s7 W => ∃ (left : Int → Bool) (cnt : Nat) (bkv : Int), s7 = .int .i64 bkv ∧ Lf w W ⟨x, some ⟨b2, off2, none⟩, n, c, A', n', c', ts, A2, c2, bi, Bk, Bm, b0, Bl, Bh, lv⟩ Bf D V.heap.size m z R left cnt bkv) (fun _ W => W.rangeLeft b0 V.heap.size)
          case atStart => exact ⟨_, cnt0, 0, rfl, LF0.out⟩
          case round =>
            obtain ⟨left, cnt, bkv, rfl, hlf⟩ := hrel
            have HLF := Lib.hid hlf
            clear hlf
            go_wp2_with (at_next; refine wpList_next_set _ rfl _ rfl b0 V.heap.size m (R.filter fun y => left y || decide (0 < lvlT ts y)) left cnt rfl HLF.out.rng ?_ ?_ (fun x h1 h2 => hasB_iff.2 (List.mem_filter.2 ⟨HLF.out.sub x h1 h2, by rw [h2]; rfl⟩)))
            · intro hc0 hl0
              obtain ⟨hset, hbk⟩ := HLF.out.end' HWF.out hl0
              have HSE := Lib.hid hset
              have HBK := Lib.hid hbk
              have c2' : wr.cell? ⟨Bm, 0, none⟩ = some (.map (some b0)) := HLF.out.fn.bm.cell
              clear hset hbk hl0 hc0
              have hcH : Cons (highs ts R) := ⟨fun y hy => HCO.out.1 y (List.mem_filter.1 hy).1, fun y hy hn => HCO.out.2 y (List.mem_filter.1 hy).1 (List.mem_filter.1 hn).1⟩
              have HCH := Lib.hid hcH
              clear hcH
              go_wp2_with (go_at_call 36; refine (told_any b0 m (highs ts R) _ HSE.out HCH.out (by omega)).mono ?_; rintro e w5 ⟨l5, A5, c5, rfl, hri5, hasc5, hmem5, hb5⟩; have HT5 := Lib.hid (And.intro hri5 (And.intro hasc5 (And.intro hmem5 hb5))); clear hri5 hasc5 hmem5 hb5)
              try rw [Exit.noGoto_ret]
              refine postM_marks [D] rfl (by simp) (fun D' hD' => by obtain rfl := List.mem_singleton.1 hD'; exact (HT5.out.2.2.2.block _ (Array.getElem?_eq_some_iff.1 HLF.out.fn.mark).1).trans HLF.out.fn.mark) (fun W' hsh => ⟨_, results_tmp3 rfl _ _ _, ?_⟩)
              obtain ⟨hri5, hasc5, hmem5, hb5⟩ := HT5.out
              have hmk : w5.heap[D]? = some (.deferred (some [])) := (hb5.block _ (Array.getElem?_eq_some_iff.1 HLF.out.fn.mark).1).trans HLF.out.fn.mark
              have e5 : l5 = zs := by
                rw [HZS.out.1]
                refine ascV_unique _ _ hasc5 (asc_risL (HU2.out.sublist List.filter_sublist) HCH.out) (fun y => ?_)
                rw [hmem5, mem_risL]
              have e6 : bk = bkv := by
                rw [HZS.out.2, ← HBK.out]
              subst e5 e6
              refine ⟨A5, c5, rfl, ?_, hsh.below (HLF.out.fn.below.trans (hb5.mono HLF.out.fn.below.size)) (fun D' hD' => by obtain rfl := List.mem_singleton.1 hD'; have := HSZ.out; have := FT0.out.fu.fs.below.size; omega)⟩
              refine ⟨hri5.len, hri5.cap, hri5.big, hri5.cmax, fun h0 => ?_⟩
              obtain ⟨bb, oo, e1, e2, e3⟩ := hri5.cells h0
              have hne : bb ≠ D := fun e => by
                have := e3 0 h0
                rw [e] at this
                simp [World.cell?, hmk] at this
              refine ⟨bb, oo, e1, by rw [hsh.size]; exact e2, fun q hq => ?_⟩
              rw [← e3 q hq]
              exact World.cell?_of_block (hsh.block bb (by simpa using hne))
            · intro x1 w1 cnt1 hwx hlx hsx hrg1 hlt1 hg1 hs1 hen
              have hxR := HLF.out.sub x1 hwx hlx
              have HFN1 := Lib.hid (HLF.out.fn.kept HAP.out hg1 (fun r e => by cases e; exact Or.inr (Nat.le_refl _)))
              have hxo := HCO.out.1 x1 hxR
              have hxu := HU1.out x1 hxR
              have HRG1 := Lib.hid hrg1
              have HLT1 := Lib.hid hlt1
              have HM := Lib.hid (And.intro hlx hxR)
              obtain ⟨lx, hlxx⟩ : ∃ lx, lvlT ts x1 = lx := ⟨_, rfl⟩
              have HLX := Lib.hid hlxx
              have hlx0 : 0 ≤ lx := by rw [← hlxx, lvlT_of hxu]; unfold levAt; omega
              have b0c := HFN1.out.box.c0
              have b1c := HFN1.out.box.c1
              have b2c := HFN1.out.box.c2
              have b3c := HFN1.out.box.c3
              have b4c := HFN1.out.box.c4
              dsimp only at b0c b1c b2c b3c b4c
              have hcall := llevel_any x (some ⟨b2, off2, none⟩) n c A' n' c' A2 n' c2 bi n' ts x1 w1 HFN1.out.map HFN1.out.lev hxo.2.1 hxo.2.2 hxu lx hlxx
              clear hwx hlx hsx hrg1 hlt1 hg1 hs1 hxu hlxx hxR
              have q14 : w1.cell? ⟨Bf, 0, none⟩ = some (.int .i64 z) := HFN1.out.bf.cell
              by_cases hl0 : lx = 0
              · have hl0' : (lx == 0) = true := by simpa using hl0
                have HL00 := Lib.hid hl0
                clear hl0 q14
                go_wp2_with (first
                  | (go_at_call 34; refine hcall.mono ?_; clear hcall; rintro e w2 ⟨rfl, hb2'⟩; have HFN2 := Lib.hid (HFN1.out.kept HAP.out (grown_of_below hb2') (fun r e => by cases e)); have HRG2 := Lib.hid (HRG1.out.kept (grown_of_below hb2') (by simp) (by simp)); have c2' : w2.cell? ⟨Bm, 0, none⟩ = some (.map (some b0)) := HFN2.out.bm.cell; clear hb2' b0c b1c b2c b3c b4c)
                  | (at_delete; refine wpList_delete_mr _ rfl (.tmp 117) (.tmp 118) 61 rfl Try.underlying61 b0 V.heap.size m _ _ cnt1 rfl HRG2.out x1 rfl (wfI_lit hxo.2.1 hxo.2.2) ?_; intro w3 cnt3 hrg3 hle3 ht3))
                go_frame
                go_roundw
                case rel => exact ⟨_, cnt3, bkv, rfl, HLF.out.low (HFN2.out.kept HAP.out ht3.grown (fun r e => by cases e; exact Or.inl rfl)) HM.out.1 HM.out.2 hrg3 (by show lvlT ts x1 = 0; rw [HLX.out]; exact HL00.out)⟩
                case measure => rw [hrg3.left_eq, HLF.out.rng.left_eq]; have := HLT1.out; omega
              · have hl0' : (lx == 0) = false := by simpa using hl0
                have hlx1 : 0 < lx := by omega
                by_cases hxz : x1 = z
                · have hxz' : (x1 != z) = false := by simpa using hxz
                  have HXZ := Lib.hid hxz
                  clear hl0 hxz
                  go_wp2_with (go_at_call 34; refine hcall.mono ?_; clear hcall; rintro e w2 ⟨rfl, hb2'⟩; have HFN2 := Lib.hid (HFN1.out.kept HAP.out (grown_of_below hb2') (fun r e => by cases e)); have HRG2 := Lib.hid (HRG1.out.kept (grown_of_below hb2') (by simp) (by simp)); have q15 : w2.cell? ⟨Bf, 0, none⟩ = some (.int .i64 z) := HFN2.out.bf.cell; clear hb2' b0c b1c b2c b3c b4c q14)
                  go_roundw
                  case rel =>
                    have h9 := HLF.out.high HFN2.out HM.out.1 HM.out.2 HRG2.out (by show 0 < lvlT ts x1; rw [HLX.out]; exact hlx1)
                    rw [if_pos HXZ.out] at h9
                    exact ⟨_, cnt1, bkv, rfl, h9⟩
                  case measure => rw [HRG2.out.left_eq, HLF.out.rng.left_eq]; exact HLT1.out
                · have hxz' : (x1 != z) = true := by simpa using hxz
                  have HXZ := Lib.hid hxz
                  clear hl0 hxz
                  go_wp2_with (go_at_call 34; refine hcall.mono ?_; clear hcall; rintro e w2 ⟨rfl, hb2'⟩; have HFN2 := Lib.hid (HFN1.out.kept HAP.out (grown_of_below hb2') (fun r e => by cases e)); have HRG2 := Lib.hid (HRG1.out.kept (grown_of_below hb2') (by simp) (by simp)); have q15 : w2.cell? ⟨Bf, 0, none⟩ = some (.int .i64 z) := HFN2.out.bf.cell; clear hb2' b0c b1c b2c b3c b4c q14)
                  go_roundw
                  case rel =>
                    have h9 := HLF.out.high HFN2.out HM.out.1 HM.out.2 HRG2.out (by show 0 < lvlT ts x1; rw [HLX.out]; exact hlx1)
                    rw [if_neg HXZ.out] at h9
                    dsimp only at h9
                    rw [HLX.out] at h9
                    exact ⟨_, cnt1, max bkv lx, rfl, h9⟩
                  case measure => rw [HRG2.out.left_eq, HLF.out.rng.left_eq]; exact HLT1.out

end Go.Proofs.Ytenpenelikpeeaa
