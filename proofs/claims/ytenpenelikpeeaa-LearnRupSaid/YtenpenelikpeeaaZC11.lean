/-
  The reference's implied. No condition.
-/
import Derived.Test.YtenpenelikpeeaaZC10
import Derived.Laws.MakeOwn

namespace Go.Proofs.Ytenpenelikpeeaa
open Go.RowKit Go.Shelf
set_option linter.unusedVariables false
set_option linter.unusedSimpArgs false

theorem infoBool : (Try.prog.info? 4).map (fun i => (i.zero, i.size, i.bytes)) = some (some (.bool false), 1, 1) := by kernel_rfl
theorem under43 : Try.prog.underlying 43 = some (.slice 4) := Try.underlying43

/-- a block of bools -/
def BlkB (w : World) (g : Nat) (bs : List Bool) : Prop := w.heap[g]? = some (.cells (bs.map Value.bool).toArray 4 (0, 0))
theorem BlkB.lt {w : World} {g : Nat} {bs : List Bool} (h : BlkB w g bs) : g < w.heap.size := (Array.getElem?_eq_some_iff.1 h).1
theorem BlkB.cell {w : World} {g : Nat} {bs : List Bool} (h : BlkB w g bs) {j : Nat} (hj : j < bs.length) : w.cell? ⟨g, j, none⟩ = some (.bool (bs.getD j false)) := by
  simp [World.cell?, show w.heap[g]? = _ from h, List.getD_eq_getElem?_getD, hj]
theorem BlkB.f {w : World} {g : Nat} {bs : List Bool} (h : BlkB w g bs) (j : Nat) : w.frozen? ⟨g, j, none⟩ = false := by simp [World.frozen?, show w.heap[g]? = _ from h]
theorem BlkB.below {w w' : World} {g : Nat} {bs : List Bool} (h : BlkB w g bs) (hb : Below w.heap.size w w') : BlkB w' g bs := (hb.block g h.lt).trans h
theorem BlkB.set {w : World} {g : Nat} {bs : List Bool} (h : BlkB w g bs) (j : Nat) (v : Bool) : BlkB (w.setCell ⟨g, j, none⟩ (.bool v)) g (bs.set j v) := by
  unfold BlkB at *
  simp [World.setCell, Array.getElem?_modify, h, List.map_set]
theorem blkB_new (w : World) (n g : Nat) (hg : g = w.heap.size) : BlkB (w.alloc (.cells (madeCells #[Value.bool false] n) 4)) g (List.replicate n false) := by
  subst hg
  unfold BlkB
  have e : madeCells #[Value.bool false] n = ((List.replicate n false).map Value.bool).toArray := by
    have := toList_madeCells_one (Value.bool false) n
    apply Array.toList_inj.1
    rw [this]; simp
  rw [e]
  exact World.alloc_heap_new w _

theorem cell_kept2 {W W' : World} {i j : Nat} {p : Addr} {v : Value} (h : W.cell? p = some v) (hk : Kept2 W W' i j) (h1 : p.block ≠ i) (h2 : p.block ≠ j) : W'.cell? p = some v := by
  have hlt : p.block < W.heap.size := by
    rcases Nat.lt_or_ge p.block W.heap.size with h3 | h3
    · exact h3
    · simp [World.cell?, Array.getElem?_eq_none h3] at h
  exact (World.cell?_of_block (hk.same p.block hlt h1 h2)).trans h

/-- implied under way -/
structure Im (w w2 W : World) (g : Nat) (bs : List Bool) : Prop where
  blk : BlkB W g bs
  kp : Kept2 w2 W g g
  below : Below w.heap.size w W
theorem Im.grow {w w2 W W' : World} {g : Nat} {bs : List Bool} (h : Im w w2 W g bs) (hb : Below W.heap.size W W') : Im w w2 W' g bs := ⟨h.blk.below hb, h.kp.trans (Kept2.below _ _ hb), h.below.trans (hb.mono h.below.size)⟩
theorem Im.store {w w2 W : World} {g : Nat} {bs : List Bool} (h : Im w w2 W g bs) (hg : w.heap.size ≤ g) (j : Nat) (v : Bool) : Im w w2 (W.setCell ⟨g, j, none⟩ (.bool v)) g (bs.set j v) :=
  ⟨h.blk.set j v, h.kp.trans (Kept2.grown (grown_set _) (Or.inl rfl)), h.below.setCell (p := ⟨g, j, none⟩) hg _⟩
theorem RI.kept2 {w W : World} {A : Option Addr} {n c i j : Nat} {zs : List Int} (h : RI w A n c zs) (hk : Kept2 w W i j) (hne : 0 < n → ∀ b off, A = some ⟨b, off, none⟩ → b ≠ i ∧ b ≠ j) : RI W A n c zs :=
  ⟨h.len, h.cap, h.big, h.cmax, fun hn => by
    obtain ⟨b, off, rfl, hlt, hc⟩ := h.cells hn
    obtain ⟨h1, h2⟩ := hne hn b off rfl
    refine ⟨b, off, rfl, Nat.lt_of_lt_of_le hlt hk.size, fun q hq => ?_⟩
    rw [← hc q hq]
    exact World.cell?_of_block (hk.same b hlt h1 h2)⟩
theorem Two.kept22 {W W' : World} {B i j : Nat} {u v : Value} (h : Two W B u v) (hk : Kept2 W W' i j) (h1 : B ≠ i) (h2 : B ≠ j) : Two W' B u v := (hk.same B h.lt h1 h2).trans h

def pz (ls : List (List Int)) (ts : List Stp) (l : List Int) (n i : Nat) (cur : Bool) : List Bool := redTo ls ts l i ++ cur :: List.replicate (n - i - 1) false
theorem pz_len (ls : List (List Int)) (ts : List Stp) (l : List Int) {n i : Nat} (cur : Bool) (h : i < n) : (pz ls ts l n i cur).length = n := by unfold pz; rw [List.length_append, redTo_len]; simp; omega
theorem pz_start (ls : List (List Int)) (ts : List Stp) (l : List Int) {n i : Nat} (h : i < n) : redTo ls ts l i ++ List.replicate (n - i) false = pz ls ts l n i false := by
  unfold pz; rw [show n - i = (n - i - 1) + 1 by omega, List.replicate_succ]; simp
theorem pz_set (ls : List (List Int)) (ts : List Stp) (l : List Int) (n i : Nat) (cur v : Bool) : (pz ls ts l n i cur).set i v = pz ls ts l n i v := by
  unfold pz
  rw [List.set_append_right _ _ (by rw [redTo_len]; exact Nat.le_refl _), redTo_len]
  simp
theorem pz_at (ls : List (List Int)) (ts : List Stp) (l : List Int) (n : Nat) {i j : Nat} (cur : Bool) (h : j < i) : (pz ls ts l n i cur).getD j false = redB ls ts l j := by
  unfold pz
  rw [List.getD_eq_getElem?_getD, List.getElem?_append_left (by rw [redTo_len]; exact h), ← List.getD_eq_getElem?_getD, redTo_at ls ts l h]
theorem pz_next (ls : List (List Int)) (ts : List Stp) (l : List Int) {n i : Nat} (cur : Bool) (h : i < n) (hc : cur = redB ls ts l i) : pz ls ts l n i cur = redTo ls ts l (i + 1) ++ List.replicate (n - (i + 1)) false := by
  unfold pz
  rw [redTo, hc]
  unfold redB
  rw [List.append_assoc]
  simp [Nat.sub_sub]

def okR (ls : List (List Int)) (ts : List Stp) (l : List Int) (lit y : Int) : Bool := y == lit || (hasB l y || redB ls ts l (plc ts (-y)))

set_option maxRecDepth 100000 in
set_option maxHeartbeats 8000000 in
theorem rimplied_any (x : Int) (A : Option Addr) (n c : Nat) (ls : List (List Int)) (A' : Option Addr) (n' c' : Nat) (ts : List Stp) (Al : Option Addr) (nl cl : Nat) (l : List Int) (w : World) (h : RL w A n c ls) (h' : RS w A' n' c' ts) (hl : RI w Al nl cl l) (ht : Tr x ls ts) (hok : ∀ q ∈ ls, Okl q) (hn' : n' ≤ 1000) (hlong : ∀ q ∈ ls, q.length ≤ 1000) :
    Calls Try.prog 52 #[.agg #[.int .i64 x, .slice A n c], .slice A' n' c', .slice Al nl cl] w fun e w' => ∃ g, e = .returned (.slice (some ⟨g, 0, none⟩) n' n') ∧ BlkB w' g (redTo ls ts l n') ∧ Below w.heap.size w w' := by
  obtain ⟨i0, hi, hz0, hz1, hz2⟩ := info_parts infoBool
  have hmk : ∀ W : World, (Instr.makeSlice 43 (.int .i64 (n' : Int)) (.int .i64 (n' : Int))).run Try.prog W = .ok (.slice (some ⟨W.heap.size, 0, none⟩) n' n') (W.alloc (.cells (madeCells #[Value.bool false] n') 4)) := fun W => by
    have := run_make (P := Try.prog) W 43 4 i0 (.bool false) under43 hi hz0 .i64 .i64 (n' : Int) (n' : Int) (by omega) (by omega) (by rw [hz2]; omega) (by omega)
    rw [hz1, show (Value.bool false).cells = #[Value.bool false] from rfl] at this
    simpa using this
  have H := Lib.hid h
  have H' := Lib.hid h'
  have HL := Lib.hid hl
  have HT := Lib.hid ht
  have HOK := Lib.hid hok
  have HLONG := Lib.hid hlong
  have BX := Lib.hid (Two.new w (.int .i64 x) (.slice A n c))
  have HB0 := Lib.hid ((Below.refl w.heap.size w).alloc (Nat.le_refl _) (.cells #[.int .i64 x, .slice A n c] 24))
  have HTS := Lib.hid h'.len
  have HLN := Lib.hid h.len
  have hnb := h.small
  clear h h' hl ht hok hlong hi hz0 hz1 hz2
  go_enter Try.func52, Try.ntmps52
  go_upto_region 3 with (go_at_call 75; refine (levelsR_any A' n' c' ts _ (H'.out.below HB0.out) (by omega)).mono ?_; rintro e w1 ⟨A2, c2, rfl, hr2, hb2⟩; have HR2 := Lib.hid hr2; have HB1 := Lib.hid (HB0.out.trans (hb2.mono HB0.out.size)); have BX1 := Lib.hid (BX.out.below hb2); clear hr2 hb2)
  have hbk := blkB_new w1 n' w1.heap.size rfl
  have hs1 := HB1.out.size
  obtain ⟨g, hg⟩ : ∃ g, w1.heap.size = g := ⟨_, rfl⟩
  rw [hg] at hbk hs1
  have hIm0 : Im w (w1.alloc (.cells (madeCells #[Value.bool false] n') 4)) (w1.alloc (.cells (madeCells #[Value.bool false] n') 4)) g (redTo ls ts l 0 ++ List.replicate (n' - 0) false) :=
    ⟨hbk, Kept2.refl _ _ _, HB1.out.alloc HB1.out.size _⟩
  have HR3 := Lib.hid (HR2.out.alloc (.cells (madeCells #[Value.bool false] n') 4))
  have HRG : Hid (0 < n' → ∀ b off, A2 = some ⟨b, off, none⟩ → b ≠ g ∧ b ≠ g) := Lib.hid (fun h0 b off e => by
    obtain ⟨b1, o1, e1, e2, _⟩ := HR2.out.cells h0
    rw [e1] at e
    simp only [Option.some.injEq, Addr.mk.injEq] at e
    omega)
  have BX2 := Lib.hid (BX1.out.below ((Below.refl _ _).alloc (Nat.le_refl _) (.cells (madeCells #[Value.bool false] n') 4)))
  have hwg : w.heap.size ≠ g := by have := BX1.out.lt; omega
  have HI0 := Lib.hid hIm0
  rw [hg]
  generalize hw2 : w1.alloc (.cells (madeCells #[Value.bool false] n') 4) = w2 at *
  clear hw2 hIm0 hbk hmk hg
  go_wp2_with fail
  go_loopw [9] (fun s9 W => ∃ i : Nat, i ≤ n' ∧ s9 = .int .i64 i ∧ Im w w2 W g (redTo ls ts l i ++ List.replicate (n' - i) false)) (fun s9 _ => n' - (intOf s9).toNat)
  case atStart => exact ⟨0, Nat.zero_le _, rfl, HI0.out⟩
  case round =>
    obtain ⟨i, hin, rfl, him⟩ := hrel
    have HIM := Lib.hid him
    clear him
    by_cases hlt : i < n'
    · have him2 := HIM.out
      rw [pz_start ls ts l hlt] at him2
      have HI1 := Lib.hid (him2.grow (W' := wr.alloc (.cells #[.int .i64 (stp ts i).lit, .int .i64 (stp ts i).why] 41)) ((Below.refl _ _).alloc (Nat.le_refl _) _))
      have hit : i < ts.length := by rw [HTS.out]; exact hlt
      obtain ⟨bt, ot, rfl, hbt, hct⟩ := (H'.out.below him2.below).cells (by omega)
      obtain ⟨u0, u1⟩ := hct i hlt
      have hbs := BoxS.new wr (stp ts i).lit (stp ts i).why
      obtain ⟨bl, ol, rfl, hbl, hcl⟩ := ((HR3.out.kept2 him2.kp HRG.out).alloc (.cells #[.int .i64 (stp ts i).lit, .int .i64 (stp ts i).why] 41)).cells (by omega)
      have hcli := hcl i hlt
      rw [levL_at hit] at hcli
      have hgc := HI1.out.blk.cell (j := i) (by rw [pz_len ls ts l _ hlt]; exact hlt)
      have hgf := HI1.out.blk.f i
      have hgl := HI1.out.blk.lt
      have hbx := (BX2.out.kept22 HI1.out.kp hwg hwg)
      have hwy := HT.out.why i hit
      have hgw := him2.blk.lt
      have hlv0 : 0 ≤ levAt ts i := by unfold levAt; omega
      have HBS := Lib.hid hbs
      have HIT := Lib.hid hit
      obtain ⟨lt, hltt⟩ : ∃ lt, (stp ts i).lit = lt := ⟨_, rfl⟩
      obtain ⟨wy, hwyy⟩ : ∃ wy, (stp ts i).why = wy := ⟨_, rfl⟩
      obtain ⟨lv, hlv⟩ : ∃ lv, levAt ts i = lv := ⟨_, rfl⟩
      have hre := redB_eq HT.out l hit
      rw [hltt, hwyy, hlv] at hre
      rw [hltt, hwyy] at HBS HI1 hcli hgc hgf hgl hbx
      rw [hltt] at u0
      rw [hwyy] at u1 hwy
      rw [hlv] at hcli hlv0
      have HRE := Lib.hid hre
      have HLTT := Lib.hid hltt
      have HWY := Lib.hid hwyy
      have c0 := HBS.out.c0
      have c1 := HBS.out.c1
      have HBX := Lib.hid hbx
      clear hct hcl him2 hbs hit hltt hwyy hlv hre hbx
      have d0 : (0 : Int) ≤ (i : Int) := by omega
      go_upto_region 7 with fail
      generalize hWa : wr.alloc (.cells #[.int .i64 lt, .int .i64 wy] 41) = Wa at *
      obtain ⟨Bs, hBs⟩ : ∃ Bs, wr.heap.size = Bs := ⟨_, rfl⟩
      rw [hBs] at HBS c0 c1 hgw
      rw [hBs]
      clear hWa hBs u0 u1
      have HBL : Hid (bl ≠ g) := Lib.hid (HRG.out (by omega) bl ol rfl).1
      have HBG : Hid (Bs ≠ g) := Lib.hid (by omega)
      have hst := fun (v : Bool) => (show (Wa.setCell ⟨g, i, none⟩ (.bool v)).cell? ⟨bl, ol + i, none⟩ = some (.int .i64 lv) from (World.cell?_of_block (Below.heap_setCell _ _ _ _ HBL.out)).trans hcli)
      have hs0' := fun (v : Bool) => (show (Wa.setCell ⟨g, i, none⟩ (.bool v)).cell? ⟨Bs, 0, none⟩ = some (.int .i64 lt) from (World.cell?_of_block (Below.heap_setCell _ _ _ _ HBG.out)).trans c0)
      have hs1' := fun (v : Bool) => (show (Wa.setCell ⟨g, i, none⟩ (.bool v)).cell? ⟨Bs, 1, none⟩ = some (.int .i64 wy) from (World.cell?_of_block (Below.heap_setCell _ _ _ _ HBG.out)).trans c1)
      have HC3 := Lib.hid (And.intro hst (And.intro hs0' hs1'))
      clear hst hs0' hs1'
      by_cases hl0 : lv = 0
      · have e1 : Hid (true = redB ls ts l i) := Lib.hid (by rw [HRE.out, hl0]; rfl)
        have hl0' : (lv == 0) = true := by simpa using hl0
        have hl1 : ¬ 0 < lv := by omega
        have hl2 : decide (0 < lv) = false := by simpa using hl1
        clear hl0
        have HI2 := Lib.hid (HI1.out.store hs1 i true)
        rw [pz_set, pz_next ls ts l true hlt e1.out] at HI2
        go_wp2_with fail
        have q1 := HC3.out.1 true
        have q2 := HC3.out.2.1 true
        have q3 := HC3.out.2.2 true
        generalize hWb : Wa.setCell ⟨g, i, none⟩ (.bool true) = Wb at *
        clear hWb hcli c0 c1 hgc hgf
        refine wp_loop_rounds 1 ?_
        rw [rounds_succ]
        go_wp2_with fail
        go_roundw
        case rel => exact ⟨i + 1, by omega, by go_num, HI2.out⟩
        case measure => simp [intOf]; omega
      · have hl1 : 0 < lv := by omega
        have hl0' : (lv == 0) = false := by simpa using hl0
        have hl2 : decide (0 < lv) = true := by simpa using hl1
        by_cases hw0 : 0 ≤ wy
        · have hl3 : decide (0 ≤ wy) = true := by simpa using hw0
          have HI2 := Lib.hid (HI1.out.store hs1 i true)
          rw [pz_set] at HI2
          obtain ⟨jj, rfl⟩ : ∃ jj : Nat, wy = jj := ⟨wy.toNat, by omega⟩
          have hjj : jj < n := by have := HLN.out; omega
          obtain ⟨bc, oc, rfl, hbc, hcc⟩ := H.out.cells (by omega)
          obtain ⟨a4, n4, c4, hc4, hr4⟩ := hcc jj hjj
          have hn4 : n4 ≤ 1000 := by rw [← hr4.len]; exact HLONG.out _ (ell_mem (by have := HLN.out; omega))
          have HOK4 := Lib.hid (HOK.out _ (ell_mem (ls := ls) (k := jj) (by have := HLN.out; omega)))
          have HR4 := Lib.hid hr4
          have HC4 := Lib.hid hc4
          have hre2 := HT.out.reason i HIT.out (by rw [HWY.out]; omega)
          rw [HWY.out, HLTT.out, Int.toNat_natCast] at hre2
          have HRE2 := Lib.hid hre2
          have hrd : redB ls ts l i = (ell ls jj).all (okR ls ts l lt) := by
            rw [HRE.out, Int.toNat_natCast]
            have h1 : decide (lv = 0) = false := by simpa using hl0
            have h2 : decide ((0 : Int) ≤ (jj : Int)) = true := by simp
            rw [h1, h2, Bool.false_or, Bool.true_and]
            rfl
          have HRD := Lib.hid hrd
          clear hcc hr4 hc4 hre2 hrd hl0 hw0
          go_wp2_with fail
          have q1 := HC3.out.1 true
          have q2 := HC3.out.2.1 true
          have q3 := HC3.out.2.2 true
          have q4 := (HBX.out.kept (grown_set (w := Wa) (B := g) (k := i) (.bool true)) (by simp; exact hwg)).c1
          have hbb := HBX.out.lt
          generalize hWb : Wa.setCell ⟨g, i, none⟩ (.bool true) = Wb at *
          have HQ := Lib.hid (And.intro q1 (And.intro q2 (And.intro q3 q4)))
          clear hWb hcli c0 c1 hgc hgf q1 q2 q3 q4
          obtain ⟨wo, hwo⟩ : ∃ wo : World, wo = wr := ⟨wr, rfl⟩
          go_loopw [11, 12] (fun s11 s12 W => ∃ (k : Nat) (cur : Bool), k ≤ n4 ∧ s11 = .int .i64 k ∧ Im w w2 W g (pz ls ts l n' i cur) ∧ cur = ((ell ls jj).take k).all (okR ls ts l lt) ∧ Kept2 Wb W g g) (fun s11 _ _ => n4 - (intOf s11).toNat)
          case atStart => exact ⟨0, true, Nat.zero_le _, rfl, HI2.out, rfl, Kept2.refl _ _ _⟩
          case round =>
            obtain ⟨k, cur, hkn, rfl, him3, hcur, hkp⟩ := hrel
            have HM3 := Lib.hid him3
            have HCU := Lib.hid hcur
            have HKP := Lib.hid hkp
            have q1 := cell_kept2 HQ.out.1 hkp HBL.out HBL.out
            have q2 := cell_kept2 HQ.out.2.1 hkp HBG.out HBG.out
            have q3 := cell_kept2 HQ.out.2.2.1 hkp HBG.out HBG.out
            have q4 := cell_kept2 HQ.out.2.2.2 hkp hwg hwg
            have q5 := (him3.below.cell (p := ⟨bc, oc + jj, none⟩) hbc).trans HC4.out
            clear him3 hcur hkp
            by_cases hk4 : k < n4
            · have hkl : k < (ell ls jj).length := by rw [HR4.out.len]; exact hk4
              obtain ⟨bv, ov, rfl, hbv, hcv⟩ := (HR4.out.below HM3.out.below).cells (by omega)
              have q6 := hcv k hk4
              have hyo := HOK4.out.at hkl
              have hneg := lit_neg' hyo.2.1 hyo.2.2
              have hrs := HRE2.out.2 _ (elt_mem hkl)
              have EC : Hid (((ell ls jj).take (k + 1)).all (okR ls ts l lt) = (cur && okR ls ts l lt (elt (ell ls jj) k))) := Lib.hid (by rw [take_snoc _ k hkl, List.all_append, ← HCU.out]; simp)
              have d1 : decide (k < n4) = true := by simpa using hk4
              have d2 : decide ((k : Int) < (n4 : Int)) = true := by simpa using hk4
              clear hcv hkl
              generalize elt (ell ls jj) k = y at *
              by_cases hyl : y = lt
              · have hyl' : (y != lt) = false := by simpa using hyl
                have EC2 : Hid (cur = ((ell ls jj).take (k + 1)).all (okR ls ts l lt)) := Lib.hid (by rw [EC.out]; unfold okR; simp [hyl])
                clear hyl hrs
                go_wp2_with fail
                go_roundw
                case rel => exact ⟨k + 1, cur, by omega, by go_num, HM3.out, EC2.out, HKP.out⟩
                case measure => simp [intOf]; omega
              · have hyl' : (y != lt) = true := by simpa using hyl
                obtain ⟨jx, hjx, hjl⟩ := hrs hyl
                have hpx := HT.out.plc (k := jx) (by have := HIT.out; omega)
                rw [hjl] at hpx
                cases hin : hasB l y with
                | true =>
                  have EC2 : Hid (cur = ((ell ls jj).take (k + 1)).all (okR ls ts l lt)) := Lib.hid (by rw [EC.out]; unfold okR; simp [hin])
                  have Z := Lib.hid hin
                  clear hyl hin hpx hjl
                  go_wp2_with (go_at_call 74; refine (has20_val true Al nl cl l y _ (HL.out.below HM3.out.below) Z.out).mono ?_; rintro e w' ⟨rfl, rfl⟩)
                  go_roundw
                  case rel => exact ⟨k + 1, cur, by omega, by go_num, HM3.out, EC2.out, HKP.out⟩
                  case measure => simp [intOf]; omega
                | false =>
                  have Z := Lib.hid hin
                  have hpi : Hid (plcI ts (-y) = (jx : Int)) := Lib.hid (by rw [plcI_of (by have := HIT.out; omega), hpx])
                  have hq7 := HM3.out.blk.cell (j := jx) (by rw [pz_len ls ts l _ hlt]; omega)
                  rw [pz_at ls ts l n' cur hjx] at hq7
                  have d3 : jx < n' := by omega
                  have d4 : (jx : Int) < (n' : Int) := by omega
                  cases hrb : redB ls ts l jx with
                  | true =>
                    rw [hrb] at hq7
                    have EC2 : Hid (cur = ((ell ls jj).take (k + 1)).all (okR ls ts l lt)) := Lib.hid (by rw [EC.out]; unfold okR; simp [hpx, hrb])
                    clear hyl hin hpx hjl hrb
                    go_wp2_with (first | (go_at_call 74; refine (has20_val false Al nl cl l y _ (HL.out.below HM3.out.below) Z.out).mono ?_; rintro e w' ⟨rfl, rfl⟩) | (go_at_call 43; refine (place_val (jx : Int) _ n' c' ts (-y) _ (H'.out.below HM3.out.below) (by omega) hpi.out).mono ?_; rintro e w' ⟨rfl, rfl⟩))
                    go_roundw
                    case rel => exact ⟨k + 1, cur, by omega, by go_num, HM3.out, EC2.out, HKP.out⟩
                    case measure => simp [intOf]; omega
                  | false =>
                    rw [hrb] at hq7
                    have EC2 : Hid (false = ((ell ls jj).take (k + 1)).all (okR ls ts l lt)) := Lib.hid (by rw [EC.out]; unfold okR; rw [hin, hpx, hrb]; simp [hyl])
                    have hgc := HM3.out.blk.cell (j := i) (by rw [pz_len ls ts l _ hlt]; exact hlt)
                    have hgf := HM3.out.blk.f i
                    have HM4 := Lib.hid (HM3.out.store hs1 i false)
                    rw [pz_set] at HM4
                    clear hyl hin hpx hjl hrb
                    go_wp2_with (first | (go_at_call 74; refine (has20_val false Al nl cl l y _ (HL.out.below HM3.out.below) Z.out).mono ?_; rintro e w' ⟨rfl, rfl⟩) | (go_at_call 43; refine (place_val (jx : Int) _ n' c' ts (-y) _ (H'.out.below HM3.out.below) (by omega) hpi.out).mono ?_; rintro e w' ⟨rfl, rfl⟩))
                    go_roundw
                    case rel => exact ⟨k + 1, false, by omega, by go_num, HM4.out, EC2.out, HKP.out.trans (Kept2.grown (grown_set _) (Or.inl rfl))⟩
                    case measure => simp [intOf]; omega
            · obtain rfl : k = n4 := by omega
              have ef : cur = redB ls ts l i := by
                rw [HCU.out, HRD.out, List.take_of_length_le (by rw [HR4.out.len]; exact Nat.le_refl _)]
              have hfin := HM3.out
              rw [pz_next ls ts l cur hlt ef] at hfin
              have HF3 := Lib.hid hfin
              have d1 : decide (k < k) = false := by simp
              clear ef hfin
              go_wp2_with fail
              go_roundw
              case rel => exact ⟨i + 1, by omega, by go_num, HF3.out⟩
              case measure => simp [intOf]; omega
        · have e1 : Hid (false = redB ls ts l i) := Lib.hid (by rw [HRE.out]; simp [hl0, hw0])
          have hl3 : decide (0 ≤ wy) = false := by simpa using hw0
          have HI2 := Lib.hid (HI1.out.store hs1 i false)
          rw [pz_set, pz_next ls ts l false hlt e1.out] at HI2
          clear hl0 hw0
          go_wp2_with fail
          have q1 := HC3.out.1 false
          have q2 := HC3.out.2.1 false
          have q3 := HC3.out.2.2 false
          generalize hWb : Wa.setCell ⟨g, i, none⟩ (.bool false) = Wb at *
          clear hWb hcli c0 c1 hgc hgf
          refine wp_loop_rounds 1 ?_
          rw [rounds_succ]
          go_wp2_with fail
          go_roundw
          case rel => exact ⟨i + 1, by omega, by go_num, HI2.out⟩
          case measure => simp [intOf]; omega
    · obtain rfl : i = n' := by omega
      have hf := HIM.out
      rw [Nat.sub_self, List.replicate_zero, List.append_nil] at hf
      have HF := Lib.hid hf
      clear hf
      go_wp2_with fail
      go_ret
      exact ⟨g, rfl, HF.out.blk, HF.out.below⟩

end Go.Proofs.Ytenpenelikpeeaa
