/-
  Less of the package learn. No condition.
  The last loop of First: the literals of level 0 are struck, the greatest level of the others is found. No condition.
-/
import Derived.Test.YtenpenelikpeeaaZC14

namespace Go.Proofs.Ytenpenelikpeeaa
open Go.RowKit Go.Shelf
set_option linter.unusedVariables false
set_option linter.unusedSimpArgs false

theorem LS.turnOther {w W W' : World} {F : Lx} {f : Int → Option Bool} {m bo mo : Nat} {S : List Int} (h : LS w W F f m) (ho : SetM W bo mo S) (ht : W.mapTurned W' bo) (h1 : bo ≠ F.bkn) (h2 : bo ≠ F.bin) (h3 : bo ≠ F.bi) (hlo : w.heap.size ≤ bo) : LS w W' F f m where
  two := h.two.kept ht.grown (fun e => by
    have e1 : F.B3 = bo := by injection e
    obtain ⟨es, clock, h1⟩ := map_block ho
    have h2 : W.heap[F.B3]? = _ := h.two
    rw [e1, h1] at h2; cases h2)
  bt := h.bt.kept ht.grown (fun e => boxed_ne_map ho h.bt (by injection e))
  box := h.box.kept ht.grown (fun e => boxk_ne_map ho h.box (by injection e))
  lev := h.lev.turned ht
  map := h.map.kept ht.grown (fun e => h3 (by injection e with e; exact e.symm))
  bin := h.bin.kept ht.grown (fun e => boxed_ne_map ho h.bin (by injection e))
  inn := h.inn.kept ht.grown (fun e => h2 (by injection e with e; exact e.symm))
  bkn := h.bkn.kept ht.grown (fun e => boxed_ne_map ho h.bkn (by injection e))
  kn := h.kn.kept ht.grown (fun e => h1 (by injection e with e; exact e.symm))
  bfn := h.bfn.kept ht.grown (fun e => boxed_ne_map ho h.bfn (by injection e))
  ne1 := h.ne1
  ne2 := h.ne2
  lo := h.lo
  below := h.below.grown ht.grown h.below.size (fun g e => by cases e; exact hlo)
theorem Stt.turnOther {w W W' : World} {F : Lx} {f : Int → Option Bool} {bo mo : Nat} {S : List Int} (h : Stt w W F f) (ho : SetM W bo mo S) (ht : W.mapTurned W' bo) (h1 : bo ≠ F.bkn) (h2 : bo ≠ F.bin) (h3 : bo ≠ F.bi) (hlo : w.heap.size ≤ bo) : Stt w W' F f := by
  obtain ⟨m, h4, h5⟩ := h.st
  exact ⟨⟨m, h4.turnOther ho ht h1 h2 h3 hlo, h5⟩, h.good⟩
theorem SetM.kept2 {W W' : World} {b n i j : Nat} {S : List Int} (h : SetM W b n S) (hk : Kept2 W W' i j) (h1 : b ≠ i) (h2 : b ≠ j) : SetM W' b n S := by
  obtain ⟨D, ⟨es, clock, h3, h4⟩, h5⟩ := h
  exact ⟨D, ⟨es, clock, (hk.same b (Array.getElem?_eq_some_iff.1 h3).1 h1 h2).trans h3, h4⟩, h5⟩

theorem ls_start {w W : World} {F : Lx} {bv : Nat} (h : L1 w W F bv F.mi) (hl : F.l.take F.mi = F.l) (hB : F.bkn = W.heap.size) (hK : F.Bkn = W.heap.size + 1) (hN : F.Bfn = W.heap.size + 1 + 1) :
    Stt w ((((W.alloc (.map #[] 0)).alloc (.cells #[.map (some F.bkn)] 61)).alloc (.cells #[impV F] 75)).alloc (.map #[] 0)) F emptyF ∧
    SetM ((((W.alloc (.map #[] 0)).alloc (.cells #[.map (some F.bkn)] 61)).alloc (.cells #[impV F] 75)).alloc (.map #[] 0)) (W.heap.size + 1 + 1 + 1) 0 [] := by
  have hb : Below W.heap.size W ((((W.alloc (.map #[] 0)).alloc (.cells #[.map (some F.bkn)] 61)).alloc (.cells #[impV F] 75)).alloc (.map #[] 0)) :=
    ((((Below.refl _ _).alloc (Nat.le_refl _) _).alloc (by simp) _).alloc (by simp; omega) _).alloc (by simp; omega) _
  have hg := h.grow hb
  have hin := h.inn.lt
  have hbi := h.map.lt
  have hsz := h.below.size
  have hm : MF 4 edB ((((W.alloc (.map #[] 0)).alloc (.cells #[.map (some F.bkn)] 61)).alloc (.cells #[impV F] 75)).alloc (.map #[] 0)) F.bkn 0 emptyF := by
    have := (((MF.made (e := 4) (ed := edB) W).alloc (.cells #[.map (some F.bkn)] 61)).alloc (.cells #[impV F] 75)).alloc (.map #[] 0)
    rw [← hB] at this
    exact this
  have hinn := hg.inn
  rw [hl] at hinn
  refine ⟨⟨⟨0, ⟨hg.two, hg.bt, hg.box, hg.lev, hg.map, hg.bin, hinn, ?_, hm, ?_, by omega, by omega, by omega, hg.below⟩, by rw [Nat.zero_add]; exact unk_le _ _⟩, fun y v hy => by cases hy⟩, ?_⟩
  · exact ((boxed_at (W.alloc (.map #[] 0)) 61 _ _ (by rw [hK]; simp)).alloc _).alloc _
  · exact (boxed_at ((W.alloc (.map #[] 0)).alloc (.cells #[.map (some F.bkn)] 61)) 75 _ _ (by rw [hN]; simp)).alloc _
  · have := MF.made (e := 4) (ed := edB) (((W.alloc (.map #[] 0)).alloc (.cells #[.map (some F.bkn)] 61)).alloc (.cells #[impV F] 75))
    rw [emptyF_set] at this
    simpa using this

theorem isB_zero (x : Int) : isB 0 x = false := by
  cases h : isB 0 x with
  | false => rfl
  | true => exact absurd rfl (isB_iff.1 h).1
theorem isB_far {x y : Int} (hx : x ≤ 65536) (h : ¬(-65536 ≤ y ∧ y ≤ 65536)) : isB y x = false := by
  cases h9 : isB y x with
  | false => rfl
  | true => have := isB_iff.1 h9; exact absurd ⟨by omega, by omega⟩ h
theorem abs_has {pre : List Int} {y : Int} (h : hasB (pre.map absI) (absI y) = false) : hasB pre y = false ∧ hasB pre (-y) = false := by
  rw [hasB_false] at h
  refine ⟨hasB_false.2 fun hm => h (List.mem_map.2 ⟨y, hm, rfl⟩), hasB_false.2 fun hm => h (List.mem_map.2 ⟨-y, hm, ?_⟩)⟩
  unfold absI; split <;> split <;> omega
theorem abs_no {pre : List Int} {y : Int} (h : hasB (pre.map absI) (absI y) = true) : hasB pre y = true ∨ hasB pre (-y) = true := by
  rw [hasB_iff, List.mem_map] at h
  obtain ⟨u, hu, e⟩ := h
  rcases absI_eq e with e1 | e1
  · left; rw [hasB_iff, ← e1]; exact hu
  · right; rw [hasB_iff, ← e1]; exact hu

set_option maxRecDepth 100000 in
set_option maxHeartbeats 2000000 in
theorem less_bad (x : Int) (A : Option Addr) (n c : Nat) (ls : List (List Int)) (A' : Option Addr) (n' c' : Nat) (ts : List Stp) (Al : Option Addr) (nl cl : Nat) (w : World) (h : RL w A n c ls) (h' : RS w A' n' c' ts) (hn' : n' ≤ 1000000) (hE : propE x ls ts ≠ 0) :
    Calls Try.prog 16 #[.agg #[.int .i64 x, .slice A n c], .slice A' n' c', .slice Al nl cl] w (LessP [] (propE x ls ts) w) := by
  have hcall := pcheck_val (propE x ls ts) x A n c ls A' n' c' ts ((w.alloc (.cells #[.int .i64 x, .slice A n c] 24)).alloc (.cells #[.slice A' n' c'] 25)) ((h.alloc _).alloc _) ((h'.alloc _).alloc _) hn' rfl
  generalize propE x ls ts = r at hcall hE ⊢
  have hr : (r != 0) = true := by simpa using hE
  clear hE h h'
  go_enter Try.func16, Try.ntmps16
  go_wp2_with (go_at_call 20; refine hcall.mono ?_; clear hcall; rintro e w1 ⟨rfl, hb⟩)
  go_ret2
  exact LessP.none ((((Below.refl _ w).alloc (Nat.le_refl _) _).alloc (by simp) _).trans (hb.mono (by simp; omega)))

set_option maxRecDepth 100000 in
set_option maxHeartbeats 16000000 in
theorem less_ok (x : Int) (A : Option Addr) (n c : Nat) (ls : List (List Int)) (A' : Option Addr) (n' c' : Nat) (ts : List Stp) (Al : Option Addr) (nl cl : Nat) (l : List Int) (w : World) (h : RL w A n c ls) (h' : RS w A' n' c' ts) (hl : RI w Al nl cl l) (hw : Wfl l) (hn' : n' ≤ 1000) (hE : propE x ls ts = 0) (hnl : nl ≤ 1000) (zs : List Int) (e' : Int)
    (hz : lessOk x ts l = false → zs = [] ∧ e' = 1) (hz2 : lessOk x ts l = true → zs = lessL ls ts l ∧ e' = 0) :
    Calls Try.prog 16 #[.agg #[.int .i64 x, .slice A n c], .slice A' n' c', .slice Al nl cl] w (LessP zs e' w) := by
  have hcall := pcheck_val 0 x A n c ls A' n' c' ts ((w.alloc (.cells #[.int .i64 x, .slice A n c] 24)).alloc (.cells #[.slice A' n' c'] 25)) ((h.alloc _).alloc _) ((h'.alloc _).alloc _) (by omega) hE
  obtain ⟨hce, htr⟩ := propE_zero hE
  have hxx := checkE_n hce
  have HT := Lib.hid (trail_tr htr)
  have HKK := Lib.hid (checkE_lits hce)
  have H := Lib.hid h
  have HL := Lib.hid hl
  have H' := Lib.hid h'
  have HW := Lib.hid hw
  have HZ := Lib.hid hz
  have HZ2 := Lib.hid hz2
  have BX := Lib.hid ((Two.new w (.int .i64 x) (.slice A n c)).below ((Below.refl _ _).alloc (Nat.le_refl _) (.cells #[.slice A' n' c'] 25)))
  have BT := Lib.hid (boxed_at (w.alloc (.cells #[.int .i64 x, .slice A n c] 24)) 25 (.slice A' n' c') (w.heap.size + 1) (by simp))
  have HB0 := Lib.hid (((Below.refl w.heap.size w).alloc (Nat.le_refl _) (.cells #[.int .i64 x, .slice A n c] 24)).alloc (by simp) (.cells #[.slice A' n' c'] 25))
  have HLEN := Lib.hid hl.len
  have HTS := Lib.hid h'.len
  have HLN := Lib.hid h.len
  have hmm := @run_makeMap Try.prog
  clear h h' hl hE hce htr hw hz hz2
  go_enter Try.func16, Try.ntmps16
  go_upto_region 6 with (first
    | (go_at_call 20; refine hcall.mono ?_; clear hcall; rintro e w1 ⟨rfl, hb⟩; have HB1 := Lib.hid (HB0.out.trans (hb.mono HB0.out.size)); have BX1 := Lib.hid (BX.out.below hb); have BT1 := Lib.hid (boxed_below BT.out hb); have t0 := BX1.out.c0; have t1 := BX1.out.c1; have t2 := BT1.out.cell; clear hb)
    | (go_at_call 31; refine (looked_any x A n c ls A' n' c' ts _ (H'.out.below HB1.out) HT.out hxx.2 (by omega)).mono ?_; rintro e V0 ⟨A2, c2, bi, rfl, hlk⟩; have FI := Lib.hid (fi_of (A' := A') (c' := c') HTS.out HB1.out BX1.out hlk); have BT2 := Lib.hid (boxed_below BT1.out hlk.below); unfold lookV; clear hlk t0 t1 t2))
  generalize hW : V0.alloc (.cells #[.int .i64 x, .slice A n c, .slice A' n' c', .slice A2 n' c2, .map (some bi)] 58) = V1 at *
  have BT3 : Hid (Boxed V1 (w.heap.size + 1) 25 (.slice A' n' c')) := Lib.hid (by rw [← hW]; exact BT2.out.alloc _)
  generalize hBk : V0.heap.size = Bk at *
  have hsV : V1.heap.size = Bk + 1 := by rw [← hW, ← hBk]; simp
  clear hW hBk
  obtain ⟨bin, hbin⟩ : ∃ bin, Bk + 1 = bin := ⟨_, rfl⟩
  obtain ⟨bv, hbv⟩ : ∃ bv, bin + 1 = bv := ⟨_, rfl⟩
  obtain ⟨Bin, hBin⟩ : ∃ Bin, bv + 1 = Bin := ⟨_, rfl⟩
  rw [hbin] at hsV
  have hL10 : L1 w (((V1.alloc (.map #[] 0)).alloc (.map #[] 0)).alloc (.cells #[.map (some bin)] 61)) ⟨x, A, n, c, A', n', c', ts, ls, l, A2, c2, bi, Bk, w.heap.size + 1, w.heap.size, Bin, bin, nl, 0, 0, 0⟩ bv 0 := by
    have hb : Below V1.heap.size V1 (((V1.alloc (.map #[] 0)).alloc (.map #[] 0)).alloc (.cells #[.map (some bin)] 61)) := (((Below.refl _ _).alloc (Nat.le_refl _) _).alloc (by simp) _).alloc (by simp; omega) _
    have hg := FI.out.grow hb
    have hs := FI.out.below.size
    have hbl := FI.out.map.lt
    have e1 : SetM (((V1.alloc (.map #[] 0)).alloc (.map #[] 0)).alloc (.cells #[.map (some bin)] 61)) bin 0 [] := by
      have := ((MF.made (e := 4) (ed := edB) V1).alloc (.map #[] 0)).alloc (.cells #[.map (some bin)] 61)
      rw [hsV, emptyF_set] at this; exact this
    have e2 : SetM (((V1.alloc (.map #[] 0)).alloc (.map #[] 0)).alloc (.cells #[.map (some bin)] 61)) bv 0 [] := by
      have := (MF.made (e := 4) (ed := edB) (V1.alloc (.map #[] 0))).alloc (.cells #[.map (some bin)] 61)
      rw [emptyF_set] at this
      rw [show (V1.alloc (.map #[] 0)).heap.size = bv by simp [hsV, hbv]] at this
      exact this
    exact ⟨hg.two, boxed_below BT3.out hb, hg.box, hg.lev, hg.map, boxed_at _ _ _ _ (by simp; omega), e1, e2, by show bin ≠ bv; omega, by show bin ≠ bi; omega, by show bv ≠ bi; omega, by show w.heap.size ≤ bin; omega, by omega, hg.below⟩
  have HL0 := Lib.hid hL10
  clear hL10
  rw [hbin, hbv, hBin]
  generalize hV2 : ((V1.alloc (.map #[] 0)).alloc (.map #[] 0)).alloc (.cells #[.map (some bin)] 61) = V2 at *
  clear hV2 hbin hbv hBin hsV BT3 FI
  go_wp2_with fail
  go_loopw [12, 33] (fun s12 s33 W => ∃ k : Nat, k ≤ nl ∧ s33 = .int .i64 k ∧ s12 = .int .i64 (topT ts (l.take k)) ∧ L1 w W ⟨x, A, n, c, A', n', c', ts, ls, l, A2, c2, bi, Bk, w.heap.size + 1, w.heap.size, Bin, bin, nl, 0, 0, 0⟩ bv k ∧ unlTo x l k = true ∧ deadB ts (l.take k) = true) (fun _ s33 _ => nl - (intOf s33).toNat)
  case atStart => exact ⟨0, Nat.zero_le _, rfl, rfl, HL0.out, rfl, rfl⟩
  case round =>
    obtain ⟨k, hk, rfl, rfl, hl1, hun, hdd⟩ := hrel
    have HL1 := Lib.hid hl1
    have HUN := Lib.hid hun
    have HDD := Lib.hid hdd
    clear hl1 hun hdd
    by_cases hlt : k < nl
    · have hkl : k < l.length := by rw [HLEN.out]; exact hlt
      obtain ⟨bs, os, rfl, hbw, hcw⟩ := (HL.out.below HL1.out.below).cells (by omega)
      have hck := hcw k hlt
      have hwy : wfI (elt l k) = true := HW.out _ (elt_mem hkl)
      have HNO : Hid (unl x (l.take k) (elt l k) = false → lessOk x ts l = false) := Lib.hid (fun e => by unfold lessOk; rw [unlB_no hkl e]; rfl)
      have HND : Hid (plc ts (-(elt l k)) < ts.length → False) ∨ True := Or.inr trivial
      have HDN : Hid (decide (plc ts (-(elt l k)) < ts.length) = false → lessOk x ts l = false) := Lib.hid (fun e => by
        unfold lessOk
        have : deadB ts l = false := all_at (p := fun y => decide (plc ts (-y) < ts.length)) hkl e
        rw [this, Bool.and_false])
      have HTK : Hid (l.take (k + 1) = l.take k ++ [elt l k]) := Lib.hid (take_snoc l k hkl)
      have HU1 : Hid (unlTo x l (k + 1) = unl x (l.take k) (elt l k)) := Lib.hid (by rw [unlTo_succ, HUN.out, Bool.true_and])
      have HD1 : Hid (decide (plc ts (-(elt l k)) < ts.length) = true → deadB ts (l.take (k + 1)) = true) := Lib.hid (fun e => all_step (p := fun y => decide (plc ts (-y) < ts.length)) hkl e HDD.out)
      have HT1 : Hid (topT ts (l.take (k + 1)) = max (topT ts (l.take k)) (lvlT ts (elt l k))) := Lib.hid (by rw [take_snoc l k hkl, topT_snoc])
      clear hcw hkl HND
      obtain ⟨y, hy⟩ : ∃ y, elt l k = y := ⟨_, rfl⟩
      rw [hy] at hck hwy HNO HDN HTK HU1 HD1 HT1
      clear hy
      obtain ⟨tp0, htp0⟩ : ∃ tp0, topT ts (l.take k) = tp0 := ⟨_, rfl⟩
      rw [htp0] at HT1
      rw [htp0]
      clear htp0
      have c0 := HL1.out.box.c0
      have c1 := HL1.out.box.c1
      have c2' := HL1.out.box.c2
      have c3 := HL1.out.box.c3
      have c4 := HL1.out.box.c4
      dsimp only at c0 c1 c2' c3 c4
      have hcg : 1 ≤ n' ∨ n' = 0 := by omega
      obtain ⟨vy, hvy⟩ : ∃ vy, vW y = vy := ⟨_, rfl⟩
      have HVW := Lib.hid hvy
      have hlk := HL1.out.var.look Try.underlying61 (x := vy) (by rw [← hvy]; unfold vW; obtain ⟨q1, q2⟩ := wfI_bd hwy; exact wfI_of (by unfold wrap64; omega) (by unfold wrap64; omega))
      dsimp only at hlk
      have hin := fun (h : -65536 ≤ y ∧ y ≤ 65536) => vW_in h.1 h.2
      rw [hvy] at hin
      have HIN := Lib.hid hin
      clear hvy hin hcg
      have hEND : ∀ (W' : World), Below w.heap.size w W' → lessOk x ts l = false → LessP zs e' w (.returned (.tuple #[.slice none 0 0, .int .i64 1])) W' := fun W' hb hno => by
        obtain ⟨rfl, rfl⟩ := HZ.out hno; exact LessP.none hb
      have HE := Lib.hid hEND
      clear hEND
      by_cases hy0 : y = 0
      · have hno := HNO.out (by unfold unl; rw [hy0, isB_zero]; rfl)
        have HNN := Lib.hid hno
        have hy0' : (y == 0) = true := by simpa using hy0
        clear hno hy0 hlk
        go_wp2_with fail
        go_ret2
        exact HE.out _ HL1.out.below HNN.out
      · have hy0' : (y == 0) = false := by simpa using hy0
        cases hva : hasB ((l.take k).map absI) vy with
        | true =>
          rw [hva] at hlk
          have hno := HNO.out (by
            unfold unl
            by_cases hin : -65536 ≤ y ∧ y ≤ 65536
            · rw [HIN.out hin] at hva
              rcases abs_no hva with h9 | h9
              · rw [h9]; simp
              · rw [h9]; simp
            · rw [isB_far hxx.2 hin]; rfl)
          have HNN := Lib.hid hno
          clear hno hy0 hva
          go_wp2_with (go_at_call 46; refine (variable_w y _).mono ?_; rintro e w' ⟨rfl, rfl⟩; rw [HVW.out])
          go_ret2
          exact HE.out _ HL1.out.below HNN.out
        | false =>
          rw [hva] at hlk
          obtain ⟨dw, hdw⟩ : ∃ dw, isW ts y = dw := ⟨_, rfl⟩
          have HDW := Lib.hid hdw
          cases dw with
          | false =>
            have hno : lessOk x ts l = false := by
              by_cases hin : -65536 ≤ y ∧ y ≤ 65536
              · exact HDN.out (by rw [← isW_in (ts := ts) hin.1 hin.2]; exact hdw)
              · exact HNO.out (by unfold unl; rw [isB_far hxx.2 hin]; rfl)
            have HNN := Lib.hid hno
            clear hno hy0 hva hdw
            go_wp2_with (first
            | (go_at_call 46; refine (variable_w y _).mono ?_; rintro e w' ⟨rfl, rfl⟩; rw [HVW.out])
            | (go_at_call 32; refine (deadW_any x A n c A' n' c' A2 n' c2 bi n' ts wr.heap.size y (wr.alloc (.cells #[.int .i64 y] 3)) (HL1.out.map.alloc _) (one_ri wr y) false HDW.out).mono ?_; rintro e w5 ⟨rfl, hb5⟩; have HB5 := Lib.hid hb5; clear hb5))
            go_ret2
            exact HE.out _ (HL1.out.below.trans ((((Below.refl wr.heap.size wr).alloc (Nat.le_refl _) (.cells #[.int .i64 y] 3)).trans (HB5.out.mono (by simp))).mono HL1.out.below.size)) HNN.out
          | true =>
            have hin : -65536 ≤ y ∧ y ≤ 65536 := by
              by_cases h9 : -65536 ≤ y ∧ y ≤ 65536
              · exact h9
              · rw [isW_out HT.out hxx.2 hwy (by omega)] at hdw; cases hdw
            have hpl : plc ts (-y) < ts.length := by rw [isW_in hin.1 hin.2] at hdw; simpa using hdw
            have hib : isB y x = true := by
              have h8 := isB_iff.1 (HT.out.lit _ hpl)
              rw [(plc_lt hpl).1] at h8
              exact isB_iff.2 ⟨by omega, by omega, by omega⟩
            have hva2 := hva
            rw [HIN.out hin] at hva2
            obtain ⟨h8, h9⟩ := abs_has hva2
            have HUU : Hid (unlTo x l (k + 1) = true) := Lib.hid (by rw [HU1.out]; unfold unl; rw [hib, h8, h9]; rfl)
            have HDD1 := Lib.hid (HD1.out (by simpa using hpl))
            have HPL := Lib.hid hpl
            have HVA : Hid (vy = absI y) := Lib.hid (HIN.out hin)
            clear hy0 hva hva2 hdw hpl hib h8 h9
            go_upto_region 12 with (first
              | (go_at_call 46; refine (variable_w y _).mono ?_; rintro e w' ⟨rfl, rfl⟩; rw [HVW.out])
              | (go_at_call 32; refine (deadW_any x A n c A' n' c' A2 n' c2 bi n' ts wr.heap.size y (wr.alloc (.cells #[.int .i64 y] 3)) (HL1.out.map.alloc _) (one_ri wr y) true HDW.out).mono ?_; rintro e w5 ⟨rfl, hb5⟩; have HL5 := Lib.hid (HL1.out.grow (((Below.refl wr.heap.size wr).alloc (Nat.le_refl _) (.cells #[.int .i64 y] 3)).trans (hb5.mono (by simp)))); clear hb5))
            clear c0 c1 c2' c3 c4 hlk hck
            go_cut [52] (fun _ W => L1 w W ⟨x, A, n, c, A', n', c', ts, ls, l, A2, c2, bi, Bk, w.heap.size + 1, w.heap.size, Bin, bin, nl, 0, 0, 0⟩ bv (k + 1))
            case first =>
              have hLd := HL5.out.grow ((Below.refl _ _).drew)
              obtain ⟨Ui, r1, i1, t1⟩ := hLd.inn.put (by unfold maxLen; omega) Try.underlying61 (x := y) (wfI_lit hin.1 hin.2)
              obtain ⟨Uv, r2, v2, t2⟩ := hLd.var.put (by unfold maxLen; omega) Try.underlying61 (x := vy) (by rw [HVA.out]; exact wfI_lit (by unfold absI; split <;> omega) (absI_le hin.1 hin.2))
              obtain ⟨Uiv, r3, v3, t3⟩ := SetM.put (hLd.var.kept t1.grown (fun e => hLd.ne1 (by injection e with e; exact e.symm))) (by unfold maxLen; omega) Try.underlying61 (x := vy) (by rw [HVA.out]; exact wfI_lit (by unfold absI; split <;> omega) (absI_le hin.1 hin.2))
              obtain ⟨Uvi, r4, i4, t4⟩ := SetM.put (hLd.inn.kept t2.grown (fun e => hLd.ne1 (by injection e))) (by unfold maxLen; omega) Try.underlying61 (x := y) (wfI_lit hin.1 hin.2)
              have ea : (l.take (k + 1)).map absI = (l.take k).map absI ++ [vy] := by rw [HTK.out, List.map_append, HVA.out]; rfl
              have fin1 : L1 w Uiv ⟨x, A, n, c, A', n', c', ts, ls, l, A2, c2, bi, Bk, w.heap.size + 1, w.heap.size, Bin, bin, nl, 0, 0, 0⟩ bv (k + 1) := hLd.both (by rw [HTK.out]; exact i1.kept t3.grown (fun e => hLd.ne1 (by injection e))) (by rw [ea]; exact v3) ((Kept2.grown t1.grown (Or.inl rfl)).trans (Kept2.grown t3.grown (Or.inr (Or.inl rfl)))) ((hLd.below.grown t1.grown hLd.below.size (fun g e => by cases e; exact hLd.lo1)).grown t3.grown (hLd.below.grown t1.grown hLd.below.size (fun g e => by cases e; exact hLd.lo1)).size (fun g e => by cases e; exact hLd.lo2))
              have fin2 : L1 w Uvi ⟨x, A, n, c, A', n', c', ts, ls, l, A2, c2, bi, Bk, w.heap.size + 1, w.heap.size, Bin, bin, nl, 0, 0, 0⟩ bv (k + 1) := hLd.both (by rw [HTK.out]; exact i4) (by rw [ea]; exact v2.kept t4.grown (fun e => hLd.ne1 (by injection e with e; exact e.symm))) ((Kept2.grown t2.grown (Or.inr (Or.inl rfl))).trans (Kept2.grown t4.grown (Or.inl rfl))) ((hLd.below.grown t2.grown hLd.below.size (fun g e => by cases e; exact hLd.lo2)).grown t4.grown (hLd.below.grown t2.grown hLd.below.size (fun g e => by cases e; exact hLd.lo2)).size (fun g e => by cases e; exact hLd.lo1))
              have b1 : w5.cell? ⟨Bin, 0, none⟩ = some (.map (some bin)) := HL5.out.bin.cell
              have b2 : Uv.cell? ⟨Bin, 0, none⟩ = some (.map (some bin)) := (hLd.bin.kept t2.grown (fun e => boxed_ne_map hLd.var hLd.bin (by injection e))).cell
              have F1 := Lib.hid fin1
              have F2 := Lib.hid fin2
              dsimp only at r1 r2 r3 r4
              clear fin1 fin2 ea i1 t1 v2 t2 v3 t3 i4 t4 hLd
              go_region_with (go_at_call 46; refine (variable_w y _).mono ?_; rintro e w' ⟨rfl, rfl⟩; rw [HVW.out])
              all_goals go_wp2_with fail
              all_goals go_meet
              all_goals first | exact F1.out | exact F2.out
            case rest =>
              have HL6 := Lib.hid hcut
              have c0 := HL6.out.box.c0
              have c1 := HL6.out.box.c1
              have c2' := HL6.out.box.c2
              have c3 := HL6.out.box.c3
              have c4 := HL6.out.box.c4
              dsimp only at c0 c1 c2' c3 c4
              obtain ⟨r, hr⟩ : ∃ r, lvlT ts y = r := ⟨_, rfl⟩
              have HR := Lib.hid hr
              rw [hr] at HT1
              clear hcut hr
              go_wp2_with (go_at_call 34; refine (llevel_any x A n c A' n' c' A2 n' c2 bi n' ts y _ HL6.out.map HL6.out.lev hin.1 hin.2 HPL.out r HR.out).mono ?_; rintro e w7 ⟨rfl, hb7⟩; have HL7 := Lib.hid (HL6.out.grow hb7); clear hb7)
              go_roundw
              case rel => exact ⟨k + 1, by omega, by go_num, by rw [HT1.out], HL7.out, HUU.out, HDD1.out⟩
              case measure => simp [intOf]; omega
    · obtain rfl : k = nl := by omega
      have htk : l.take k = l := List.take_of_length_le (by rw [HLEN.out]; exact Nat.le_refl _)
      have hun := HUN.out
      have hdd := HDD.out
      rw [htk] at hdd
      have hokk : lessOk x ts l = true := by
        unfold lessOk unlB
        rw [HLEN.out, hun, hdd]; rfl
      obtain ⟨rfl, rfl⟩ := HZ2.out hokk
      obtain ⟨hokl, hcons, hnd, hund⟩ := lessOk_facts hokk hxx.2
      rw [htk]
      have htb := (topT_bd (ts := ts) (l := l)).1
      have htb2 := (topT_bd (ts := ts) (l := l)).2 hund
      obtain ⟨tp, htp⟩ : ∃ tp, topT ts l = tp := ⟨_, rfl⟩
      have HTP := Lib.hid htp
      rw [htp]
      obtain ⟨bkn, hbkn⟩ : ∃ bkn, wr.heap.size = bkn := ⟨_, rfl⟩
      have hstart := ls_start (F := ⟨x, A, n, c, A', n', c', ts, ls, l, A2, c2, bi, Bk, w.heap.size + 1, w.heap.size, Bin, bin, k, bkn + 1, bkn, bkn + 1 + 1⟩) (w := w) (W := wr) (bv := bv) ⟨HL1.out.two, HL1.out.bt, HL1.out.box, HL1.out.lev, HL1.out.map, HL1.out.bin, HL1.out.inn, HL1.out.var, HL1.out.ne1, HL1.out.ne2, HL1.out.ne3, HL1.out.lo1, HL1.out.lo2, HL1.out.below⟩ htk hbkn.symm (by show bkn + 1 = _; omega) (by show bkn + 1 + 1 = _; omega)
      rw [hbkn] at hstart
      have HST0 := Lib.hid hstart
      have hlow := HL1.out.below.size
      have hl2 := HL1.out.inn.lt
      have hl3 := HL1.out.map.lt
      dsimp only at hl2 hl3
      rw [hbkn] at hlow hl2 hl3
      have HOK := Lib.hid hokl
      have HCO := Lib.hid hcons
      have HND := Lib.hid hnd
      have HUD := Lib.hid hund
      clear htk hun hdd hokk hokl hcons hnd hund htp hstart
      go_upto_region 19 with fail
      generalize hW3 : (((wr.alloc (.map #[] 0)).alloc (.cells #[.map (some bkn)] 61)).alloc (.cells #[.func (.func 47) #[] #[.pointer (some ⟨bkn + 1, 0, none⟩), .pointer (some ⟨Bk, 0, none⟩), .pointer (some ⟨w.heap.size + 1, 0, none⟩), .pointer (some ⟨w.heap.size, 0, none⟩), .pointer (some ⟨Bin, 0, none⟩), .pointer (some ⟨bkn + 1 + 1, 0, none⟩)]] 75)).alloc (.map #[] 0) = W3 at *
      obtain ⟨bo, hbo⟩ : ∃ bo, bkn + 1 + 1 + 1 = bo := ⟨_, rfl⟩
      rw [hbo] at HST0
      rw [hbo]
      have hbo1 : bo ≠ bkn := by omega
      have hbo2 : bo ≠ bin := by omega
      have hbo3 : bo ≠ bi := by omega
      have hbo4 : w.heap.size ≤ bo := by omega
      clear hW3 hbkn hbo
      go_wp2_with fail
      go_loopw [68] (fun s68 W => ∃ q : Nat, q ≤ k ∧ s68 = .int .i64 q ∧ ∃ g, Stt w W ⟨x, A, n, c, A', n', c', ts, ls, l, A2, c2, bi, Bk, w.heap.size + 1, w.heap.size, Bin, bin, k, bkn + 1, bkn, bkn + 1 + 1⟩ g ∧ SetM W bo q ((l.take q).filter (keepB ls ts l))) (fun s68 _ => k - (intOf s68).toNat)
      case atStart => exact ⟨0, Nat.zero_le _, rfl, _, HST0.out.1, HST0.out.2⟩
      case round =>
        obtain ⟨q, hq, rfl, g, hst, hom⟩ := hrel
        have HST := Lib.hid hst
        have HOM := Lib.hid hom
        obtain ⟨m, hls, hfew⟩ := hst.st
        have HS := Lib.hid (And.intro hls hfew)
        clear hst hom hls hfew
        by_cases hlt2 : q < k
        · have hql : q < l.length := by rw [HLEN.out]; exact hlt2
          obtain ⟨bs, os, rfl, hbw, hcw⟩ := (HL.out.below HS.out.1.below).cells (by omega)
          have hck := hcw q hlt2
          have hyo := HOK.out.at hql
          have hyu := HUD.out _ (elt_mem hql)
          have EK0 : Hid ((l.take (q + 1)).filter (keepB ls ts l) = (l.take q).filter (keepB ls ts l) ++ (if keepB ls ts l (elt l q) = true then [elt l q] else [])) := Lib.hid (by rw [take_snoc l q hql, List.filter_append]; congr 1; by_cases hh : keepB ls ts l (elt l q) = true <;> simp [hh])
          clear hcw hql
          obtain ⟨y, hy⟩ : ∃ y, elt l q = y := ⟨_, rfl⟩
          rw [hy] at hck hyo hyu EK0
          clear hy
          obtain ⟨r, hr⟩ : ∃ r, lvlT ts y = r := ⟨_, rfl⟩
          obtain ⟨rb, hrb⟩ : ∃ rb, redB ls ts l (plc ts (-y)) = rb := ⟨_, rfl⟩
          have HKE : Hid (keepB ls ts l y = ((decide (0 < tp) && r == tp) || !rb)) := Lib.hid (by unfold keepB; rw [HTP.out, hr, hrb])
          have HR := Lib.hid hr
          have HRB := Lib.hid hrb
          have c0 := HS.out.1.box.c0
          have c1 := HS.out.1.box.c1
          have c2' := HS.out.1.box.c2
          have c3 := HS.out.1.box.c3
          have c4 := HS.out.1.box.c4
          have k8 := HS.out.1.bfn.cell
          unfold impV at k8
          dsimp only at c0 c1 c2' c3 c4 k8
          clear hr hrb
          by_cases h0 : 0 < tp
          · by_cases h1 : r = tp
            · have h1' : (r == tp) = true := by simpa using h1
              have h0' : decide (0 < tp) = true := by simpa using h0
              have EK : Hid ((l.take (q + 1)).filter (keepB ls ts l) = (l.take q).filter (keepB ls ts l) ++ [y]) := Lib.hid (by rw [EK0.out, HKE.out, h0', h1']; rfl)
              clear h1
              go_upto_region 23 with (first | (go_at_call 34; refine (llevel_any x A n c A' n' c' A2 n' c2 bi n' ts y _ HS.out.1.map HS.out.1.lev hyo.2.1 hyo.2.2 hyu r HR.out).mono ?_; rintro e w7 ⟨rfl, hb7⟩; have HT7 := Lib.hid (HST.out.grow hb7); have HO7 := Lib.hid (HOM.out.below hb7 HOM.out.lt); have k9 : w7.cell? ⟨bkn + 1 + 1, 0, none⟩ = some (impV ⟨x, A, n, c, A', n', c', ts, ls, l, A2, c2, bi, Bk, w.heap.size + 1, w.heap.size, Bin, bin, k, bkn + 1, bkn, bkn + 1 + 1⟩) := (hb7.cell (p := ⟨bkn + 1 + 1, 0, none⟩) HS.out.1.bfn.lt).trans HS.out.1.bfn.cell; unfold impV at k9; dsimp only at k9; clear hb7) )
              obtain ⟨w9, hrun, hs9, ht9⟩ := SetM.put HO7.out (by unfold maxLen; omega) Try.underlying61 (x := y) (wfI_lit hyo.2.1 hyo.2.2)
              have HS9 := Lib.hid (HT7.out.turnOther HO7.out ht9 hbo1 hbo2 hbo3 hbo4)
              have HO9 := Lib.hid hs9
              clear hs9 ht9
              go_wp2_with fail
              go_roundw
              case rel => exact ⟨q + 1, by omega, by go_num, _, HS9.out, by rw [EK.out]; exact HO9.out⟩
              case measure => simp [intOf]; omega
            · have h1' : (r == tp) = false := by simpa using h1
              have h0' : decide (0 < tp) = true := by simpa using h0
              cases rb with
              | true =>
                have EK : Hid ((l.take (q + 1)).filter (keepB ls ts l) = (l.take q).filter (keepB ls ts l)) := Lib.hid (by rw [EK0.out, HKE.out, h0', h1']; simp)
                clear h1
                go_wp2_with (first | (go_at_call 34; refine (llevel_any x A n c A' n' c' A2 n' c2 bi n' ts y _ HS.out.1.map HS.out.1.lev hyo.2.1 hyo.2.2 hyu r HR.out).mono ?_; rintro e w7 ⟨rfl, hb7⟩; have HT7 := Lib.hid (HST.out.grow hb7); have HO7 := Lib.hid (HOM.out.below hb7 HOM.out.lt); have k9 : w7.cell? ⟨bkn + 1 + 1, 0, none⟩ = some (impV ⟨x, A, n, c, A', n', c', ts, ls, l, A2, c2, bi, Bk, w.heap.size + 1, w.heap.size, Bin, bin, k, bkn + 1, bkn, bkn + 1 + 1⟩) := (hb7.cell (p := ⟨bkn + 1 + 1, 0, none⟩) HS.out.1.bfn.lt).trans HS.out.1.bfn.cell; unfold impV at k9; dsimp only at k9; clear hb7) | (go_at_call 47; refine (implied_any w ⟨x, A, n, c, A', n', c', ts, ls, l, A2, c2, bi, Bk, w.heap.size + 1, w.heap.size, Bin, bin, k, bkn + 1, bkn, bkn + 1 + 1⟩ HT.out HKK.out H.out H'.out hn' y _ _ hyu hyo.2.1 hyo.2.2 HT7.out true HRB.out).mono ?_; rintro e w8 ⟨rfl, ⟨g8, hst8⟩, hk8⟩; have HT8 := Lib.hid hst8; have HO8 := Lib.hid (SetM.kept2 HO7.out hk8 hbo1 hbo1); clear hst8 hk8))
                go_roundw
                case rel => exact ⟨q + 1, by omega, by go_num, _, HT8.out, by rw [EK.out]; exact HO8.out.mono (by omega)⟩
                case measure => simp [intOf]; omega
              | false =>
                have EK : Hid ((l.take (q + 1)).filter (keepB ls ts l) = (l.take q).filter (keepB ls ts l) ++ [y]) := Lib.hid (by rw [EK0.out, HKE.out, h0', h1']; rfl)
                clear h1
                go_upto_region 23 with (first | (go_at_call 34; refine (llevel_any x A n c A' n' c' A2 n' c2 bi n' ts y _ HS.out.1.map HS.out.1.lev hyo.2.1 hyo.2.2 hyu r HR.out).mono ?_; rintro e w7 ⟨rfl, hb7⟩; have HT7 := Lib.hid (HST.out.grow hb7); have HO7 := Lib.hid (HOM.out.below hb7 HOM.out.lt); have k9 : w7.cell? ⟨bkn + 1 + 1, 0, none⟩ = some (impV ⟨x, A, n, c, A', n', c', ts, ls, l, A2, c2, bi, Bk, w.heap.size + 1, w.heap.size, Bin, bin, k, bkn + 1, bkn, bkn + 1 + 1⟩) := (hb7.cell (p := ⟨bkn + 1 + 1, 0, none⟩) HS.out.1.bfn.lt).trans HS.out.1.bfn.cell; unfold impV at k9; dsimp only at k9; clear hb7) | (go_at_call 47; refine (implied_any w ⟨x, A, n, c, A', n', c', ts, ls, l, A2, c2, bi, Bk, w.heap.size + 1, w.heap.size, Bin, bin, k, bkn + 1, bkn, bkn + 1 + 1⟩ HT.out HKK.out H.out H'.out hn' y _ _ hyu hyo.2.1 hyo.2.2 HT7.out false HRB.out).mono ?_; rintro e w8 ⟨rfl, ⟨g8, hst8⟩, hk8⟩; have HT8 := Lib.hid hst8; have HO8 := Lib.hid (SetM.kept2 HO7.out hk8 hbo1 hbo1); clear hst8 hk8))
                obtain ⟨w9, hrun, hs9, ht9⟩ := SetM.put HO8.out (by unfold maxLen; omega) Try.underlying61 (x := y) (wfI_lit hyo.2.1 hyo.2.2)
                have HS9 := Lib.hid (HT8.out.turnOther HO8.out ht9 hbo1 hbo2 hbo3 hbo4)
                have HO9 := Lib.hid hs9
                clear hs9 ht9
                go_wp2_with fail
                go_roundw
                case rel => exact ⟨q + 1, by omega, by go_num, _, HS9.out, by rw [EK.out]; exact HO9.out⟩
                case measure => simp [intOf]; omega
          · have h0' : decide (0 < tp) = false := by simpa using h0
            have HT7 := HST
            have HO7 := HOM
            cases rb with
            | true =>
              have EK : Hid ((l.take (q + 1)).filter (keepB ls ts l) = (l.take q).filter (keepB ls ts l)) := Lib.hid (by rw [EK0.out, HKE.out, h0']; simp)
              go_wp2_with (first | fail | (go_at_call 47; refine (implied_any w ⟨x, A, n, c, A', n', c', ts, ls, l, A2, c2, bi, Bk, w.heap.size + 1, w.heap.size, Bin, bin, k, bkn + 1, bkn, bkn + 1 + 1⟩ HT.out HKK.out H.out H'.out hn' y _ _ hyu hyo.2.1 hyo.2.2 HT7.out true HRB.out).mono ?_; rintro e w8 ⟨rfl, ⟨g8, hst8⟩, hk8⟩; have HT8 := Lib.hid hst8; have HO8 := Lib.hid (SetM.kept2 HO7.out hk8 hbo1 hbo1); clear hst8 hk8))
              go_roundw
              case rel => exact ⟨q + 1, by omega, by go_num, _, HT8.out, by rw [EK.out]; exact HO8.out.mono (by omega)⟩
              case measure => simp [intOf]; omega
            | false =>
              have EK : Hid ((l.take (q + 1)).filter (keepB ls ts l) = (l.take q).filter (keepB ls ts l) ++ [y]) := Lib.hid (by rw [EK0.out, HKE.out, h0']; rfl)
              go_upto_region 23 with (first | fail | (go_at_call 47; refine (implied_any w ⟨x, A, n, c, A', n', c', ts, ls, l, A2, c2, bi, Bk, w.heap.size + 1, w.heap.size, Bin, bin, k, bkn + 1, bkn, bkn + 1 + 1⟩ HT.out HKK.out H.out H'.out hn' y _ _ hyu hyo.2.1 hyo.2.2 HT7.out false HRB.out).mono ?_; rintro e w8 ⟨rfl, ⟨g8, hst8⟩, hk8⟩; have HT8 := Lib.hid hst8; have HO8 := Lib.hid (SetM.kept2 HO7.out hk8 hbo1 hbo1); clear hst8 hk8))
              obtain ⟨w9, hrun, hs9, ht9⟩ := SetM.put HO8.out (by unfold maxLen; omega) Try.underlying61 (x := y) (wfI_lit hyo.2.1 hyo.2.2)
              have HS9 := Lib.hid (HT8.out.turnOther HO8.out ht9 hbo1 hbo2 hbo3 hbo4)
              have HO9 := Lib.hid hs9
              clear hs9 ht9
              go_wp2_with fail
              go_roundw
              case rel => exact ⟨q + 1, by omega, by go_num, _, HS9.out, by rw [EK.out]; exact HO9.out⟩
              case measure => simp [intOf]; omega
        · obtain rfl : q = k := by omega
          have hqk : l.take q = l := List.take_of_length_le (by rw [HLEN.out]; exact Nat.le_refl _)
          have hom := HOM.out
          rw [hqk] at hom
          have hcK : Cons (l.filter (keepB ls ts l)) := ⟨fun y hy => HCO.out.1 y (List.mem_filter.1 hy).1, fun y hy hn => HCO.out.2 y (List.mem_filter.1 hy).1 (List.mem_filter.1 hn).1⟩
          have HCK := Lib.hid hcK
          have HOQ := Lib.hid hom
          clear hqk hom hcK
          go_wp2_with (go_at_call 36; refine (told_any bo q (l.filter (keepB ls ts l)) _ HOQ.out HCK.out (by omega)).mono ?_; rintro e w5 ⟨l5, A5, c5, rfl, hri5, hasc5, hmem5, hb5⟩; have HT5 := Lib.hid (And.intro hri5 (And.intro hasc5 (And.intro hmem5 hb5))); clear hri5 hasc5 hmem5 hb5)
          go_ret2
          obtain ⟨hri5, hasc5, hmem5, hb5⟩ := HT5.out
          have e5 : l5 = lessL ls ts l := by
            unfold lessL
            refine ascV_unique _ _ hasc5 (asc_risL (HND.out.sublist List.filter_sublist) HCK.out) (fun y => ?_)
            rw [hmem5, mem_risL]
          rw [← e5]
          exact ⟨A5, c5, rfl, hri5, HS.out.1.below.trans (hb5.mono HS.out.1.below.size)⟩

end Go.Proofs.Ytenpenelikpeeaa

namespace Go.Proofs.Ytenpenelikpeeaa
open Go.RowKit Go.Shelf
set_option linter.unusedVariables false
set_option linter.unusedSimpArgs false

theorem backG_le {ts : List Stp} {z M : Int} : ∀ (l : List Int) (b : Int), b ≤ M → (∀ y ∈ l, y ≠ z → lvlT ts y ≤ M) → backG ts z b l ≤ M
  | [], b, h, _ => h
  | y :: l, b, h, h2 => by
    rw [backG]
    refine backG_le l _ ?_ (fun u hu => h2 u (by simp [hu]))
    split
    · exact h
    · rename_i hne; have := h2 y (by simp) hne; omega
theorem backG_ge {ts : List Stp} {z : Int} : ∀ (l : List Int) (b : Int), b ≤ backG ts z b l ∧ ∀ y ∈ l, y ≠ z → lvlT ts y ≤ backG ts z b l
  | [], b => ⟨Int.le_refl _, fun y h => by cases h⟩
  | y :: l, b => by
    rw [backG]
    obtain ⟨h1, h2⟩ := backG_ge (ts := ts) (z := z) l (if y = z then b else max b (lvlT ts y))
    refine ⟨?_, fun u hu hne => ?_⟩
    · split at h1
      · rename_i e; rw [if_pos e]; exact h1
      · rename_i e; rw [if_neg e]; omega
    · rcases List.mem_cons.1 hu with e | e
      · subst e
        rw [if_neg hne] at h1 ⊢
        omega
      · exact h2 u e hne
theorem backL_of {ts : List Stp} {z b : Int} {R : List Int} (h1 : ∀ y ∈ R, y ≠ z → lvlT ts y ≤ b) (h2 : b = 0 ∨ ∃ y ∈ R, y ≠ z ∧ lvlT ts y = b) (h3 : 0 ≤ b) : backL ts z R = b := by
  have a := backG_le (ts := ts) (z := z) (M := b) R 0 h3 h1
  obtain ⟨c, d⟩ := backG_ge (ts := ts) (z := z) R 0
  unfold backL
  rcases h2 with e | ⟨y, hy, hne, e⟩
  · omega
  · have := d y hy hne; omega

/-- First's blocks that the last loop reads -/
structure Fn (w W : World) (F : Fx) (Bf D : Nat) (z : Int) : Prop where
  box : BoxK W F.Bk F.x F.A F.n F.c F.A' F.n' F.c' F.A2 F.n' F.c2 (some F.bi)
  lev : RI W F.A2 F.n' F.c2 (levL F.ts)
  map : IntM W F.bi F.n' (atF F.ts)
  bm : Boxed W F.Bm 61 (.map (some F.b))
  bf : Boxed W Bf 3 (.int .i64 z)
  below : Below w.heap.size w W
  mark : W.heap[D]? = some (.deferred (some []))
structure Apt (w : World) (F : Fx) (Bf D Top : Nat) : Prop where
  k : F.Bk < Top ∧ F.Bk ≠ F.b
  i : F.bi < Top ∧ F.bi ≠ F.b
  m : F.Bm < Top ∧ F.Bm ≠ F.b
  f : Bf < Top ∧ Bf ≠ F.b
  d : D < Top ∧ D ≠ F.b
  row : 0 < F.n' → ∃ b off, F.A2 = some ⟨b, off, none⟩ ∧ b < Top ∧ b ≠ F.b
  lo : w.heap.size ≤ F.b
  top : w.heap.size ≤ Top
theorem Fn.kept {w W W' : World} {F : Fx} {Bf D Top : Nat} {z : Int} {row : Option Nat} (h : Fn w W F Bf D z) (hA : Apt w F Bf D Top) (hg : W.grownBy W' row) (hr : ∀ r, row = some r → r = F.b ∨ Top ≤ r) : Fn w W' F Bf D z :=
  have ne : ∀ {B : Nat}, B < Top ∧ B ≠ F.b → some B ≠ row := fun hB e => by rcases hr _ e.symm with h1 | h1 <;> omega
  { box := h.box.kept hg (ne hA.k)
    lev := h.lev.grown hg (fun h0 b off e => by obtain ⟨b', off', e1, e2⟩ := hA.row h0; rw [e1] at e; cases e; exact ne e2)
    map := h.map.kept hg (ne hA.i)
    bm := h.bm.kept hg (ne hA.m)
    bf := h.bf.kept hg (ne hA.f)
    below := h.below.grown hg h.below.size (fun g e => by have := hA.lo; have := hA.top; rcases hr g e with h1 | h1 <;> omega)
    mark := (hg.block D (Array.getElem?_eq_some_iff.1 h.mark).1 (ne hA.d)).trans h.mark }
theorem grown_of_below {W W' : World} (h : Below W.heap.size W W') : W.grownBy W' none := ⟨h.os, h.tape, h.output, h.size, fun k hk _ => h.block k hk⟩
theorem fn_of {w V : World} {F : Fx} {B13 Bf m D : Nat} {S : List Int} {hi z : Int} (h : FT w V F B13 Bf m S hi z) (hD : V.heap[D]? = some (.deferred (some []))) : Fn w V F Bf D z ∧ Apt w F Bf D V.heap.size := by
  have hf := h.fu.fs
  obtain ⟨es, clock, hb⟩ := map_block hf.set
  refine ⟨⟨hf.box, hf.lev, hf.map, hf.bm, h.bf, hf.below, hD⟩, ⟨hf.box.lt, boxk_ne_map hf.set hf.box⟩, ⟨hf.map.lt, Ne.symm hf.ne1⟩, ⟨hf.bm.lt, boxed_ne_map hf.set hf.bm⟩, ⟨h.bf.lt, boxed_ne_map hf.set h.bf⟩, ⟨(Array.getElem?_eq_some_iff.1 hD).1, fun e => by rw [e, hb] at hD; cases hD⟩, fun h0 => ?_, hf.lo1, hf.below.size⟩
  obtain ⟨b, off, e1, e2, e3⟩ := hf.lev.cells h0
  refine ⟨b, off, e1, e2, fun e => ?_⟩
  have := e3 0 h0
  subst e
  simp [World.cell?, hb] at this

/-- the last loop under way -/
structure Lf (w W : World) (F : Fx) (Bf D r m : Nat) (z : Int) (R : List Int) (left : Int → Bool) (cnt : Nat) (bkv : Int) : Prop where
  fn : Fn w W F Bf D z
  rng : MR 4 edB W F.b r m (setF (R.filter fun y => left y || decide (0 < lvlT F.ts y))) left cnt
  sub : ∀ x, wfI x = true → left x = true → x ∈ R
  ub : ∀ y ∈ R, left y = false → y ≠ z → lvlT F.ts y ≤ bkv
  at' : bkv = 0 ∨ ∃ y ∈ R, left y = false ∧ y ≠ z ∧ lvlT F.ts y = bkv
  nn : 0 ≤ bkv

theorem MR.same {β : Type} {e : TypeId} {ed : β → DataW Unit} {w : World} {b r n cnt : Nat} {f g : Int → Option β} {left left' : Int → Bool} (h : MR e ed w b r n f left cnt) (hf : f = g) (hl : left = left') : MR e ed w b r n g left' cnt := by
  subst hf hl; exact h
theorem MR.turned_le {β : Type} {e : TypeId} {ed : β → DataW Unit} {w : World} {b r n cnt : Nat} {f : Int → Option β} {left : Int → Bool} (h : MR e ed w b r n f left cnt) : r ≠ b := h.ne

theorem lf_start {w w0 V : World} {F : Fx} {Bf m D cnt0 : Nat} {R : List Int} {z : Int} (hfn : Fn w V F Bf D z) (hA : Apt w F Bf D V.heap.size) (hg : V.grownBy w0 none) (hr : MR 4 edB w0 F.b V.heap.size m (setF R) (fun x => (setF R x).isSome) cnt0) (hw : ∀ x ∈ R, wfI x = true) :
    Lf w w0 F Bf D V.heap.size m z R (fun x => hasB R x) cnt0 0 := by
  refine ⟨hfn.kept hA hg (fun r e => by cases e), ?_, fun x _ h => hasB_iff.1 h, fun y hy h => ?_, Or.inl rfl, Int.le_refl _⟩
  · refine hr.same ?_ (funext fun x => setF_some R x)
    congr 1
    exact (List.filter_eq_self.2 fun y hy => by rw [hasB_iff.2 hy]; rfl).symm
  · rw [hasB_iff.2 hy] at h; cases h

section
variable {w W W' : World} {F : Fx} {Bf D r m : Nat} {z bkv x : Int} {R : List Int} {left : Int → Bool} {cnt cnt' : Nat}
/-- a literal of a level above 0 has come by -/
theorem Lf.high (h : Lf w W F Bf D r m z R left cnt bkv) (hfn : Fn w W' F Bf D z) (hl : left x = true) (hx : x ∈ R) (hr : MR 4 edB W' F.b r m (setF (R.filter fun y => left y || decide (0 < lvlT F.ts y))) (fun y => left y && !(y == x)) cnt') (hlv : 0 < lvlT F.ts x) :
    Lf w W' F Bf D r m z R (fun y => left y && !(y == x)) cnt' (if x = z then bkv else max bkv (lvlT F.ts x)) := by
  have hnn := h.nn
  refine ⟨hfn, hr.same ?_ rfl, fun y hy h1 => ?_, fun y hy h1 hne => ?_, ?_, ?_⟩
  · congr 1
    refine List.filter_congr fun y hy => ?_
    by_cases e : y = x
    · subst e; simp [hlv]
    · have : (y == x) = false := by simpa using e
      simp [this]
  · simp only [Bool.and_eq_true] at h1; exact h.sub y hy h1.1
  · by_cases e : y = x
    · subst e; rw [if_neg hne]; omega
    · have e2 : (y == x) = false := by simpa using e
      simp [e2] at h1
      have := h.ub y hy h1 hne
      split <;> omega
  · by_cases e : x = z
    · rw [if_pos e]
      rcases h.at' with h1 | ⟨y, hy, h1, h2, h3⟩
      · exact Or.inl h1
      · exact Or.inr ⟨y, hy, by simp [h1], h2, h3⟩
    · rw [if_neg e]
      rcases Int.le_total bkv (lvlT F.ts x) with h4 | h4
      · exact Or.inr ⟨x, hx, by simp, e, by omega⟩
      · rcases h.at' with h1 | ⟨y, hy, h1, h2, h3⟩
        · exact Or.inl (by omega)
        · exact Or.inr ⟨y, hy, by simp [h1], h2, by omega⟩
  · split <;> omega
/-- a literal of level 0 has been struck -/
theorem Lf.low (h : Lf w W F Bf D r m z R left cnt bkv) (hfn : Fn w W' F Bf D z) (hl : left x = true) (hx : x ∈ R) (hr : MR 4 edB W' F.b r m (dropF (setF (R.filter fun y => left y || decide (0 < lvlT F.ts y))) x) (fun y => (left y && !(y == x)) && !(y == x)) cnt') (hlv : lvlT F.ts x = 0) :
    Lf w W' F Bf D r m z R (fun y => (left y && !(y == x)) && !(y == x)) cnt' bkv := by
  have hnn := h.nn
  refine ⟨hfn, hr.same ?_ rfl, fun y hy h1 => ?_, fun y hy h1 hne => ?_, ?_, hnn⟩
  · rw [setF_drop]
    congr 1
    rw [List.filter_filter]
    refine List.filter_congr fun y hy => ?_
    by_cases e : y = x
    · subst e; simp [hlv]
    · have : (y == x) = false := by simpa using e
      simp [this]
  · simp only [Bool.and_eq_true] at h1; exact h.sub y hy h1.1.1
  · by_cases e : y = x
    · subst e; omega
    · have e2 : (y == x) = false := by simpa using e
      simp [e2] at h1
      exact h.ub y hy h1 hne
  · rcases h.at' with h1 | ⟨y, hy, h1, h2, h3⟩
    · exact Or.inl h1
    · exact Or.inr ⟨y, hy, by simp [h1], h2, h3⟩
/-- all have come by -/
theorem Lf.end' (h : Lf w W F Bf D r m z R left cnt bkv) (hw : ∀ x ∈ R, wfI x = true) (hl : ∀ x, wfI x = true → left x = false) : SetM W F.b m (highs F.ts R) ∧ backL F.ts z R = bkv := by
  refine ⟨?_, backL_of (fun y hy hne => h.ub y hy (hl y (hw y hy)) hne) ?_ h.nn⟩
  · have := h.rng.owns
    have e : (R.filter fun y => left y || decide (0 < lvlT F.ts y)) = highs F.ts R := by
      unfold highs
      refine List.filter_congr fun y hy => ?_
      rw [hl y (hw y hy), Bool.false_or]
    rw [e] at this
    exact this
  · rcases h.at' with h1 | ⟨y, hy, h1, h2, h3⟩
    · exact Or.inl h1
    · exact Or.inr ⟨y, hy, h2, h3⟩
end

end Go.Proofs.Ytenpenelikpeeaa
