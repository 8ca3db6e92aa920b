/-
  The reference's First. No condition.
  What Less answers, in plain words. No program in sight. No condition.
-/
import Derived.Test.YtenpenelikpeeaaZC8

namespace Go.Proofs.Ytenpenelikpeeaa
open Go.RowKit Go.Shelf
set_option linter.unusedVariables false
set_option linter.unusedSimpArgs false

theorem nodup_len : ∀ (S L : List Int), S.Nodup → (∀ x ∈ S, x ∈ L) → S.length ≤ L.length
  | [], L, _, _ => Nat.zero_le _
  | x :: S, L, hn, h => by
    have hn' := List.nodup_cons.1 hn
    have := nodup_len S (L.erase x) hn'.2 fun y hy => by
      have hne : y ≠ x := fun e => hn'.1 (e ▸ hy)
      exact (List.mem_erase_of_ne hne).2 (h y (by simp [hy]))
    have hl := List.length_erase_of_mem (h x (by simp))
    have hp : 0 < L.length := List.length_pos_of_mem (h x (by simp))
    simp
    omega
theorem under_len {ts : List Stp} {S : List Int} (hu : Under ts ts.length S) (hn : S.Nodup) : S.length ≤ ts.length := by
  have h := nodup_len S ((litsOf ts).map (-·)) hn fun x hx => by
    have h1 := plc_lt (hu x hx)
    rw [List.mem_map]
    exact ⟨-x, by unfold litsOf; rw [List.mem_map]; exact ⟨_, stp_mem (hu x hx), h1.1⟩, by omega⟩
  simpa [litsOf] using h

/-- a row of the call's own, its length named -/
def OwnK (W0 : World) (zs : List Int) (k : Nat) (e : Ending) (w' : World) : Prop :=
  ∃ A c, e = .returned (.slice A k c) ∧ w'.ownsRow W0.heap.size 3 1 (.slice A k c) k (zs.map (Value.int .i64)) ∧ Below W0.heap.size W0 w'
theorem OwnR.named {W0 : World} {zs ys : List Int} {k : Nat} {e : Ending} {w' : World} (h : OwnR W0 zs e w') (hz : zs = ys) (hk : ys.length = k) : OwnK W0 ys k e w' := by
  subst hz hk; exact h
theorem more_own (ys : List Int) (k : Nat) (W0 : World) (A : Option Addr) (L c : Nat) (l : List Int) (A' : Option Addr) (n' c' : Nat) (m : List Int) (but : Int) (w : World) (hL : l.length = L) (h : w.ownsRow W0.heap.size 3 1 (.slice A L c) L (l.map (Value.int .i64))) (hb : Below W0.heap.size W0 w) (h' : RI W0 A' n' c' m) (h1 : L ≤ 1000000) (h2 : n' ≤ 1000000) (hz : moreL l but m = ys) (hk : ys.length = k) :
    Calls Try.prog 40 #[.slice A L c, .slice A' n' c', .int .i64 but] w (OwnK W0 ys k) :=
  (more_any W0 A L c l A' n' c' m but w hL h hb h' h1 h2).mono fun _ _ h => h.named hz hk
theorem without_own (ys : List Int) (k : Nat) (W0 : World) (A : Option Addr) (n c : Nat) (l : List Int) (x : Int) (w : World) (h : RI w A n c l) (hb : Below W0.heap.size W0 w) (h1 : n ≤ 1000000) (hz : without l x = ys) (hk : ys.length = k) :
    Calls Try.prog 42 #[.slice A n c, .int .i64 x] w fun e w' => OwnK W0 ys k e w' ∧ Below w.heap.size w w' :=
  (without_any W0 A n c l x w h hb h1).mono fun _ _ h => ⟨h.1.named hz hk, h.2⟩

/-- what First hands back -/
def FirstP (zs : List Int) (bk e' : Int) (w : World) (e : Ending) (w' : World) : Prop :=
  ∃ A c, e = .returned (.tuple #[.slice A zs.length c, .int .i64 bk, .int .i64 e']) ∧ RI w' A zs.length c zs ∧ Below w.heap.size w w'
theorem FirstP.none {w w' : World} {e' : Int} (hb : Below w.heap.size w w') : FirstP [] 0 e' w (.returned (.tuple #[.slice Option.none 0 0, .int .i64 0, .int .i64 e'])) w' :=
  ⟨Option.none, 0, rfl, RI.nil _ _ _ (Nat.zero_le _), hb⟩

set_option maxRecDepth 100000 in
set_option maxHeartbeats 2000000 in
theorem rfirst_bad (x : Int) (A : Option Addr) (n c : Nat) (ls : List (List Int)) (A' : Option Addr) (n' c' : Nat) (ts : List Stp) (q : Int) (w : World) (h : RL w A n c ls) (h' : RS w A' n' c' ts) (hn' : n' ≤ 1000000) (hE : propE x ls ts ≠ 0) :
    Calls Try.prog 14 #[.agg #[.int .i64 x, .slice A n c], .slice A' n' c', .int .i64 q] w (FirstP [] 0 (propE x ls ts) w) := by
  have hcall := rcheck_val (propE x ls ts) x A n c ls A' n' c' ts _ (h.alloc (.cells #[.int .i64 x, .slice A n c] 24)) (h'.alloc (.cells #[.int .i64 x, .slice A n c] 24)) hn' rfl
  generalize propE x ls ts = r at hcall hE ⊢
  have hr : (r != 0) = true := by simpa using hE
  clear hE h h'
  go_enter Try.func14, Try.ntmps14
  go_wp2_with (go_at_call 37; refine hcall.mono ?_; clear hcall; rintro e w1 ⟨rfl, hb⟩)
  go_ret3
  exact FirstP.none (((Below.refl _ w).alloc (Nat.le_refl _) _).trans (hb.mono (by simp)))

set_option maxRecDepth 100000 in
set_option maxHeartbeats 2000000 in
theorem rfirst_arg (x : Int) (A : Option Addr) (n c : Nat) (ls : List (List Int)) (A' : Option Addr) (n' c' : Nat) (ts : List Stp) (q : Int) (w : World) (h : RL w A n c ls) (h' : RS w A' n' c' ts) (hn' : n' ≤ 1000000) (hE : propE x ls ts = 0)
    (hq : q < 0 ∨ (ls.length : Int) ≤ q ∨ deadB ts (ell ls q.toNat) = false) :
    Calls Try.prog 14 #[.agg #[.int .i64 x, .slice A n c], .slice A' n' c', .int .i64 q] w (FirstP [] 0 1 w) := by
  have hcall := rcheck_val 0 x A n c ls A' n' c' ts _ (h.alloc (.cells #[.int .i64 x, .slice A n c] 24)) (h'.alloc (.cells #[.int .i64 x, .slice A n c] 24)) hn' hE
  have H := Lib.hid (h.alloc (.cells #[.int .i64 x, .slice A n c] 24))
  have H' := Lib.hid (h'.alloc (.cells #[.int .i64 x, .slice A n c] 24))
  have BX := Lib.hid (Two.new w (.int .i64 x) (.slice A n c))
  have HB0 := Lib.hid ((Below.refl w.heap.size w).alloc (Nat.le_refl _) (.cells #[.int .i64 x, .slice A n c] 24))
  have HK := Lib.hid (checkE_lits (propE_zero hE).1)
  have hlen := h.len
  rw [hlen] at hq
  have HLN := Lib.hid hlen
  clear h h' hE hlen
  by_cases q0 : q < 0
  · clear hq
    go_enter Try.func14, Try.ntmps14
    go_wp2_with (go_at_call 37; refine hcall.mono ?_; clear hcall; rintro e w1 ⟨rfl, hb⟩; have t1 := (BX.out.below hb).c1; have HB1 := Lib.hid (HB0.out.trans (hb.mono HB0.out.size)); clear hb)
    go_ret3
    exact FirstP.none HB1.out
  · by_cases q1 : (n : Int) ≤ q
    · clear hq
      go_enter Try.func14, Try.ntmps14
      go_wp2_with (go_at_call 37; refine hcall.mono ?_; clear hcall; rintro e w1 ⟨rfl, hb⟩; have t1 := (BX.out.below hb).c1; have HB1 := Lib.hid (HB0.out.trans (hb.mono HB0.out.size)); clear hb)
      go_ret3
      exact FirstP.none HB1.out
    · obtain ⟨j, rfl⟩ : ∃ j : Nat, q = j := ⟨q.toNat, by omega⟩
      have hd : deadB ts (ell ls j) = false := by
        rcases hq with h1 | h1 | h1
        · omega
        · omega
        · rwa [Int.toNat_natCast] at h1
      have HD := Lib.hid hd
      obtain ⟨b2, off2, rfl, hb2, hc2⟩ := H.out.cells (by omega)
      obtain ⟨a3, n3, c3, hc3, hr3⟩ := hc2 j (by omega)
      have HR3 := Lib.hid hr3
      have HO3 := Lib.hid (HK.out _ (ell_mem (ls := ls) (k := j) (by rw [HLN.out]; omega)))
      clear hq hd hc2 hr3
      go_enter Try.func14, Try.ntmps14
      go_wp2_with (first
        | (go_at_call 37; refine hcall.mono ?_; clear hcall; rintro e w1 ⟨rfl, hb⟩; have t1 := (BX.out.below hb).c1; have hck := (hb.cell (p := ⟨b2, off2 + j, none⟩) hb2).trans hc3; have HB1 := Lib.hid (HB0.out.trans (hb.mono HB0.out.size)); have HS1 := Lib.hid (H'.out.below hb); have HR1 := Lib.hid (HR3.out.below hb); clear hb)
        | (go_at_call 38; refine (falsely_val false A' n' c' ts a3 n3 c3 _ _ HS1.out hn' HR1.out HO3.out HD.out).mono ?_; rintro e w2 ⟨rfl, rfl⟩))
      go_ret3
      exact FirstP.none HB1.out

set_option maxRecDepth 100000 in
set_option maxHeartbeats 4000000 in
theorem rfirst_ok (x : Int) (A : Option Addr) (n c : Nat) (ls : List (List Int)) (A' : Option Addr) (n' c' : Nat) (ts : List Stp) (j : Nat) (w : World) (h : RL w A n c ls) (h' : RS w A' n' c' ts) (hn' : n' ≤ 1000) (hE : propE x ls ts = 0) (hj : j < n) (hd : deadB ts (ell ls j) = true) (hlong : ∀ l ∈ ls, l.length ≤ 1000) (zs : List Int) (bk e' : Int)
    (hz : lastT ts = 0 ∨ hiN ts (lastT ts) (start ls j) = 0 → zs = [] ∧ bk = 0 ∧ e' = 200)
    (hz2 : ¬ (lastT ts = 0 ∨ hiN ts (lastT ts) (start ls j) = 0) → zs = risL (highs ts (roadEnd ls ts j)) ∧ bk = backL ts (firstX ls ts j) (roadEnd ls ts j) ∧ e' = 0) :
    Calls Try.prog 14 #[.agg #[.int .i64 x, .slice A n c], .slice A' n' c', .int .i64 j] w (FirstP zs bk e' w) := by
  obtain ⟨i0, hi, hz0, hz1, hzz2⟩ := info_parts infoInt
  have hcall := rcheck_val 0 x A n c ls A' n' c' ts _ (h.alloc (.cells #[.int .i64 x, .slice A n c] 24)) (h'.alloc (.cells #[.int .i64 x, .slice A n c] 24)) (by omega) hE
  have H := Lib.hid (h.alloc (.cells #[.int .i64 x, .slice A n c] 24))
  have H' := Lib.hid (h'.alloc (.cells #[.int .i64 x, .slice A n c] 24))
  have BX := Lib.hid (Two.new w (.int .i64 x) (.slice A n c))
  have HB0 := Lib.hid ((Below.refl w.heap.size w).alloc (Nat.le_refl _) (.cells #[.int .i64 x, .slice A n c] 24))
  obtain ⟨hce, htr⟩ := propE_zero hE
  have HK := Lib.hid (checkE_lits hce)
  have hxx := checkE_n hce
  have HT := Lib.hid (trail_tr htr)
  have HLN := Lib.hid h.len
  have HD := Lib.hid hd
  have hlt := h'.len
  have HTS := Lib.hid hlt
  have HLONG := Lib.hid hlong
  have hu0 := start_under (ls := ls) (ts := ts) (q := j) (by rw [Int.toNat_natCast]; exact hd)
  have hn0 := start_nodup ls j
  have hs0 : start ls j = moreL [] 0 (ell ls j) := by unfold start; rw [Int.toNat_natCast]
  have hre : roadEnd ls ts j = uipL ls ts (lastT ts) ts.length (start ls j) := rfl
  have hfx : firstX ls ts j = (latT ts (lastT ts) (uipL ls ts (lastT ts) ts.length (start ls j))).1 := rfl
  rw [hre, hfx] at hz2
  generalize start ls j = S0 at *
  have hlast : lastT ts = (cntD ts : Int) := rfl
  generalize hlvt : lastT ts = lv at *
  have HLT := Lib.hid hlvt
  have HLV := Lib.hid hlast
  clear hlast hlvt
  obtain ⟨L0, hl0⟩ : ∃ L0, S0.length = L0 := ⟨_, rfl⟩
  obtain ⟨⟨qx, qm⟩, hq⟩ : ∃ q, latT ts lv S0 = q := ⟨_, rfl⟩
  have hmany := latT_count ts lv S0
  rw [hq] at hmany
  have hL0n : L0 ≤ n' := by rw [← hl0, ← hlt]; exact under_len hu0 hn0
  have HC0 := Lib.hid (under_cons HT.out hxx.2 hu0)
  have hU0 := Lib.hid hu0
  have hN0 := Lib.hid hn0
  have hS0 := Lib.hid hs0
  have HLL := Lib.hid hl0
  have HQ := Lib.hid hq
  have HM := Lib.hid hmany
  have HZ := Lib.hid hz
  have HZ2 := Lib.hid hz2
  clear hu0 hn0 hs0 hl0 hq hmany hz hz2 hre hfx
  obtain ⟨b2, off2, rfl, hb2, hc2⟩ := H.out.cells (by omega)
  obtain ⟨a3, n3, c3, hc3, hr3⟩ := hc2 j hj
  have HR3 := Lib.hid hr3
  have HO3 := Lib.hid (HK.out _ (ell_mem (ls := ls) (k := j) (by rw [HLN.out]; exact hj)))
  have hn3 : n3 ≤ 1000 := by rw [← hr3.len]; exact hlong _ (ell_mem (by rw [HLN.out]; exact hj))
  have q0 : ¬ (j : Int) < 0 := by omega
  have q1 : ¬ (n : Int) ≤ (j : Int) := by omega
  have hcd : cntD ts ≤ n' := by rw [← hlt]; exact cntD_le _
  clear h h' hE hce htr hd hlong hc2 hr3 hlt
  go_enter Try.func14, Try.ntmps14
  go_upto_region 8 with (first
    | (go_at_call 37; refine hcall.mono ?_; clear hcall; rintro e w1 ⟨rfl, hb⟩; have t1 := (BX.out.below hb).c1; have BX1 := Lib.hid (BX.out.below hb); have l1 := BX1.out.lt; have l2 := Nat.lt_of_lt_of_le hb2 hb.size; have hck := (hb.cell (p := ⟨b2, off2 + j, none⟩) hb2).trans hc3; have HB1 := Lib.hid (HB0.out.trans (hb.mono HB0.out.size)); have HS1 := Lib.hid (H'.out.below hb); have HL1 := Lib.hid (H.out.below hb); have HR1 := Lib.hid (HR3.out.below hb); clear hb)
    | (go_at_call 38; refine (falsely_val true A' n' c' ts a3 n3 c3 _ _ HS1.out (by omega) HR1.out HO3.out HD.out).mono ?_; rintro e w2 ⟨rfl, rfl⟩)
    | (go_at_call 39; refine (last_any A' n' c' ts x ls _ HS1.out HT.out (by omega)).mono ?_; rintro e w2 ⟨rfl, rfl⟩; rw [← HLV.out])
    | (go_at_call 40; refine (more_own S0 L0 w1 (some ⟨w1.heap.size, 0, none⟩) 0 0 [] a3 n3 c3 (ell ls j) 0 _ rfl (own_empty w1 _ _ 3 rfl (Nat.le_refl _)) ((Below.refl _ _).alloc (Nat.le_refl _) _) HR1.out (by omega) (by omega) hS0.out.symm HLL.out).mono ?_; rintro e w3 ⟨A4, c4, rfl, ho4, hb4⟩; have HO4 := Lib.hid ho4; have HB4 := Lib.hid hb4; clear ho4 hb4))
  have hsz4 := HB4.out.size
  have l4 := Nat.lt_of_lt_of_le l1 hsz4
  clear t1 hck
  go_upto_region 9 with (go_at_call 41; refine (latest_any A' n' c' ts A4 L0 c4 S0 lv _ (HS1.out.below HB4.out) (by omega) (RI.of_own HO4.out (by omega)) HC0.out.1 hU0.out (by omega)).mono ?_; rintro e w5 ⟨rfl, hb5⟩; rw [HQ.out]; have HB5 := Lib.hid (HB4.out.trans (hb5.mono hsz4)); have HO5 := Lib.hid (own_below HO4.out hb5); clear hb5)
  by_cases hz : lv = 0 ∨ qm = 0
  · obtain ⟨hz1, hz2, hz3⟩ := HZ.out (by rw [← HM.out]; exact hz)
    subst hz1 hz2 hz3
    by_cases hlz : lv = 0
    · have hb : (lv == 0) = true := by simpa using hlz
      clear hz hlz
      go_wp2_with fail
      go_ret3
      exact FirstP.none (HB1.out.trans (HB5.out.mono HB1.out.size))
    · have hm0 : qm = 0 := by rcases hz with h1 | h1; exact absurd h1 hlz; exact h1
      subst hm0
      have hb : (lv == 0) = false := by simpa using hlz
      clear hz hlz
      go_wp2_with fail
      go_ret3
      exact FirstP.none (HB1.out.trans (HB5.out.mono HB1.out.size))
  · obtain ⟨hz1, hz2, hz3⟩ := HZ2.out (by rw [← HM.out]; exact hz)
    have Z1 := Lib.hid hz1
    have Z2 := Lib.hid hz2
    subst hz3
    have hb : (lv == 0) = false := by simpa using (fun e => hz (Or.inl e))
    have hb2 : ((qm : Int) == 0) = false := by simp; exact fun e => hz (Or.inr e)
    have hqm : 0 < qm := by rcases Nat.eq_zero_or_pos qm with h1 | h1; exact absurd (Or.inr h1) hz; exact h1
    clear hz hz1 hz2
    go_upto_region 11 with fail
    go_loopw [11, 12, 13] (fun s11 s12 s13 W => ∃ (S : List Int) (x1 : Int) (m1 L : Nat) (O : Option Addr) (co : Nat), s11 = .slice O L co ∧ s12 = .int .i64 x1 ∧ s13 = .int .i64 m1 ∧ S.length = L ∧ W.ownsRow w1.heap.size 3 1 (.slice O L co) L (S.map (Value.int .i64)) ∧ Below w1.heap.size w1 W ∧ Under ts ts.length S ∧ S.Nodup ∧ latT ts lv S = (x1, m1) ∧ 0 < m1 ∧ uipL ls ts lv ts.length S = uipL ls ts lv ts.length S0) (fun _ s12 _ _ => (plcI ts (-(intOf s12)) + 1).toNat)
    case atStart => exact ⟨S0, qx, qm, L0, A4, c4, rfl, rfl, rfl, HLL.out, HO5.out, HB5.out, hU0.out, hN0.out, HQ.out, hqm, rfl⟩
    case round =>
      obtain ⟨S, x1, m1, L, O, co, rfl, rfl, rfl, hSL, hown, hb, hu, hnd, hla, hm1, hroad⟩ := hrel
      have hLn : L ≤ n' := by rw [← hSL, ← HTS.out]; exact under_len hu hnd
      have HC := Lib.hid (under_cons HT.out hxx.2 hu)
      have hcount := latT_count ts lv S
      rw [hla] at hcount
      dsimp only at hcount
      have HSL := Lib.hid hSL
      have HO := Lib.hid hown
      have HB := Lib.hid hb
      have HU := Lib.hid hu
      have HND := Lib.hid hnd
      have HLA := Lib.hid hla
      have HCT := Lib.hid hcount
      have HROAD := Lib.hid hroad
      have hsz := hb.size
      have RIS := Lib.hid (RI.of_own hown (by omega))
      have BXr := Lib.hid (BX1.out.below hb)
      have t1 := BXr.out.c1
      have lr := BXr.out.lt
      clear hSL hown hb hu hnd hla hcount hroad
      by_cases h1 : 1 < m1
      · have hst := ref_step HT.out HU.out HND.out (by rw [HLT.out, ← HCT.out]; omega)
        rw [HLT.out, HLA.out] at hst
        dsimp only at hst
        obtain ⟨p1, p2, p3, p4, p5, p6⟩ := hst
        have hxS : x1 ∈ S := by have := (latT_max (ts := ts) (n := lv) (l := S) (by rw [← HCT.out]; omega)).1; rwa [HLA.out] at this
        have hxo := HC.out.1 x1 hxS
        have hneg := lit_neg' hxo.2.1 hxo.2.2
        have hwy := HT.out.why (plc ts (-x1)) p1
        rw [HLN.out] at hwy
        have hsd : stepU ls ts S x1 = moreL (without S x1) (-x1) (ell ls (stp ts (plc ts (-x1))).why.toNat) := rfl
        generalize hpi : plc ts (-x1) = i at *
        have HPI : Hid (plcI ts (-x1) = (i : Int)) := Lib.hid (by rw [plcI_of (by omega), hpi])
        have hin : i < n' := by rw [← HTS.out]; exact p1
        obtain ⟨bt, ot, rfl, hbt, hct⟩ := (HS1.out.below HB.out).cells (by omega)
        have hwc := (hct i (by omega)).2
        generalize hwi : (stp ts i).why = wy at *
        obtain ⟨jj, rfl⟩ : ∃ jj : Nat, wy = jj := ⟨wy.toNat, by omega⟩
        rw [Int.toNat_natCast] at hsd
        obtain ⟨bl, ol, el, hbl, hcl⟩ := (HL1.out.below HB.out).cells (by omega)
        cases el
        obtain ⟨a5, n5, c5, hc5, hr5⟩ := hcl jj (by omega)
        have hn5 : n5 ≤ 1000 := by rw [← hr5.len]; exact HLONG.out _ (ell_mem (by rw [HLN.out]; omega))
        obtain ⟨a6, n6, c6, hc6, hr6⟩ : ∃ a6 n6 c6, w1.cell? ⟨b2, off2 + jj, none⟩ = some (.slice a6 n6 c6) ∧ RI w1 a6 n6 c6 (ell ls jj) := by
          obtain ⟨bl', ol', el', hbl', hcl'⟩ := HL1.out.cells (by omega)
          cases el'
          exact hcl' jj (by omega)
        have e56 : (Value.slice a5 n5 c5) = .slice a6 n6 c6 := by
          have := (HB.out.cell (p := ⟨b2, off2 + jj, none⟩) l2).trans hc6
          rw [hc5] at this
          injection this
        simp only [Value.slice.injEq] at e56
        obtain ⟨rfl, rfl, rfl⟩ := e56
        have HR6 := Lib.hid hr6
        generalize hS' : stepU ls ts S x1 = S' at *
        have hu' := Under.mono p3 (Nat.le_of_lt p1)
        have hL' : S'.length ≤ n' := by rw [← HTS.out]; exact under_len hu' p4
        obtain ⟨L', hl'⟩ : ∃ L', S'.length = L' := ⟨_, rfl⟩
        rw [hl'] at hL'
        obtain ⟨S1, hs1⟩ : ∃ S1, without S x1 = S1 := ⟨_, rfl⟩
        obtain ⟨L1, hl1⟩ : ∃ L1, S1.length = L1 := ⟨_, rfl⟩
        have hL1 : L1 ≤ n' := by
          rw [← hl1, ← hs1]
          exact Nat.le_trans (List.length_filter_le _ _) (by rw [HSL.out]; exact hLn)
        rw [hs1] at hsd
        obtain ⟨⟨x2, m2⟩, hla2⟩ : ∃ q, latT ts lv S' = q := ⟨_, rfl⟩
        have hct2 := latT_count ts lv S'
        rw [hla2] at hct2
        dsimp only at hct2
        have HC' := Lib.hid (under_cons HT.out hxx.2 hu')
        have HS1' := Lib.hid hs1
        have HLs := Lib.hid (And.intro hl1 hl')
        have HSD := Lib.hid hsd.symm
        have HPP := Lib.hid (And.intro hu' (And.intro p4 (And.intro p6 p3)))
        have HLA2 := Lib.hid hla2
        have hm2 : 0 < m2 := by omega
        have hmeas : (plcI ts (-x2) + 1).toNat < (plcI ts (-x1) + 1).toNat := by
          have h3 := (latT_max (ts := ts) (n := lv) (l := S') (by omega)).1
          rw [hla2] at h3
          dsimp only at h3
          have h4 := p3 _ h3
          rw [HPI.out, plcI_of (by omega)]
          omega
        have HMS := Lib.hid hmeas
        have hjn : (jj : Int) < (n : Int) := hwy.2
        have hin' : (i : Int) < (n' : Int) := by omega
        have hjb : jj < n := by omega
        clear p1 p2 p3 p4 p6 hsd hpi hwi hct hcl hr5 hr6 hc6 hu' hl' hs1 hl1 hla2 hct2 hmeas hwy hS' hxS
        have ww : IntKind.i64.wrap (-x1) = -x1 := IntWalk.i64_in _ (by omega)
        go_upto_region 12 with fail
        go_region_with (first
          | (go_at_call 42; go_loud (refine (without_own S1 L1 w1 O L co S x1 wr.drew (RIS.out.below ((Below.refl _ _).drew)) (HB.out.drew) (by omega) HS1'.out HLs.out.1).mono ?_; rintro e w6 ⟨⟨A6, c6', rfl, ho6, hb6⟩, hbq⟩; have hbr : Below wr.heap.size wr w6 := ((Below.refl _ _).drew).trans (hbq.mono (Nat.le_refl _)); have HO6 := Lib.hid ho6; have HB6 := Lib.hid hb6; have t6 := (BXr.out.below hbr).c1; have k6 := (hbr.cell (p := ⟨b2, off2 + jj, none⟩) hbl).trans hc5; have z6 := (hbr.cell (p := ⟨bt, ot + i * 2 + 1, none⟩) hbt).trans hwc; have HS6 := Lib.hid (HS1.out.below hb6); clear ho6 hb6 hbr hbq))
          | (go_at_call 43; ((with_reducible refine (place_val (i : Int) _ n' c' ts (-x1) wr.drew (HS1.out.below HB.out.drew) (by omega) HPI.out).mono ?_)); rintro e w' ⟨rfl, rfl⟩)
          | (go_at_call 43; ((with_reducible refine (place_val (i : Int) _ n' c' ts (-x1) w6 HS6.out (by omega) HPI.out).mono ?_)); rintro e w' ⟨rfl, rfl⟩)
          | (go_at_call 40; refine (more_own S' L' w1 A6 L1 c6' S1 a5 n5 c5 (ell ls jj) (-x1) w6 HLs.out.1 HO6.out HB6.out HR6.out (by omega) (by omega) HSD.out HLs.out.2).mono ?_; rintro e w7 ⟨A7, c7, rfl, ho7, hb7⟩; have HO7 := Lib.hid ho7; have HB7 := Lib.hid hb7; clear ho7 hb7))
        all_goals clear ww
        all_goals
          go_wp2_with (go_at_call 41; refine (latest_any _ n' c' ts A7 L' c7 S' lv _ (HS1.out.below HB7.out) (by omega) (RI.of_own HO7.out (by omega)) HC'.out.1 HPP.out.1 (by omega)).mono ?_; rintro e w8 ⟨rfl, hb8⟩; rw [HLA2.out]; have HB8 := Lib.hid (HB7.out.trans (hb8.mono HB7.out.size)); have HO8 := Lib.hid (own_below HO7.out hb8); clear hb8)
          go_roundw
          case rel => exact ⟨S', x2, m2, L', A7, c7, rfl, rfl, rfl, HLs.out.2, HO8.out, HB8.out, HPP.out.1, HPP.out.2.1, HLA2.out, hm2, by rw [HPP.out.2.2.1]; exact HROAD.out⟩
          case measure => exact HMS.out
      · have hm : m1 = 1 := by omega
        have hz1m : ¬ (1 : Int) < (m1 : Int) := by omega
        have hend : uipL ls ts lv ts.length S0 = S := by rw [← HROAD.out, uipL_stop (by rw [← HCT.out]; omega)]
        have hzz := Z1.out
        have hbb := Z2.out
        rw [hend] at hzz hbb
        rw [HLA.out] at hbb
        dsimp only at hbb
        obtain ⟨ys, hys⟩ : ∃ ys, highs ts S = ys := ⟨_, rfl⟩
        rw [hys] at hzz
        have HZS := Lib.hid hzz
        have HBK := Lib.hid hbb
        have HYS := Lib.hid hys
        have hylen : ys.length ≤ n' := by rw [← hys]; exact Nat.le_trans (List.length_filter_le _ _) (by rw [HSL.out]; exact hLn)
        obtain ⟨W1, hW1⟩ : ∃ W, W = wr := ⟨wr, rfl⟩
        subst hW1
        have HOE := Lib.hid (own_empty W1 W1.heap.size W1.heap.size 3 rfl (Nat.le_refl _))
        have HBE := Lib.hid ((Below.refl W1.heap.size W1).alloc (Nat.le_refl _) (.cells #[] 3))
        clear hend hzz hbb hys
        have HSW := Lib.hid (HS1.out.below HB.out)
        have HX0 := Lib.hid (HB1.out.trans (HB.out.mono HB1.out.size))
        go_wp2_with fail
        go_loopw [14, 15, 16] (fun s14 s15 s16 W => ∃ (k K : Nat) (O2 : Option Addr) (co2 : Nat), k ≤ L ∧ s16 = .int .i64 k ∧ s14 = .slice O2 K co2 ∧ s15 = .int .i64 (backG ts x1 0 (S.take k)) ∧ (highs ts (S.take k)).length = K ∧ W.ownsRow W1.heap.size 3 1 (.slice O2 K co2) K ((highs ts (S.take k)).map (Value.int .i64)) ∧ Below W1.heap.size W1 W) (fun _ _ s16 _ => L - (intOf s16).toNat)
        case atStart => exact ⟨0, 0, _, 0, Nat.zero_le _, rfl, rfl, rfl, rfl, HOE.out, HBE.out⟩
        case round =>
          obtain ⟨k, K, O2, co2, hk, rfl, rfl, rfl, hK, hown2, hb2'⟩ := hrel
          have hKk : K ≤ k := by rw [← hK]; exact Nat.le_trans (List.length_filter_le _ _) (by rw [List.length_take]; omega)
          have HK2 := Lib.hid hK
          have HO2 := Lib.hid hown2
          have HB2 := Lib.hid hb2'
          have hsz2 := hb2'.size
          clear hK hown2 hb2' t1
          by_cases hlk : k < L
          · obtain ⟨bs, os, rfl, hbw, hcs0⟩ := RIS.out.cells (by omega)
            have hcw := hcs0 k hlk
            have hck := (HB2.out.cell (p := ⟨bs, os + k, none⟩) hbw).trans hcw
            have hbs := Nat.lt_of_lt_of_le hbw hsz2
            have hl : k < S.length := by rw [HSL.out]; exact hlk
            have hyS := elt_mem hl
            have hyo := HC.out.1 _ hyS
            have hyd := HU.out _ hyS
            have EB : Hid (backG ts x1 0 (S.take (k + 1)) = if elt S k = x1 then backG ts x1 0 (S.take k) else max (backG ts x1 0 (S.take k)) (lvlT ts (elt S k))) := Lib.hid (by rw [take_snoc S k hl, backG_snoc])
            have EH : Hid (highs ts (S.take (k + 1)) = highs ts (S.take k) ++ (if 0 < lvlT ts (elt S k) then [elt S k] else [])) := Lib.hid (by unfold highs; rw [take_snoc S k hl, List.filter_append]; congr 1; by_cases hh : 0 < lvlT ts (elt S k) <;> simp [hh])
            clear hcs0 hl hyS
            generalize elt S k = y at *
            generalize backG ts x1 0 (S.take k) = bk0 at *
            obtain ⟨r, hr⟩ : ∃ r, lvlT ts y = r := ⟨_, rfl⟩
            rw [hr] at EB EH
            have HR := Lib.hid hr
            have hlev := fun W (hS : RS W A' n' c' ts) => level20_val r A' n' c' ts y W hS (by omega) hyo.2.1 hyo.2.2 hyd HR.out
            have HCW := Lib.hid hcw
            clear hr hyo hyd
            by_cases hr0 : 0 < r
            · have EH2 : Hid (highs ts (S.take (k + 1)) = highs ts (S.take k) ++ [y]) := Lib.hid (by rw [EH.out, if_pos hr0])
              by_cases hyx : y = x1
              · have hyb : (y != x1) = false := by simpa using hyx
                have EB2 : Hid (backG ts x1 0 (S.take (k + 1)) = bk0) := Lib.hid (by rw [EB.out, if_pos hyx])
                clear hyx hcw
                go_wp2_with (first
                  | (go_at_call 44; refine (hlev _ (HSW.out.below HB2.out)).mono ?_; clear hlev; rintro e w7 ⟨rfl, hb7⟩; have HB7 := Lib.hid (HB2.out.trans (hb7.mono HB2.out.size)); have hs7 := HB7.out.size; have HO7 := Lib.hid (own_below HO2.out hb7); have hk7 := (HB7.out.cell (p := ⟨bs, os + k, none⟩) hbw).trans HCW.out; have hl7 := Nat.lt_of_lt_of_le hbw HB7.out.size; clear hb7)
                  | (at_builtin; refine wpList_append_own_at _ rfl (.tmp 107) (.tmp 112) 28 rfl W1.heap.size 3 i0 (.int .i64 0) 1 8 Try.underlying28 hi hz0 hz1 hzz2 rfl (by decide) (.slice O2 K co2) K _ rfl (HO7.out.alloc _) ⟨_, 0, none⟩ 1 1 [.int .i64 y] rfl rfl (cell_new_at _ _ _ _ (by simp)) (by simp [Value.oneCell']) (by unfold maxLen; omega) (by omega) (by simp; omega) ?_; intro v' w9 hown' hgrow hnil hloc; obtain ⟨g', cap', rfl⟩ := own_succ hown'; have G1 := Lib.hid (grown_below hgrow); have O1 := Lib.hid hown'; have hB9 := Lib.hid (HB7.out.grown G1.out HB7.out.size (fun g hg => (own_lt HO7.out hg).1)); have hk9 := (hB9.out.cell (p := ⟨bs, os + k, none⟩) hbw).trans HCW.out; have hl9 := Nat.lt_of_lt_of_le hbw hB9.out.size; clear hown' hgrow hnil hloc))
                go_roundw
                case rel => exact ⟨k + 1, K + 1, some ⟨g', 0, none⟩, cap', by omega, by go_num, rfl, by rw [EB2.out], by rw [EH2.out, List.length_append, HK2.out]; rfl, by rw [EH2.out, List.map_append]; exact O1.out, hB9.out⟩
                case measure => simp [intOf]; omega
              · have hyb : (y != x1) = true := by simpa using hyx
                have EB2 : Hid (backG ts x1 0 (S.take (k + 1)) = max bk0 r) := Lib.hid (by rw [EB.out, if_neg hyx])
                clear hyx hcw
                go_wp2_with (first
                  | (go_at_call 44; refine (hlev _ (HSW.out.below HB2.out)).mono ?_; clear hlev; rintro e w7 ⟨rfl, hb7⟩; have HB7 := Lib.hid (HB2.out.trans (hb7.mono HB2.out.size)); have hs7 := HB7.out.size; have HO7 := Lib.hid (own_below HO2.out hb7); have hk7 := (HB7.out.cell (p := ⟨bs, os + k, none⟩) hbw).trans HCW.out; have hl7 := Nat.lt_of_lt_of_le hbw HB7.out.size; clear hb7)
                  | (at_builtin; refine wpList_append_own_at _ rfl (.tmp 107) (.tmp 112) 28 rfl W1.heap.size 3 i0 (.int .i64 0) 1 8 Try.underlying28 hi hz0 hz1 hzz2 rfl (by decide) (.slice O2 K co2) K _ rfl (HO7.out.alloc _) ⟨_, 0, none⟩ 1 1 [.int .i64 y] rfl rfl (cell_new_at _ _ _ _ (by simp)) (by simp [Value.oneCell']) (by unfold maxLen; omega) (by omega) (by simp; omega) ?_; intro v' w9 hown' hgrow hnil hloc; obtain ⟨g', cap', rfl⟩ := own_succ hown'; have G1 := Lib.hid (grown_below hgrow); have O1 := Lib.hid hown'; have hB9 := Lib.hid (HB7.out.grown G1.out HB7.out.size (fun g hg => (own_lt HO7.out hg).1)); have hk9 := (hB9.out.cell (p := ⟨bs, os + k, none⟩) hbw).trans HCW.out; have hl9 := Nat.lt_of_lt_of_le hbw hB9.out.size; clear hown' hgrow hnil hloc))
                go_roundw
                case rel => exact ⟨k + 1, K + 1, some ⟨g', 0, none⟩, cap', by omega, by go_num, rfl, by rw [EB2.out], by rw [EH2.out, List.length_append, HK2.out]; rfl, by rw [EH2.out, List.map_append]; exact O1.out, hB9.out⟩
                case measure => simp [intOf]; omega
            · have hgt : decide (0 < r) = false := by simpa using hr0
              have EH2 : Hid (highs ts (S.take (k + 1)) = highs ts (S.take k)) := Lib.hid (by rw [EH.out, if_neg hr0, List.append_nil])
              by_cases hyx : y = x1
              · have hyb : (y != x1) = false := by simpa using hyx
                have EB2 : Hid (backG ts x1 0 (S.take (k + 1)) = bk0) := Lib.hid (by rw [EB.out, if_pos hyx])
                clear hyx hcw
                go_wp2_with (go_at_call 44; refine (hlev _ (HSW.out.below HB2.out)).mono ?_; clear hlev; rintro e w7 ⟨rfl, hb7⟩; have HB7 := Lib.hid (HB2.out.trans (hb7.mono HB2.out.size)); have hs7 := HB7.out.size; have HO7 := Lib.hid (own_below HO2.out hb7); have hk7 := (HB7.out.cell (p := ⟨bs, os + k, none⟩) hbw).trans HCW.out; have hl7 := Nat.lt_of_lt_of_le hbw HB7.out.size; clear hb7)
                go_roundw
                case rel => exact ⟨k + 1, K, O2, co2, by omega, by go_num, rfl, by rw [EB2.out], by rw [EH2.out, HK2.out], by rw [EH2.out]; exact HO7.out, HB7.out⟩
                case measure => simp [intOf]; omega
              · have hyb : (y != x1) = true := by simpa using hyx
                have EB2 : Hid (backG ts x1 0 (S.take (k + 1)) = max bk0 r) := Lib.hid (by rw [EB.out, if_neg hyx])
                clear hyx hcw
                go_wp2_with (go_at_call 44; refine (hlev _ (HSW.out.below HB2.out)).mono ?_; clear hlev; rintro e w7 ⟨rfl, hb7⟩; have HB7 := Lib.hid (HB2.out.trans (hb7.mono HB2.out.size)); have hs7 := HB7.out.size; have HO7 := Lib.hid (own_below HO2.out hb7); have hk7 := (HB7.out.cell (p := ⟨bs, os + k, none⟩) hbw).trans HCW.out; have hl7 := Nat.lt_of_lt_of_le hbw HB7.out.size; clear hb7)
                go_roundw
                case rel => exact ⟨k + 1, K, O2, co2, by omega, by go_num, rfl, by rw [EB2.out], by rw [EH2.out, HK2.out], by rw [EH2.out]; exact HO7.out, HB7.out⟩
                case measure => simp [intOf]; omega
          · have hkL : S.take k = S := List.take_of_length_le (by rw [HSL.out]; omega)
            have hKy : highs ts (S.take k) = ys := by rw [hkL, HYS.out]
            have hob := HO2.out
            rw [hKy] at hob HK2
            have hbk : backG ts x1 0 (S.take k) = bk := by rw [hkL]; exact HBK.out.symm
            rw [hbk]
            have HOB := Lib.hid hob
            have HYO : Hid (Okl ys) := Lib.hid (fun y hy => by rw [← HYS.out] at hy; exact (HC.out.1 y (List.mem_filter.1 hy |>.1)))
            have HRI := Lib.hid (RI.of_own hob (by omega))
            clear hkL hKy hob hbk
            go_wp2_with (go_at_call 45; refine (rising_any O2 K co2 ys _ HRI.out HYO.out (by omega)).mono ?_; rintro e w9 ⟨A9, c9, rfl, hr9, hb9⟩; have HR9 := Lib.hid hr9; have HB9 := Lib.hid hb9; clear hr9 hb9)
            go_ret3
            have hzK : zs.length = K := by rw [HZS.out]; exact HR9.out.len
            refine ⟨A9, c9, by rw [hzK]; rfl, ?_, (HX0.out.trans (HB2.out.mono HX0.out.size)).trans (HB9.out.mono (HX0.out.trans (HB2.out.mono HX0.out.size)).size)⟩
            rw [hzK, HZS.out]
            exact HR9.out

end Go.Proofs.Ytenpenelikpeeaa

namespace Go.Proofs.Ytenpenelikpeeaa
set_option linter.unusedVariables false
set_option linter.unusedSimpArgs false

/-- a literal of a new variable -/
def unl (x : Int) (pre : List Int) (y : Int) : Bool := isB y x && (!(hasB pre y) && !(hasB pre (-y)))
def unlTo (x : Int) (l : List Int) (k : Nat) : Bool := (List.range k).all fun j => unl x (l.take j) (elt l j)
def unlB (x : Int) (l : List Int) : Bool := unlTo x l l.length
theorem unlTo_succ (x : Int) (l : List Int) (k : Nat) : unlTo x l (k + 1) = (unlTo x l k && unl x (l.take k) (elt l k)) := by simp [unlTo, List.range_succ]
theorem unlB_no {x : Int} {l : List Int} {k : Nat} (hk : k < l.length) (h : unl x (l.take k) (elt l k) = false) : unlB x l = false := by
  unfold unlB unlTo
  rw [List.all_eq_false]
  exact ⟨k, List.mem_range.2 hk, by rw [h]; simp⟩
theorem unlB_at {x : Int} {l : List Int} (h : unlB x l = true) {k : Nat} (hk : k < l.length) : unl x (l.take k) (elt l k) = true :=
  List.all_eq_true.1 h k (List.mem_range.2 hk)
theorem unlTo_isB {x : Int} {l : List Int} : ∀ {k : Nat}, k ≤ l.length → unlTo x l k = true → ∀ y ∈ l.take k, isB y x = true
  | 0, _, _, y, hy => by simp at hy
  | k + 1, hk, h, y, hy => by
    rw [unlTo_succ, Bool.and_eq_true] at h
    rw [take_snoc l k (by omega), List.mem_append, List.mem_singleton] at hy
    rcases hy with hy | hy
    · exact unlTo_isB (by omega) h.1 y hy
    · rw [hy]; unfold unl at h; simp only [Bool.and_eq_true] at h; exact h.2.1
theorem unlTo_nodup {x : Int} {l : List Int} : ∀ {k : Nat}, k ≤ l.length → unlTo x l k = true → (l.take k).Nodup ∧ ∀ y ∈ l.take k, ¬ -y ∈ l.take k
  | 0, _, _ => ⟨by simp, fun y hy => by simp at hy⟩
  | k + 1, hk, h => by
    have h0 := h
    rw [unlTo_succ, Bool.and_eq_true] at h
    obtain ⟨h1, h2⟩ := unlTo_nodup (by omega) h.1
    have hI := unlTo_isB hk h0
    unfold unl at h
    simp only [Bool.and_eq_true, Bool.not_eq_true', hasB_false] at h
    obtain ⟨h3, h4, h5, h6⟩ := h
    rw [take_snoc l k (by omega)] at hI ⊢
    refine ⟨?_, fun y hy hn => ?_⟩
    · rw [List.nodup_append]
      refine ⟨h1, by simp, fun a ha b hb e => ?_⟩
      rw [List.mem_singleton.1 hb] at e
      exact h5 (e ▸ ha)
    · have h0 := (isB_iff.1 (hI y hy)).1
      simp only [List.mem_append, List.mem_singleton] at hy hn
      rcases hy with hy | hy <;> rcases hn with hn | hn
      · exact h2 y hy hn
      · exact h6 (by rw [← hn, Int.neg_neg]; exact hy)
      · exact h6 (by rw [← hy]; exact hn)
      · omega
def lessOk (x : Int) (ts : List Stp) (l : List Int) : Bool := unlB x l && deadB ts l
theorem lessOk_facts {x : Int} {ts : List Stp} {l : List Int} (h : lessOk x ts l = true) (hx : x ≤ 65536) : Okl l ∧ Cons l ∧ l.Nodup ∧ Under ts ts.length l := by
  unfold lessOk at h
  rw [Bool.and_eq_true] at h
  have hf : l.take l.length = l := List.take_length
  have h1 := unlTo_isB (Nat.le_refl _) h.1
  have h2 := unlTo_nodup (Nat.le_refl _) h.1
  rw [hf] at h1 h2
  have hok : Okl l := fun y hy => by have := isB_iff.1 (h1 y hy); omega
  exact ⟨hok, ⟨hok, h2.2⟩, h2.1, dead_under.1 h.2⟩

/-- the greatest level -/
def topT (ts : List Stp) (l : List Int) : Int := l.foldl (fun m y => max m (lvlT ts y)) 0
theorem topT_snoc (ts : List Stp) (l : List Int) (y : Int) : topT ts (l ++ [y]) = max (topT ts l) (lvlT ts y) := by unfold topT; rw [List.foldl_append]; rfl
theorem topT_bd {ts : List Stp} : ∀ {l : List Int}, 0 ≤ topT ts l ∧ (Under ts ts.length l → topT ts l ≤ ts.length) := by
  intro l
  induction l using snoc_ind with
  | h0 => exact ⟨Int.le_refl _, fun _ => by unfold topT; simp⟩
  | h1 l y ih =>
    rw [topT_snoc]
    refine ⟨by have := ih.1; omega, fun hu => ?_⟩
    have h1 := ih.2 (fun u hu' => hu u (by simp [hu']))
    have h2 := lvl_le (hu y (by simp))
    have h3 : lastT ts ≤ ts.length := by unfold lastT; have := cntD_le ts; omega
    omega

/-- is the literal that a step determines redundant? -/
def redAt (ls : List (List Int)) (ts : List Stp) (l : List Int) (prev : List Bool) (k : Nat) : Bool :=
  decide (levAt ts k = 0) || (decide (0 ≤ (stp ts k).why) && (ell ls (stp ts k).why.toNat).all fun y => y == (stp ts k).lit || (hasB l y || prev.getD (plc ts (-y)) false))
def redTo (ls : List (List Int)) (ts : List Stp) (l : List Int) : Nat → List Bool
  | 0 => []
  | k + 1 => redTo ls ts l k ++ [redAt ls ts l (redTo ls ts l k) k]
def redB (ls : List (List Int)) (ts : List Stp) (l : List Int) (k : Nat) : Bool := redAt ls ts l (redTo ls ts l k) k
theorem redTo_len (ls : List (List Int)) (ts : List Stp) (l : List Int) : ∀ k, (redTo ls ts l k).length = k
  | 0 => rfl
  | k + 1 => by rw [redTo, List.length_append, redTo_len ls ts l k]; rfl
theorem redTo_at (ls : List (List Int)) (ts : List Stp) (l : List Int) : ∀ {k j : Nat}, j < k → (redTo ls ts l k).getD j false = redB ls ts l j
  | k + 1, j, h => by
    rw [redTo]
    rcases Nat.lt_or_ge j k with h1 | h1
    · rw [List.getD_eq_getElem?_getD, List.getElem?_append_left (by rw [redTo_len]; exact h1), ← List.getD_eq_getElem?_getD]
      exact redTo_at ls ts l h1
    · obtain rfl : j = k := by omega
      rw [List.getD_eq_getElem?_getD, List.getElem?_append_right (by rw [redTo_len]; omega), redTo_len]
      simp [redB]
theorem redTo_out (ls : List (List Int)) (ts : List Stp) (l : List Int) {k j : Nat} (h : k ≤ j) : (redTo ls ts l k).getD j false = false := by
  rw [List.getD_eq_getElem?_getD, List.getElem?_eq_none (by rw [redTo_len]; exact h)]; rfl
theorem redB_eq {x : Int} {ls : List (List Int)} {ts : List Stp} (h : Tr x ls ts) (l : List Int) {k : Nat} (hk : k < ts.length) :
    redB ls ts l k = (decide (levAt ts k = 0) || (decide (0 ≤ (stp ts k).why) && (ell ls (stp ts k).why.toNat).all fun y => y == (stp ts k).lit || (hasB l y || redB ls ts l (plc ts (-y))))) := by
  unfold redB
  conv => lhs; unfold redAt
  rcases Int.lt_or_le (stp ts k).why 0 with h0 | h0
  · have : decide (0 ≤ (stp ts k).why) = false := by simpa using h0
    rw [this, Bool.false_and, Bool.false_and]
  · have hr := (h.reason k hk h0).2
    have he : ((ell ls (stp ts k).why.toNat).all fun y => y == (stp ts k).lit || (hasB l y || (redTo ls ts l k).getD (plc ts (-y)) false)) = (ell ls (stp ts k).why.toNat).all fun y => y == (stp ts k).lit || (hasB l y || redB ls ts l (plc ts (-y))) := by
      rw [Bool.eq_iff_iff, List.all_eq_true, List.all_eq_true]
      refine forall_congr' fun y => imp_congr_right fun hy => ?_
      by_cases e : y = (stp ts k).lit
      · simp [e]
      · obtain ⟨j, hj, e2⟩ := hr y hy e
        have hp := h.plc (k := j) (by omega)
        rw [e2] at hp
        rw [hp, redTo_at ls ts l hj]
    rw [he]
    rfl

/-- what Less keeps -/
def keepB (ls : List (List Int)) (ts : List Stp) (l : List Int) (y : Int) : Bool := (decide (0 < topT ts l) && lvlT ts y == topT ts l) || !(redB ls ts l (plc ts (-y)))
def lessL (ls : List (List Int)) (ts : List Stp) (l : List Int) : List Int := risL (l.filter (keepB ls ts l))

end Go.Proofs.Ytenpenelikpeeaa
