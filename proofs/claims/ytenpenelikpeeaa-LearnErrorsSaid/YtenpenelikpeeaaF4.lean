/-
  The reference's Less. No condition.
-/
import Derived.Test.YtenpenelikpeeaaF3
namespace Go.Proofs.Ytenpenelikpeeaa
open Go.RowKit Go.Shelf
set_option linter.unusedVariables false
set_option linter.unusedSimpArgs false

/-- what Less hands back -/
def LessP (zs : List Int) (e' : Int) (w : World) (e : Ending) (w' : World) : Prop :=
  ∃ A c, e = .returned (.tuple #[.slice A zs.length c, .int .i64 e']) ∧ RI w' A zs.length c zs ∧ Below w.heap.size w w'
theorem LessP.none {w w' : World} {e' : Int} (hb : Below w.heap.size w w') : LessP [] e' w (.returned (.tuple #[.slice Option.none 0 0, .int .i64 e'])) w' :=
  ⟨Option.none, 0, rfl, RI.nil _ _ _ (Nat.zero_le _), hb⟩
theorem rl_long {w : World} {A : Option Addr} {n c : Nat} {ls : List (List Int)} (h : RL w A n c ls) : True := trivial

set_option maxRecDepth 100000 in
set_option maxHeartbeats 2000000 in
theorem rless_bad (x : Int) (A : Option Addr) (n c : Nat) (ls : List (List Int)) (A' : Option Addr) (n' c' : Nat) (ts : List Stp) (Al : Option Addr) (nl cl : Nat) (w : World) (h : RL w A n c ls) (h' : RS w A' n' c' ts) (hn' : n' ≤ 1000000) (hE : propE x ls ts ≠ 0) :
    Calls Try.prog 17 #[.agg #[.int .i64 x, .slice A n c], .slice A' n' c', .slice Al nl cl] w (LessP [] (propE x ls ts) w) := by
  have hcall := rcheck_val (propE x ls ts) x A n c ls A' n' c' ts _ (h.alloc (.cells #[.int .i64 x, .slice A n c] 24)) (h'.alloc (.cells #[.int .i64 x, .slice A n c] 24)) hn' rfl
  generalize propE x ls ts = r at hcall hE ⊢
  have hr : (r != 0) = true := by simpa using hE
  clear hE h h'
  go_enter Try.func17, Try.ntmps17
  go_wp2_with (go_at_call 37; refine hcall.mono ?_; clear hcall; rintro e w1 ⟨rfl, hb⟩)
  go_ret2
  exact LessP.none (((Below.refl _ w).alloc (Nat.le_refl _) _).trans (hb.mono (by simp)))

set_option maxRecDepth 100000 in
set_option maxHeartbeats 4000000 in
theorem rless_arg (x : Int) (A : Option Addr) (n c : Nat) (ls : List (List Int)) (A' : Option Addr) (n' c' : Nat) (ts : List Stp) (Al : Option Addr) (nl cl : Nat) (l : List Int) (w : World) (h : RL w A n c ls) (h' : RS w A' n' c' ts) (hl : RI w Al nl cl l) (hw : Wfl l) (hn' : n' ≤ 1000000) (hE : propE x ls ts = 0) (hq : lessOk x ts l = false) :
    Calls Try.prog 17 #[.agg #[.int .i64 x, .slice A n c], .slice A' n' c', .slice Al nl cl] w (LessP [] 1 w) := by
  have hcall := rcheck_val 0 x A n c ls A' n' c' ts _ (h.alloc (.cells #[.int .i64 x, .slice A n c] 24)) (h'.alloc (.cells #[.int .i64 x, .slice A n c] 24)) hn' hE
  obtain ⟨hce, htr⟩ := propE_zero hE
  have hxx := checkE_n hce
  have HL := Lib.hid (hl.alloc (.cells #[.int .i64 x, .slice A n c] 24))
  have H' := Lib.hid (h'.alloc (.cells #[.int .i64 x, .slice A n c] 24))
  have BX := Lib.hid (Two.new w (.int .i64 x) (.slice A n c))
  have HB0 := Lib.hid ((Below.refl w.heap.size w).alloc (Nat.le_refl _) (.cells #[.int .i64 x, .slice A n c] 24))
  have HW := Lib.hid hw
  unfold lessOk at hq
  cases hu : unlB x l with
  | false =>
    have HU := Lib.hid hu
    clear h h' hl hE hce htr hq hu hw
    go_enter Try.func17, Try.ntmps17
    go_wp2_with (first
      | (go_at_call 37; refine hcall.mono ?_; clear hcall; rintro e w1 ⟨rfl, hb⟩; have t0 := (BX.out.below hb).c0; have HB1 := Lib.hid (HB0.out.trans (hb.mono HB0.out.size)); have HL1 := Lib.hid (HL.out.below hb); clear hb)
      | (go_at_call 51; refine (unlike_val false Al nl cl l x _ HL1.out HW.out hxx.1 hxx.2 HU.out).mono ?_; rintro e w2 ⟨rfl, hb2⟩; have HB2 := Lib.hid (HB1.out.trans (hb2.mono HB1.out.size)); clear hb2))
    go_ret2
    exact LessP.none HB2.out
  | true =>
    rw [hu, Bool.true_and] at hq
    have HQ := Lib.hid hq
    have HU := Lib.hid hu
    have hok : Okl l := by
      have h1 := unlTo_isB (Nat.le_refl _) hu
      rw [List.take_length] at h1
      exact fun y hy => by have := isB_iff.1 (h1 y hy); omega
    have HO := Lib.hid hok
    clear h h' hl hE hce htr hq hu hw hok
    go_enter Try.func17, Try.ntmps17
    go_wp2_with (first
      | (go_at_call 37; refine hcall.mono ?_; clear hcall; rintro e w1 ⟨rfl, hb⟩; have t0 := (BX.out.below hb).c0; have HB1 := Lib.hid (HB0.out.trans (hb.mono HB0.out.size)); have HL1 := Lib.hid (HL.out.below hb); have HS1 := Lib.hid (H'.out.below hb); clear hb)
      | (go_at_call 51; refine (unlike_val true Al nl cl l x _ HL1.out HW.out hxx.1 hxx.2 HU.out).mono ?_; rintro e w2 ⟨rfl, hb2⟩; have HB2 := Lib.hid (HB1.out.trans (hb2.mono HB1.out.size)); have HL2 := Lib.hid (HL1.out.below hb2); have HS2 := Lib.hid (HS1.out.below hb2); clear hb2)
      | (go_at_call 38; refine (falsely_val false A' n' c' ts Al nl cl l _ HS2.out hn' HL2.out HO.out HQ.out).mono ?_; rintro e w3 ⟨rfl, rfl⟩))
    go_ret2
    exact LessP.none HB2.out

set_option maxRecDepth 100000 in
set_option maxHeartbeats 8000000 in
theorem rless_ok (x : Int) (A : Option Addr) (n c : Nat) (ls : List (List Int)) (A' : Option Addr) (n' c' : Nat) (ts : List Stp) (Al : Option Addr) (nl cl : Nat) (l : List Int) (w : World) (h : RL w A n c ls) (h' : RS w A' n' c' ts) (hl : RI w Al nl cl l) (hn' : n' ≤ 1000) (hE : propE x ls ts = 0) (hq : lessOk x ts l = true) (hlong : ∀ q ∈ ls, q.length ≤ 1000) (hnl : nl ≤ 1000) :
    Calls Try.prog 17 #[.agg #[.int .i64 x, .slice A n c], .slice A' n' c', .slice Al nl cl] w (LessP (lessL ls ts l) 0 w) := by
  obtain ⟨i0, hi, hz0, hz1, hz2⟩ := info_parts infoInt
  have hcall := rcheck_val 0 x A n c ls A' n' c' ts _ (h.alloc (.cells #[.int .i64 x, .slice A n c] 24)) (h'.alloc (.cells #[.int .i64 x, .slice A n c] 24)) (by omega) hE
  obtain ⟨hce, htr⟩ := propE_zero hE
  have hxx := checkE_n hce
  have HT := Lib.hid (trail_tr htr)
  have HKK := Lib.hid (checkE_lits hce)
  obtain ⟨hok, hcons, hnd, hund⟩ := lessOk_facts hq hxx.2
  unfold lessOk at hq
  rw [Bool.and_eq_true] at hq
  have HU := Lib.hid hq.1
  have HD := Lib.hid hq.2
  have HO := Lib.hid hok
  have HUN := Lib.hid hund
  have H := Lib.hid h
  have HL := Lib.hid hl
  have H' := Lib.hid h'
  have BX := Lib.hid (Two.new w (.int .i64 x) (.slice A n c))
  have HB0 := Lib.hid ((Below.refl w.heap.size w).alloc (Nat.le_refl _) (.cells #[.int .i64 x, .slice A n c] 24))
  have HLEN := Lib.hid hl.len
  have HTS := Lib.hid h'.len
  have HLONG := Lib.hid hlong
  have hW : Hid (Wfl l) := Lib.hid (okl_wfl hok)
  have HTOP := Lib.hid (topT_bd (ts := ts) (l := l))
  clear h h' hl hE hce htr hq hok hcons hnd hund hlong
  go_enter Try.func17, Try.ntmps17
  go_upto_region 7 with (first
    | (go_at_call 37; refine hcall.mono ?_; clear hcall; rintro e w1 ⟨rfl, hb⟩; have BX1 := Lib.hid (BX.out.below hb); have t0 := BX1.out.c0; have HB1 := Lib.hid (HB0.out.trans (hb.mono HB0.out.size)); have HL1 := Lib.hid (HL.out.below HB1.out); have HS1 := Lib.hid (H'.out.below HB1.out); clear hb)
    | (go_at_call 51; refine (unlike_val true Al nl cl l x _ HL1.out hW.out hxx.1 hxx.2 HU.out).mono ?_; rintro e w2 ⟨rfl, hb2⟩; have HB2 := Lib.hid (HB1.out.trans (hb2.mono HB1.out.size)); have BX2 := Lib.hid (BX1.out.below hb2); clear hb2)
    | (go_at_call 38; refine (falsely_val true A' n' c' ts Al nl cl l _ (H'.out.below HB2.out) (by omega) (HL.out.below HB2.out) HO.out HD.out).mono ?_; rintro e w3 ⟨rfl, rfl⟩))
  clear t0
  go_wp2_with fail
  go_loopw [9, 10] (fun s9 s10 W => ∃ k : Nat, k ≤ nl ∧ s10 = .int .i64 k ∧ s9 = .int .i64 (topT ts (l.take k)) ∧ Below w2.heap.size w2 W) (fun _ s10 _ => nl - (intOf s10).toNat)
  case atStart => exact ⟨0, Nat.zero_le _, rfl, rfl, Below.refl _ _⟩
  case round =>
    obtain ⟨k, hk, rfl, rfl, hb⟩ := hrel
    have HB := Lib.hid hb
    have HBW := Lib.hid (HB2.out.trans (hb.mono HB2.out.size))
    clear hb
    by_cases hlt : k < nl
    · have hkl : k < l.length := by rw [HLEN.out]; exact hlt
      obtain ⟨b, off, rfl, hb, hc⟩ := (HL.out.below HBW.out).cells (by omega)
      have hck := hc k hlt
      have hyo := HO.out.at hkl
      have hyu := HUN.out _ (elt_mem hkl)
      have E1 : Hid (topT ts (l.take (k + 1)) = max (topT ts (l.take k)) (lvlT ts (elt l k))) := Lib.hid (by rw [take_snoc l k hkl, topT_snoc])
      clear hc hkl
      generalize elt l k = y at *
      generalize topT ts (l.take k) = tp at *
      obtain ⟨r, hr⟩ : ∃ r, lvlT ts y = r := ⟨_, rfl⟩
      have HR := Lib.hid hr
      rw [hr] at E1
      clear hr
      go_wp2_with (go_at_call 44; refine (level20_val r A' n' c' ts y _ (H'.out.below HBW.out) (by omega) hyo.2.1 hyo.2.2 hyu HR.out).mono ?_; rintro e w7 ⟨rfl, hb7⟩; have HB7 := Lib.hid (HB.out.trans (hb7.mono HB.out.size)); clear hb7)
      go_roundw
      case rel => exact ⟨k + 1, by omega, by go_num, by rw [E1.out], HB7.out⟩
      case measure => simp [intOf]; omega
    · obtain rfl : k = nl := by omega
      have ht : topT ts (l.take k) = topT ts l := by rw [List.take_of_length_le (by rw [HLEN.out]; exact Nat.le_refl _)]
      rw [ht]
      have htb := (HTOP.out).1
      have htb2 := (HTOP.out).2 HUN.out
      obtain ⟨tp, htp⟩ : ∃ tp, topT ts l = tp := ⟨_, rfl⟩
      have HTP := Lib.hid htp
      rw [htp]
      have BXr := Lib.hid (BX2.out.below HB.out)
      have t0 := BXr.out.c0
      have t1 := BXr.out.c1
      clear ht htp
      go_upto_region 13 with (go_at_call 52; refine (rimplied_any x A n c ls A' n' c' ts Al k cl l _ (H.out.below HBW.out) (H'.out.below HBW.out) (HL.out.below HBW.out) HT.out HKK.out hn' HLONG.out).mono ?_; rintro e w8 ⟨g, rfl, hblk, hb8⟩; have HB8 := Lib.hid (HBW.out.trans (hb8.mono HBW.out.size)); have HK8 := Lib.hid hblk; clear hb8 hblk)
      have HOE := Lib.hid (own_empty w8 w8.heap.size w8.heap.size 3 rfl (Nat.le_refl _))
      have HBE := Lib.hid ((Below.refl w8.heap.size w8).alloc (Nat.le_refl _) (.cells #[] 3))
      have HBLK := Lib.hid HK8.out
      clear t0 t1
      go_wp2_with fail
      go_loopw [12, 13] (fun s12 s13 W => ∃ (q K : Nat) (O : Option Addr) (co : Nat), q ≤ k ∧ s13 = .int .i64 q ∧ s12 = .slice O K co ∧ ((l.take q).filter (keepB ls ts l)).length = K ∧ W.ownsRow w8.heap.size 3 1 (.slice O K co) K (((l.take q).filter (keepB ls ts l)).map (Value.int .i64)) ∧ Below w8.heap.size w8 W) (fun _ s13 _ => k - (intOf s13).toNat)
      case atStart => exact ⟨0, 0, _, 0, Nat.zero_le _, rfl, rfl, rfl, HOE.out, HBE.out⟩
      case round =>
        obtain ⟨q, K, O, co, hq, rfl, rfl, hK, hown, hb⟩ := hrel
        have hKq : K ≤ q := by rw [← hK]; exact Nat.le_trans (List.length_filter_le _ _) (by rw [List.length_take]; omega)
        have HK2 := Lib.hid hK
        have HO2 := Lib.hid hown
        have HB := Lib.hid hb
        have hsz := hb.size
        clear hK hown hb
        by_cases hlt : q < k
        · have hql : q < l.length := by rw [HLEN.out]; exact hlt
          obtain ⟨bs, os, rfl, hbw, hcw⟩ := (HL.out.below (HB8.out.trans (HB.out.mono HB8.out.size))).cells (by omega)
          have hck := hcw q hlt
          have hyo := HO.out.at hql
          have hyu := HUN.out _ (elt_mem hql)
          have hneg := lit_neg' hyo.2.1 hyo.2.2
          have EK0 : Hid ((l.take (q + 1)).filter (keepB ls ts l) = (l.take q).filter (keepB ls ts l) ++ (if keepB ls ts l (elt l q) = true then [elt l q] else [])) := Lib.hid (by rw [take_snoc l q hql, List.filter_append]; congr 1; by_cases hh : keepB ls ts l (elt l q) = true <;> simp [hh])
          clear hcw hql
          generalize elt l q = y at *
          obtain ⟨r, hr⟩ : ∃ r, lvlT ts y = r := ⟨_, rfl⟩
          obtain ⟨pl, hpl⟩ : ∃ pl, plc ts (-y) = pl := ⟨_, rfl⟩
          have hpn : pl < n' := by rw [← HTS.out, ← hpl]; exact hyu
          have hpn2 : (pl : Int) < (n' : Int) := by omega
          have HPL : Hid (plcI ts (-y) = (pl : Int)) := Lib.hid (by rw [plcI_of hyu, hpl])
          have hbk := HK8.out.below HB.out
          have hpc := hbk.cell (j := pl) (by rw [redTo_len]; exact hpn)
          rw [redTo_at ls ts l hpn] at hpc
          have hgl := hbk.lt
          have HR := Lib.hid hr
          obtain ⟨rb, hrb⟩ : ∃ rb, redB ls ts l pl = rb := ⟨_, rfl⟩
          rw [hrb] at hpc
          have HKE : Hid (keepB ls ts l y = ((decide (0 < tp) && r == tp) || !rb)) := Lib.hid (by unfold keepB; rw [HTP.out, hr, hpl, hrb])
          clear hbk hr hpl hrb
          by_cases h0 : 0 < tp
          · by_cases h1 : r = tp
            · have h1' : (r == tp) = true := by simpa using h1
              have h0' : decide (0 < tp) = true := by simpa using h0
              have EK : Hid ((l.take (q + 1)).filter (keepB ls ts l) = (l.take q).filter (keepB ls ts l) ++ [y]) := Lib.hid (by rw [EK0.out, HKE.out, h0', h1']; rfl)
              clear h1
              go_wp2_with (first | (go_at_call 44; refine (level20_val r A' n' c' ts y _ (H'.out.below (HB8.out.trans (HB.out.mono HB8.out.size))) (by omega) hyo.2.1 hyo.2.2 hyu HR.out).mono ?_; rintro e w7 ⟨rfl, hb7⟩; have HB7 := Lib.hid (HB.out.trans (hb7.mono HB.out.size)); have hs7 := HB7.out.size; have HO7 := Lib.hid (own_below HO2.out hb7); have hk7 := (hb7.cell (p := ⟨bs, os + q, none⟩) hbw).trans hck; have hp7 := (hb7.cell (p := ⟨g, pl, none⟩) hgl).trans hpc; have hl7 := Nat.lt_of_lt_of_le hbw hb7.size; clear hb7) | (at_builtin; refine wpList_append_own_at _ rfl (.tmp 83) (.tmp 88) 28 rfl w8.heap.size 3 i0 (.int .i64 0) 1 8 Try.underlying28 hi hz0 hz1 hz2 rfl (by decide) (.slice O K co) K _ rfl (HO7.out.alloc _) ⟨_, 0, none⟩ 1 1 [.int .i64 y] rfl rfl (cell_new_at _ _ _ _ (by simp)) (by simp [Value.oneCell']) (by unfold maxLen; omega) (by omega) (by simp; omega) ?_; intro v' w9 hown' hgrow hnil hloc; obtain ⟨g', cap', rfl⟩ := own_succ hown'; have G1 := Lib.hid (grown_below hgrow); have O1 := Lib.hid hown'; have hB9 := Lib.hid (HB7.out.grown G1.out HB7.out.size (fun g hg => (own_lt HO7.out hg).1)); clear hown' hgrow hnil hloc))
              go_roundw
              case rel => exact ⟨q + 1, K + 1, some ⟨g', 0, none⟩, cap', by omega, by go_num, rfl, by rw [EK.out, List.length_append, HK2.out]; rfl, by rw [EK.out, List.map_append]; exact O1.out, hB9.out⟩
              case measure => simp [intOf]; omega
            · have h1' : (r == tp) = false := by simpa using h1
              have h0' : decide (0 < tp) = true := by simpa using h0
              cases rb with
              | true =>
                have EK : Hid ((l.take (q + 1)).filter (keepB ls ts l) = (l.take q).filter (keepB ls ts l)) := Lib.hid (by rw [EK0.out, HKE.out, h0', h1']; simp)
                clear h1
                go_wp2_with (first | (go_at_call 44; refine (level20_val r A' n' c' ts y _ (H'.out.below (HB8.out.trans (HB.out.mono HB8.out.size))) (by omega) hyo.2.1 hyo.2.2 hyu HR.out).mono ?_; rintro e w7 ⟨rfl, hb7⟩; have HB7 := Lib.hid (HB.out.trans (hb7.mono HB.out.size)); have hs7 := HB7.out.size; have HO7 := Lib.hid (own_below HO2.out hb7); have hk7 := (hb7.cell (p := ⟨bs, os + q, none⟩) hbw).trans hck; have hp7 := (hb7.cell (p := ⟨g, pl, none⟩) hgl).trans hpc; have hl7 := Nat.lt_of_lt_of_le hbw hb7.size; clear hb7) | (go_at_call 43; refine (place_val (pl : Int) A' n' c' ts (-y) _ (H'.out.below (HB8.out.trans (HB7.out.mono HB8.out.size))) (by omega) HPL.out).mono ?_; rintro e w' ⟨rfl, rfl⟩))
                go_roundw
                case rel => exact ⟨q + 1, K, O, co, by omega, by go_num, rfl, by rw [EK.out, HK2.out], by rw [EK.out]; exact HO7.out, HB7.out⟩
                case measure => simp [intOf]; omega
              | false =>
                have EK : Hid ((l.take (q + 1)).filter (keepB ls ts l) = (l.take q).filter (keepB ls ts l) ++ [y]) := Lib.hid (by rw [EK0.out, HKE.out, h0', h1']; rfl)
                clear h1
                go_wp2_with (first | (go_at_call 44; refine (level20_val r A' n' c' ts y _ (H'.out.below (HB8.out.trans (HB.out.mono HB8.out.size))) (by omega) hyo.2.1 hyo.2.2 hyu HR.out).mono ?_; rintro e w7 ⟨rfl, hb7⟩; have HB7 := Lib.hid (HB.out.trans (hb7.mono HB.out.size)); have hs7 := HB7.out.size; have HO7 := Lib.hid (own_below HO2.out hb7); have hk7 := (hb7.cell (p := ⟨bs, os + q, none⟩) hbw).trans hck; have hp7 := (hb7.cell (p := ⟨g, pl, none⟩) hgl).trans hpc; have hl7 := Nat.lt_of_lt_of_le hbw hb7.size; clear hb7) | (go_at_call 43; refine (place_val (pl : Int) A' n' c' ts (-y) _ (H'.out.below (HB8.out.trans (HB7.out.mono HB8.out.size))) (by omega) HPL.out).mono ?_; rintro e w' ⟨rfl, rfl⟩) | (at_builtin; refine wpList_append_own_at _ rfl (.tmp 83) (.tmp 88) 28 rfl w8.heap.size 3 i0 (.int .i64 0) 1 8 Try.underlying28 hi hz0 hz1 hz2 rfl (by decide) (.slice O K co) K _ rfl (HO7.out.alloc _) ⟨_, 0, none⟩ 1 1 [.int .i64 y] rfl rfl (cell_new_at _ _ _ _ (by simp)) (by simp [Value.oneCell']) (by unfold maxLen; omega) (by omega) (by simp; omega) ?_; intro v' w9 hown' hgrow hnil hloc; obtain ⟨g', cap', rfl⟩ := own_succ hown'; have G1 := Lib.hid (grown_below hgrow); have O1 := Lib.hid hown'; have hB9 := Lib.hid (HB7.out.grown G1.out HB7.out.size (fun g hg => (own_lt HO7.out hg).1)); clear hown' hgrow hnil hloc))
                go_roundw
                case rel => exact ⟨q + 1, K + 1, some ⟨g', 0, none⟩, cap', by omega, by go_num, rfl, by rw [EK.out, List.length_append, HK2.out]; rfl, by rw [EK.out, List.map_append]; exact O1.out, hB9.out⟩
                case measure => simp [intOf]; omega
          · have h0' : decide (0 < tp) = false := by simpa using h0
            have HB7 := HB
            have HO7 := HO2
            cases rb with
            | true =>
              have EK : Hid ((l.take (q + 1)).filter (keepB ls ts l) = (l.take q).filter (keepB ls ts l)) := Lib.hid (by rw [EK0.out, HKE.out, h0']; simp)
              go_wp2_with (go_at_call 43; refine (place_val (pl : Int) A' n' c' ts (-y) _ (H'.out.below (HB8.out.trans (HB7.out.mono HB8.out.size))) (by omega) HPL.out).mono ?_; rintro e w' ⟨rfl, rfl⟩)
              go_roundw
              case rel => exact ⟨q + 1, K, O, co, by omega, by go_num, rfl, by rw [EK.out, HK2.out], by rw [EK.out]; exact HO7.out, HB7.out⟩
              case measure => simp [intOf]; omega
            | false =>
              have EK : Hid ((l.take (q + 1)).filter (keepB ls ts l) = (l.take q).filter (keepB ls ts l) ++ [y]) := Lib.hid (by rw [EK0.out, HKE.out, h0']; rfl)
              go_wp2_with (first | (go_at_call 43; refine (place_val (pl : Int) A' n' c' ts (-y) _ (H'.out.below (HB8.out.trans (HB7.out.mono HB8.out.size))) (by omega) HPL.out).mono ?_; rintro e w' ⟨rfl, rfl⟩) | (at_builtin; refine wpList_append_own_at _ rfl (.tmp 83) (.tmp 88) 28 rfl w8.heap.size 3 i0 (.int .i64 0) 1 8 Try.underlying28 hi hz0 hz1 hz2 rfl (by decide) (.slice O K co) K _ rfl (HO7.out.alloc _) ⟨_, 0, none⟩ 1 1 [.int .i64 y] rfl rfl (cell_new_at _ _ _ _ (by simp)) (by simp [Value.oneCell']) (by unfold maxLen; omega) (by omega) (by simp; omega) ?_; intro v' w9 hown' hgrow hnil hloc; obtain ⟨g', cap', rfl⟩ := own_succ hown'; have G1 := Lib.hid (grown_below hgrow); have O1 := Lib.hid hown'; have hB9 := Lib.hid (HB7.out.grown G1.out HB7.out.size (fun g hg => (own_lt HO7.out hg).1)); clear hown' hgrow hnil hloc))
              go_roundw
              case rel => exact ⟨q + 1, K + 1, some ⟨g', 0, none⟩, cap', by omega, by go_num, rfl, by rw [EK.out, List.length_append, HK2.out]; rfl, by rw [EK.out, List.map_append]; exact O1.out, hB9.out⟩
              case measure => simp [intOf]; omega
        · obtain rfl : q = k := by omega
          have hqk : l.take q = l := List.take_of_length_le (by rw [HLEN.out]; exact Nat.le_refl _)
          have hob := HO2.out
          have hk2 := HK2.out
          rw [hqk] at hob hk2
          obtain ⟨ys, hys⟩ : ∃ ys, l.filter (keepB ls ts l) = ys := ⟨_, rfl⟩
          rw [hys] at hob hk2
          have HYS := Lib.hid hys
          have HYO : Hid (Okl ys) := Lib.hid (fun y hy => by rw [← hys] at hy; exact HO.out y (List.mem_filter.1 hy).1)
          have HRI := Lib.hid (RI.of_own hob (by omega))
          have HK3 := Lib.hid hk2
          clear hqk hob hk2 hys
          go_wp2_with (go_at_call 45; refine (rising_any O K co ys _ HRI.out HYO.out (by omega)).mono ?_; rintro e w9 ⟨A9, c9, rfl, hr9, hb9⟩; have HR9 := Lib.hid hr9; have HB9 := Lib.hid hb9; clear hr9 hb9)
          go_ret2
          have hzz : lessL ls ts l = risL ys := by unfold lessL; rw [HYS.out]
          have hzl : (lessL ls ts l).length = K := by rw [hzz]; exact HR9.out.len
          refine ⟨A9, c9, by rw [hzl]; rfl, ?_, (HB8.out.trans (HB.out.mono HB8.out.size)).trans (HB9.out.mono (HB8.out.trans (HB.out.mono HB8.out.size)).size)⟩
          rw [hzl, hzz]
          exact HR9.out

end Go.Proofs.Ytenpenelikpeeaa
