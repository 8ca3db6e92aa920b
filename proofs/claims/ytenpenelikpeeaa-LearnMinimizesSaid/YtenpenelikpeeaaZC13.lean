/-
  The reference's Less. No condition.
  A range over a function whose rounds come in a known order: a round is told that its element is the next one. No condition.
  The iterator slices.Backward over a trail. No condition.
-/
import Derived.Test.YtenpenelikpeeaaZC11
import Derived.RangeFuncNested
import Derived.RangeFuncBound
import Derived.RangeFuncCalls
import Derived.RangeFuncLeaves
import Derived.StillTailTactics
import Derived.Deep.Quiet
import Derived.OrdersIn
import Derived.Test.YtenpenelikpeeaaRows
import Derived.Shelf.Abstract
import Derived.Shelf.RegionOpen
import Derived.WalkKit
import Derived.OwnWalkIn
import Derived.TacticsInMore
import Derived.LoopNIn
import Derived.LoopIn
import Derived.Maps.OwnIn
import Derived.Test.YtenpenelikpeeaaZC10

namespace Go.Proofs.Ytenpenelikpeeaa
open Go.RowKit Go.Shelf
set_option linter.unusedVariables false
set_option linter.unusedSimpArgs false

/-- what Less hands back -/
def LessP (zs : List Int) (e' : Int) (w : World) (e : Ending) (w' : World) : Prop :=
  ∃ A c, e = .returned (.tuple #[.slice A zs.length c, .int .i64 e']) ∧ RI w' A zs.length c zs ∧ Below w.heap.size w w'
theorem LessP.none {w w' : World} {e' : Int} (hb : Below w.heap.size w w') : LessP [] e' w (.returned (.tuple #[.slice Option.none 0 0, .int .i64 e'])) w' :=
  ⟨Option.none, 0, rfl, RI.nil _ _ _ (Nat.zero_le _), hb⟩
theorem rl_long {w : World} {A : Option Addr} {n c : Nat} {ls : List (List Int)} (h : RL w A n c ls) : True := trivial

set_option maxRecDepth 100000 in
set_option maxHeartbeats 2000000 in
theorem rless_bad (x : Int) (A : Option Addr) (n c : Nat) (ls : List (List Int)) (A' : Option Addr) (n' c' : Nat) (ts : List Stp) (Al : Option Addr) (nl cl : Nat) (w : World) (h : RL w A n c ls) (h' : RS w A' n' c' ts) (hn' : n' ≤ 1000000) (hE : propE x ls ts ≠ 0) :
    Calls Try.prog 17 #[.agg #[.int .i64 x, .slice A n c], .slice A' n' c', .slice Al nl cl] w (LessP [] (propE x ls ts) w) := by
  have hcall := rcheck_val (propE x ls ts) x A n c ls A' n' c' ts _ (h.alloc (.cells #[.int .i64 x, .slice A n c] 24)) (h'.alloc (.cells #[.int .i64 x, .slice A n c] 24)) hn' rfl
  generalize propE x ls ts = r at hcall hE ⊢
  have hr : (r != 0) = true := by simpa using hE
  clear hE h h'
  go_enter Try.func17, Try.ntmps17
  go_wp2_with (go_at_call 37; refine hcall.mono ?_; clear hcall; rintro e w1 ⟨rfl, hb⟩)
  go_ret2
  exact LessP.none (((Below.refl _ w).alloc (Nat.le_refl _) _).trans (hb.mono (by simp)))

set_option maxRecDepth 100000 in
set_option maxHeartbeats 4000000 in
theorem rless_arg (x : Int) (A : Option Addr) (n c : Nat) (ls : List (List Int)) (A' : Option Addr) (n' c' : Nat) (ts : List Stp) (Al : Option Addr) (nl cl : Nat) (l : List Int) (w : World) (h : RL w A n c ls) (h' : RS w A' n' c' ts) (hl : RI w Al nl cl l) (hw : Wfl l) (hn' : n' ≤ 1000000) (hE : propE x ls ts = 0) (hq : lessOk x ts l = false) :
    Calls Try.prog 17 #[.agg #[.int .i64 x, .slice A n c], .slice A' n' c', .slice Al nl cl] w (LessP [] 1 w) := by
  have hcall := rcheck_val 0 x A n c ls A' n' c' ts _ (h.alloc (.cells #[.int .i64 x, .slice A n c] 24)) (h'.alloc (.cells #[.int .i64 x, .slice A n c] 24)) hn' hE
  obtain ⟨hce, htr⟩ := propE_zero hE
  have hxx := checkE_n hce
  have HL := Lib.hid (hl.alloc (.cells #[.int .i64 x, .slice A n c] 24))
  have H' := Lib.hid (h'.alloc (.cells #[.int .i64 x, .slice A n c] 24))
  have BX := Lib.hid (Two.new w (.int .i64 x) (.slice A n c))
  have HB0 := Lib.hid ((Below.refl w.heap.size w).alloc (Nat.le_refl _) (.cells #[.int .i64 x, .slice A n c] 24))
  have HW := Lib.hid hw
  unfold lessOk at hq
  cases hu : unlB x l with
  | false =>
    have HU := Lib.hid hu
    clear h h' hl hE hce htr hq hu hw
    go_enter Try.func17, Try.ntmps17
    go_wp2_with (first
      | (go_at_call 37; refine hcall.mono ?_; clear hcall; rintro e w1 ⟨rfl, hb⟩; have t0 := (BX.out.below hb).c0; have HB1 := Lib.hid (HB0.out.trans (hb.mono HB0.out.size)); have HL1 := Lib.hid (HL.out.below hb); clear hb)
      | (go_at_call 51; refine (unlike_val false Al nl cl l x _ HL1.out HW.out hxx.1 hxx.2 HU.out).mono ?_; rintro e w2 ⟨rfl, hb2⟩; have HB2 := Lib.hid (HB1.out.trans (hb2.mono HB1.out.size)); clear hb2))
    go_ret2
    exact LessP.none HB2.out
  | true =>
    rw [hu, Bool.true_and] at hq
    have HQ := Lib.hid hq
    have HU := Lib.hid hu
    have hok : Okl l := by
      have h1 := unlTo_isB (Nat.le_refl _) hu
      rw [List.take_length] at h1
      exact fun y hy => by have := isB_iff.1 (h1 y hy); omega
    have HO := Lib.hid hok
    clear h h' hl hE hce htr hq hu hw hok
    go_enter Try.func17, Try.ntmps17
    go_wp2_with (first
      | (go_at_call 37; refine hcall.mono ?_; clear hcall; rintro e w1 ⟨rfl, hb⟩; have t0 := (BX.out.below hb).c0; have HB1 := Lib.hid (HB0.out.trans (hb.mono HB0.out.size)); have HL1 := Lib.hid (HL.out.below hb); have HS1 := Lib.hid (H'.out.below hb); clear hb)
      | (go_at_call 51; refine (unlike_val true Al nl cl l x _ HL1.out HW.out hxx.1 hxx.2 HU.out).mono ?_; rintro e w2 ⟨rfl, hb2⟩; have HB2 := Lib.hid (HB1.out.trans (hb2.mono HB1.out.size)); have HL2 := Lib.hid (HL1.out.below hb2); have HS2 := Lib.hid (HS1.out.below hb2); clear hb2)
      | (go_at_call 38; refine (falsely_val false A' n' c' ts Al nl cl l _ HS2.out hn' HL2.out HO.out HQ.out).mono ?_; rintro e w3 ⟨rfl, rfl⟩))
    go_ret2
    exact LessP.none HB2.out

set_option maxRecDepth 100000 in
set_option maxHeartbeats 8000000 in
theorem rless_ok (x : Int) (A : Option Addr) (n c : Nat) (ls : List (List Int)) (A' : Option Addr) (n' c' : Nat) (ts : List Stp) (Al : Option Addr) (nl cl : Nat) (l : List Int) (w : World) (h : RL w A n c ls) (h' : RS w A' n' c' ts) (hl : RI w Al nl cl l) (hn' : n' ≤ 1000) (hE : propE x ls ts = 0) (hq : lessOk x ts l = true) (hlong : ∀ q ∈ ls, q.length ≤ 1000) (hnl : nl ≤ 1000) :
    Calls Try.prog 17 #[.agg #[.int .i64 x, .slice A n c], .slice A' n' c', .slice Al nl cl] w (LessP (lessL ls ts l) 0 w) := by
  obtain ⟨i0, hi, hz0, hz1, hz2⟩ := info_parts infoInt
  have hcall := rcheck_val 0 x A n c ls A' n' c' ts _ (h.alloc (.cells #[.int .i64 x, .slice A n c] 24)) (h'.alloc (.cells #[.int .i64 x, .slice A n c] 24)) (by omega) hE
  obtain ⟨hce, htr⟩ := propE_zero hE
  have hxx := checkE_n hce
  have HT := Lib.hid (trail_tr htr)
  have HKK := Lib.hid (checkE_lits hce)
  obtain ⟨hok, hcons, hnd, hund⟩ := lessOk_facts hq hxx.2
  unfold lessOk at hq
  rw [Bool.and_eq_true] at hq
  have HU := Lib.hid hq.1
  have HD := Lib.hid hq.2
  have HO := Lib.hid hok
  have HUN := Lib.hid hund
  have H := Lib.hid h
  have HL := Lib.hid hl
  have H' := Lib.hid h'
  have BX := Lib.hid (Two.new w (.int .i64 x) (.slice A n c))
  have HB0 := Lib.hid ((Below.refl w.heap.size w).alloc (Nat.le_refl _) (.cells #[.int .i64 x, .slice A n c] 24))
  have HLEN := Lib.hid hl.len
  have HTS := Lib.hid h'.len
  have HLONG := Lib.hid hlong
  have hW : Hid (Wfl l) := Lib.hid (okl_wfl hok)
  have HTOP := Lib.hid (topT_bd (ts := ts) (l := l))
  clear h h' hl hE hce htr hq hok hcons hnd hund hlong
  go_enter Try.func17, Try.ntmps17
  go_upto_region 7 with (first
    | (go_at_call 37; refine hcall.mono ?_; clear hcall; rintro e w1 ⟨rfl, hb⟩; have BX1 := Lib.hid (BX.out.below hb); have t0 := BX1.out.c0; have HB1 := Lib.hid (HB0.out.trans (hb.mono HB0.out.size)); have HL1 := Lib.hid (HL.out.below HB1.out); have HS1 := Lib.hid (H'.out.below HB1.out); clear hb)
    | (go_at_call 51; refine (unlike_val true Al nl cl l x _ HL1.out hW.out hxx.1 hxx.2 HU.out).mono ?_; rintro e w2 ⟨rfl, hb2⟩; have HB2 := Lib.hid (HB1.out.trans (hb2.mono HB1.out.size)); have BX2 := Lib.hid (BX1.out.below hb2); clear hb2)
    | (go_at_call 38; refine (falsely_val true A' n' c' ts Al nl cl l _ (H'.out.below HB2.out) (by omega) (HL.out.below HB2.out) HO.out HD.out).mono ?_; rintro e w3 ⟨rfl, rfl⟩))
  clear t0
  go_wp2_with fail
  go_loopw [9, 10] (fun s9 s10 W => ∃ k : Nat, k ≤ nl ∧ s10 = .int .i64 k ∧ s9 = .int .i64 (topT ts (l.take k)) ∧ Below w2.heap.size w2 W) (fun _ s10 _ => nl - (intOf s10).toNat)
  case atStart => exact ⟨0, Nat.zero_le _, rfl, rfl, Below.refl _ _⟩
  case round =>
    obtain ⟨k, hk, rfl, rfl, hb⟩ := hrel
    have HB := Lib.hid hb
    have HBW := Lib.hid (HB2.out.trans (hb.mono HB2.out.size))
    clear hb
    by_cases hlt : k < nl
    · have hkl : k < l.length := by rw [HLEN.out]; exact hlt
      obtain ⟨b, off, rfl, hb, hc⟩ := (HL.out.below HBW.out).cells (by omega)
      have hck := hc k hlt
      have hyo := HO.out.at hkl
      have hyu := HUN.out _ (elt_mem hkl)
      have E1 : Hid (topT ts (l.take (k + 1)) = max (topT ts (l.take k)) (lvlT ts (elt l k))) := Lib.hid (by rw [take_snoc l k hkl, topT_snoc])
      clear hc hkl
      generalize elt l k = y at *
      generalize topT ts (l.take k) = tp at *
      obtain ⟨r, hr⟩ : ∃ r, lvlT ts y = r := ⟨_, rfl⟩
      have HR := Lib.hid hr
      rw [hr] at E1
      clear hr
      go_wp2_with (go_at_call 44; refine (level20_val r A' n' c' ts y _ (H'.out.below HBW.out) (by omega) hyo.2.1 hyo.2.2 hyu HR.out).mono ?_; rintro e w7 ⟨rfl, hb7⟩; have HB7 := Lib.hid (HB.out.trans (hb7.mono HB.out.size)); clear hb7)
      go_roundw
      case rel => exact ⟨k + 1, by omega, by go_num, by rw [E1.out], HB7.out⟩
      case measure => simp [intOf]; omega
    · obtain rfl : k = nl := by omega
      have ht : topT ts (l.take k) = topT ts l := by rw [List.take_of_length_le (by rw [HLEN.out]; exact Nat.le_refl _)]
      rw [ht]
      have htb := (HTOP.out).1
      have htb2 := (HTOP.out).2 HUN.out
      obtain ⟨tp, htp⟩ : ∃ tp, topT ts l = tp := ⟨_, rfl⟩
      have HTP := Lib.hid htp
      rw [htp]
      have BXr := Lib.hid (BX2.out.below HB.out)
      have t0 := BXr.out.c0
      have t1 := BXr.out.c1
      clear ht htp
      go_upto_region 13 with (go_at_call 52; refine (rimplied_any x A n c ls A' n' c' ts Al k cl l _ (H.out.below HBW.out) (H'.out.below HBW.out) (HL.out.below HBW.out) HT.out HKK.out hn' HLONG.out).mono ?_; rintro e w8 ⟨g, rfl, hblk, hb8⟩; have HB8 := Lib.hid (HBW.out.trans (hb8.mono HBW.out.size)); have HK8 := Lib.hid hblk; clear hb8 hblk)
      have HOE := Lib.hid (own_empty w8 w8.heap.size w8.heap.size 3 rfl (Nat.le_refl _))
      have HBE := Lib.hid ((Below.refl w8.heap.size w8).alloc (Nat.le_refl _) (.cells #[] 3))
      have HBLK := Lib.hid HK8.out
      clear t0 t1
      go_wp2_with fail
      go_loopw [12, 13] (fun s12 s13 W => ∃ (q K : Nat) (O : Option Addr) (co : Nat), q ≤ k ∧ s13 = .int .i64 q ∧ s12 = .slice O K co ∧ ((l.take q).filter (keepB ls ts l)).length = K ∧ W.ownsRow w8.heap.size 3 1 (.slice O K co) K (((l.take q).filter (keepB ls ts l)).map (Value.int .i64)) ∧ Below w8.heap.size w8 W) (fun _ s13 _ => k - (intOf s13).toNat)
      case atStart => exact ⟨0, 0, _, 0, Nat.zero_le _, rfl, rfl, rfl, HOE.out, HBE.out⟩
      case round =>
        obtain ⟨q, K, O, co, hq, rfl, rfl, hK, hown, hb⟩ := hrel
        have hKq : K ≤ q := by rw [← hK]; exact Nat.le_trans (List.length_filter_le _ _) (by rw [List.length_take]; omega)
        have HK2 := Lib.hid hK
        have HO2 := Lib.hid hown
        have HB := Lib.hid hb
        have hsz := hb.size
        clear hK hown hb
        by_cases hlt : q < k
        · have hql : q < l.length := by rw [HLEN.out]; exact hlt
          obtain ⟨bs, os, rfl, hbw, hcw⟩ := (HL.out.below (HB8.out.trans (HB.out.mono HB8.out.size))).cells (by omega)
          have hck := hcw q hlt
          have hyo := HO.out.at hql
          have hyu := HUN.out _ (elt_mem hql)
          have hneg := lit_neg' hyo.2.1 hyo.2.2
          have EK0 : Hid ((l.take (q + 1)).filter (keepB ls ts l) = (l.take q).filter (keepB ls ts l) ++ (if keepB ls ts l (elt l q) = true then [elt l q] else [])) := Lib.hid (by rw [take_snoc l q hql, List.filter_append]; congr 1; by_cases hh : keepB ls ts l (elt l q) = true <;> simp [hh])
          clear hcw hql
          generalize elt l q = y at *
          obtain ⟨r, hr⟩ : ∃ r, lvlT ts y = r := ⟨_, rfl⟩
          obtain ⟨pl, hpl⟩ : ∃ pl, plc ts (-y) = pl := ⟨_, rfl⟩
          have hpn : pl < n' := by rw [← HTS.out, ← hpl]; exact hyu
          have hpn2 : (pl : Int) < (n' : Int) := by omega
          have HPL : Hid (plcI ts (-y) = (pl : Int)) := Lib.hid (by rw [plcI_of hyu, hpl])
          have hbk := HK8.out.below HB.out
          have hpc := hbk.cell (j := pl) (by rw [redTo_len]; exact hpn)
          rw [redTo_at ls ts l hpn] at hpc
          have hgl := hbk.lt
          have HR := Lib.hid hr
          obtain ⟨rb, hrb⟩ : ∃ rb, redB ls ts l pl = rb := ⟨_, rfl⟩
          rw [hrb] at hpc
          have HKE : Hid (keepB ls ts l y = ((decide (0 < tp) && r == tp) || !rb)) := Lib.hid (by unfold keepB; rw [HTP.out, hr, hpl, hrb])
          clear hbk hr hpl hrb
          by_cases h0 : 0 < tp
          · by_cases h1 : r = tp
            · have h1' : (r == tp) = true := by simpa using h1
              have h0' : decide (0 < tp) = true := by simpa using h0
              have EK : Hid ((l.take (q + 1)).filter (keepB ls ts l) = (l.take q).filter (keepB ls ts l) ++ [y]) := Lib.hid (by rw [EK0.out, HKE.out, h0', h1']; rfl)
              clear h1
              go_wp2_with (first | (go_at_call 44; refine (level20_val r A' n' c' ts y _ (H'.out.below (HB8.out.trans (HB.out.mono HB8.out.size))) (by omega) hyo.2.1 hyo.2.2 hyu HR.out).mono ?_; rintro e w7 ⟨rfl, hb7⟩; have HB7 := Lib.hid (HB.out.trans (hb7.mono HB.out.size)); have hs7 := HB7.out.size; have HO7 := Lib.hid (own_below HO2.out hb7); have hk7 := (hb7.cell (p := ⟨bs, os + q, none⟩) hbw).trans hck; have hp7 := (hb7.cell (p := ⟨g, pl, none⟩) hgl).trans hpc; have hl7 := Nat.lt_of_lt_of_le hbw hb7.size; clear hb7) | (at_builtin; refine wpList_append_own_at _ rfl (.tmp 83) (.tmp 88) 28 rfl w8.heap.size 3 i0 (.int .i64 0) 1 8 Try.underlying28 hi hz0 hz1 hz2 rfl (by decide) (.slice O K co) K _ rfl (HO7.out.alloc _) ⟨_, 0, none⟩ 1 1 [.int .i64 y] rfl rfl (cell_new_at _ _ _ _ (by simp)) (by simp [Value.oneCell']) (by unfold maxLen; omega) (by omega) (by simp; omega) ?_; intro v' w9 hown' hgrow hnil hloc; obtain ⟨g', cap', rfl⟩ := own_succ hown'; have G1 := Lib.hid (grown_below hgrow); have O1 := Lib.hid hown'; have hB9 := Lib.hid (HB7.out.grown G1.out HB7.out.size (fun g hg => (own_lt HO7.out hg).1)); clear hown' hgrow hnil hloc))
              go_roundw
              case rel => exact ⟨q + 1, K + 1, some ⟨g', 0, none⟩, cap', by omega, by go_num, rfl, by rw [EK.out, List.length_append, HK2.out]; rfl, by rw [EK.out, List.map_append]; exact O1.out, hB9.out⟩
              case measure => simp [intOf]; omega
            · have h1' : (r == tp) = false := by simpa using h1
              have h0' : decide (0 < tp) = true := by simpa using h0
              cases rb with
              | true =>
                have EK : Hid ((l.take (q + 1)).filter (keepB ls ts l) = (l.take q).filter (keepB ls ts l)) := Lib.hid (by rw [EK0.out, HKE.out, h0', h1']; simp)
                clear h1
                go_wp2_with (first | (go_at_call 44; refine (level20_val r A' n' c' ts y _ (H'.out.below (HB8.out.trans (HB.out.mono HB8.out.size))) (by omega) hyo.2.1 hyo.2.2 hyu HR.out).mono ?_; rintro e w7 ⟨rfl, hb7⟩; have HB7 := Lib.hid (HB.out.trans (hb7.mono HB.out.size)); have hs7 := HB7.out.size; have HO7 := Lib.hid (own_below HO2.out hb7); have hk7 := (hb7.cell (p := ⟨bs, os + q, none⟩) hbw).trans hck; have hp7 := (hb7.cell (p := ⟨g, pl, none⟩) hgl).trans hpc; have hl7 := Nat.lt_of_lt_of_le hbw hb7.size; clear hb7) | (go_at_call 43; refine (place_val (pl : Int) A' n' c' ts (-y) _ (H'.out.below (HB8.out.trans (HB7.out.mono HB8.out.size))) (by omega) HPL.out).mono ?_; rintro e w' ⟨rfl, rfl⟩))
                go_roundw
                case rel => exact ⟨q + 1, K, O, co, by omega, by go_num, rfl, by rw [EK.out, HK2.out], by rw [EK.out]; exact HO7.out, HB7.out⟩
                case measure => simp [intOf]; omega
              | false =>
                have EK : Hid ((l.take (q + 1)).filter (keepB ls ts l) = (l.take q).filter (keepB ls ts l) ++ [y]) := Lib.hid (by rw [EK0.out, HKE.out, h0', h1']; rfl)
                clear h1
                go_wp2_with (first | (go_at_call 44; refine (level20_val r A' n' c' ts y _ (H'.out.below (HB8.out.trans (HB.out.mono HB8.out.size))) (by omega) hyo.2.1 hyo.2.2 hyu HR.out).mono ?_; rintro e w7 ⟨rfl, hb7⟩; have HB7 := Lib.hid (HB.out.trans (hb7.mono HB.out.size)); have hs7 := HB7.out.size; have HO7 := Lib.hid (own_below HO2.out hb7); have hk7 := (hb7.cell (p := ⟨bs, os + q, none⟩) hbw).trans hck; have hp7 := (hb7.cell (p := ⟨g, pl, none⟩) hgl).trans hpc; have hl7 := Nat.lt_of_lt_of_le hbw hb7.size; clear hb7) | (go_at_call 43; refine (place_val (pl : Int) A' n' c' ts (-y) _ (H'.out.below (HB8.out.trans (HB7.out.mono HB8.out.size))) (by omega) HPL.out).mono ?_; rintro e w' ⟨rfl, rfl⟩) | (at_builtin; refine wpList_append_own_at _ rfl (.tmp 83) (.tmp 88) 28 rfl w8.heap.size 3 i0 (.int .i64 0) 1 8 Try.underlying28 hi hz0 hz1 hz2 rfl (by decide) (.slice O K co) K _ rfl (HO7.out.alloc _) ⟨_, 0, none⟩ 1 1 [.int .i64 y] rfl rfl (cell_new_at _ _ _ _ (by simp)) (by simp [Value.oneCell']) (by unfold maxLen; omega) (by omega) (by simp; omega) ?_; intro v' w9 hown' hgrow hnil hloc; obtain ⟨g', cap', rfl⟩ := own_succ hown'; have G1 := Lib.hid (grown_below hgrow); have O1 := Lib.hid hown'; have hB9 := Lib.hid (HB7.out.grown G1.out HB7.out.size (fun g hg => (own_lt HO7.out hg).1)); clear hown' hgrow hnil hloc))
                go_roundw
                case rel => exact ⟨q + 1, K + 1, some ⟨g', 0, none⟩, cap', by omega, by go_num, rfl, by rw [EK.out, List.length_append, HK2.out]; rfl, by rw [EK.out, List.map_append]; exact O1.out, hB9.out⟩
                case measure => simp [intOf]; omega
          · have h0' : decide (0 < tp) = false := by simpa using h0
            have HB7 := HB
            have HO7 := HO2
            cases rb with
            | true =>
              have EK : Hid ((l.take (q + 1)).filter (keepB ls ts l) = (l.take q).filter (keepB ls ts l)) := Lib.hid (by rw [EK0.out, HKE.out, h0']; simp)
              go_wp2_with (go_at_call 43; refine (place_val (pl : Int) A' n' c' ts (-y) _ (H'.out.below (HB8.out.trans (HB7.out.mono HB8.out.size))) (by omega) HPL.out).mono ?_; rintro e w' ⟨rfl, rfl⟩)
              go_roundw
              case rel => exact ⟨q + 1, K, O, co, by omega, by go_num, rfl, by rw [EK.out, HK2.out], by rw [EK.out]; exact HO7.out, HB7.out⟩
              case measure => simp [intOf]; omega
            | false =>
              have EK : Hid ((l.take (q + 1)).filter (keepB ls ts l) = (l.take q).filter (keepB ls ts l) ++ [y]) := Lib.hid (by rw [EK0.out, HKE.out, h0']; rfl)
              go_wp2_with (first | (go_at_call 43; refine (place_val (pl : Int) A' n' c' ts (-y) _ (H'.out.below (HB8.out.trans (HB7.out.mono HB8.out.size))) (by omega) HPL.out).mono ?_; rintro e w' ⟨rfl, rfl⟩) | (at_builtin; refine wpList_append_own_at _ rfl (.tmp 83) (.tmp 88) 28 rfl w8.heap.size 3 i0 (.int .i64 0) 1 8 Try.underlying28 hi hz0 hz1 hz2 rfl (by decide) (.slice O K co) K _ rfl (HO7.out.alloc _) ⟨_, 0, none⟩ 1 1 [.int .i64 y] rfl rfl (cell_new_at _ _ _ _ (by simp)) (by simp [Value.oneCell']) (by unfold maxLen; omega) (by omega) (by simp; omega) ?_; intro v' w9 hown' hgrow hnil hloc; obtain ⟨g', cap', rfl⟩ := own_succ hown'; have G1 := Lib.hid (grown_below hgrow); have O1 := Lib.hid hown'; have hB9 := Lib.hid (HB7.out.grown G1.out HB7.out.size (fun g hg => (own_lt HO7.out hg).1)); clear hown' hgrow hnil hloc))
              go_roundw
              case rel => exact ⟨q + 1, K + 1, some ⟨g', 0, none⟩, cap', by omega, by go_num, rfl, by rw [EK.out, List.length_append, HK2.out]; rfl, by rw [EK.out, List.map_append]; exact O1.out, hB9.out⟩
              case measure => simp [intOf]; omega
        · obtain rfl : q = k := by omega
          have hqk : l.take q = l := List.take_of_length_le (by rw [HLEN.out]; exact Nat.le_refl _)
          have hob := HO2.out
          have hk2 := HK2.out
          rw [hqk] at hob hk2
          obtain ⟨ys, hys⟩ : ∃ ys, l.filter (keepB ls ts l) = ys := ⟨_, rfl⟩
          rw [hys] at hob hk2
          have HYS := Lib.hid hys
          have HYO : Hid (Okl ys) := Lib.hid (fun y hy => by rw [← hys] at hy; exact HO.out y (List.mem_filter.1 hy).1)
          have HRI := Lib.hid (RI.of_own hob (by omega))
          have HK3 := Lib.hid hk2
          clear hqk hob hk2 hys
          go_wp2_with (go_at_call 45; refine (rising_any O K co ys _ HRI.out HYO.out (by omega)).mono ?_; rintro e w9 ⟨A9, c9, rfl, hr9, hb9⟩; have HR9 := Lib.hid hr9; have HB9 := Lib.hid hb9; clear hr9 hb9)
          go_ret2
          have hzz : lessL ls ts l = risL ys := by unfold lessL; rw [HYS.out]
          have hzl : (lessL ls ts l).length = K := by rw [hzz]; exact HR9.out.len
          refine ⟨A9, c9, by rw [hzl]; rfl, ?_, (HB8.out.trans (HB.out.mono HB8.out.size)).trans (HB9.out.mono (HB8.out.trans (HB.out.mono HB8.out.size)).size)⟩
          rw [hzl, hzz]
          exact HR9.out

end Go.Proofs.Ytenpenelikpeeaa

namespace Go.Proofs.Ytenpenelikpeeaa
open Go.RowKit
set_option linter.unusedVariables false

variable {F : Fence} {n : Nat} {P : Program}

/-- an iterator that hands out its elements in a known order, until it is stopped -/
def SeqNext {α : Type} (F : Fence) (n : Nat) (P : Program) (g : Nat) (lb : Array Value) (encs : α → Array Value) (Kp : World → World → Prop) (Nx : List α → α → Prop) (S Sp : List α → Prop) (w : World) : Prop :=
  ∀ (l : Nat) (J Jx : List α → World → Prop) (W : World), Below w.heap.size w W →
    (∀ pre x W1, J pre W1 → Nx pre x → YieldAt F (n - 1) P l (encs x) W1 fun e W' =>
      (e = .returned (.bool true) ∧ J (pre ++ [x]) W' ∧ Kp W1 W') ∨ (e = .returned (.bool false) ∧ Jx (pre ++ [x]) W')) →
    J [] W →
    CallsIn F n P g (#[.func (.yield l) #[] #[]] ++ lb) W fun e W' => (∃ v, e = .returned v) ∧ ((∃ xs, S xs ∧ J xs W') ∨ (∃ pre, Sp pre ∧ Jx pre W'))

/-- the record of the loop under way -/
def recOf (fn : FuncId) (tmps : Array Value) (ps : Array Tmp) (assign body : Code) (D : Nat) (st : LoopState) (pe : Option Code) : Loop :=
  { state := st, pending := pe, fn, tmps, params := ps, assign, body, defers := D }

/-- the two blocks of the loop's own lie as they must -/
structure Books (W : World) (D : Nat) (r : Loop) : Prop where
  log : W.heap[D + 1]? = some (.loop r)
  dfr : W.heap[D]? = some (.deferred (some []))
theorem Books.put {W : World} {D : Nat} {r : Loop} (h : Books W D r) (r' : Loop) : Books (W.putObj (D + 1) (.loop r')) D r' :=
  ⟨World.putObj_heap_same (Array.getElem?_eq_some_iff.1 h.log).1, (World.putObj_heap_other (by omega)).trans h.dfr⟩
theorem Books.from {W W' : World} {D : Nat} {r : Loop} (h : Books W D r) (hk : KeepsFrom D W W') : Books W' D r :=
  ⟨hk.same _ _ (by omega) h.log rfl, hk.same _ _ (Nat.le_refl _) h.dfr rfl⟩

theorem wpIn_rangeFunc_next {α : Type} {g : Operand} {ps : Array Tmp} {assign body : Code} {Q : Exit → Act → World → Prop} {a : Act} {w : World}
    (hro : F.round = none) (h1 : 1 ≤ n) {gf : Nat} {lb : Array Value} (hg : a.eval g = .func (.func gf) #[] lb) (hFg : F.fn gf) (eg : ∀ args w, (callFunc gf args).run P w = .ok (.enter gf args) w)
    {encs : α → Array Value} {Kp : World → World → Prop} {Nx : List α → α → Prop} {S Sp : List α → Prop} {w0 : World} (hseq : SeqNext F (n - 1) P gf lb encs Kp Nx S Sp w0)
    (hKt : ∀ {A B C : World}, Kp A B → Kp B C → Kp A C) (hKb : ∀ (W : World) (l : Nat) (o o' : Obj), w.heap.size ≤ l → W.heap[l]? = some o → o.isCells = false → o.isWalk = false → Kp W (W.putObj l o')) (hb0 : Below w0.heap.size w0 w) (hps : ∀ x, (encs x).size = ps.size)
    (I : List α → World → Prop) (Ix : Code → List α → World → Prop) (hI : OwnFrom w.heap.size I) (hIx : ∀ c, OwnFrom w.heap.size (Ix c)) (h0 : I [] w) (a₁ : α → World → Act) (w₁ : α → World → World)
    (hassign : ∀ (l : Nat) (pre : List α) (x : α) (W : World) (K : Act → World → Prop), I pre W → Nx pre x → K (a₁ x W) (w₁ x W) →
      assign.wpIn (F.inRound l) (n - 1 - 1) P (Exit.then K (fun _ _ _ => False)) { tmps := (ps.zip (encs x)).foldl (fun t (p, v) => t.setIfInBounds p v) a.tmps, defers := [] } W)
    (hw₁ : ∀ (pre : List α) (x : α) (W : World), I pre W → KeepsFrom w.heap.size W (w₁ x W) ∧ Kp W (w₁ x W))
    (hbody : ∀ (l : Nat) (pre : List α) (x : α) (W0 W : World), I pre W0 → (∃ o : Obj, W = (w₁ x W0).putObj (w.heap.size + 1) o ∧ o.isCells = false) → Nx pre x → w.heap.size + 1 < W0.heap.size → body.wpIn (F.inRound l) (n - 1 - 1) P (ownPostG w.heap.size Kp I Ix (pre ++ [x]) W) (a₁ x W0) W)
    (hdone : ∀ (D : Nat) (xs : List α) (W : World), w.heap.size ≤ D → S xs → I xs W → W.heap[D]? = some (.deferred (some [])) → Q .normal { a with defers := { target := .collected D, args := #[] } :: a.defers } W)
    (hstop : ∀ (D : Nat) (c : Code) (pre : List α) (W : World), w.heap.size ≤ D → Sp pre → Ix c pre W → W.heap[D]? = some (.deferred (some [])) → c.wpIn F n P Q { a with defers := { target := .collected D, args := #[] } :: a.defers } W) :
    (Code.rangeFunc g ps assign body).wpIn F n P Q a w := by
  refine wpIn_rangeFunc fun fn hfn => ?_
  rw [hro]
  obtain ⟨R, hR⟩ : ∃ R : LoopState → Option Code → Loop, R = recOf fn a.tmps ps assign body w.heap.size := ⟨_, rfl⟩
  have hRp : ∀ st pe, (R st pe).params = ps := fun st pe => by rw [hR]; rfl
  have hRs : ∀ st pe, (R st pe).state = st := fun st pe => by rw [hR]; rfl
  obtain ⟨W1, hW1⟩ : ∃ W1, (w.alloc (.deferred (some []))).alloc (.loop (R .ready none)) = W1 := ⟨_, rfl⟩
  have hB1 : Books W1 w.heap.size (R .ready none) := by
    rw [← hW1]
    refine ⟨?_, (Below.heap_alloc _ _ _ (by simp)).trans (World.alloc_heap_new w _)⟩
    have := World.alloc_heap_new (w.alloc (.deferred (some []))) (.loop (R .ready none))
    rwa [World.size_alloc] at this
  refine ⟨w.heap.size + 1, [{ target := .collected w.heap.size, args := #[] }], W1, { target := .fn (.func gf) lb, args := #[.func (.yield (w.heap.size + 1)) #[] #[]] }, W1, gf,
    #[.func (.yield (w.heap.size + 1)) #[] #[]] ++ lb, W1, by rw [← hW1, hR]; exact run_enterLoop_outer _ _ _ _ _, by simp only [resolve, hg]; simp [go_sem], fun f' hf' => by simp [Target.leads] at hf'; subst hf'; exact hFg, by simp [invoke, go_sem, eg], fun _ => h1, ?_⟩
  refine (hseq (w.heap.size + 1) (fun pre W => I pre W ∧ Books W w.heap.size (R .ready none)) (fun pre W => ∃ c, Ix c pre W ∧ Books W w.heap.size (R .done (some c))) W1 (by
    rw [← hW1]; exact hb0.trans ((((Below.refl _ w).alloc (Nat.le_refl _) _).alloc (by simp) _).mono hb0.size)) ?_ ⟨by rw [← hW1]; exact hI.alloc _ (hI.alloc _ h0), hB1⟩).mono ?_
  · rintro pre x W ⟨hi, hbk⟩ hnx
    have hy := run_yield (P := P) (args := encs x) hbk.log (by rw [hRp]; exact hps x)
    rw [hR] at hy
    refine ⟨fn, _, assign, body, hy, roundIn_of_wpIn hfn ?_⟩
    have hk1 := hw₁ pre x W hi
    have hb1 := hbk.from hk1.1
    refine hassign _ pre x W _ hi hnx ⟨_, run_beginRound hb1.log (by rw [hRs]), ?_⟩
    have hb2 := hb1.put { R .ready none with state := .busy }
    refine wpIn_mono (hbody _ pre x W _ hi ⟨_, rfl, rfl⟩ hnx (Array.getElem?_eq_some_iff.1 hbk.log).1) ?_
    have hkp1 : Kp W ((w₁ x W).putObj (w.heap.size + 1) (.loop { R .ready none with state := .busy })) := hKt hk1.2 (hKb _ _ _ _ (by omega) hb1.log rfl rfl)
    have fin : ∀ (jump : Option Code) (W3 : World), KeepsFrom w.heap.size ((w₁ x W).putObj (w.heap.size + 1) (.loop { R .ready none with state := .busy })) W3 →
        ∃ W4, W4 = W3.putObj (w.heap.size + 1) (.loop (R (if jump.isNone then .ready else .done) jump)) ∧ (Instr.endRound (w.heap.size + 1) jump).run P W3 = .ok (.bool jump.isNone) W4 ∧
        W3.heap[w.heap.size + 1]? = some (.loop { R .ready none with state := .busy }) ∧ Books W4 w.heap.size (R (if jump.isNone then .ready else .done) jump) := fun jump W3 hk3 => by
      have hb3 := hb2.from hk3
      refine ⟨_, rfl, ?_, hb3.log, hb3.put _⟩
      have := run_endRound (P := P) jump hb3.log
      rw [hR] at this ⊢
      exact this
    rintro e a3 W3 hp
    cases e with
    | normal =>
      obtain ⟨hk3, hkp3, hi3⟩ := hp
      obtain ⟨_, rfl, hr, hl3, hb4⟩ := fin none W3 hk3
      exact ⟨_, _, hr, .inl ⟨rfl, ⟨hI.putObj _ hi3 (by omega) hl3 rfl, hb4⟩, hKt (hKt hkp1 hkp3) (hKb _ _ _ _ (by omega) hl3 rfl rfl)⟩⟩
    | ret =>
      obtain ⟨_, rfl, hr, hl3, hb4⟩ := fin (some .ret) W3 hp.1
      exact ⟨_, _, hr, .inr ⟨rfl, _, (hIx _).putObj _ hp.2 (by omega) hl3 rfl, hb4⟩⟩
    | exit id =>
      obtain ⟨_, rfl, hr, hl3, hb4⟩ := fin (some (.exit id)) W3 hp.1
      exact ⟨_, _, hr, .inr ⟨rfl, _, (hIx _).putObj _ hp.2 (by omega) hl3 rfl, hb4⟩⟩
    | goto t =>
      obtain ⟨_, rfl, hr, hl3, hb4⟩ := fin (some (.goto t)) W3 hp.1
      exact ⟨_, _, hr, .inr ⟨rfl, _, (hIx _).putObj _ hp.2 (by omega) hl3 rfl, hb4⟩⟩
    | panic ch => exact hp.elim
    | outgrown => exact hp.elim
  · rintro e W2 ⟨⟨v, rfl⟩, (⟨xs, hS, hi, hb⟩ | ⟨pre, hSp, c, hi, hb⟩)⟩
    · exact ⟨none, _, by have := run_endLoop (P := P) hb.log (by rw [hRs]; simp); rw [hR] at this; exact this, hdone _ xs _ (Nat.le_refl _) hS (hI.putObj _ hi (by omega) hb.log rfl) ((World.putObj_heap_other (by omega)).trans hb.dfr)⟩
    · exact ⟨some c, _, by have := run_endLoop (P := P) hb.log (by rw [hRs]; simp); rw [hR] at this; exact this, hstop _ c pre _ (Nat.le_refl _) hSp ((hIx c).putObj _ hi (by omega) hb.log rfl) ((World.putObj_heap_other (by omega)).trans hb.dfr)⟩

/- a region that draws its order, within a round -/
def noDeferB (ops : List Oper) : Bool := ops.all fun o => match o.op with | .defer _ => false | _ => true
theorem noDefer_at {ops : List Oper} (h : noDeferB ops = true) {i : Nat} {o : Oper} (ho : ops.toArray[i]? = some o) : ∀ c, o.op ≠ .defer c := by
  intro c e
  have hm : o ∈ ops := by
    rw [List.getElem?_toArray] at ho
    exact List.mem_of_getElem? ho
  have := List.all_eq_true.1 h o hm
  rw [e] at this
  cases this
theorem oper_round {o : Oper} (hd : ∀ c, o.op ≠ .defer c) {l : Nat} {a : Act} {w : World} {next : Act → World → Prop} {Q : Exit → Act → World → Prop} (hq : ¬ LetsOut Q) (h : o.wp P a w next Q) : o.wpIn (Fence.wide.inRound l) n P a w next Q := by
  unfold Oper.wp at h
  unfold Oper.wpIn
  refine ⟨fun _ _ => trivial, ?_⟩
  rw [Oper.semAt_eq _ _ _ hd]
  generalize (execOp a.eval o).run P w = r at *
  cases r with
  | ok x w' =>
    cases x with
    | enter f args => exact ⟨fun h => by simp [Fence.inRound, Fence.wide] at h, (callsIn_wide (n := n - 1)).2 (Calls.mono h fun e w'' he => by cases e <;> exact he)⟩
    | row r args => exact ⟨fun h => by simp [Fence.inRound, Fence.wide] at h, fun c cs _ => let ⟨v, w', r, s⟩ := h c cs; ⟨v, w', r, stepsIn_wide.2 s⟩⟩
    | round l f t s b => exact h.elim
    | value v => exact h
    | skip => exact h
    | defer d => exact h
    | _ => exact h.elim
  | halt x w' => cases x <;> exact h
theorem ops_round {ops : List Oper} {l : Nat} {Q : Exit → Act → World → Prop} (hd : noDeferB ops = true) (hq : ¬ LetsOut Q) : ∀ (L : List Nat) (a : Act) (w : World), wpOps P ops.toArray Q L a w → wpOpsIn (Fence.wide.inRound l) n P ops.toArray Q L a w
  | [], a, w, h => h
  | i :: rest, a, w, h => by
    simp only [wpOps] at h
    simp only [wpOpsIn]
    cases ho : ops.toArray[i]? with
    | none => rw [ho] at h; exact ops_round hd hq rest a w h
    | some o =>
      rw [ho] at h
      dsimp only at h ⊢
      split at h
      · rename_i hw
        rw [if_pos hw]
        rcases h with h | h
        · exact Oper.wpIn_mono (fun a w h => ops_round hd hq rest a w h) (oper_round (noDefer_at hd ho) hq h)
        · exact absurd h.2 hq
      · rename_i hw
        rw [if_neg hw]
        exact ⟨fun _ _ => trivial, ops_round hd hq rest _ w h⟩
theorem wpIn_round_any {id : Nat} {ops : List Oper} {l : Nat} {Q : Exit → Act → World → Prop} {a : Act} {w : World} (hm : P.follows .mixedOrders = true) (hd : noDeferB ops = true) (hq : ¬ LetsOut Q)
    (h : wpAny P .any ops.toArray Q ops.toArray.size (Array.replicate ops.toArray.size false) a { w with drawn := w.drawn + 1 }) : (Code.region id ops.toArray true).wpIn (Fence.wide.inRound l) n P Q a w :=
  wpIn_region_draw fun t => by
    simp only [Region.schedule, hm, Bool.true_or, if_true]
    exact ops_round hd hq _ _ _ (wpAny_sound ops.toArray.size t _ a _ h)
theorem wpIn_round_still_tail {id : Nat} {l : Nat} {Q : Exit → Act → World → Prop} {a : Act} {w : World} {ops : List Oper} (m : Nat) (hm : P.follows .mixedOrders = true) (hd : noDeferB ops = true) (hq : ¬ LetsOut Q) (hB : Region.lexTailB .any ops.toArray m = true)
    (h : wpStill P ops.toArray { w with drawn := w.drawn + 1 } (fun a' => wpList P ops.toArray Q (ops.drop m) a' { w with drawn := w.drawn + 1 }) (ops.take m) a) : (Code.region id ops.toArray true).wpIn (Fence.wide.inRound l) n P Q a w := by
  simp only [Region.lexTailB, Bool.and_eq_true, decide_eq_true_eq] at hB
  obtain ⟨⟨⟨⟨h1, h2⟩, h3⟩, h4⟩, h5⟩ := hB
  have h2' : m < ops.length := by simpa using h2
  have ht : (ops.take m).length = m := by simp; omega
  have hz : m + (ops.drop m).length = ops.toArray.size := by simp; omega
  have hr : ops.toArray.size - m = (ops.drop m).length := by simp
  rw [hr] at h5
  have H := wpAnyL_lex (md := .any) (g := (ops.drop m).length) h1 h3 h4 h2 (ops.take m) 0 _ a (fun j hj => by rw [ht] at hj; simp [hj]) (by simpa using ht)
    (show HeadInv .any ops.toArray m (Array.replicate ops.toArray.size false) from ⟨by simp, fun j oj _ hl => (by rw [getD_replicate_false] at hl; cases hl), fun t _ h6 => getD_in (by simpa using h6) (getD_replicate_false _ _)⟩) (by rw [ht]; exact h5) h
  refine wpIn_round_any hm hd hq ?_
  have K := wpAny_of_head (Q' := Q) (g := (ops.drop m).length) (fun listed a' hL => wpAny_of_seq (md := .any) (Q' := Q) (ops.drop m) m listed a' _ (fun j => by simp [List.getElem?_drop]) hL.1 hL.2) _ _ _ H
  rw [ht, hz] at K
  exact K

/- the marks -/
def coll (D : Nat) : Deferred := { target := .collected D, args := #[] }
/-- as it was, but for some blocks that are no cells -/
structure Shut (ds : List Nat) (W W' : World) : Prop where
  os : W'.os = W.os
  tape : W'.tape = W.tape
  output : W'.output = W.output
  size : W'.heap.size = W.heap.size
  block : ∀ k, k ∉ ds → W'.heap[k]? = W.heap[k]?
theorem Shut.below {ds : List Nat} {W W' w : World} {n₀ : Nat} (h : Shut ds W W') (hb : Below n₀ w W) (hd : ∀ D ∈ ds, n₀ ≤ D) : Below n₀ w W' :=
  ⟨h.os.trans hb.os, h.tape.trans hb.tape, h.output.trans hb.output, by rw [h.size]; exact hb.size, fun k hk => (h.block k (fun hm => by have := hd k hm; omega)).trans (hb.block k hk)⟩
theorem Shut.cell {ds : List Nat} {W W' : World} (h : Shut ds W W') {p : Addr} (hp : p.block ∉ ds) : W'.cell? p = W.cell? p := World.cell?_of_block (w := W) (h.block p.block hp)

theorem leaves_marks {F : Fence} {n : Nat} {P : Program} {fn : Func} {tmps : Array Value} {R : Ending → World → Prop} {u : FrameMode} (hu : u ≠ .run) : ∀ (ds : List Nat) (W : World), ds.Nodup → (∀ D ∈ ds, W.heap[D]? = some (.deferred (some []))) →
    (∀ W', Shut ds W W' → LeavesIn F n P fn tmps R [] u W') → LeavesInM F n P fn tmps R (ds.map coll) u W
  | [], W, _, _, h => h W ⟨rfl, rfl, rfl, rfl, fun _ _ => rfl⟩
  | D :: ds, W, hnd, hd, h => by
    have hnd' := List.nodup_cons.1 hnd
    refine ⟨hu, .inl ⟨D, _, rfl, run_takeDeferred (hd D (by simp)), leaves_marks hu ds _ hnd'.2 (fun E hE => ?_) (fun W' hs => h W' ?_)⟩⟩
    · rw [World.putObj_heap_other (by intro e; subst e; exact hnd'.1 hE)]
      exact hd E (by simp [hE])
    · refine ⟨hs.os, hs.tape, hs.output, hs.size.trans (by simp [World.putObj]), fun k hk => ?_⟩
      simp only [List.mem_cons, not_or] at hk
      rw [hs.block k hk.2, World.putObj_heap_other (by intro e; exact hk.1 e)]

theorem calls_of_wp_marks {f : FuncId} {fn : Func} {c : Code} {args : Array Value} {w : World} {R : Ending → World → Prop} (hf : P.funcs[f]? = some fn) (hb : fn.body = some c)
    (h : c.wp P (bodyPostM Fence.wide 6 P fn R) { tmps := args ++ Array.replicate (fn.ntmps - args.size) undef, defers := [] } w) : Calls P f args w R :=
  (callsIn_wide (n := 6)).1 (callsIn_of_wp_marks hf hb trivial (wpIn_wide.2 h) rfl)
theorem postM_ret {fn : Func} {R : Ending → World → Prop} {a : Act} {w : World} {v : Value} (hr : (results fn a.tmps).run P w = .ok v w) (hd : a.defers = []) (hR : R (.returned v) w) : bodyPostM Fence.wide 6 P fn R .ret a w := by
  show LeavesInM _ _ _ _ _ _ a.defers _ _
  rw [hd]
  exact ⟨v, hr, hR⟩
theorem postM_marks {fn : Func} {R : Ending → World → Prop} {a : Act} {w : World} (ds : List Nat) (hd : a.defers = ds.map coll) (hnd : ds.Nodup) (hD : ∀ D ∈ ds, w.heap[D]? = some (.deferred (some [])))
    (h : ∀ W', Shut ds w W' → ∃ v, (results fn a.tmps).run P W' = .ok v W' ∧ R (.returned v) W') : bodyPostM Fence.wide 6 P fn R .ret a w := by
  show LeavesInM _ _ _ _ _ _ a.defers _ _
  rw [hd]
  exact leaves_marks (by simp) ds _ hnd hD h

end Go.Proofs.Ytenpenelikpeeaa

namespace Go.Proofs.Ytenpenelikpeeaa
open Go.RowKit Go.Shelf
set_option linter.unusedVariables false
set_option linter.unusedSimpArgs false
attribute [local go_sem] Oper.semAt_some

/-- what a round keeps: the cells below n₀, and one box -/
def KpB (n₀ Bb : Nat) (W W' : World) : Prop := Below n₀ W W' ∧ ∀ v, W.cell? ⟨Bb, 0, none⟩ = some v → W'.cell? ⟨Bb, 0, none⟩ = some v
theorem KpB.trans {n₀ Bb : Nat} {A B C : World} (h : KpB n₀ Bb A B) (k : KpB n₀ Bb B C) : KpB n₀ Bb A C := ⟨h.1.trans k.1, fun v hv => k.2 v (h.2 v hv)⟩
theorem KpB.refl (n₀ Bb : Nat) (A : World) : KpB n₀ Bb A A := ⟨Below.refl _ _, fun v hv => hv⟩

/-- the places from the last down to k -/
def downTo (len k : Nat) : List Nat := ((List.range len).drop k).reverse
theorem downTo_all (len : Nat) : downTo len len = [] := by simp [downTo]
theorem downTo_step {len k : Nat} (h : k < len) : downTo len k = downTo len (k + 1) ++ [k] := by
  unfold downTo
  rw [List.drop_eq_getElem_cons (by simpa using h), List.reverse_cons]
  simp
theorem downTo_len (len k : Nat) : (downTo len k).length = len - k := by simp [downTo]
theorem downTo_prefix (len k : Nat) : downTo len k <+: downTo len 0 := by
  unfold downTo; rw [List.drop_zero]; exact List.reverse_prefix.2 (List.drop_suffix _ _)

def stepV (s : Stp) : Value := .agg #[.int .i64 s.lit, .int .i64 s.why]

set_option maxRecDepth 100000 in
set_option maxHeartbeats 1000000 in
theorem back1_in (F : Fence) (n : Nat) (h65 : F.fn 65) (hro : F.round = none) (hn : 1 ≤ n) (l Bs : Nat) (A : Option Addr) (len cap : Nat) (ts : List Stp) (w0 : World) (hr : RS w0 A len cap ts) (hlen : len ≤ 1000000) (J Jx : List Nat → World → Prop)
    (hY : ∀ pre (k : Nat) W, J pre W → pre = downTo len (k + 1) → k < len → YieldAt F (n - 1) Try.prog l #[.int .i64 k, stepV (stp ts k)] W fun e W' =>
      (e = .returned (.bool true) ∧ J (pre ++ [k]) W' ∧ KpB w0.heap.size Bs W W') ∨ (e = .returned (.bool false) ∧ Jx (pre ++ [k]) W'))
    (W : World) (hW : Below w0.heap.size w0 W) (hBs : W.cell? ⟨Bs, 0, none⟩ = some (.slice A len cap)) (h0 : J [] W) :
    CallsIn F n Try.prog 65 #[.func (.yield l) #[] #[], .pointer (some ⟨Bs, 0, none⟩)] W fun e W' => (∃ v, e = .returned v) ∧
      ((∃ ys, ys = downTo len 0 ∧ J ys W') ∨ (∃ pre, pre <+: downTo len 0 ∧ Jx pre W')) := by
  have HR := Lib.hid hr
  have HW := Lib.hid hW
  clear hr hW
  refine callsIn_of_wp Try.func65 rfl h65 ?_ hro
  simp only [Try.ntmps65, List.size_toArray, List.length_cons, List.length_nil, Nat.reduceAdd, Nat.reduceSub, Array.replicate_succ, Array.replicate_zero, List.push_toArray, List.append_toArray, List.nil_append, List.cons_append]
  gi_wp2
  gi_loopw [3] (fun i wr => ∃ k : Nat, k ≤ len ∧ i = .int .i64 ((k : Int) - 1) ∧ J (downTo len k) wr ∧ KpB w0.heap.size Bs W wr) (fun i _ => (intOf i + 1).toNat)
  case atStart => exact ⟨len, Nat.le_refl _, rfl, by rw [downTo_all]; exact h0, KpB.refl _ _ _⟩
  case round =>
    obtain ⟨k, hk, rfl, hJs, hnx⟩ := hrel
    have HJ := Lib.hid hJs
    have HK := Lib.hid hnx
    have hbb := hnx.2 _ hBs
    clear hJs hnx
    by_cases hlt : 0 < k
    · obtain ⟨k, rfl⟩ : ∃ j, k = j + 1 := ⟨k - 1, by omega⟩
      have e1 : ((k + 1 : Nat) : Int) - 1 = (k : Int) := by omega
      rw [e1]
      obtain ⟨b, off, rfl, hb, hc⟩ := (HR.out.below (HW.out.trans HK.out.1)).cells (by omega)
      obtain ⟨u0, u1⟩ := hc k (by omega)
      obtain ⟨fn, tmps, assign, body, hy, hR⟩ := hY _ k wr HJ.out rfl (by omega)
      unfold stepV at hy
      have e2 : ((k + 1 : Nat) : Int) - 1 - 1 = (k : Int) - 1 := by omega
      clear e1 hc
      gi_wp2
      refine hR.mono ?_
      rintro e W3 (⟨rfl, hJ3, hk3⟩ | ⟨rfl, hJx3⟩)
      · have HJ3 := Lib.hid hJ3
        have HK3 := Lib.hid hk3
        clear hJ3 hk3
        gi_wp2
        go_roundw
        case rel => exact ⟨k, by omega, rfl, by rw [downTo_step (by omega)]; exact HJ3.out, HK.out.trans HK3.out⟩
        case measure => simp [intOf]
      · have HJ3 := Lib.hid hJx3
        clear hJx3
        gi_wp2
        refine bodyPost_ret (results_none rfl _ _ _) rfl ?_
        refine ⟨⟨_, rfl⟩, .inr ⟨_, ?_, HJ3.out⟩⟩
        rw [← downTo_step (by omega)]
        exact downTo_prefix _ _
    · obtain rfl : k = 0 := by omega
      gi_wp2
      go_end0
      exact ⟨⟨_, rfl⟩, .inl ⟨_, rfl, HJ.out⟩⟩

theorem enters65 : ∀ args w, (callFunc 65 args).run Try.prog w = .ok (.enter 65 args) w := enters_of Try.func65 (by kernel_rfl) rfl
theorem back_next (F : Fence) (n : Nat) (h65 : F.fn 65) (hro : F.round = none) (hn : 1 ≤ n) (Bs : Nat) (A : Option Addr) (len cap : Nat) (ts : List Stp) (w0 w : World) (hr : RS w0 A len cap ts) (hlen : len ≤ 1000000) (hw : Below w0.heap.size w0 w) (hB : Bs < w.heap.size) (hBs : w.cell? ⟨Bs, 0, none⟩ = some (.slice A len cap)) :
    SeqNext F n Try.prog 65 #[.pointer (some ⟨Bs, 0, none⟩)] (fun k : Nat => #[.int .i64 k, stepV (stp ts k)]) (KpB w0.heap.size Bs) (fun pre k => pre = downTo len (k + 1) ∧ k < len) (fun ys => ys = downTo len 0) (fun pre => pre <+: downTo len 0) w :=
  fun l J Jx W hW hY h0 => back1_in F n h65 hro hn l Bs A len cap ts w0 hr hlen J Jx (fun pre k W1 h1 h2 h3 => hY pre k W1 h1 ⟨h2, h3⟩) W (hw.trans (hW.mono hw.size)) ((hW.cell (p := ⟨Bs, 0, none⟩) hB).trans hBs) h0

end Go.Proofs.Ytenpenelikpeeaa
