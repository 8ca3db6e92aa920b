/-
  The reference's Lits, by, Check of layer 19; has, place, falsely, level of layer 20. No condition.
-/
import Derived.Test.YtenpenelikpeeaaZC4

namespace Go.Proofs.Ytenpenelikpeeaa
open Go.RowKit Go.Shelf
set_option linter.unusedVariables false
set_option linter.unusedSimpArgs false

set_option maxRecDepth 100000 in
set_option maxHeartbeats 1000000 in
theorem lits_any (A : Option Addr) (n c : Nat) (ts : List Stp) (w : World) (h : RS w A n c ts) (hn : n ≤ 1000000) :
    Calls Try.prog 70 #[.slice A n c] w (Freshd (litsOf ts) n w) := by
  obtain ⟨i0, hi, hz0, hz1, hz2⟩ := info_parts infoInt
  have H := Lib.hid h
  clear h
  go_enter Try.func70, Try.ntmps70
  go_wp2
  go_loopw [3, 4] (fun s3 s4 W => ∃ (k : Nat) (O : Option Addr) (co : Nat), k ≤ n ∧ s4 = .int .i64 k ∧ s3 = .slice O k co ∧ W.ownsRow w.heap.size 3 1 (.slice O k co) k ((litsOf (ts.take k)).map (Value.int .i64)) ∧ Below w.heap.size w W) (fun _ i _ => n - (intOf i).toNat)
  case atStart => exact ⟨0, none, 0, Nat.zero_le _, rfl, rfl, World.ownsRow_nil _ _ _ _, Below.refl _ _⟩
  case round =>
    obtain ⟨k, O, co, hk, rfl, rfl, hown, hb⟩ := hrel
    have HO := Lib.hid hown
    have HB := Lib.hid hb
    have hsz := hb.size
    clear hown hb
    by_cases hlt : k < n
    · have hl : k < ts.length := by rw [H.out.len]; exact hlt
      obtain ⟨b, off, rfl, hbl, hc⟩ := (H.out.below HB.out).cells (by omega)
      obtain ⟨hc0, hc1⟩ := hc k hlt
      clear hc
      have E1 : Hid (litsOf (ts.take (k + 1)) = litsOf (ts.take k) ++ [(stp ts k).lit]) := Lib.hid (by rw [takes_snoc ts k hl, litsOf_snoc])
      clear hl hc1
      generalize (stp ts k).lit = x at *
      go_wp2_with (at_builtin; refine wpList_append_own_at _ rfl (.tmp 11) (.tmp 17) 28 rfl w.heap.size 3 i0 (.int .i64 0) 1 8 Try.underlying28 hi hz0 hz1 hz2 rfl (by decide) (.slice O k co) k _ rfl (HO.out.alloc _) ⟨_, 0, none⟩ 1 1 [.int .i64 x] rfl rfl (cell_new_at _ _ _ _ (by simp)) (by simp [Value.oneCell']) (by unfold maxLen; omega) (by omega) (by simp; omega) ?_; intro v' w4 hown' hgrow hnil hloc; obtain ⟨g', cap', rfl⟩ := own_succ hown'; have G1 := Lib.hid (grown_below hgrow); have O1 := Lib.hid hown'; clear hown' hgrow hnil hloc)
      go_roundw
      case rel => exact ⟨k + 1, some ⟨g', 0, none⟩, cap', by omega, by go_num, rfl, by rw [E1.out, List.map_append]; exact O1.out, HB.out.grown G1.out hsz (fun g hg => (own_lt HO.out hg).1)⟩
      case measure => simp [intOf]; omega
    · obtain rfl : k = n := by omega
      have E1 : Hid (litsOf ts = litsOf (ts.take k)) := Lib.hid (by rw [List.take_of_length_le (by rw [H.out.len]; omega)])
      go_wp2
      go_ret
      exact ⟨O, co, rfl, by rw [E1.out]; exact RI.of_own HO.out (by omega), HB.out⟩

def byB (l : List Int) (lit : Int) (known : List Int) : Bool := l.any fun y => (y != lit) && !(hasB known (-y))
theorem whyOk_by (l prev : List Int) (lit : Int) : whyOk l prev lit = (hasB l lit && !(byB l lit prev)) := rfl

set_option maxRecDepth 100000 in
set_option maxHeartbeats 1000000 in
theorem by_val (r : Bool) (A : Option Addr) (n c : Nat) (zs : List Int) (lit : Int) (A' : Option Addr) (n' c' : Nat) (known : List Int) (w : World) (h : RI w A n c zs) (h' : RI w A' n' c' known) (hz : Okl zs) (hr : whyOk zs known lit = r) :
    Calls Try.prog 73 #[.slice A n c, .int .i64 lit, .slice A' n' c'] w fun e w' => e = .returned (.bool r) ∧ w = w' := by
  have hn := h.small
  have H := Lib.hid h
  have H' := Lib.hid h'
  have HZ := Lib.hid hz
  have HRR := Lib.hid hr
  clear h h' hz hr
  go_enter Try.func73, Try.ntmps73
  go_wp2
  go_loop [7] (fun i => ∃ k : Nat, k ≤ n ∧ i = .int .i64 k ∧ byB (zs.take k) lit known = false) (fun i => n - (intOf i).toNat)
  case atStart => exact ⟨0, Nat.zero_le _, rfl, rfl⟩
  case round =>
    obtain ⟨k, hk, rfl, hno⟩ := hrel
    have HN := Lib.hid hno
    clear hno
    by_cases hlt : k < n
    · obtain ⟨b, off, rfl, hb, hc⟩ := H.out.cells (by omega)
      have hck := hc k hlt
      clear hc
      have hl : k < zs.length := by rw [H.out.len]; exact hlt
      have hx := HZ.out.at hl
      have hneg := lit_neg' hx.2.1 hx.2.2
      have E1 : Hid (((elt zs k != lit) && !(hasB known (-(elt zs k)))) = false → byB (zs.take (k + 1)) lit known = false) := Lib.hid (fun e => any_step (p := fun y => (y != lit) && !(hasB known (-y))) hl e HN.out)
      have E2 : Hid (((elt zs k != lit) && !(hasB known (-(elt zs k)))) = true → byB zs lit known = true) := Lib.hid (fun e => any_at (p := fun y => (y != lit) && !(hasB known (-y))) hl e)
      clear hl hx
      generalize elt zs k = x at *
      by_cases hxl : x = lit
      · have hxb : (x != lit) = false := by simpa using hxl
        have E3 := Lib.hid (E1.out (by rw [hxb]; rfl))
        clear hxl E1 E2
        go_wp2
        go_round
        case rel => exact ⟨k + 1, by omega, by go_num, E3.out⟩
        case measure => simp [intOf]; omega
      · have hxb : (x != lit) = true := by simpa using hxl
        clear hxl
        cases hkn : hasB known (-x)
        · have E3 := Lib.hid (E2.out (by rw [hxb, hkn]; rfl))
          have HKN := Lib.hid hkn
          clear hkn E1 E2
          go_wp2_with (go_at_call 72; refine (has_val false A' n' c' known (-x) _ H'.out HKN.out).mono ?_; rintro e w' ⟨rfl, rfl⟩)
          go_ret
          exact ⟨ret_bool (by rw [← HRR.out, whyOk_by, E3.out]; simp), rfl⟩
        · have E3 := Lib.hid (E1.out (by rw [hxb, hkn]; rfl))
          have HKN := Lib.hid hkn
          clear hkn E1 E2
          go_wp2_with (go_at_call 72; refine (has_val true A' n' c' known (-x) _ H'.out HKN.out).mono ?_; rintro e w' ⟨rfl, rfl⟩)
          go_round
          case rel => exact ⟨k + 1, by omega, by go_num, E3.out⟩
          case measure => simp [intOf]; omega
    · have E : Hid (byB zs lit known = false) := Lib.hid (by have := HN.out; rwa [List.take_of_length_le (by rw [H.out.len]; omega)] at this)
      have E2 : Hid (hasB zs lit = r) := Lib.hid (by rw [← HRR.out, whyOk_by, E.out]; simp)
      go_wp2_with (go_at_call 72; refine (has_val r A n c zs lit _ H.out E2.out).mono ?_; rintro e w' ⟨rfl, rfl⟩)
      go_ret
      exact ⟨rfl, rfl⟩

set_option maxHeartbeats 400000 in
theorem has20_val (r : Bool) (A : Option Addr) (n c : Nat) (zs : List Int) (x : Int) (w : World) (h : RI w A n c zs) (hr : hasB zs x = r) :
    Calls Try.prog 74 #[.slice A n c, .int .i64 x] w fun e w' => e = .returned (.bool r) ∧ w = w' := by
  have hn := h.small
  have H := Lib.hid h
  have HRR := Lib.hid hr
  clear h hr
  go_enter Try.func74, Try.ntmps74
  go_wp2
  go_loop [5] (fun i => ∃ k : Nat, k ≤ n ∧ i = .int .i64 k ∧ hasB (zs.take k) x = false) (fun i => n - (intOf i).toNat)
  case atStart => exact ⟨0, Nat.zero_le _, rfl, rfl⟩
  case round =>
    obtain ⟨k, hk, rfl, hno⟩ := hrel
    have HN := Lib.hid hno
    clear hno
    by_cases hlt : k < n
    · obtain ⟨b, off, rfl, hb, hc⟩ := H.out.cells (by omega)
      have hck := hc k hlt
      clear hc
      go_wp2
      · go_ret
        exact ⟨ret_bool (by rw [← HRR.out]; exact (hasB_of_at (by rw [H.out.len]; exact hlt) (by assumption)).symm), rfl⟩
      · go_round
        case rel => exact ⟨k + 1, by omega, by go_num, hasB_step (by rw [H.out.len]; exact hlt) (by assumption) HN.out⟩
        case measure => simp [intOf]; omega
    · go_wp2
      go_ret
      exact ⟨ret_bool (by rw [← HRR.out]; exact (hasB_full H.out.len hlt HN.out).symm), rfl⟩

/-- the place of a literal; -1 if it is not there -/
def plcI (ts : List Stp) (x : Int) : Int := if plc ts x < ts.length then (plc ts x : Int) else -1

set_option maxHeartbeats 400000 in
theorem place_any (A : Option Addr) (n c : Nat) (ts : List Stp) (x : Int) (w : World) (h : RS w A n c ts) (hn : n ≤ 1000000) :
    Calls Try.prog 43 #[.slice A n c, .int .i64 x] w fun e w' => e = .returned (.int .i64 (plcI ts x)) ∧ w = w' := by
  have H := Lib.hid h
  clear h
  go_enter Try.func43, Try.ntmps43
  go_wp2
  go_loop [5] (fun i => ∃ k : Nat, k ≤ n ∧ i = .int .i64 k ∧ ∀ j, j < k → (stp ts j).lit ≠ x) (fun i => n - (intOf i).toNat)
  case atStart => exact ⟨0, Nat.zero_le _, rfl, fun j hj => absurd hj (by omega)⟩
  case round =>
    obtain ⟨k, hk, rfl, hno⟩ := hrel
    have HN := Lib.hid hno
    clear hno
    by_cases hlt : k < n
    · have hl : k < ts.length := by rw [H.out.len]; exact hlt
      obtain ⟨b, off, rfl, hb, hc⟩ := H.out.cells (by omega)
      obtain ⟨hc0, -⟩ := hc k hlt
      clear hc
      by_cases hx : (stp ts k).lit = x
      · have hxb : ((stp ts k).lit == x) = true := by simpa using hx
        have E : Hid (plcI ts x = k) := Lib.hid (by unfold plcI; rw [plc_at hl hx HN.out, if_pos hl])
        clear hx hl
        go_wp2
        go_ret
        exact ⟨ret_int E.out.symm, rfl⟩
      · have hxb : ((stp ts k).lit == x) = false := by simpa using hx
        have E := Lib.hid hx
        clear hx hl
        go_wp2
        go_round
        case rel =>
          refine ⟨k + 1, by omega, by go_num, fun j hj => ?_⟩
          rcases Nat.lt_or_ge j k with h1 | h1
          · exact HN.out j h1
          · obtain rfl : j = k := by omega
            exact E.out
        case measure => simp [intOf]; omega
    · have E : Hid (plcI ts x = -1) := Lib.hid (by unfold plcI; rw [plc_none (fun j hj => HN.out j (by rw [H.out.len] at hj; omega)), if_neg (by omega)])
      go_wp2
      go_ret
      exact ⟨ret_int E.out.symm, rfl⟩
theorem place_val (r : Int) (A : Option Addr) (n c : Nat) (ts : List Stp) (x : Int) (w : World) (h : RS w A n c ts) (hn : n ≤ 1000000) (hr : plcI ts x = r) :
    Calls Try.prog 43 #[.slice A n c, .int .i64 x] w fun e w' => e = .returned (.int .i64 r) ∧ w = w' := by
  have := place_any A n c ts x w h hn
  rw [hr] at this; exact this

def deadB (ts : List Stp) (l : List Int) : Bool := l.all fun y => decide (plc ts (-y) < ts.length)
theorem plcI_neg {ts : List Stp} {x : Int} : plcI ts x < 0 ↔ ¬ plc ts x < ts.length := by
  unfold plcI; split <;> omega

set_option maxHeartbeats 400000 in
theorem falsely_val (r : Bool) (A : Option Addr) (n c : Nat) (ts : List Stp) (A' : Option Addr) (n' c' : Nat) (l : List Int) (w : World) (h : RS w A n c ts) (hn : n ≤ 1000000) (h' : RI w A' n' c' l) (hz : Okl l) (hr : deadB ts l = r) :
    Calls Try.prog 38 #[.slice A n c, .slice A' n' c'] w fun e w' => e = .returned (.bool r) ∧ w = w' := by
  have hn' := h'.small
  have H := Lib.hid h
  have H' := Lib.hid h'
  have HZ := Lib.hid hz
  have HRR := Lib.hid hr
  clear h h' hz hr
  go_enter Try.func38, Try.ntmps38
  go_wp2
  go_loop [5] (fun i => ∃ k : Nat, k ≤ n' ∧ i = .int .i64 k ∧ deadB ts (l.take k) = true) (fun i => n' - (intOf i).toNat)
  case atStart => exact ⟨0, Nat.zero_le _, rfl, rfl⟩
  case round =>
    obtain ⟨k, hk, rfl, hno⟩ := hrel
    have HN := Lib.hid hno
    clear hno
    by_cases hlt : k < n'
    · obtain ⟨b, off, rfl, hb, hc⟩ := H'.out.cells (by omega)
      have hck := hc k hlt
      clear hc
      have hl : k < l.length := by rw [H'.out.len]; exact hlt
      have hx := HZ.out.at hl
      have hneg := lit_neg' hx.2.1 hx.2.2
      obtain ⟨q, hq⟩ : ∃ q, plcI ts (-(elt l k)) = q := ⟨_, rfl⟩
      have HQ := Lib.hid hq
      by_cases hd : plc ts (-(elt l k)) < ts.length
      · have hq0 : ¬ q < 0 := by rw [← hq, plcI_neg]; simpa using hd
        have E : Hid (deadB ts (l.take (k + 1)) = true) := Lib.hid (all_step (p := fun y => decide (plc ts (-y) < ts.length)) hl (by simpa using hd) HN.out)
        clear hd hq hl hx
        go_wp2_with (go_at_call 43; refine (place_val q A n c ts (-(elt l k)) _ H.out hn HQ.out).mono ?_; rintro e w' ⟨rfl, rfl⟩)
        go_round
        case rel => exact ⟨k + 1, by omega, by go_num, E.out⟩
        case measure => simp [intOf]; omega
      · have hq0 : q < 0 := by rw [← hq, plcI_neg]; exact hd
        have E : Hid (deadB ts l = false) := Lib.hid (all_at (p := fun y => decide (plc ts (-y) < ts.length)) hl (by simpa using hd))
        clear hd hq hl hx
        go_wp2_with (go_at_call 43; refine (place_val q A n c ts (-(elt l k)) _ H.out hn HQ.out).mono ?_; rintro e w' ⟨rfl, rfl⟩)
        go_ret
        exact ⟨ret_bool (by rw [← HRR.out, E.out]), rfl⟩
    · have E : Hid (deadB ts l = true) := Lib.hid (all_full (p := fun y => decide (plc ts (-y) < ts.length)) H'.out.len hlt HN.out)
      go_wp2
      go_ret
      exact ⟨ret_bool (by rw [← HRR.out, E.out]), rfl⟩

set_option maxHeartbeats 400000 in
theorem level20_val (r : Int) (A : Option Addr) (n c : Nat) (ts : List Stp) (x : Int) (w : World) (h : RS w A n c ts) (hn : n ≤ 1000000) (h0 : -65536 ≤ x) (h1 : x ≤ 65536) (hd : plc ts (-x) < ts.length) (hr : lvlT ts x = r) :
    Calls Try.prog 44 #[.slice A n c, .int .i64 x] w fun e w' => e = .returned (.int .i64 r) ∧ Below w.heap.size w w' := by
  have hneg := lit_neg' h0 h1
  have e1 : lvlT ts x = elt (levL ts) (plc ts (-x)) := by unfold lvlT; rw [if_pos hd, levL_at hd]
  have e2 : plcI ts (-x) = (plc ts (-x) : Nat) := by unfold plcI; rw [if_pos hd]
  have hdn : plc ts (-x) < n := by rw [← h.len]; exact hd
  rw [e1] at hr
  generalize plc ts (-x) = k at *
  have HE := Lib.hid e2
  have HRR := Lib.hid hr
  have H := Lib.hid h
  clear e1 e2 hr h hd
  have hcl := fun (A2 : Option Addr) (c2 : Nat) (W : World) (h2 : RI W A2 n c2 (levL ts)) => h2.cells (by omega)
  go_enter Try.func44, Try.ntmps44
  go_wp2_with (first
    | (go_at_call 75; refine (levelsR_any A n c ts _ H.out hn).mono ?_; rintro e w2 ⟨A2, c2, rfl, hr2, hb2⟩; obtain ⟨b2, off2, rfl, hbl2, hc2⟩ := hcl _ _ _ hr2; have hck2 := hc2 k hdn; rw [HRR.out] at hck2; have HB2 := Lib.hid hb2; clear hr2 hb2 hc2 hcl)
    | (go_at_call 43; refine (place_val (k : Int) A n c ts (-x) _ (H.out.below HB2.out) hn HE.out).mono ?_; rintro e w' ⟨rfl, rfl⟩))
  go_ret
  exact ⟨rfl, HB2.out⟩


theorem isB_no {x lt : Int} (h : lt = 0 ∨ x < lt ∨ lt < -x) : isB lt x = false := by
  cases h1 : isB lt x with
  | false => rfl
  | true => have := isB_iff.1 h1; omega

/-- what stands in the loop of the reference's Check -/
structure Cr (w1 wr : World) : Prop where
  below : Below w1.heap.size w1 wr

set_option maxRecDepth 100000 in
set_option maxHeartbeats 4000000 in
theorem rcheck_in (x : Int) (A : Option Addr) (n c : Nat) (ls : List (List Int)) (A' : Option Addr) (n' c' : Nat) (ts : List Stp) (w : World) (h : RL w A n c ls) (h' : RS w A' n' c' ts) (hE : checkE x ls = 0) (hn' : n' ≤ 1000000) (r : Int) (hr : (if trailB x ls ts = true then 0 else 1) = r) :
    Calls Try.prog 37 #[.agg #[.int .i64 x, .slice A n c], .slice A' n' c'] w fun e w' => e = .returned (.int .i64 r) ∧ Below w.heap.size w w' := by
  obtain ⟨hx0, hx1⟩ := checkE_n hE
  have hcall := checkR_any x A n c ls (w.alloc (.cells #[.int .i64 x, .slice A n c] 24)) (h.alloc _)
  rw [hE] at hcall
  have H := Lib.hid (h.alloc (.cells #[.int .i64 x, .slice A n c] 24))
  have HS := Lib.hid (h'.alloc (.cells #[.int .i64 x, .slice A n c] 24))
  have HB0 := Lib.hid ((Below.refl w.heap.size w).alloc (Nat.le_refl _) (.cells #[.int .i64 x, .slice A n c] 24))
  have BX := Lib.hid (Two.new w (.int .i64 x) (.slice A n c))
  have HK := Lib.hid (checkE_lits hE)
  have HLN := Lib.hid h.len
  have hnb := h.small
  have HRR := Lib.hid hr
  clear h h' hE hr
  go_enter Try.func37, Try.ntmps37
  go_upto_region 5 with (first
    | (go_at_call 69; refine hcall.mono ?_; clear hcall; rintro e w1 ⟨rfl, hb1⟩; have HB1 := Lib.hid (HB0.out.trans (hb1.mono HB0.out.size)); have HR1 := Lib.hid (H.out.below hb1); have HS1 := Lib.hid (HS.out.below hb1); have BX1 := Lib.hid (BX.out.below hb1); clear hb1)
    | (go_at_call 70; refine (lits_any A' n' c' ts _ HS1.out hn').mono ?_; rintro e w2 ⟨A2, c2, rfl, hr2, hb2⟩; have HL2 := Lib.hid hr2; have HB2 := Lib.hid (HB1.out.trans (hb2.mono HB1.out.size)); have HR2 := Lib.hid (HR1.out.below hb2); have HS2 := Lib.hid (HS1.out.below hb2); have BX2 := Lib.hid (BX1.out.below hb2); clear hr2 hb2))
  go_wp2_with fail
  go_loopw [7] (fun s7 W => ∃ k : Nat, k ≤ n' ∧ s7 = .int .i64 k ∧ trailTo x ls ts k = true ∧ Below w2.heap.size w2 W) (fun s7 _ => n' - (intOf s7).toNat)
  case atStart => exact ⟨0, Nat.zero_le _, rfl, rfl, Below.refl _ _⟩
  case round =>
    obtain ⟨k, hk, rfl, htr, hb⟩ := hrel
    have HT := Lib.hid htr
    have HB := Lib.hid hb
    clear htr hb
    by_cases hlt : k < n'
    · have hl : k < ts.length := by rw [HS.out.len]; exact hlt
      obtain ⟨b, off, rfl, hbl, hc⟩ := (HS2.out.below HB.out).cells (by omega)
      obtain ⟨hc0, hc1⟩ := hc k hlt
      clear hc
      have E1 := Lib.hid (trailTo_succ x ls ts k)
      have E3 := Lib.hid (trailB_no (x := x) (ls := ls) (ts := ts) hl)
      have HX := Lib.hid (BoxS.new wr (stp ts k).lit (stp ts k).why)
      have HC := Lib.hid (HB.out.alloc HB.out.size (.cells #[.int .i64 (stp ts k).lit, .int .i64 (stp ts k).why] 41))
      have EP : Hid ((litsOf ts).take k = litsOf (ts.take k)) := Lib.hid (by unfold litsOf; rw [List.map_take])
      obtain ⟨b2, off2, rfl, hbl2, hcl2⟩ := (HL2.out.below HC.out).cells (by omega)
      have HP := Lib.hid ((HL2.out.below HC.out).take (k := k) (by omega))
      rw [EP.out] at HP
      have hkc : k ≤ c2 := by have := HL2.out.cap; omega
      have hcm := HL2.out.cmax
      unfold maxLen at hcm
      clear hl hcl2 EP
      generalize hs : stp ts k = s at *
      obtain ⟨lt, wy⟩ := s
      dsimp only at *
      generalize litsOf (ts.take k) = prev at *
      go_upto_region 9 with fail
      generalize hWW : wr.alloc (.cells #[.int .i64 lt, .int .i64 wy] 41) = WW at *
      have hBB := HC.out
      have g0 := fun u : Gr WW => u.cell (p := ⟨wr.heap.size, 0, none⟩) HX.out.lt HX.out.c0
      have g1 := fun u : Gr WW => u.cell (p := ⟨wr.heap.size, 1, none⟩) HX.out.lt HX.out.c1
      have BW := Lib.hid (BX2.out.below HC.out)
      have g2 := fun u : Gr WW => u.cell (p := ⟨w.heap.size, 0, none⟩) BW.out.lt BW.out.c0
      have g3 := fun u : Gr WW => u.cell (p := ⟨w.heap.size, 1, none⟩) BW.out.lt BW.out.c1
      clear hBB hWW
      cases hok : stepOk x ls prev ⟨lt, wy⟩ with
      | false =>
        have E4 := Lib.hid (E3.out hok)
        have hno := step_no hok
        dsimp only at hno
        rw [HLN.out] at hno
        clear E1 E3 hok
        have hno2 : (isB lt x = false) ∨ (isB lt x = true ∧ hasB prev lt = true) ∨ (isB lt x = true ∧ hasB prev lt = false ∧ hasB prev (-lt) = true) ∨ (isB lt x = true ∧ (hasB prev lt || hasB prev (-lt)) = false ∧ wy < -1) ∨ (isB lt x = true ∧ (hasB prev lt || hasB prev (-lt)) = false ∧ -1 ≤ wy ∧ (n : Int) ≤ wy) ∨ (isB lt x = true ∧ (hasB prev lt || hasB prev (-lt)) = false ∧ 0 ≤ wy ∧ wy < (n : Int) ∧ whyOk (ell ls wy.toNat) prev lt = false) := by
          rcases hno with h1 | ⟨h1, h2⟩ | ⟨h1, h2, h3⟩ | ⟨h1, h2⟩ | ⟨h1, h2, h3⟩ | ⟨h1, h2, h3, h4⟩ | ⟨h1, h2, h3, h4, h5⟩ | ⟨h1, h2, h3, h4, h5, h6⟩
          · exact Or.inl (isB_no (Or.inl h1))
          · exact Or.inl (isB_no (Or.inr (Or.inl h2)))
          · exact Or.inl (isB_no (Or.inr (Or.inr h3)))
          · cases h5 : hasB prev lt with
            | true => exact Or.inr (Or.inl ⟨h1, rfl⟩)
            | false => rw [h5] at h2; exact Or.inr (Or.inr (Or.inl ⟨h1, rfl, by simpa using h2⟩))
          · exact Or.inr (Or.inr (Or.inr (Or.inl ⟨h1, h2, h3⟩)))
          · exact Or.inr (Or.inr (Or.inr (Or.inr (Or.inl ⟨h1, h2, h3, h4⟩))))
          · exact Or.inr (Or.inr (Or.inr (Or.inr (Or.inr ⟨h1, h2, h3, h4, by unfold whyOk; rw [h5]; rfl⟩))))
          · exact Or.inr (Or.inr (Or.inr (Or.inr (Or.inr ⟨h1, h2, h3, h4, by unfold whyOk; rw [h5, h6]; rfl⟩))))
        clear hno
        rcases hno2 with h1 | ⟨h1, h2⟩ | ⟨h1, h2, h3⟩ | ⟨h1, h2, h3⟩ | ⟨h1, h2, h3, h4⟩ | ⟨h1, h2, h3, h4, h5⟩
        · have Z1 := Lib.hid h1
          clear h1
          refine wp_region_grow (by kernel_rfl) (by kernel_rfl) ?_
          repeat (go_big_quiet_step ((go_at_call 71; exact Gr.same _ (is_val false lt x _ hx0 hx1 Z1.out))))
          refine wpQuiet_nil ?_
          rintro w7 ⟨⟨_, hb7⟩, rfl⟩
          have HB7 := Lib.hid (HC.out.trans (hb7.mono HC.out.size))
          clear hb7 g0 g1 g2 g3
          go_wp2_with fail
          go_ret
          exact ⟨ret_int (by rw [← HRR.out, E4.out]; rfl), HB2.out.trans (HB7.out.mono HB2.out.size)⟩
        · have Z1 := Lib.hid h1
          have Z2 := Lib.hid h2
          clear h1 h2
          refine wp_region_grow (by kernel_rfl) (by kernel_rfl) ?_
          repeat (go_big_quiet_step ((first | (go_at_call 71; exact Gr.same _ (is_val true lt x _ hx0 hx1 Z1.out)) | (go_at_call 72; exact Gr.same _ (has_val true _ k c2 prev lt _ (HP.out.below (Gr.ok _)) Z2.out)))))
          refine wpQuiet_nil ?_
          rintro w7 ⟨⟨_, hb7⟩, rfl⟩
          have HB7 := Lib.hid (HC.out.trans (hb7.mono HC.out.size))
          clear hb7 g0 g1 g2 g3
          go_wp2_with fail
          go_ret
          exact ⟨ret_int (by rw [← HRR.out, E4.out]; rfl), HB2.out.trans (HB7.out.mono HB2.out.size)⟩
        · have Z1 := Lib.hid h1
          have Z2 := Lib.hid h2
          have Z3 := Lib.hid h3
          have hbb := isB_iff.1 h1
          have hneg := lit_neg (x := lt) (by omega) (by omega)
          have hneg' := lit_neg' (x := lt) (by omega) (by omega)
          clear h1 h2 h3 hbb
          refine wp_region_grow (by kernel_rfl) (by kernel_rfl) ?_
          repeat (go_big_quiet_step ((first | (go_at_call 71; exact Gr.same _ (is_val true lt x _ hx0 hx1 Z1.out)) | (go_at_call 72; exact Gr.same _ (has_val _ _ k c2 prev _ _ (HP.out.below (Gr.ok _)) (by first | exact Z2.out | exact Z3.out))))))
          refine wpQuiet_nil ?_
          rintro w7 ⟨⟨_, hb7⟩, rfl⟩
          have HB7 := Lib.hid (HC.out.trans (hb7.mono HC.out.size))
          clear hb7 g0 g1 g2 g3
          go_wp2_with fail
          go_ret
          exact ⟨ret_int (by rw [← HRR.out, E4.out]; rfl), HB2.out.trans (HB7.out.mono HB2.out.size)⟩
        · have Z1 := Lib.hid h1
          have hh := Bool.or_eq_false_iff.1 h2
          have Z2 := Lib.hid hh.1
          have Z3 := Lib.hid hh.2
          have hbb := isB_iff.1 h1
          have hneg := lit_neg (x := lt) (by omega) (by omega)
          have hneg' := lit_neg' (x := lt) (by omega) (by omega)
          clear hbb h1 h2 hh
          refine wp_region_grow (by kernel_rfl) (by kernel_rfl) ?_
          repeat (go_big_quiet_step ((first | (go_at_call 71; exact Gr.same _ (is_val true lt x _ hx0 hx1 Z1.out)) | (go_at_call 72; exact Gr.same _ (has_val false _ k c2 prev _ _ (HP.out.below (Gr.ok _)) (by first | exact Z2.out | exact Z3.out))))))
          refine wpQuiet_nil ?_
          rintro w7 ⟨⟨_, hb7⟩, rfl⟩
          have HB7 := Lib.hid (HC.out.trans (hb7.mono HC.out.size))
          have HX7 := Lib.hid (HX.out.below hb7)
          have BW7 := Lib.hid (BW.out.below hb7)
          have HP7 := Lib.hid (HP.out.below hb7)
          clear hb7 g0 g1 g2 g3
          go_wp2_with fail
          go_ret
          exact ⟨ret_int (by rw [← HRR.out, E4.out]; rfl), HB2.out.trans (HB7.out.mono HB2.out.size)⟩
        · have Z1 := Lib.hid h1
          have hh := Bool.or_eq_false_iff.1 h2
          have Z2 := Lib.hid hh.1
          have Z3 := Lib.hid hh.2
          have hbb := isB_iff.1 h1
          have hneg := lit_neg (x := lt) (by omega) (by omega)
          have hneg' := lit_neg' (x := lt) (by omega) (by omega)
          clear hbb h1 h2 hh
          have z4 : ¬ wy < -1 := by omega
          clear h3
          refine wp_region_grow (by kernel_rfl) (by kernel_rfl) ?_
          repeat (go_big_quiet_step ((first | (go_at_call 71; exact Gr.same _ (is_val true lt x _ hx0 hx1 Z1.out)) | (go_at_call 72; exact Gr.same _ (has_val false _ k c2 prev _ _ (HP.out.below (Gr.ok _)) (by first | exact Z2.out | exact Z3.out))))))
          refine wpQuiet_nil ?_
          rintro w7 ⟨⟨_, hb7⟩, rfl⟩
          have HB7 := Lib.hid (HC.out.trans (hb7.mono HC.out.size))
          have HX7 := Lib.hid (HX.out.below hb7)
          have BW7 := Lib.hid (BW.out.below hb7)
          have HP7 := Lib.hid (HP.out.below hb7)
          clear hb7 g0 g1 g2 g3
          go_wp2_with fail
          go_ret
          exact ⟨ret_int (by rw [← HRR.out, E4.out]; rfl), HB2.out.trans (HB7.out.mono HB2.out.size)⟩
        · have Z1 := Lib.hid h1
          have hh := Bool.or_eq_false_iff.1 h2
          have Z2 := Lib.hid hh.1
          have Z3 := Lib.hid hh.2
          have hbb := isB_iff.1 h1
          have hneg := lit_neg (x := lt) (by omega) (by omega)
          have hneg' := lit_neg' (x := lt) (by omega) (by omega)
          clear hbb h1 h2 hh
          have z4 : ¬ wy < -1 := by omega
          have z5 : ¬ (n : Int) ≤ wy := by omega
          obtain ⟨j, rfl⟩ : ∃ j : Nat, wy = j := ⟨wy.toNat, by omega⟩
          rw [Int.toNat_natCast] at h5
          have Z5 := Lib.hid h5
          clear h5
          refine wp_region_grow (by kernel_rfl) (by kernel_rfl) ?_
          repeat (go_big_quiet_step ((first | (go_at_call 71; exact Gr.same _ (is_val true lt x _ hx0 hx1 Z1.out)) | (go_at_call 72; exact Gr.same _ (has_val false _ k c2 prev _ _ (HP.out.below (Gr.ok _)) (by first | exact Z2.out | exact Z3.out))))))
          refine wpQuiet_nil ?_
          rintro w7 ⟨⟨_, hb7⟩, rfl⟩
          have HB7 := Lib.hid (HC.out.trans (hb7.mono HC.out.size))
          have HX7 := Lib.hid (HX.out.below hb7)
          have BW7 := Lib.hid (BW.out.below hb7)
          have HP7 := Lib.hid (HP.out.below hb7)
          clear hb7 g0 g1 g2 g3
          obtain ⟨b3, off3, rfl, hb3, hc3⟩ := (HR2.out.below HB7.out).cells (by omega)
          obtain ⟨a4, n4, c4, hc4, hr4⟩ := hc3 j (by omega)
          have HR4 := Lib.hid hr4
          have HOK := Lib.hid (HK.out _ (ell_mem (ls := ls) (k := j) (by rw [HLN.out]; omega)))
          have g4 := fun u : Gr w7 => u.cell (p := ⟨b3, off3 + j, none⟩) hb3 hc4
          clear hc3 hr4
          have g0 := fun u : Gr w7 => u.cell (p := ⟨wr.heap.size, 0, none⟩) HX7.out.lt HX7.out.c0
          have g1 := fun u : Gr w7 => u.cell (p := ⟨wr.heap.size, 1, none⟩) HX7.out.lt HX7.out.c1
          have g2 := fun u : Gr w7 => u.cell (p := ⟨w.heap.size, 0, none⟩) BW7.out.lt BW7.out.c0
          have g3 := fun u : Gr w7 => u.cell (p := ⟨w.heap.size, 1, none⟩) BW7.out.lt BW7.out.c1
          go_wp2_with fail
          refine wp_region_grow (by kernel_rfl) (by kernel_rfl) ?_
          repeat (go_big_quiet_step ((go_at_call 73; exact Gr.same _ (by_val false a4 n4 c4 _ lt _ k c2 prev _ (HR4.out.below (Gr.ok _)) (HP7.out.below (Gr.ok _)) HOK.out Z5.out))))
          refine wpQuiet_nil ?_
          rintro w8 ⟨⟨_, hb8⟩, rfl⟩
          have HB8 := Lib.hid (HB7.out.trans (hb8.mono HB7.out.size))
          clear hb8 g0 g1 g2 g3 g4
          go_wp2_with fail
          go_ret
          exact ⟨ret_int (by rw [← HRR.out, E4.out]; rfl), HB2.out.trans (HB8.out.mono HB2.out.size)⟩
      | true =>
        have E4 : Hid (trailTo x ls ts (k + 1) = true) := Lib.hid (by rw [E1.out, HT.out, hok]; rfl)
        obtain ⟨h1, h2, h3, h4, h5⟩ := step_yes hok
        dsimp only at h1 h2 h3 h4 h5
        rw [HLN.out] at h4
        clear E1 E3 hok
        have z4 : ¬ wy < -1 := by omega
        have z5 : ¬ (n : Int) ≤ wy := by omega
        by_cases hw0 : 0 ≤ wy
        · obtain ⟨j, rfl⟩ : ∃ j : Nat, wy = j := ⟨wy.toNat, by omega⟩
          obtain ⟨h6, h7⟩ := h5 hw0
          rw [Int.toNat_natCast] at h6 h7
          have Z5 : Hid (whyOk (ell ls j) prev lt = true) := Lib.hid (by unfold whyOk; rw [h6, h7]; rfl)
          clear h5 h6 h7
          have Z1 := Lib.hid h1
          have hh := Bool.or_eq_false_iff.1 h2
          have Z2 := Lib.hid hh.1
          have Z3 := Lib.hid hh.2
          have hbb := isB_iff.1 h1
          have hneg := lit_neg (x := lt) (by omega) (by omega)
          have hneg' := lit_neg' (x := lt) (by omega) (by omega)
          clear hbb h1 h2 hh
          refine wp_region_grow (by kernel_rfl) (by kernel_rfl) ?_
          repeat (go_big_quiet_step ((first | (go_at_call 71; exact Gr.same _ (is_val true lt x _ hx0 hx1 Z1.out)) | (go_at_call 72; exact Gr.same _ (has_val false _ k c2 prev _ _ (HP.out.below (Gr.ok _)) (by first | exact Z2.out | exact Z3.out))))))
          refine wpQuiet_nil ?_
          rintro w7 ⟨⟨_, hb7⟩, rfl⟩
          have HB7 := Lib.hid (HC.out.trans (hb7.mono HC.out.size))
          have HX7 := Lib.hid (HX.out.below hb7)
          have BW7 := Lib.hid (BW.out.below hb7)
          have HP7 := Lib.hid (HP.out.below hb7)
          clear hb7 g0 g1 g2 g3
          obtain ⟨b3, off3, rfl, hb3, hc3⟩ := (HR2.out.below HB7.out).cells (by omega)
          obtain ⟨a4, n4, c4, hc4, hr4⟩ := hc3 j (by omega)
          have HR4 := Lib.hid hr4
          have HOK := Lib.hid (HK.out _ (ell_mem (ls := ls) (k := j) (by rw [HLN.out]; omega)))
          have g4 := fun u : Gr w7 => u.cell (p := ⟨b3, off3 + j, none⟩) hb3 hc4
          clear hc3 hr4
          have g0 := fun u : Gr w7 => u.cell (p := ⟨wr.heap.size, 0, none⟩) HX7.out.lt HX7.out.c0
          have g1 := fun u : Gr w7 => u.cell (p := ⟨wr.heap.size, 1, none⟩) HX7.out.lt HX7.out.c1
          have g2 := fun u : Gr w7 => u.cell (p := ⟨w.heap.size, 0, none⟩) BW7.out.lt BW7.out.c0
          have g3 := fun u : Gr w7 => u.cell (p := ⟨w.heap.size, 1, none⟩) BW7.out.lt BW7.out.c1
          go_wp2_with fail
          refine wp_region_grow (by kernel_rfl) (by kernel_rfl) ?_
          repeat (go_big_quiet_step ((go_at_call 73; exact Gr.same _ (by_val true a4 n4 c4 _ lt _ k c2 prev _ (HR4.out.below (Gr.ok _)) (HP7.out.below (Gr.ok _)) HOK.out Z5.out))))
          refine wpQuiet_nil ?_
          rintro w8 ⟨⟨_, hb8⟩, rfl⟩
          have HB8 := Lib.hid (HB7.out.trans (hb8.mono HB7.out.size))
          clear hb8 g0 g1 g2 g3 g4
          go_wp2_with fail
          go_roundw
          case rel => exact ⟨k + 1, by omega, by go_num, E4.out, HB8.out⟩
          case measure => simp [intOf]; omega
        · clear h5
          obtain rfl : wy = -1 := by omega
          have Z1 := Lib.hid h1
          have hh := Bool.or_eq_false_iff.1 h2
          have Z2 := Lib.hid hh.1
          have Z3 := Lib.hid hh.2
          have hbb := isB_iff.1 h1
          have hneg := lit_neg (x := lt) (by omega) (by omega)
          have hneg' := lit_neg' (x := lt) (by omega) (by omega)
          clear hbb h1 h2 hh
          refine wp_region_grow (by kernel_rfl) (by kernel_rfl) ?_
          repeat (go_big_quiet_step ((first | (go_at_call 71; exact Gr.same _ (is_val true lt x _ hx0 hx1 Z1.out)) | (go_at_call 72; exact Gr.same _ (has_val false _ k c2 prev _ _ (HP.out.below (Gr.ok _)) (by first | exact Z2.out | exact Z3.out))))))
          refine wpQuiet_nil ?_
          rintro w7 ⟨⟨_, hb7⟩, rfl⟩
          have HB7 := Lib.hid (HC.out.trans (hb7.mono HC.out.size))
          have HX7 := Lib.hid (HX.out.below hb7)
          have BW7 := Lib.hid (BW.out.below hb7)
          have HP7 := Lib.hid (HP.out.below hb7)
          clear hb7 g0 g1 g2 g3
          have g0 := fun u : Gr w7 => u.cell (p := ⟨wr.heap.size, 0, none⟩) HX7.out.lt HX7.out.c0
          have g1 := fun u : Gr w7 => u.cell (p := ⟨wr.heap.size, 1, none⟩) HX7.out.lt HX7.out.c1
          have g2 := fun u : Gr w7 => u.cell (p := ⟨w.heap.size, 0, none⟩) BW7.out.lt BW7.out.c0
          have g3 := fun u : Gr w7 => u.cell (p := ⟨w.heap.size, 1, none⟩) BW7.out.lt BW7.out.c1
          go_wp2_with fail
          refine wp_region_grow (by kernel_rfl) (by kernel_rfl) ?_
          repeat (go_big_quiet_step (fail))
          refine wpQuiet_nil ?_
          rintro w8 ⟨⟨_, hb8⟩, rfl⟩
          have HB8 := Lib.hid (HB7.out.trans (hb8.mono HB7.out.size))
          clear hb8 g0 g1 g2 g3
          go_wp2_with fail
          go_roundw
          case rel => exact ⟨k + 1, by omega, by go_num, E4.out, HB8.out⟩
          case measure => simp [intOf]; omega
    · have E : Hid (trailB x ls ts = true) := Lib.hid (by unfold trailB; rw [show ts.length = k by rw [HS.out.len]; omega]; exact HT.out)
      go_wp2_with fail
      go_ret
      exact ⟨ret_int (by rw [← HRR.out, E.out]; rfl), HB2.out.trans (HB.out.mono HB2.out.size)⟩

set_option maxRecDepth 100000 in
set_option maxHeartbeats 1000000 in
theorem rcheck_out (x : Int) (A : Option Addr) (n c : Nat) (ls : List (List Int)) (A' : Option Addr) (n' c' : Nat) (w : World) (h : RL w A n c ls) (hE : checkE x ls ≠ 0) :
    Calls Try.prog 37 #[.agg #[.int .i64 x, .slice A n c], .slice A' n' c'] w fun e w' => e = .returned (.int .i64 (checkE x ls)) ∧ Below w.heap.size w w' := by
  have hcall := checkR_any x A n c ls (w.alloc (.cells #[.int .i64 x, .slice A n c] 24)) (h.alloc _)
  generalize checkE x ls = r at hcall hE ⊢
  have hr : (r != 0) = true := by simpa using hE
  clear hE h
  go_enter Try.func37, Try.ntmps37
  go_wp2_with (go_at_call 69; refine hcall.mono ?_; clear hcall; rintro e w1 ⟨rfl, hb⟩)
  go_ret
  exact ⟨rfl, ((Below.refl _ w).alloc (Nat.le_refl _) _).trans (hb.mono (by simp))⟩

theorem rcheck_val (r : Int) (x : Int) (A : Option Addr) (n c : Nat) (ls : List (List Int)) (A' : Option Addr) (n' c' : Nat) (ts : List Stp) (w : World) (h : RL w A n c ls) (h' : RS w A' n' c' ts) (hn' : n' ≤ 1000000) (hr : propE x ls ts = r) :
    Calls Try.prog 37 #[.agg #[.int .i64 x, .slice A n c], .slice A' n' c'] w fun e w' => e = .returned (.int .i64 r) ∧ Below w.heap.size w w' := by
  unfold propE at hr
  by_cases hE : checkE x ls = 0
  · rw [if_neg (by simpa using hE)] at hr; exact rcheck_in x A n c ls A' n' c' ts w h h' hE hn' r hr
  · rw [if_pos hE] at hr; rw [← hr]; exact rcheck_out x A n c ls A' n' c' w h hE

end Go.Proofs.Ytenpenelikpeeaa
