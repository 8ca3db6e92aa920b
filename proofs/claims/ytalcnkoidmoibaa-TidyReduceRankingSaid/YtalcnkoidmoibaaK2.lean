/-
  The law TidyReduceRanking, walked. No condition.
-/
import Derived.Test.YtalcnkoidmoibaaK1
import Derived.Test.YtalcnkoidmoibaaQ2
import Derived.IntWalk
namespace Go.Proofs.Ytalcnkoidmoibaa
open Go.RowKit Go.Shelf
set_option linter.unusedVariables false
set_option linter.unusedSimpArgs false

def cntTo (p : Lrn → Bool) (es : List Lrn) (k : Nat) : Nat := ((List.range k).filter fun i => p (lrn es i)).length
theorem cntTo_succ (p : Lrn → Bool) (es : List Lrn) (k : Nat) : cntTo p es (k + 1) = cntTo p es k + if p (lrn es k) = true then 1 else 0 := by
  unfold cntTo
  rw [List.range_succ, List.filter_append, List.length_append]
  cases h : p (lrn es k) <;> simp [h]
theorem cntTo_le (p : Lrn → Bool) (es : List Lrn) (k : Nat) : cntTo p es k ≤ k := by
  unfold cntTo; exact Nat.le_trans (List.length_filter_le _ _) (by simp)
def shortB (e : Lrn) : Bool := !(longB e)

def anyTo (x : List Lrn) (e : Lrn) (k : Nat) : Bool := (List.range k).any fun j => eqv (lrn x j) e
theorem anyTo_succ (x : List Lrn) (e : Lrn) (k : Nat) : anyTo x e (k + 1) = (anyTo x e k || eqv (lrn x k) e) := by simp [anyTo, List.range_succ]
theorem anyTo_mem {x : List Lrn} {e : Lrn} (h : e ∈ x) : anyTo x e x.length = true := by
  obtain ⟨i, hi, rfl⟩ := List.mem_iff_getElem.1 h
  unfold anyTo
  rw [List.any_eq_true]
  exact ⟨i, List.mem_range.2 hi, by rw [lrn_lt hi]; exact eqv_refl _⟩

theorem RE.one {w : World} {b off n c : Nat} {es : List Lrn} (h : RE w (some ⟨b, off, none⟩) n c es) {k : Nat} (hk : k < n) : RE w (some ⟨b, off + k * 3, none⟩) 1 (c - k) [lrn es k] := by
  obtain ⟨b', off', e, hlt, hc⟩ := h.cells (by omega)
  cases e
  have hcap := h.cap
  have hcm := h.cmax
  refine ⟨rfl, by omega, by omega, by omega, fun _ => ⟨b, off + k * 3, rfl, hlt, fun j hj => ?_⟩⟩
  obtain rfl : j = 0 := by omega
  have := hc k hk
  simpa [lrn] using this
theorem sameEs_one (e e' : Lrn) : sameEs [e] [e'] = eqv e e' := by simp [sameEs, sameTo, lrn]
theorem sameE_val (r : Bool) (A : Option Addr) (c : Nat) (e : Lrn) (A' : Option Addr) (c' : Nat) (e' : Lrn) (w : World) (h : RE w A 1 c [e]) (h' : RE w A' 1 c' [e']) (hr : eqv e e' = r) :
    Calls Try.prog 12 #[.slice A 1 c, .slice A' 1 c'] w fun e w' => e = .returned (.bool r) ∧ Below w.heap.size w w' := by
  have := sameE_any A 1 c [e] A' 1 c' [e'] w h h'
  rw [sameEs_one, hr] at this
  exact this

/-- the second loop: the greatest activity so far among those that are gone -/
structure L2 (w0 W : World) (es : List Lrn) (keep most : Int) (gone : Bool) : Prop where
  most : gone = true → ∃ j, keptB es keep j = false ∧ (lrn es j).act = most
  below : Below w0.heap.size w0 W

set_option maxRecDepth 100000 in
set_option maxHeartbeats 4000000 in
theorem ranking_any (A : Option Addr) (n c : Nat) (es : List Lrn) (keep : Int) (w : World) (h : RE w A n c es) :
    Calls Try.prog 7 #[.slice A n c, .int .i64 keep] w (Truly w) := by
  have H := Lib.hid h
  have hn := h.small
  clear h
  by_cases h100 : 100 < n
  · go_enter Try.func7, Try.ntmps7
    go_wp2_with (go_at_call 11; refine (live_any _).mono ?_; rintro e w1 ⟨rfl, hb1⟩)
    go_ret
    exact ⟨rfl, hb1⟩
  · obtain ⟨m, hm⟩ : ∃ m, (redL es keep).length = m := ⟨_, rfl⟩
    have hmn : m ≤ n := by rw [← hm, ← H.out.len]; exact redTo_len es keep _
    have hred := fun W (h : RE W A n c es) => reduce_any A n c es keep W h (by omega)
    unfold Redd at hred
    rw [hm] at hred
    go_enter Try.func7, Try.ntmps7
    go_wp2_with (first
      | (go_at_call 11; refine (live_any _).mono ?_; rintro e w1 ⟨rfl, hb1⟩; have HB1 := Lib.hid hb1; clear hb1)
      | (go_at_call 13; refine (hred _ (H.out.below HB1.out)).mono ?_; clear hred; rintro e w2 ⟨A2, c2, rfl, hr2, hb2⟩; have HR2 := Lib.hid hr2; have HB2 := Lib.hid (HB1.out.trans (hb2.mono HB1.out.size)); clear hr2 hb2))
    go_loop [6, 7, 8] (fun s6 s7 s8 => ∃ k : Nat, k ≤ n ∧ s8 = .int .i64 k ∧ s6 = .int .i64 (cntTo shortB es k : Nat) ∧ s7 = .int .i64 (cntTo longB es k : Nat)) (fun _ _ i => n - (intOf i).toNat)
    case atStart => exact ⟨0, Nat.zero_le _, rfl, rfl, rfl⟩
    case round =>
      obtain ⟨k, hk, rfl, rfl, rfl⟩ := hrel
      have hs1 := cntTo_le shortB es k
      have hl1 := cntTo_le longB es k
      by_cases hlt : k < n
      · obtain ⟨b, off, rfl, hb, hc⟩ := (H.out.below HB2.out).cells (by omega)
        have c1 := (hc k hlt).2.1
        clear hc
        have e1 := cntTo_succ shortB es k
        have e2 := cntTo_succ longB es k
        have E1 := Lib.hid e1
        have E2 := Lib.hid e2
        clear e1 e2
        by_cases hlg : (lrn es k).lv ≤ 2
        · go_wp2
          go_round
          case rel => exact ⟨k + 1, by omega, by go_num, by rw [E1.out, if_pos (by simp [shortB, longB]; omega)]; go_num, by rw [E2.out, if_neg (by simp [longB]; omega)]; rfl⟩
          case measure => simp [intOf]; omega
        · go_wp2
          go_round
          case rel => exact ⟨k + 1, by omega, by go_num, by rw [E1.out, if_neg (by simp [shortB, longB]; omega)]; rfl, by rw [E2.out, if_pos (by simp [longB]; omega)]; go_num⟩
          case measure => simp [intOf]; omega
      · obtain rfl : k = n := by omega
        have hcs : cntTo shortB es k = shs es := by unfold cntTo; rw [← H.out.len]; exact count_at es shortB
        have hcl : cntTo longB es k = lgs es := by unfold cntTo; rw [← H.out.len]; exact count_at es longB
        have hlen := redL_len es keep
        rw [hm, ← hcs, ← hcl] at hlen
        unfold stay at hlen
        have hmin : min (max keep 0) ((cntTo longB es k : Nat) : Int) = ((m - cntTo shortB es k : Nat) : Int) := by omega
        have hsum : ((cntTo shortB es k : Nat) : Int) + ((m - cntTo shortB es k : Nat) : Int) = (m : Int) := by omega
        clear hlen hcs hcl
        go_wp2
        clear hmin hsum
        go_loopw [9, 10, 11] (fun s9 s10 s11 W => ∃ (i : Nat) (most : Int) (gone : Bool), i ≤ k ∧ s11 = .int .i64 i ∧ s9 = .int .i64 most ∧ s10 = .bool gone ∧ L2 w2 W es keep most gone) (fun _ _ i _ => k - (intOf i).toNat)
        case atStart => exact ⟨0, 0, false, Nat.zero_le _, rfl, rfl, rfl, ⟨(fun h => by cases h), Below.refl _ _⟩⟩
        case round =>
          obtain ⟨i, most, gone, hi, rfl, rfl, rfl, h2⟩ := hrel
          have H2 := Lib.hid h2
          clear h2
          by_cases hil : i < k
          · go_wp2
            go_loopw [12, 13] (fun s12 s13 W => ∃ j : Nat, j ≤ m ∧ s13 = .int .i64 j ∧ s12 = .bool (anyTo (redL es keep) (lrn es i) j) ∧ Below wr.heap.size wr W) (fun _ j _ => m - (intOf j).toNat)
            case atStart => exact ⟨0, Nat.zero_le _, rfl, rfl, Below.refl _ _⟩
            case round =>
              obtain ⟨j, hj, rfl, rfl, hb3⟩ := hrel
              have HB3 := Lib.hid hb3
              clear hb3
              have hsu := anyTo_succ (redL es keep) (lrn es i) j
              by_cases hjm : j < m
              · have hWB := HB2.out.trans ((H2.out.below.trans (HB3.out.mono H2.out.below.size)).mono HB2.out.size)
                have hE := H.out.below hWB
                have hX := HR2.out.below (H2.out.below.trans (HB3.out.mono H2.out.below.size))
                obtain ⟨b, off, rfl, hbl, -⟩ := hE.cells (by omega)
                obtain ⟨b2, off2, rfl, hbl2, -⟩ := hX.cells (by omega)
                have X1 := Lib.hid (hX.one hjm)
                have E1 := Lib.hid (hE.one hil)
                have q1 := hE.cap
                have q2 := hX.cap
                have q3 := hE.cmax
                have q4 := hX.cmax
                unfold maxLen at q3 q4
                clear hE hX hWB
                have n1 : ¬ c = i := by omega
                have n2 : ¬ c2 = j := by omega
                cases ha : anyTo (redL es keep) (lrn es i) j
                · rw [ha, Bool.false_or] at hsu
                  cases hv : eqv (lrn (redL es keep) j) (lrn es i)
                  all_goals
                    rw [hv] at hsu
                    have HSU := Lib.hid hsu
                    have HV := Lib.hid hv
                    clear hsu hv ha
                    go_wp2_with fail
                    refine wp_region_grow (by kernel_rfl) (by kernel_rfl) ?_
                    have ww1 : IntKind.i64.wrap ((j : Int) + 1) = ((j + 1 : Nat) : Int) := IntWalk.i64_in _ (by omega)
                    have ww2 : IntKind.i64.wrap ((i : Int) + 1) = ((i + 1 : Nat) : Int) := IntWalk.i64_in _ (by omega)
                    have v1 : j + 1 ≤ c2 := by omega
                    have v2 : i + 1 ≤ c := by omega
                    repeat (go_big_quiet_step ((go_at_call 12; exact Gr.call _ (sameE_val _ _ _ _ _ _ _ _ (X1.out.below (Gr.ok _)) (E1.out.below (Gr.ok _)) HV.out))))
                    refine wpQuiet_nil ?_
                    rintro _ ⟨⟨w5, hb5⟩, rfl⟩
                    clear ww1 ww2 v1 v2
                    have HB5 := Lib.hid hb5
                    clear hb5
                    go_wp2_with fail
                    go_roundw
                    all_goals first
                      | exact ⟨j + 1, by omega, by go_num, by rw [HSU.out], HB3.out.trans (HB5.out.mono HB3.out.size)⟩
                      | (simp [intOf]; omega)
                · rw [ha, Bool.true_or] at hsu
                  have HSU := Lib.hid hsu
                  clear hsu ha
                  go_wp2_with fail
                  refine wp_region_grow (by kernel_rfl) (by kernel_rfl) ?_
                  repeat (go_big_quiet_step (fail))
                  refine wpQuiet_nil ?_
                  rintro _ ⟨⟨w5, hb5⟩, rfl⟩
                  have HB5 := Lib.hid hb5
                  clear hb5
                  go_wp2_with fail
                  go_roundw
                  all_goals first
                    | exact ⟨j + 1, by omega, by go_num, by rw [HSU.out], HB3.out.trans (HB5.out.mono HB3.out.size)⟩
                    | (simp [intOf]; omega)
              · obtain rfl : j = m := by omega
                clear hsu
                have HW := Lib.hid (H2.out.below.trans (HB3.out.mono H2.out.below.size))
                obtain ⟨b, off, rfl, hbl, hc⟩ := (H.out.below (HB2.out.trans (HW.out.mono HB2.out.size))).cells (by omega)
                have c2i := (hc i hil).2.2.1
                clear hc
                have hkept : anyTo (redL es keep) (lrn es i) j = false → keptB es keep i = false := by
                  intro h0
                  cases hk : keptB es keep i with
                  | false => rfl
                  | true =>
                    have := anyTo_mem (mem_redL.2 ⟨i, by rw [H.out.len]; exact hil, hk, rfl⟩)
                    rw [hm, h0] at this; cases this
                have HKP := Lib.hid hkept
                clear hkept
                cases ha : anyTo (redL es keep) (lrn es i) j
                · have HK := Lib.hid (HKP.out ha)
                  clear ha HKP
                  have HN : Hid (L2 w2 wr es keep (lrn es i).act true) := Lib.hid ⟨fun _ => ⟨i, HK.out, rfl⟩, HW.out⟩
                  cases gone
                  · go_wp2
                    go_roundw
                    all_goals first
                      | exact ⟨i + 1, _, _, by omega, by go_num, rfl, rfl, HN.out⟩
                      | (simp [intOf]; omega)
                  · by_cases hgt : most < (lrn es i).act
                    · go_wp2
                      go_roundw
                      all_goals first
                        | exact ⟨i + 1, _, _, by omega, by go_num, rfl, rfl, HN.out⟩
                        | (simp [intOf]; omega)
                    · go_wp2
                      go_roundw
                      all_goals first
                        | exact ⟨i + 1, _, _, by omega, by go_num, rfl, rfl, ⟨H2.out.most, HW.out⟩⟩
                        | (simp [intOf]; omega)
                · clear ha HKP
                  go_wp2
                  go_roundw
                  all_goals first
                    | exact ⟨i + 1, _, _, by omega, by go_num, rfl, rfl, ⟨H2.out.most, HW.out⟩⟩
                    | (simp [intOf]; omega)
          · skip
            have HX := Lib.hid (HR2.out.below H2.out.below)
            have hagain := redL_again es keep
            rw [hm] at hagain
            have hred2 := fun W (h : RE W A2 m c2 (redL es keep)) => reduce_any A2 m c2 (redL es keep) keep W h (by omega)
            unfold Redd at hred2
            rw [hagain] at hred2
            clear hagain
            have HWW := Lib.hid (HB2.out.trans (H2.out.below.mono HB2.out.size))
            go_wp2
            go_loop [14] (fun s14 => ∃ j : Nat, j ≤ m ∧ s14 = .int .i64 j) (fun j => m - (intOf j).toNat)
            case atStart => exact ⟨0, Nat.zero_le _, rfl⟩
            case round =>
              obtain ⟨j, hj, rfl⟩ := hrel
              by_cases hjm : j < m
              · cases gone
                · go_wp2_with (go_at_call 13; refine (hred2 _ HX.out).mono ?_; clear hred2; rintro e w6 ⟨A6, c6, rfl, -, hb6⟩)
                  go_ret
                  exact ⟨ret_bool (by simp), HWW.out.trans (hb6.mono HWW.out.size)⟩
                · obtain ⟨b2, off2, rfl, hbl2, hc⟩ := HX.out.cells (by omega)
                  have c1x := (hc j hjm).2.1
                  have c2x := (hc j hjm).2.2.1
                  clear hc
                  have hgood : 2 < (lrn (redL es keep) j).lv → most ≤ (lrn (redL es keep) j).act := by
                    intro hlv
                    have hmem : lrn (redL es keep) j ∈ redL es keep := by rw [lrn_lt (by rw [hm]; exact hjm)]; exact List.getElem_mem _
                    obtain ⟨i', _, hk', e'⟩ := mem_redL.1 hmem
                    obtain ⟨i0, hk0, e0⟩ := H2.out.most rfl
                    rw [← e0, ← e']
                    exact kept_act es keep i0 i' hk0 hk' (by unfold longB; rw [e']; simpa using hlv)
                  by_cases hlv : 2 < (lrn (redL es keep) j).lv
                  · have hle := hgood hlv
                    clear hgood
                    have hnl : ¬ (lrn (redL es keep) j).act < most := by omega
                    go_wp2
                    go_round
                    case rel => exact ⟨j + 1, by omega, by go_num⟩
                    case measure => simp [intOf]; omega
                  · clear hgood
                    go_wp2
                    go_round
                    case rel => exact ⟨j + 1, by omega, by go_num⟩
                    case measure => simp [intOf]; omega
              · go_wp2_with (go_at_call 13; refine (hred2 _ HX.out).mono ?_; clear hred2; rintro e w6 ⟨A6, c6, rfl, -, hb6⟩)
                go_ret
                exact ⟨ret_bool (by simp), HWW.out.trans (hb6.mono HWW.out.size)⟩

end Go.Proofs.Ytalcnkoidmoibaa
