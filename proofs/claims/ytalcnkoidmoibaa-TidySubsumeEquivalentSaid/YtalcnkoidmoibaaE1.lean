/-
  The reference functions ahead, Reduce and Same of learnt clauses. No condition.
-/
import Derived.Test.YtalcnkoidmoibaaR2
import Derived.BigQuiet
import Derived.Deep.QuietTactic
namespace Go.Proofs.Ytalcnkoidmoibaa
open Go.RowKit Go.Shelf
set_option linter.unusedVariables false
set_option linter.unusedSimpArgs false

theorem aheadB_eq (es : List Lrn) (i k : Nat) : aheadB es i k = (if (lrn es i).act ≠ (lrn es k).act then decide ((lrn es k).act < (lrn es i).act) else if (lrn es i).lv ≠ (lrn es k).lv then decide ((lrn es i).lv < (lrn es k).lv) else decide (k < i)) := by
  unfold aheadB
  rw [Bool.eq_iff_iff, decide_eq_true_eq, ordI_neg]
  split
  · rw [decide_eq_true_eq]; omega
  · split
    · rw [decide_eq_true_eq]; omega
    · rw [decide_eq_true_eq]; omega

set_option maxHeartbeats 1000000 in
theorem ahead_any (A : Option Addr) (n c : Nat) (es : List Lrn) (i k : Nat) (w : World) (h : RE w A n c es) (hi : i < n) (hk : k < n) :
    Calls Try.prog 35 #[.slice A n c, .int .i64 i, .int .i64 k] w fun e w' => e = .returned (.bool (aheadB es i k)) ∧ ∃ q, w' = w.drewN q := by
  rw [aheadB_eq]
  have hn := h.small
  obtain ⟨b, off, rfl, hbl, hc⟩ := h.cells (by omega)
  obtain ⟨i0, i1, i2, -⟩ := hc i hi
  obtain ⟨k0, k1, k2, -⟩ := hc k hk
  clear hc
  have hi' : (i : Int) < (n : Int) := by omega
  have hk' : (k : Int) < (n : Int) := by omega
  by_cases ha : (lrn es i).act = (lrn es k).act
  · have ha' : ((lrn es i).act != (lrn es k).act) = false := by simpa using ha
    rw [if_neg (by simpa using ha)]
    have HA := Lib.hid ha
    clear ha
    by_cases hl : (lrn es i).lv = (lrn es k).lv
    · have hl' : ((lrn es i).lv != (lrn es k).lv) = false := by simpa using hl
      rw [if_neg (by simpa using hl)]
      have HL := Lib.hid hl
      clear hl
      go_enter Try.func35, Try.ntmps35
      go_wp2
      go_quiet (fail)
      go_wp2
      go_quiet (fail)
      go_wp2
      go_ret
      exact ⟨ret_bool (by simp), _, by first | rfl | (simp only [World.drewN_drewN]; rfl)⟩
    · have hl' : ((lrn es i).lv != (lrn es k).lv) = true := by simpa using hl
      rw [if_pos (by simpa using hl)]
      have HL := Lib.hid hl
      clear hl
      go_enter Try.func35, Try.ntmps35
      go_wp2
      go_quiet (fail)
      go_wp2
      go_quiet (fail)
      go_wp2
      go_quiet (fail)
      go_wp2
      go_ret
      exact ⟨ret_bool rfl, _, by first | rfl | (simp only [World.drewN_drewN]; rfl)⟩
  · have ha' : ((lrn es i).act != (lrn es k).act) = true := by simpa using ha
    rw [if_pos (by simpa using ha)]
    have HA := Lib.hid ha
    clear ha
    go_enter Try.func35, Try.ntmps35
    go_wp2
    go_quiet (fail)
    go_wp2
    go_quiet (fail)
    go_wp2
    go_ret
    exact ⟨ret_bool rfl, _, by first | rfl | (simp only [World.drewN_drewN]; rfl)⟩

theorem ahead_val (r : Bool) (A : Option Addr) (n c : Nat) (es : List Lrn) (i k : Nat) (w : World) (h : RE w A n c es) (hi : i < n) (hk : k < n) (hr : aheadB es i k = r) :
    Calls Try.prog 35 #[.slice A n c, .int .i64 i, .int .i64 k] w fun e w' => e = .returned (.bool r) ∧ Below w.heap.size w w' :=
  (ahead_any A n c es i k w h hi hk).mono fun _ _ ⟨he, q, hq⟩ => ⟨by rw [he, hr], by rw [hq]; exact drewN_below w q⟩

set_option maxRecDepth 100000 in
set_option maxHeartbeats 4000000 in
theorem reduceR_any (A : Option Addr) (n c : Nat) (es : List Lrn) (keep : Int) (w : World) (h : RE w A n c es) (hn : n ≤ 60000) :
    Calls Try.prog 14 #[.slice A n c, .int .i64 keep] w (Redd (redL es keep) w) := by
  obtain ⟨j0, gi, gz0, gz1, gz2⟩ := info_parts infoLrn
  have H := Lib.hid h
  have hnn : n ≤ 60000 := hn
  clear h
  go_enter Try.func14, Try.ntmps14
  go_wp2
  go_loopw [5, 6] (fun s5 s6 W => ∃ (i : Nat) (O : Option Addr) (L co : Nat), i ≤ n ∧ s6 = .int .i64 i ∧ s5 = .slice O L co ∧ W.ownsRow w.heap.size 44 3 (.slice O L co) L (cellsE (redTo es keep i)) ∧ (redTo es keep i).length = L ∧ Below w.heap.size w W) (fun _ i _ => n - (intOf i).toNat)
  case atStart => exact ⟨0, none, 0, 0, Nat.zero_le _, rfl, rfl, World.ownsRow_nil _ _ _ _, rfl, Below.refl _ _⟩
  case round =>
    obtain ⟨i, O, L, co, hi, rfl, rfl, hown, hl, hb⟩ := hrel
    have hLi : L ≤ i := by rw [← hl]; exact redTo_len es keep i
    have HB := Lib.hid hb
    have HL := Lib.hid hl
    have HO := Lib.hid hown
    have hsz := hb.size
    clear hb hl hown
    by_cases hil : i < n
    · go_wp2
      go_loopw [7, 8] (fun s7 s8 W => ∃ k : Nat, k ≤ n ∧ s8 = .int .i64 k ∧ s7 = .int .i64 (rankTo es i k : Nat) ∧ Below wr.heap.size wr W) (fun _ k _ => n - (intOf k).toNat)
      case atStart => exact ⟨0, Nat.zero_le _, rfl, rfl, Below.refl _ _⟩
      case round =>
        obtain ⟨k, hk, rfl, rfl, hbk⟩ := hrel
        have HBK := Lib.hid hbk
        clear hbk
        have hrk := rankTo_le es i k
        by_cases hkl : k < n
        · obtain ⟨b, off, rfl, hbl, hc⟩ := H.out.cells (by omega)
          have k1 := (hc k hkl).2.1
          clear hc
          have hW := HB.out.trans (HBK.out.mono hsz)
          have k1' := (hW.cell (p := ⟨b, off + k * 3 + 1, none⟩) hbl).trans k1
          have hsu := rankTo_succ es i k
          have hcall := fun r hr => ahead_val r (some ⟨b, off, none⟩) n c es k i _ (H.out.below hW) hkl hil hr
          clear k1 hW
          by_cases hlg : 2 < (lrn es k).lv
          · have hlb : longB (lrn es k) = true := by unfold longB; simpa using hlg
            rw [hlb, Bool.true_and] at hsu
            clear hlb
            cases ha : aheadB es k i
            all_goals
              rw [ha] at hsu
              have hc2 := hcall _ ha
              clear hcall ha
              simp only [Bool.false_eq_true, if_false, if_true, Nat.add_zero] at hsu
              have HSU := Lib.hid hsu
              clear hsu
              go_wp2_with (go_at_call 35; refine hc2.mono ?_; clear hc2; rintro e w3 ⟨rfl, hb3⟩; have HB3 := Lib.hid hb3; clear hb3)
              go_roundw
              all_goals first
                | exact ⟨k + 1, by omega, by go_num, by rw [HSU.out]; go_num, HBK.out.trans (HB3.out.mono HBK.out.size)⟩
                | exact ⟨k + 1, by omega, by go_num, by rw [HSU.out], HBK.out.trans (HB3.out.mono HBK.out.size)⟩
                | (simp [intOf]; omega)
          · have hlb : longB (lrn es k) = false := by unfold longB; simpa using hlg
            rw [hlb, Bool.false_and] at hsu
            simp only [Bool.false_eq_true, if_false, Nat.add_zero] at hsu
            have HSU := Lib.hid hsu
            clear hsu hcall hlb
            go_wp2
            go_roundw
            case rel => exact ⟨k + 1, by omega, by go_num, by rw [HSU.out], HBK.out⟩
            case measure => simp [intOf]; omega
        · obtain rfl : k = n := by omega
          obtain ⟨b, off, rfl, hbl, hc⟩ := H.out.cells (by omega)
          obtain ⟨c0, c1, c2, -⟩ := hc i hil
          clear hc
          have hW := HB.out.trans (HBK.out.mono hsz)
          have c0' := (hW.cell (p := ⟨b, off + i * 3, none⟩) hbl).trans c0
          have c1' := (hW.cell (p := ⟨b, off + i * 3 + 1, none⟩) hbl).trans c1
          have c2' := (hW.cell (p := ⟨b, off + i * 3 + 2, none⟩) hbl).trans c2
          have hps := redTo_succ es keep i
          have HO2 := Lib.hid (own_below HO.out HBK.out)
          have HW := Lib.hid hW
          have hs2 := hW.size
          have hkp : keptB es keep i = (!(longB (lrn es i)) || decide ((rankTo es i k : Int) < keep)) := by unfold keptB rank; rw [H.out.len]
          unfold longB at hkp
          clear c0 c1 c2 hW
          rcases hE : lrn es i with ⟨⟨A1, n1, c1, z1⟩, lv, act⟩
          rw [hE] at c0' c1' c2' hps hkp
          simp only [rowV] at c0' c1' c2' hkp
          clear hE
          by_cases hlg : lv ≤ 2
          · have hk1 : keptB es keep i = true := by rw [hkp]; simp; omega
            rw [hk1] at hps
            simp only [if_true] at hps
            have HP := Lib.hid hps
            clear hps hkp hk1
            go_wp2_with (at_builtin; refine wpList_append_own_at _ rfl (.tmp 46) (.tmp 51) 22 rfl w.heap.size 44 j0 (.agg #[.slice none 0 0, .int .i64 0, .int .i64 0]) 3 40 Try.underlying22 gi gz0 gz1 gz2 rfl (by decide) (.slice O L co) L _ rfl (HO2.out.alloc _) ⟨_, 0, none⟩ 1 1 [.slice A1 n1 c1, .int .i64 lv, .int .i64 act] rfl rfl (cell_three_at _ _ _ _ _ _ rfl) (by simp [Value.oneCell']) (by unfold maxLen; omega) (by omega) (by simp; omega) ?_; intro v' w6 hown' hgrow hnil hloc; obtain ⟨g', cap', rfl⟩ := own_succ hown'; have G1 := Lib.hid (grown_below hgrow); have O1 := Lib.hid hown'; clear hown' hgrow hnil hloc)
            go_roundw
            case rel => exact ⟨i + 1, some ⟨g', 0, none⟩, L + 1, cap', by omega, by go_num, rfl, by rw [HP.out, cellsE_snoc]; exact O1.out, by rw [HP.out, List.length_append, HL.out]; rfl, HW.out.grown G1.out hs2 (fun g hg => (own_lt HO2.out hg).1)⟩
            case measure => simp [intOf]; omega
          · by_cases hrk2 : (rankTo es i k : Int) < keep
            · have hk1 : keptB es keep i = true := by rw [hkp]; simp; omega
              rw [hk1] at hps
              simp only [if_true] at hps
              have HP := Lib.hid hps
              clear hps hkp hk1
              go_wp2_with (at_builtin; refine wpList_append_own_at _ rfl (.tmp 46) (.tmp 51) 22 rfl w.heap.size 44 j0 (.agg #[.slice none 0 0, .int .i64 0, .int .i64 0]) 3 40 Try.underlying22 gi gz0 gz1 gz2 rfl (by decide) (.slice O L co) L _ rfl (HO2.out.alloc _) ⟨_, 0, none⟩ 1 1 [.slice A1 n1 c1, .int .i64 lv, .int .i64 act] rfl rfl (cell_three_at _ _ _ _ _ _ rfl) (by simp [Value.oneCell']) (by unfold maxLen; omega) (by omega) (by simp; omega) ?_; intro v' w6 hown' hgrow hnil hloc; obtain ⟨g', cap', rfl⟩ := own_succ hown'; have G1 := Lib.hid (grown_below hgrow); have O1 := Lib.hid hown'; clear hown' hgrow hnil hloc)
              go_roundw
              case rel => exact ⟨i + 1, some ⟨g', 0, none⟩, L + 1, cap', by omega, by go_num, rfl, by rw [HP.out, cellsE_snoc]; exact O1.out, by rw [HP.out, List.length_append, HL.out]; rfl, HW.out.grown G1.out hs2 (fun g hg => (own_lt HO2.out hg).1)⟩
              case measure => simp [intOf]; omega
            · have hk1 : keptB es keep i = false := by rw [hkp]; simp; omega
              rw [hk1] at hps
              simp only [Bool.false_eq_true, if_false] at hps
              have HP := Lib.hid hps
              clear hps hkp hk1
              go_wp2
              go_roundw
              case rel => exact ⟨i + 1, O, L, co, by omega, by go_num, rfl, by rw [HP.out]; exact HO2.out, by rw [HP.out]; exact HL.out, HW.out⟩
              case measure => simp [intOf]; omega
    · obtain rfl : i = n := by omega
      go_wp2
      go_ret
      have hlen : (redL es keep).length = L := by unfold redL; rw [H.out.len]; exact HL.out
      have hre : redL es keep = redTo es keep i := by unfold redL; rw [H.out.len]
      refine ⟨O, co, by rw [hlen]; rfl, ?_, HB.out⟩
      rw [hlen, hre]
      refine RE.of_own HO.out HL.out ?_ (by omega)
      intro e he
      rw [← hre] at he
      obtain ⟨j, hj, _, rfl⟩ := mem_redL.1 he
      rw [H.out.len] at hj
      obtain ⟨b, off, _, _, hc⟩ := H.out.cells (by omega)
      exact (hc j hj).2.2.2.below HB.out

end Go.Proofs.Ytalcnkoidmoibaa
