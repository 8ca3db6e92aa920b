/-
  The walk of scaled where it rescales. It takes what slices.SortFunc does as a hypothesis.
-/
import Derived.Test.YthfadkilffmmlaaW11
namespace Go.Proofs.Ythfadkilffmmlaa
open Go.RowKit
set_option linter.unusedVariables false
set_option linter.unusedSimpArgs false

theorem down_len (act : List Int) : (down act).length = act.length := by simp [down]
theorem set2 {w : World} {B : Nat} {x0 x1 x2 v2 : Value} {t : TypeId} (h : w.heap[B]? = some (.cells #[x0, x1, x2] t (0, 0))) :
    (w.setCell ⟨B, 2, none⟩ v2).heap[B]? = some (.cells #[x0, x1, v2] t (0, 0)) := by
  simp [World.setCell, Array.getElem?_modify, h]
theorem Wk.downed {w w' : World} {base B ga : Nat} {ra : List Value} {ca : Nat} {A' : Option Addr} {cl : Nat} {act l : List Int} {y y2 : Int} (h : Wk w base B ga ra ca A' cl act l y) (hs : Srt w ga ra (down act) w') :
    Wk (w'.setCell ⟨B, 2, none⟩ (.int .i64 y2)) base B ga ra ca A' cl (down act) l y2 := by
  have hB : w'.heap[B]? = w.heap[B]? := hs.grown.block B (lt_of_block h.box) (by simpa using h.ne)
  refine ⟨by rw [down_len]; exact set2 (hB.trans h.box), ?_, by rw [down_len]; exact h.capa, h.capl, fun h0 => ?_, h.hB, h.hga⟩
  · exact (Below.heap_setCell _ _ _ _ (by simpa using h.ne.symm)).trans hs.row
  · obtain ⟨gl, rl, e, h1, h2, h3⟩ := h.own h0
    have hne : gl ≠ B := by
      intro e
      subst e
      have h5 := h.box
      rw [h1] at h5
      injection h5 with h5
      injection h5 with _ h6
      exact absurd h6 (by decide)
    exact ⟨gl, rl, e, (Below.heap_setCell _ _ _ _ (by simpa using hne)).trans ((hs.grown.block gl (lt_of_block h1) (by simpa using h2)).trans h1), h2, h3⟩
theorem maxTo_down {act : List Int} (hm : Mid act) (h0 : 0 < act.length) : ¬ 1099511627776 < maxTo (down act) act.length := by
  obtain ⟨j, hj, e⟩ := maxTo_mem (down act) act.length
  rw [e, elt_down _ _ (by omega)]
  have := hm j (by omega)
  omega

set_option maxHeartbeats 4000000 in
theorem scaled_big1 (N : Nat) (hSO : SortOk N) (w : World) (base B ga : Nat) (ra : List Value) (ca : Nat) (A' : Option Addr) (cl : Nat) (act l : List Int) (y : Int) (h : Wk w base B ga ra ca A' cl act l y) (hbase : base ≤ w.heap.size)
    (hact : 0 < act.length) (hd : Dom act.length l) (hN : l.length ≤ N) (hmid : Mid act) (hy0 : 0 ≤ y) (hy1 : y ≤ 4398046511104) (hm1 : 1099511627776 < y) :
    Calls Try.prog 35 #[.pointer (some ⟨B, 0, none⟩)] w (Scaled base ga ca A' cl (down act) l (max (y / 1024) 1) w) := by
  have HSO := Lib.hid hSO
  have HD0 := Lib.hid (show Dom (down act).length l by rw [down_len]; exact hd)
  have HN := Lib.hid hN
  have HM := Lib.hid hmid
  have H := Lib.hid h
  have hgalt : ga < w.heap.size := lt_of_block h.row
  have hBlt : B < w.heap.size := lt_of_block h.box
  have hals : act.length ≤ 17592186044416 := by have := h.capa.2.2; omega
  have hcy : w.cell? ⟨B, 2, none⟩ = some (.int .i64 y) := by simp [World.cell?, h.box]
  have hca : w.cell? ⟨B, 0, none⟩ = some (.slice (some ⟨ga, 0, none⟩) act.length ca) := by simp [World.cell?, h.box]
  clear hSO hd hN h hmid
  go_enter Try.func35, Try.ntmps35
  go_wp2_with fail
  have K1 := Lib.hid (H.out.alloc (.cells #[.slice none 0 0, .slice none 0 0, .int .i64 0] 24))
  have HR1 := Lib.hid (heap_alloc_new w (.cells #[.slice none 0 0, .slice none 0 0, .int .i64 0] 24))
  have HBW1 := Lib.hid ((Below.refl base w).alloc hbase (.cells #[.slice none 0 0, .slice none 0 0, .int .i64 0] 24))
  have HGAR : Hid (ga ≠ w.heap.size) := by show ga ≠ _; omega
  have hRb : base ≤ w.heap.size := hbase

  refine wp_loop_rounds 2 ?_
  rw [rounds_succ]

  go_wp2_with fail
  obtain ⟨wx, hwx⟩ : ∃ wx, w.alloc (.cells #[.slice none 0 0, .slice none 0 0, .int .i64 0] 24) = wx := ⟨_, rfl⟩
  rw [hwx] at K1 HR1 HBW1 ⊢
  clear hwx
  go_loopw [25] (fun i wr => ∃ k : Nat, k ≤ act.length ∧ i = .int .i64 k ∧ Srt wx ga ra (mix act k) wr) (fun i _ => act.length - (intOf i).toNat)
  case atStart => exact ⟨0, Nat.zero_le _, rfl, by rw [mix_zero]; exact Srt.start K1.out.row⟩
  case round =>
    obtain ⟨k, hk, rfl, hS⟩ := hrel
    have HS := Lib.hid hS
    have hBk : wr.heap[B]? = wx.heap[B]? := hS.grown.block B (lt_of_block K1.out.box) (by simpa using K1.out.ne)
    have hb0 : wr.cell? ⟨B, 0, none⟩ = some (.slice (some ⟨ga, 0, none⟩) act.length ca) := (World.cell?_of_block (a := ⟨B, 0, none⟩) hBk).trans (by simp [World.cell?, K1.out.box])
    have hb2 : wr.cell? ⟨B, 2, none⟩ = some (.int .i64 y) := (World.cell?_of_block (a := ⟨B, 2, none⟩) hBk).trans (by simp [World.cell?, K1.out.box])
    have hf2 : wr.frozen? ⟨B, 2, none⟩ = false := (World.frozen?_of_block (a := ⟨B, 2, none⟩) hBk).trans (by simp [World.frozen?, K1.out.box])
    clear hS hBk
    by_cases hlt : k < act.length
    · have hck : wr.cell? ⟨ga, k, none⟩ = some (.int .i64 (elt act k)) := by
        have := HS.out.cell (j := k) (by rw [mix_len]; exact hlt)
        rw [this, elt_mix _ _ _ hlt, if_neg (by omega)]
      have hfk := HS.out.frozen k
      have hmk := HM.out k hlt
      obtain ⟨hmk1, hmk2⟩ := hmk
      go_wp2_with fail
      go_roundw
      case rel => exact ⟨k + 1, by omega, by go_num, by rw [← mix_succ _ _ hlt]; exact HS.out.set (by rw [mix_len]; exact hlt) _⟩
      case measure => simp [intOf]; omega
    · have HSD := Lib.hid (show Srt wx ga ra (down act) wr by rw [← mix_full act k (by omega)]; exact HS.out)
      have K := Lib.hid (K1.out.downed (y2 := max (y / 1024) 1) HSD.out)
      have hRB : w.heap.size ≠ B := by omega
      have hgw := HSD.out.grown
      have HR2 : Hid ((wr.setCell ⟨B, 2, none⟩ (.int .i64 (max (y / 1024) 1))).heap[w.heap.size]? = some (.cells #[.slice none 0 0, .slice none 0 0, .int .i64 0] 24 (0, 0))) := (Below.heap_setCell _ _ _ _ (by simpa using hRB)).trans ((hgw.block _ (lt_of_block HR1.out) (by simpa using HGAR.out.symm)).trans HR1.out)
      have HBW : Hid (Below base w (wr.setCell ⟨B, 2, none⟩ (.int .i64 (max (y / 1024) 1)))) := (HBW1.out.trans ⟨hgw.os, hgw.tape, hgw.output, hgw.size, fun k hk => hgw.block k (by have := lt_of_block K1.out.box; have := K1.out.hB; omega) (by have := K1.out.hga; simp; omega)⟩).setCell (by exact K1.out.hB) _
      clear hgw
      have hy3 : max (y / 1024) 1 ≤ 1099511627776 := by omega
      go_wp2_with fail
      rw [rounds_succ]
      generalize hy2 : max (y / 1024) 1 = y2 at K HR2 HBW hy3 ⊢
      have HY2 := Lib.hid hy2
      clear hy2
      obtain ⟨wz, hwz⟩ : ∃ wz, wr.setCell ⟨B, 2, none⟩ (.int .i64 y2) = wz := ⟨_, rfl⟩
      rw [hwz] at K HR2 HBW ⊢
      clear hwz
      have hm2 : ¬ 1099511627776 < maxTo (down act) (down act).length := by rw [down_len]; exact maxTo_down HM.out hact
      have hact2 : 0 < (down act).length := by rw [down_len]; exact hact
      obtain ⟨da, hda⟩ : ∃ da, down act = da := ⟨_, rfl⟩
      have HD : Hid (Dom da.length l) := by have := HD0.out; rw [hda] at this; exact this
      rw [hda] at K hm2 hact2
      have HDA := Lib.hid hda
      clear hda
      have hz0 : wz.cell? ⟨B, 0, none⟩ = some (.slice (some ⟨ga, 0, none⟩) da.length ca) := by simp [World.cell?, K.out.box]
      have hz2 : wz.cell? ⟨B, 2, none⟩ = some (.int .i64 y2) := by simp [World.cell?, K.out.box]
      have hm1 : ¬ 1099511627776 < y2 := by omega
      clear hb0 hb2 hf2
      go_wp2_with fail
      refine (max_any _ da.length ca da _ K.out.ri hact2).mono ?_
      rintro e w2 ⟨rfl, rfl⟩
      have hbx : wz.cell? ⟨B, 0, none⟩ = some (.slice (some ⟨ga, 0, none⟩) (da).length ca) := by simp [World.cell?, K.out.box]
      have hbx1 : wz.cell? ⟨B, 1, none⟩ = some (.slice A' l.length cl) := by simp [World.cell?, K.out.box]
      have hbx2 : wz.cell? ⟨B, 2, none⟩ = some (.int .i64 y2) := by simp [World.cell?, K.out.box]
      by_cases hl0 : 0 < l.length
      · obtain ⟨gl, rl, hA, hrl, hne, hbl⟩ := K.out.own hl0
        subst hA
        have HRL := Lib.hid hrl
        have C := Lib.hid (K.out.cx hrl hne)
        have hglR : gl ≠ w.heap.size := by
          intro e
          rw [e, HR2.out] at hrl
          injection hrl with hrl
          injection hrl with _ h2
          exact absurd h2 (by decide)
        have HGR := Lib.hid hglR
        clear hrl hglR
        go_wp2_with fail
        refine (HSO.out wz gl B (da) C.out rl l HD.out l.length cl wz (Srt.start HRL.out) rfl (HN.out)).mono ?_
        rintro e w3 ⟨l2, rfl, hS3, hG3, hO3⟩
        have hg3 := hS3.grown
        have hB3 : w3.heap[B]? = wz.heap[B]? := hg3.block B C.out.hB (by simpa using C.out.hne)
        have hR3 : w3.heap[w.heap.size]? = wz.heap[w.heap.size]? := hg3.block _ (lt_of_block HR2.out) (by simpa using HGR.out.symm)
        have hl2 : l2.length = l.length := hG3.len
        have hd0 : w3.cell? ⟨B, 0, none⟩ = some (.slice (some ⟨ga, 0, none⟩) (da).length ca) := (World.cell?_of_block (a := ⟨B, 0, none⟩) hB3).trans hbx
        have hd1 : w3.cell? ⟨B, 1, none⟩ = some (.slice (some ⟨gl, 0, none⟩) l.length cl) := (World.cell?_of_block (a := ⟨B, 1, none⟩) hB3).trans hbx1
        have hd2 : w3.cell? ⟨B, 2, none⟩ = some (.int .i64 y2) := (World.cell?_of_block (a := ⟨B, 2, none⟩) hB3).trans hbx2
        have hrb : w3.heap[w.heap.size]? = some (.cells #[.slice none 0 0, .slice none 0 0, .int .i64 0] 24 (0, 0)) := hR3.trans HR2.out
        have hr0 : w3.cell? ⟨w.heap.size, 0, none⟩ = some (.slice none 0 0) := by simp [World.cell?, hrb]
        have hr1 : w3.cell? ⟨w.heap.size, 1, none⟩ = some (.slice none 0 0) := by simp [World.cell?, hrb]
        have hr2 : w3.cell? ⟨w.heap.size, 2, none⟩ = some (.int .i64 0) := by simp [World.cell?, hrb]
        have hf0 : w3.frozen? ⟨w.heap.size, 0, none⟩ = false := by simp [World.frozen?, hrb]
        have hf1 : w3.frozen? ⟨w.heap.size, 1, none⟩ = false := by simp [World.frozen?, hrb]
        have hf2 : w3.frozen? ⟨w.heap.size, 2, none⟩ = false := by simp [World.frozen?, hrb]
        have S3 := Lib.hid hS3
        have G3 := Lib.hid hG3
        have O3 := Lib.hid hO3
        have HL2 := Lib.hid hl2
        have hga3 := K.out.ri.grown hg3 (fun b off e => by cases e; exact hne.symm)
        have GA3 := Lib.hid hga3
        have hbb : Below base w w3 := HBW.out.trans ⟨hg3.os, hg3.tape, hg3.output, hg3.size, fun k hk => hg3.block k (by have := lt_of_block K.out.box; have := K.out.hB; omega) (by simp; omega)⟩
        clear hS3 hG3 hO3 hl2 hg3 hB3 hR3 hrb hbx hbx1 hbx2 hga3
        go_wp2_with fail
        refine bodyPost_ret (v := .agg #[.slice (some ⟨ga, 0, none⟩) (da).length ca, .slice (some ⟨gl, 0, none⟩) l.length cl, .int .i64 y2]) (by simp [results, Try.results35, go_sem, hr0, hr1, hr2]) rfl ?_
        (have e1 := HDA.out; have e2 := HY2.out; subst e1; subst e2); refine ⟨l2, by rw [HL2.out], GA3.out.keep3 (fun b off e => by cases e; exact HGAR.out), (RI.of_srt S3.out (by rw [HL2.out]; exact K.out.capl)).keep3 (fun b off e => by cases e; exact HGR.out), G3.out.perm, by rw [HL2.out]; exact O3.out, ?_⟩
        exact ((hbb.setCell hRb _).setCell hRb _).setCell hRb _
      · have hl1 : l.length = 0 := by omega
        have HL1 := Lib.hid hl1
        rw [hl1] at hbx1
        clear hl1 hl0
        have hrb : wz.heap[w.heap.size]? = some (.cells #[.slice none 0 0, .slice none 0 0, .int .i64 0] 24 (0, 0)) := HR2.out
        have hr0 : wz.cell? ⟨w.heap.size, 0, none⟩ = some (.slice none 0 0) := by simp [World.cell?, hrb]
        have hr1 : wz.cell? ⟨w.heap.size, 1, none⟩ = some (.slice none 0 0) := by simp [World.cell?, hrb]
        have hr2 : wz.cell? ⟨w.heap.size, 2, none⟩ = some (.int .i64 0) := by simp [World.cell?, hrb]
        have hf0 : wz.frozen? ⟨w.heap.size, 0, none⟩ = false := by simp [World.frozen?, hrb]
        have hf1 : wz.frozen? ⟨w.heap.size, 1, none⟩ = false := by simp [World.frozen?, hrb]
        have hf2 : wz.frozen? ⟨w.heap.size, 2, none⟩ = false := by simp [World.frozen?, hrb]
        clear hrb
        go_wp2_with fail
        refine (sort_none _ _ _ _).mono ?_
        rintro e w3 ⟨rfl, rfl⟩
        go_wp2_with fail
        refine bodyPost_ret (v := .agg #[.slice (some ⟨ga, 0, none⟩) (da).length ca, .slice A' 0 cl, .int .i64 y2]) (by simp [results, Try.results35, go_sem, hr0, hr1, hr2]) rfl ?_
        (have e1 := HDA.out; have e2 := HY2.out; subst e1; subst e2); refine ⟨[], rfl, K.out.ri.keep3 (fun b off e => by cases e; exact HGAR.out), RI.nil _ _ _ K.out.capl.2.1, by rw [List.eq_nil_of_length_eq_zero HL1.out], fun p q h1 h2 h3 => absurd h3 (by simp), ?_⟩
        exact ((HBW.out.setCell hRb _).setCell hRb _).setCell hRb _

set_option maxHeartbeats 4000000 in
theorem scaled_big2 (N : Nat) (hSO : SortOk N) (w : World) (base B ga : Nat) (ra : List Value) (ca : Nat) (A' : Option Addr) (cl : Nat) (act l : List Int) (y : Int) (h : Wk w base B ga ra ca A' cl act l y) (hbase : base ≤ w.heap.size)
    (hact : 0 < act.length) (hd : Dom act.length l) (hN : l.length ≤ N) (hmid : Mid act) (hy0 : 0 ≤ y) (hy1 : y ≤ 4398046511104) (hm1 : ¬ 1099511627776 < y) (hm2 : 1099511627776 < maxTo act act.length) :
    Calls Try.prog 35 #[.pointer (some ⟨B, 0, none⟩)] w (Scaled base ga ca A' cl (down act) l (max (y / 1024) 1) w) := by
  have HSO := Lib.hid hSO
  have HD0 := Lib.hid (show Dom (down act).length l by rw [down_len]; exact hd)
  have HN := Lib.hid hN
  have HM := Lib.hid hmid
  have H := Lib.hid h
  have hgalt : ga < w.heap.size := lt_of_block h.row
  have hBlt : B < w.heap.size := lt_of_block h.box
  have hals : act.length ≤ 17592186044416 := by have := h.capa.2.2; omega
  have hcy : w.cell? ⟨B, 2, none⟩ = some (.int .i64 y) := by simp [World.cell?, h.box]
  have hca : w.cell? ⟨B, 0, none⟩ = some (.slice (some ⟨ga, 0, none⟩) act.length ca) := by simp [World.cell?, h.box]
  clear hSO hd hN h hmid
  go_enter Try.func35, Try.ntmps35
  go_wp2_with fail
  have K1 := Lib.hid (H.out.alloc (.cells #[.slice none 0 0, .slice none 0 0, .int .i64 0] 24))
  have HR1 := Lib.hid (heap_alloc_new w (.cells #[.slice none 0 0, .slice none 0 0, .int .i64 0] 24))
  have HBW1 := Lib.hid ((Below.refl base w).alloc hbase (.cells #[.slice none 0 0, .slice none 0 0, .int .i64 0] 24))
  have HGAR : Hid (ga ≠ w.heap.size) := by show ga ≠ _; omega
  have hRb : base ≤ w.heap.size := hbase

  refine wp_loop_rounds 2 ?_
  rw [rounds_succ]
  go_wp2_with fail
  refine (max_any _ act.length ca act _ K1.out.ri hact).mono ?_
  rintro e w2 ⟨rfl, rfl⟩
  go_wp2_with fail
  obtain ⟨wx, hwx⟩ : ∃ wx, w.alloc (.cells #[.slice none 0 0, .slice none 0 0, .int .i64 0] 24) = wx := ⟨_, rfl⟩
  rw [hwx] at K1 HR1 HBW1 ⊢
  clear hwx
  go_loopw [25] (fun i wr => ∃ k : Nat, k ≤ act.length ∧ i = .int .i64 k ∧ Srt wx ga ra (mix act k) wr) (fun i _ => act.length - (intOf i).toNat)
  case atStart => exact ⟨0, Nat.zero_le _, rfl, by rw [mix_zero]; exact Srt.start K1.out.row⟩
  case round =>
    obtain ⟨k, hk, rfl, hS⟩ := hrel
    have HS := Lib.hid hS
    have hBk : wr.heap[B]? = wx.heap[B]? := hS.grown.block B (lt_of_block K1.out.box) (by simpa using K1.out.ne)
    have hb0 : wr.cell? ⟨B, 0, none⟩ = some (.slice (some ⟨ga, 0, none⟩) act.length ca) := (World.cell?_of_block (a := ⟨B, 0, none⟩) hBk).trans (by simp [World.cell?, K1.out.box])
    have hb2 : wr.cell? ⟨B, 2, none⟩ = some (.int .i64 y) := (World.cell?_of_block (a := ⟨B, 2, none⟩) hBk).trans (by simp [World.cell?, K1.out.box])
    have hf2 : wr.frozen? ⟨B, 2, none⟩ = false := (World.frozen?_of_block (a := ⟨B, 2, none⟩) hBk).trans (by simp [World.frozen?, K1.out.box])
    clear hS hBk
    by_cases hlt : k < act.length
    · have hck : wr.cell? ⟨ga, k, none⟩ = some (.int .i64 (elt act k)) := by
        have := HS.out.cell (j := k) (by rw [mix_len]; exact hlt)
        rw [this, elt_mix _ _ _ hlt, if_neg (by omega)]
      have hfk := HS.out.frozen k
      have hmk := HM.out k hlt
      obtain ⟨hmk1, hmk2⟩ := hmk
      go_wp2_with fail
      go_roundw
      case rel => exact ⟨k + 1, by omega, by go_num, by rw [← mix_succ _ _ hlt]; exact HS.out.set (by rw [mix_len]; exact hlt) _⟩
      case measure => simp [intOf]; omega
    · have HSD := Lib.hid (show Srt wx ga ra (down act) wr by rw [← mix_full act k (by omega)]; exact HS.out)
      have K := Lib.hid (K1.out.downed (y2 := max (y / 1024) 1) HSD.out)
      have hRB : w.heap.size ≠ B := by omega
      have hgw := HSD.out.grown
      have HR2 : Hid ((wr.setCell ⟨B, 2, none⟩ (.int .i64 (max (y / 1024) 1))).heap[w.heap.size]? = some (.cells #[.slice none 0 0, .slice none 0 0, .int .i64 0] 24 (0, 0))) := (Below.heap_setCell _ _ _ _ (by simpa using hRB)).trans ((hgw.block _ (lt_of_block HR1.out) (by simpa using HGAR.out.symm)).trans HR1.out)
      have HBW : Hid (Below base w (wr.setCell ⟨B, 2, none⟩ (.int .i64 (max (y / 1024) 1)))) := (HBW1.out.trans ⟨hgw.os, hgw.tape, hgw.output, hgw.size, fun k hk => hgw.block k (by have := lt_of_block K1.out.box; have := K1.out.hB; omega) (by have := K1.out.hga; simp; omega)⟩).setCell (by exact K1.out.hB) _
      clear hgw
      have hy3 : max (y / 1024) 1 ≤ 1099511627776 := by omega
      go_wp2_with fail
      rw [rounds_succ]
      generalize hy2 : max (y / 1024) 1 = y2 at K HR2 HBW hy3 ⊢
      have HY2 := Lib.hid hy2
      clear hy2
      obtain ⟨wz, hwz⟩ : ∃ wz, wr.setCell ⟨B, 2, none⟩ (.int .i64 y2) = wz := ⟨_, rfl⟩
      rw [hwz] at K HR2 HBW ⊢
      clear hwz
      have hm2 : ¬ 1099511627776 < maxTo (down act) (down act).length := by rw [down_len]; exact maxTo_down HM.out hact
      have hact2 : 0 < (down act).length := by rw [down_len]; exact hact
      obtain ⟨da, hda⟩ : ∃ da, down act = da := ⟨_, rfl⟩
      have HD : Hid (Dom da.length l) := by have := HD0.out; rw [hda] at this; exact this
      rw [hda] at K hm2 hact2
      have HDA := Lib.hid hda
      clear hda
      have hz0 : wz.cell? ⟨B, 0, none⟩ = some (.slice (some ⟨ga, 0, none⟩) da.length ca) := by simp [World.cell?, K.out.box]
      have hz2 : wz.cell? ⟨B, 2, none⟩ = some (.int .i64 y2) := by simp [World.cell?, K.out.box]
      have hm1 : ¬ 1099511627776 < y2 := by omega
      clear hb0 hb2 hf2
      go_wp2_with fail
      refine (max_any _ da.length ca da _ K.out.ri hact2).mono ?_
      rintro e w2 ⟨rfl, rfl⟩
      have hbx : wz.cell? ⟨B, 0, none⟩ = some (.slice (some ⟨ga, 0, none⟩) (da).length ca) := by simp [World.cell?, K.out.box]
      have hbx1 : wz.cell? ⟨B, 1, none⟩ = some (.slice A' l.length cl) := by simp [World.cell?, K.out.box]
      have hbx2 : wz.cell? ⟨B, 2, none⟩ = some (.int .i64 y2) := by simp [World.cell?, K.out.box]
      by_cases hl0 : 0 < l.length
      · obtain ⟨gl, rl, hA, hrl, hne, hbl⟩ := K.out.own hl0
        subst hA
        have HRL := Lib.hid hrl
        have C := Lib.hid (K.out.cx hrl hne)
        have hglR : gl ≠ w.heap.size := by
          intro e
          rw [e, HR2.out] at hrl
          injection hrl with hrl
          injection hrl with _ h2
          exact absurd h2 (by decide)
        have HGR := Lib.hid hglR
        clear hrl hglR
        go_wp2_with fail
        refine (HSO.out wz gl B (da) C.out rl l HD.out l.length cl wz (Srt.start HRL.out) rfl (HN.out)).mono ?_
        rintro e w3 ⟨l2, rfl, hS3, hG3, hO3⟩
        have hg3 := hS3.grown
        have hB3 : w3.heap[B]? = wz.heap[B]? := hg3.block B C.out.hB (by simpa using C.out.hne)
        have hR3 : w3.heap[w.heap.size]? = wz.heap[w.heap.size]? := hg3.block _ (lt_of_block HR2.out) (by simpa using HGR.out.symm)
        have hl2 : l2.length = l.length := hG3.len
        have hd0 : w3.cell? ⟨B, 0, none⟩ = some (.slice (some ⟨ga, 0, none⟩) (da).length ca) := (World.cell?_of_block (a := ⟨B, 0, none⟩) hB3).trans hbx
        have hd1 : w3.cell? ⟨B, 1, none⟩ = some (.slice (some ⟨gl, 0, none⟩) l.length cl) := (World.cell?_of_block (a := ⟨B, 1, none⟩) hB3).trans hbx1
        have hd2 : w3.cell? ⟨B, 2, none⟩ = some (.int .i64 y2) := (World.cell?_of_block (a := ⟨B, 2, none⟩) hB3).trans hbx2
        have hrb : w3.heap[w.heap.size]? = some (.cells #[.slice none 0 0, .slice none 0 0, .int .i64 0] 24 (0, 0)) := hR3.trans HR2.out
        have hr0 : w3.cell? ⟨w.heap.size, 0, none⟩ = some (.slice none 0 0) := by simp [World.cell?, hrb]
        have hr1 : w3.cell? ⟨w.heap.size, 1, none⟩ = some (.slice none 0 0) := by simp [World.cell?, hrb]
        have hr2 : w3.cell? ⟨w.heap.size, 2, none⟩ = some (.int .i64 0) := by simp [World.cell?, hrb]
        have hf0 : w3.frozen? ⟨w.heap.size, 0, none⟩ = false := by simp [World.frozen?, hrb]
        have hf1 : w3.frozen? ⟨w.heap.size, 1, none⟩ = false := by simp [World.frozen?, hrb]
        have hf2 : w3.frozen? ⟨w.heap.size, 2, none⟩ = false := by simp [World.frozen?, hrb]
        have S3 := Lib.hid hS3
        have G3 := Lib.hid hG3
        have O3 := Lib.hid hO3
        have HL2 := Lib.hid hl2
        have hga3 := K.out.ri.grown hg3 (fun b off e => by cases e; exact hne.symm)
        have GA3 := Lib.hid hga3
        have hbb : Below base w w3 := HBW.out.trans ⟨hg3.os, hg3.tape, hg3.output, hg3.size, fun k hk => hg3.block k (by have := lt_of_block K.out.box; have := K.out.hB; omega) (by simp; omega)⟩
        clear hS3 hG3 hO3 hl2 hg3 hB3 hR3 hrb hbx hbx1 hbx2 hga3
        go_wp2_with fail
        refine bodyPost_ret (v := .agg #[.slice (some ⟨ga, 0, none⟩) (da).length ca, .slice (some ⟨gl, 0, none⟩) l.length cl, .int .i64 y2]) (by simp [results, Try.results35, go_sem, hr0, hr1, hr2]) rfl ?_
        (have e1 := HDA.out; have e2 := HY2.out; subst e1; subst e2); refine ⟨l2, by rw [HL2.out], GA3.out.keep3 (fun b off e => by cases e; exact HGAR.out), (RI.of_srt S3.out (by rw [HL2.out]; exact K.out.capl)).keep3 (fun b off e => by cases e; exact HGR.out), G3.out.perm, by rw [HL2.out]; exact O3.out, ?_⟩
        exact ((hbb.setCell hRb _).setCell hRb _).setCell hRb _
      · have hl1 : l.length = 0 := by omega
        have HL1 := Lib.hid hl1
        rw [hl1] at hbx1
        clear hl1 hl0
        have hrb : wz.heap[w.heap.size]? = some (.cells #[.slice none 0 0, .slice none 0 0, .int .i64 0] 24 (0, 0)) := HR2.out
        have hr0 : wz.cell? ⟨w.heap.size, 0, none⟩ = some (.slice none 0 0) := by simp [World.cell?, hrb]
        have hr1 : wz.cell? ⟨w.heap.size, 1, none⟩ = some (.slice none 0 0) := by simp [World.cell?, hrb]
        have hr2 : wz.cell? ⟨w.heap.size, 2, none⟩ = some (.int .i64 0) := by simp [World.cell?, hrb]
        have hf0 : wz.frozen? ⟨w.heap.size, 0, none⟩ = false := by simp [World.frozen?, hrb]
        have hf1 : wz.frozen? ⟨w.heap.size, 1, none⟩ = false := by simp [World.frozen?, hrb]
        have hf2 : wz.frozen? ⟨w.heap.size, 2, none⟩ = false := by simp [World.frozen?, hrb]
        clear hrb
        go_wp2_with fail
        refine (sort_none _ _ _ _).mono ?_
        rintro e w3 ⟨rfl, rfl⟩
        go_wp2_with fail
        refine bodyPost_ret (v := .agg #[.slice (some ⟨ga, 0, none⟩) (da).length ca, .slice A' 0 cl, .int .i64 y2]) (by simp [results, Try.results35, go_sem, hr0, hr1, hr2]) rfl ?_
        (have e1 := HDA.out; have e2 := HY2.out; subst e1; subst e2); refine ⟨[], rfl, K.out.ri.keep3 (fun b off e => by cases e; exact HGAR.out), RI.nil _ _ _ K.out.capl.2.1, by rw [List.eq_nil_of_length_eq_zero HL1.out], fun p q h1 h2 h3 => absurd h3 (by simp), ?_⟩
        exact ((HBW.out.setCell hRb _).setCell hRb _).setCell hRb _

end Go.Proofs.Ythfadkilffmmlaa
