/-
  The walks of Bump and Decay. They take what slices.SortFunc does as a hypothesis.
-/
import Derived.Test.YthfadkilffmmlaaW13
namespace Go.Proofs.Ythfadkilffmmlaa
open Go.RowKit
set_option linter.unusedVariables false
set_option linter.unusedSimpArgs false

section
variable (A : Option Addr) (n c : Nat) (act : List Int) (A' : Option Addr) (n' c' : Nat) (l : List Int) (y : Int) (w : World)

set_option maxHeartbeats 1000000 in
theorem bump_bad (v : Int) (h : RI w A n c act) (h' : RI w A' n' c' l) (hk : checkB act l y = false) :
    Calls Try.prog 19 #[.agg #[.slice A n c, .slice A' n' c', .int .i64 y], .int .i64 v] w fun e w' => e = .returned (.tuple #[zeroH, .int .i64 1]) ∧ Below w.heap.size w w' := by
  have H := Lib.hid h
  have H' := Lib.hid h'
  have HK := Lib.hid hk
  clear h h' hk
  go_enter Try.func19, Try.ntmps19
  go_wp2_with fail
  refine (begun_bad A n c act A' n' c' l y _ ((H.out.alloc _).alloc _) ((H'.out.alloc _).alloc _) HK.out).mono ?_
  rintro e w2 ⟨rfl, hb2⟩
  have hbw := below2 _ _ _ _ hb2
  obtain ⟨hcc, hff⟩ := bcell hb2
  have hz : w.heap.size + 1 < w2.heap.size := by have := hb2.size; simp at this; omega
  clear hb2
  go_wp2_with fail
  refine bodyPost_ret (v := .tuple #[zeroH, .int .i64 1]) (by simp [results, Try.results19, go_sem, hcc, hz]) rfl ⟨rfl, ?_⟩
  exact ((hbw.setCell (by simp) _).setCell (by simp) _).setCell (by simp) _

set_option maxHeartbeats 1000000 in
theorem bump_unknown (v : Int) (h : RI w A n c act) (h' : RI w A' n' c' l) (hk : checkB act l y = true) (hv : knownB act.length v = false) :
    Calls Try.prog 19 #[.agg #[.slice A n c, .slice A' n' c', .int .i64 y], .int .i64 v] w fun e w' => e = .returned (.tuple #[zeroH, .int .i64 1]) ∧ Below w.heap.size w w' := by
  have H := Lib.hid h
  have H' := Lib.hid h'
  have HK := Lib.hid hk
  have HV := Lib.hid hv
  clear h h' hk hv
  go_enter Try.func19, Try.ntmps19
  go_wp2_with fail
  refine (begun_ok A n c act A' n' c' l y _ ((H.out.alloc _).alloc _) ((H'.out.alloc _).alloc _) HK.out).mono ?_
  rintro e w2 ⟨B, A3, c3, A4, c4, rfl, hB, hblk, ho3, ho4, hdis, hb2⟩
  have hbw := below2 _ _ _ _ hb2
  obtain ⟨hcc, hff⟩ := bcell hb2
  have hz : w.heap.size + 1 < w2.heap.size := by have := hb2.size; simp at this; omega
  have hc0 : w2.cell? ⟨B, 0, none⟩ = some (.slice A3 act.length c3) := by simp [World.cell?, hblk]
  clear hb2 hblk ho3 ho4 hdis
  go_wp2_with fail
  refine (known_any B _ _ _ _ _ hc0).mono ?_
  rintro e w3 ⟨rfl, rfl⟩
  rw [HV.out]
  go_wp2_with fail
  refine bodyPost_ret (v := .tuple #[zeroH, .int .i64 1]) (by simp [results, Try.results19, go_sem, hcc, hz]) rfl ⟨rfl, ?_⟩
  exact ((hbw.setCell (by simp) _).setCell (by simp) _).setCell (by simp) _

set_option maxHeartbeats 4000000 in
theorem bump_ok (N : Nat) (hSO : SortOk N) (v : Nat) (h : RI w A n c act) (h' : RI w A' n' c' l) (hk : Valid act l y) (hv : 0 < v ∧ v < act.length) (hN : l.length ≤ N) :
    Calls Try.prog 19 #[.agg #[.slice A n c, .slice A' n' c', .int .i64 y], .int .i64 v] w
      (ScOk (sclA (act.set v (elt act v + y)) y) l (sclY (act.set v (elt act v + y)) y) w) := by
  have hla := h.big
  have hll := h'.big
  rw [← h.len] at hla
  rw [← h'.len] at hll
  have H := Lib.hid h
  have H' := Lib.hid h'
  have HV := Lib.hid hk
  have HSO := Lib.hid hSO
  have HN := Lib.hid hN
  have hv1 : knownB act.length (v : Int) = true := knownB_iff.2 ⟨by omega, by omega⟩
  have HKN := Lib.hid hv1
  clear h h' hk hSO hN hv1
  have hvl : (v : Int) < act.length := by omega
  go_enter Try.func19, Try.ntmps19
  go_wp2_with fail
  refine (begun_ok A n c act A' n' c' l y _ ((H.out.alloc _).alloc _) ((H'.out.alloc _).alloc _) ((valid_iff _ _ _).2 HV.out)).mono ?_
  rintro e w2 ⟨B, A3, c3, A4, c4, rfl, hB, hblk, ho3, ho4, hdis, hb2⟩
  obtain ⟨ga, ra, rfl, hW⟩ := Wk.of_begun hB hblk ho3 ho4 hdis HV.out.pos hla hll
  have hbw := below2 _ _ _ _ hb2
  have hz : w.heap.size + 1 < w2.heap.size := by have := hb2.size; simp at this; omega
  have hrb : w2.heap[w.heap.size + 1]? = some (.cells #[.slice none 0 0, .slice none 0 0, .int .i64 0] 24 (0, 0)) := by
    refine (hb2.block (w.heap.size + 1) (by simp)).trans ?_
    have e := heap_alloc_new (w.alloc (.cells #[.slice A n c, .slice A' n' c', .int .i64 y] 24)) (.cells #[.slice none 0 0, .slice none 0 0, .int .i64 0] 24)
    rwa [show (w.alloc (.cells #[.slice A n c, .slice A' n' c', .int .i64 y] 24)).heap.size = w.heap.size + 1 by simp] at e
  have HRB := Lib.hid hrb
  have hc0 : w2.cell? ⟨B, 0, none⟩ = some (.slice (some ⟨ga, 0, none⟩) act.length c3) := by simp [World.cell?, hblk]
  have hc2 : w2.cell? ⟨B, 2, none⟩ = some (.int .i64 y) := by simp [World.cell?, hblk]
  have hcv : w2.cell? ⟨ga, v, none⟩ = some (.int .i64 (elt act v)) := by simp [World.cell?, hW.row, List.getElem?_append, hv.2, elt_lt hv.2]
  have hfv : w2.frozen? ⟨ga, v, none⟩ = false := by simp [World.frozen?, hW.row]
  have hbase : w.heap.size + 2 ≤ B ∧ w.heap.size + 2 ≤ ga := by
    have h1 := hW.hB
    have h2 := hW.hga
    simp at h1 h2
    omega
  have HB := Lib.hid hbase
  have K := Lib.hid hW
  have hrv := HV.out.rng v hv.2
  obtain ⟨hrv1, hrv2⟩ := hrv
  have hy1 := HV.out.by1
  have hy2 := HV.out.by2
  clear hb2 hblk ho3 ho4 hdis hW hrb hB hbase
  go_wp2_with fail
  refine (known_any B _ _ _ _ _ hc0).mono ?_
  rintro e w3 ⟨rfl, rfl⟩
  rw [HKN.out]
  have HMID := Lib.hid (HV.out.mid_set hv.2)
  have HKQ := Lib.hid ((K.out.setAct hv.2 (elt act v + y)).drew)
  have hgr : w.heap.size + 1 ≠ ga := by have := HB.out.2; omega
  have HRQ := Lib.hid (show (w2.setCell ⟨ga, v, none⟩ (.int .i64 (elt act v + y))).drew.heap[w.heap.size + 1]? = _ from (Below.heap_setCell w2 ⟨ga, v, none⟩ (.int .i64 (elt act v + y)) _ hgr).trans HRB.out)
  have HBQ := Lib.hid ((hbw.setCell (p := ⟨ga, v, none⟩) (by have := HB.out.2; simp; omega) (.int .i64 (elt act v + y))).drew)
  rw [show ((w.alloc (.cells #[.slice A n c, .slice A' n' c', .int .i64 y] 24)).alloc (.cells #[.slice none 0 0, .slice none 0 0, .int .i64 0] 24)).heap.size = w.heap.size + 2 by simp] at HKQ
  obtain ⟨wq, hwq⟩ : ∃ wq, (w2.setCell ⟨ga, v, none⟩ (.int .i64 (elt act v + y))).drew = wq := ⟨_, rfl⟩
  go_wp2_with fail
  go_region
  go_wp2_with fail
  rw [hwq] at HKQ HRQ HBQ
  clear hwq hcv hfv hc0 hc2
  have K2 := Lib.hid (show Wk wq (w.heap.size + 2) B ga ra c3 A4 c4 (act.set v (elt act v + y)) l y from HKQ.out)
  have hrq : wq.heap[w.heap.size + 1]? = some (.cells #[.slice none 0 0, .slice none 0 0, .int .i64 0] 24 (0, 0)) := HRQ.out
  have hrl := lt_of_block hrq
  refine (scaled_any N HSO.out wq (w.heap.size + 2) B ga ra c3 A4 c4 (act.set v (elt act v + y)) l y K2.out (by omega) (by have := HV.out.pos; simpa using this) (by have := HV.out.dom; simpa using this) HN.out HMID.out (by omega) (by omega)).mono ?_
  rintro e w3 ⟨l2, rfl, hrA, hrL, hp, hs, hb3⟩
  have hr3 : w3.heap[w.heap.size + 1]? = some (.cells #[.slice none 0 0, .slice none 0 0, .int .i64 0] 24 (0, 0)) := (hb3.block _ (by omega)).trans hrq
  have hr0 : w3.cell? ⟨w.heap.size + 1, 0, none⟩ = some (.slice none 0 0) := by simp [World.cell?, hr3]
  have hr1 : w3.cell? ⟨w.heap.size + 1, 1, none⟩ = some (.slice none 0 0) := by simp [World.cell?, hr3]
  have hr2 : w3.cell? ⟨w.heap.size + 1, 2, none⟩ = some (.int .i64 0) := by simp [World.cell?, hr3]
  have hf0 : w3.frozen? ⟨w.heap.size + 1, 0, none⟩ = false := by simp [World.frozen?, hr3]
  have hf1 : w3.frozen? ⟨w.heap.size + 1, 1, none⟩ = false := by simp [World.frozen?, hr3]
  have hf2 : w3.frozen? ⟨w.heap.size + 1, 2, none⟩ = false := by simp [World.frozen?, hr3]
  have hAL : ∀ b off, A4 = some ⟨b, off, none⟩ → 0 < l2.length → b ≠ w.heap.size + 1 := by
    intro b off e h0
    have hl0 : 0 < l.length := by have := hp.length_eq; omega
    obtain ⟨gl, rl, e2, _, _, h3⟩ := K2.out.own hl0
    rw [e] at e2
    cases e2
    omega
  have RA := Lib.hid hrA
  have RL := Lib.hid hrL
  have HP := Lib.hid hp
  have HS3 := Lib.hid hs
  have HAL := Lib.hid hAL
  have hbb : Below w.heap.size w w3 := HBQ.out.trans (hb3.mono (by omega))
  clear hrA hrL hp hs hb3 hr3 hrq hAL
  generalize sclA (act.set v (elt act v + y)) y = ax at *
  generalize sclY (act.set v (elt act v + y)) y = yx at *
  go_wp2_with fail
  refine bodyPost_ret (v := .tuple #[.agg #[.slice (some ⟨ga, 0, none⟩) ax.length c3, .slice A4 l2.length c4, .int .i64 yx], .int .i64 0]) (by simp [results, Try.results19, go_sem, hr0, hr1, hr2]) rfl ?_
  refine ⟨_, _, _, _, l2, rfl, RA.out.keep3 (fun b off e => by cases e; have := HB.out.2; omega), ?_, HP.out, HS3.out, ?_⟩
  · by_cases h0 : 0 < l2.length
    · exact RL.out.keep3 (fun b off e => HAL.out b off e h0)
    · have : l2 = [] := List.eq_nil_of_length_eq_zero (by omega)
      subst this
      exact RI.nil _ _ _ RL.out.cmax
  · exact ((hbb.setCell (by simp) _).setCell (by simp) _).setCell (by simp) _

set_option maxHeartbeats 1000000 in
theorem decay_bad (h : RI w A n c act) (h' : RI w A' n' c' l) (hk : checkB act l y = false) :
    Calls Try.prog 21 #[.agg #[.slice A n c, .slice A' n' c', .int .i64 y]] w fun e w' => e = .returned (.tuple #[zeroH, .int .i64 1]) ∧ Below w.heap.size w w' := by
  have H := Lib.hid h
  have H' := Lib.hid h'
  have HK := Lib.hid hk
  clear h h' hk
  go_enter Try.func21, Try.ntmps21
  go_wp2_with fail
  refine (begun_bad A n c act A' n' c' l y _ ((H.out.alloc _).alloc _) ((H'.out.alloc _).alloc _) HK.out).mono ?_
  rintro e w2 ⟨rfl, hb2⟩
  have hbw := below2 _ _ _ _ hb2
  obtain ⟨hcc, hff⟩ := bcell hb2
  have hz : w.heap.size + 1 < w2.heap.size := by have := hb2.size; simp at this; omega
  clear hb2
  go_wp2_with fail
  refine bodyPost_ret (v := .tuple #[zeroH, .int .i64 1]) (by simp [results, Try.results21, go_sem, hcc, hz]) rfl ⟨rfl, ?_⟩
  exact ((hbw.setCell (by simp) _).setCell (by simp) _).setCell (by simp) _

set_option maxHeartbeats 4000000 in
theorem decay_ok (N : Nat) (hSO : SortOk N) (h : RI w A n c act) (h' : RI w A' n' c' l) (hk : Valid act l y) (hN : l.length ≤ N) :
    Calls Try.prog 21 #[.agg #[.slice A n c, .slice A' n' c', .int .i64 y]] w
      (ScOk (sclA act (y + (y / 20 + 1))) l (sclY act (y + (y / 20 + 1))) w) := by
  have hla := h.big
  have hll := h'.big
  rw [← h.len] at hla
  rw [← h'.len] at hll
  have H := Lib.hid h
  have H' := Lib.hid h'
  have HV := Lib.hid hk
  have HSO := Lib.hid hSO
  have HN := Lib.hid hN
  clear h h' hk hSO hN
  go_enter Try.func21, Try.ntmps21
  go_wp2_with fail
  refine (begun_ok A n c act A' n' c' l y _ ((H.out.alloc _).alloc _) ((H'.out.alloc _).alloc _) ((valid_iff _ _ _).2 HV.out)).mono ?_
  rintro e w2 ⟨B, A3, c3, A4, c4, rfl, hB, hblk, ho3, ho4, hdis, hb2⟩
  obtain ⟨ga, ra, rfl, hW⟩ := Wk.of_begun hB hblk ho3 ho4 hdis HV.out.pos hla hll
  have hbw := below2 _ _ _ _ hb2
  have hz : w.heap.size + 1 < w2.heap.size := by have := hb2.size; simp at this; omega
  have hrb : w2.heap[w.heap.size + 1]? = some (.cells #[.slice none 0 0, .slice none 0 0, .int .i64 0] 24 (0, 0)) := by
    refine (hb2.block (w.heap.size + 1) (by simp)).trans ?_
    have e := heap_alloc_new (w.alloc (.cells #[.slice A n c, .slice A' n' c', .int .i64 y] 24)) (.cells #[.slice none 0 0, .slice none 0 0, .int .i64 0] 24)
    rwa [show (w.alloc (.cells #[.slice A n c, .slice A' n' c', .int .i64 y] 24)).heap.size = w.heap.size + 1 by simp] at e
  have HRB := Lib.hid hrb
  have hc2 : w2.cell? ⟨B, 2, none⟩ = some (.int .i64 y) := by simp [World.cell?, hblk]
  have hf2 : w2.frozen? ⟨B, 2, none⟩ = false := by simp [World.frozen?, hblk]
  have hbase : w.heap.size + 2 ≤ B ∧ w.heap.size + 2 ≤ ga := by
    have h1 := hW.hB
    have h2 := hW.hga
    simp at h1 h2
    omega
  have HB := Lib.hid hbase
  have K := Lib.hid hW
  have hy1 := HV.out.by1
  have hy2 := HV.out.by2
  clear hb2 hblk ho3 ho4 hdis hW hrb hB hbase
  have HMID := Lib.hid HV.out.mid
  have HKQ := Lib.hid ((K.out.setBy (y + (y / 20 + 1))).drew)
  have hgr : w.heap.size + 1 ≠ B := by have := HB.out.1; omega
  have HRQ := Lib.hid (show (w2.setCell ⟨B, 2, none⟩ (.int .i64 (y + (y / 20 + 1)))).drew.heap[w.heap.size + 1]? = _ from (Below.heap_setCell w2 ⟨B, 2, none⟩ (.int .i64 (y + (y / 20 + 1))) _ hgr).trans HRB.out)
  have HBQ := Lib.hid ((hbw.setCell (p := ⟨B, 2, none⟩) (by have := HB.out.1; simp; omega) (.int .i64 (y + (y / 20 + 1)))).drew)
  rw [show ((w.alloc (.cells #[.slice A n c, .slice A' n' c', .int .i64 y] 24)).alloc (.cells #[.slice none 0 0, .slice none 0 0, .int .i64 0] 24)).heap.size = w.heap.size + 2 by simp] at HKQ
  obtain ⟨wq, hwq⟩ : ∃ wq, (w2.setCell ⟨B, 2, none⟩ (.int .i64 (y + (y / 20 + 1)))).drew = wq := ⟨_, rfl⟩
  go_wp2_with fail
  go_region
  go_wp2_with fail
  rw [hwq] at HKQ HRQ HBQ
  clear hwq hc2 hf2
  have K2 := Lib.hid (show Wk wq (w.heap.size + 2) B ga ra c3 A4 c4 act l (y + (y / 20 + 1)) from HKQ.out)
  have hrq : wq.heap[w.heap.size + 1]? = some (.cells #[.slice none 0 0, .slice none 0 0, .int .i64 0] 24 (0, 0)) := HRQ.out
  have hrl := lt_of_block hrq
  refine (scaled_any N HSO.out wq (w.heap.size + 2) B ga ra c3 A4 c4 act l (y + (y / 20 + 1)) K2.out (by omega) (by have := HV.out.pos; simpa using this) (by have := HV.out.dom; simpa using this) HN.out HMID.out (by omega) (by omega)).mono ?_
  rintro e w3 ⟨l2, rfl, hrA, hrL, hp, hs, hb3⟩
  have hr3 : w3.heap[w.heap.size + 1]? = some (.cells #[.slice none 0 0, .slice none 0 0, .int .i64 0] 24 (0, 0)) := (hb3.block _ (by omega)).trans hrq
  have hr0 : w3.cell? ⟨w.heap.size + 1, 0, none⟩ = some (.slice none 0 0) := by simp [World.cell?, hr3]
  have hr1 : w3.cell? ⟨w.heap.size + 1, 1, none⟩ = some (.slice none 0 0) := by simp [World.cell?, hr3]
  have hr2 : w3.cell? ⟨w.heap.size + 1, 2, none⟩ = some (.int .i64 0) := by simp [World.cell?, hr3]
  have hf0 : w3.frozen? ⟨w.heap.size + 1, 0, none⟩ = false := by simp [World.frozen?, hr3]
  have hf1 : w3.frozen? ⟨w.heap.size + 1, 1, none⟩ = false := by simp [World.frozen?, hr3]
  have hf2 : w3.frozen? ⟨w.heap.size + 1, 2, none⟩ = false := by simp [World.frozen?, hr3]
  have hAL : ∀ b off, A4 = some ⟨b, off, none⟩ → 0 < l2.length → b ≠ w.heap.size + 1 := by
    intro b off e h0
    have hl0 : 0 < l.length := by have := hp.length_eq; omega
    obtain ⟨gl, rl, e2, _, _, h3⟩ := K2.out.own hl0
    rw [e] at e2
    cases e2
    omega
  have RA := Lib.hid hrA
  have RL := Lib.hid hrL
  have HP := Lib.hid hp
  have HS3 := Lib.hid hs
  have HAL := Lib.hid hAL
  have hbb : Below w.heap.size w w3 := HBQ.out.trans (hb3.mono (by omega))
  clear hrA hrL hp hs hb3 hr3 hrq hAL
  generalize sclA act (y + (y / 20 + 1)) = ax at *
  generalize sclY act (y + (y / 20 + 1)) = yx at *
  go_wp2_with fail
  refine bodyPost_ret (v := .tuple #[.agg #[.slice (some ⟨ga, 0, none⟩) ax.length c3, .slice A4 l2.length c4, .int .i64 yx], .int .i64 0]) (by simp [results, Try.results21, go_sem, hr0, hr1, hr2]) rfl ?_
  refine ⟨_, _, _, _, l2, rfl, RA.out.keep3 (fun b off e => by cases e; have := HB.out.2; omega), ?_, HP.out, HS3.out, ?_⟩
  · by_cases h0 : 0 < l2.length
    · exact RL.out.keep3 (fun b off e => HAL.out b off e h0)
    · have : l2 = [] := List.eq_nil_of_length_eq_zero (by omega)
      subst this
      exact RI.nil _ _ _ RL.out.cmax
  · exact ((hbb.setCell (by simp) _).setCell (by simp) _).setCell (by simp) _
end

end Go.Proofs.Ythfadkilffmmlaa
