/-
  Pop and Push once more: what they hand back lies in new memory. No condition.
-/
import Derived.Test.YthfadkilffmmlaaW19
namespace Go.Proofs.Ythfadkilffmmlaa
open Go.RowKit
set_option linter.unusedVariables false
set_option linter.unusedSimpArgs false

/-- an address that did not lie in w -/
def Fr (w : World) (A : Option Addr) : Prop := ∀ b off, A = some ⟨b, off, none⟩ → w.heap.size ≤ b
def PopFr (act l : List Int) (y : Int) (w : World) (e : Ending) (w' : World) : Prop :=
  ∃ (A : Option Addr) (c : Nat) (A' : Option Addr) (c' : Nat), e = .returned (.tuple #[.agg #[.slice A act.length c, .slice A' (l.length - 1) c', .int .i64 y], .int .i64 (elt l 0), .int .i64 0]) ∧
    RI w' A act.length c act ∧ RI w' A' (l.length - 1) c' l.tail ∧ Below w.heap.size w w' ∧ Fr w A ∧ Fr w A'
def HeapFr (act l : List Int) (y : Int) (w : World) (e : Ending) (w' : World) : Prop :=
  ∃ (A : Option Addr) (c : Nat) (A' : Option Addr) (c' : Nat), e = .returned (.tuple #[.agg #[.slice A act.length c, .slice A' l.length c', .int .i64 y], .int .i64 0]) ∧
    RI w' A act.length c act ∧ RI w' A' l.length c' l ∧ Below w.heap.size w w' ∧ Fr w A ∧ Fr w A'
def PushFr (act l : List Int) (v y : Int) (w : World) (e : Ending) (w' : World) : Prop :=
  ∃ i, i ≤ l.length ∧ (∀ k, k < i → ltO act (elt l k) v) ∧ (∀ k, i ≤ k → k < l.length → ¬ ltO act (elt l k) v) ∧ HeapFr act (insAt l i v) y w e w'

section
variable (A : Option Addr) (n c : Nat) (act : List Int) (A' : Option Addr) (n' c' : Nat) (l : List Int) (y : Int) (w : World)

set_option maxHeartbeats 2000000 in
theorem pop_fr (h : RI w A n c act) (h' : RI w A' n' c' l) (hk : checkB act l y = true) (hl : 0 < l.length) :
    Calls Try.prog 23 #[.agg #[.slice A n c, .slice A' n' c', .int .i64 y]] w (PopFr act l y w) := by
  have hla := h.big
  have hll := h'.big
  rw [← h.len] at hla
  rw [← h'.len] at hll
  have H := Lib.hid h
  have H' := Lib.hid h'
  have HK := Lib.hid hk
  clear h h' hk
  go_enter Try.func23, Try.ntmps23
  go_wp2_with fail
  refine (begun_ok A n c act A' n' c' l y _ ((H.out.alloc _).alloc _) ((H'.out.alloc _).alloc _) HK.out).mono ?_
  rintro e w2 ⟨B, A3, c3, A4, c4, rfl, hB, hblk, ho3, ho4, hdis, hb2⟩
  have hr3 := Lib.hid (RI.of_own ho3 hla)
  have hr4 := Lib.hid (RI.of_own ho4 hll)
  have hbw := below2 _ _ _ _ hb2
  obtain ⟨hcc, hff⟩ := bcell hb2
  have hz : w.heap.size + 1 < w2.heap.size := by have := hb2.size; simp at this; omega
  have hBl : B < w2.heap.size := by
    rcases Nat.lt_or_ge B w2.heap.size with hlt | hge
    · exact hlt
    · rw [Array.getElem?_eq_none hge] at hblk; cases hblk
  have hc0 : w2.cell? ⟨B, 0, none⟩ = some (.slice A3 act.length c3) := by simp [World.cell?, hblk]
  have hc1 : w2.cell? ⟨B, 1, none⟩ = some (.slice A4 l.length c4) := by simp [World.cell?, hblk]
  have hc2 : w2.cell? ⟨B, 2, none⟩ = some (.int .i64 y) := by simp [World.cell?, hblk]
  have hf1 : w2.frozen? ⟨B, 1, none⟩ = false := by simp [World.frozen?, hblk]
  obtain ⟨b4, off4, rfl, hb4, hcs4⟩ := hr4.out.cells hl
  have hcell := hcs4 0 hl
  simp only [Nat.add_zero] at hcell
  have hcap := hr4.out.cap
  have hne4 := own_ne ho4 hblk (by decide)
  have hne3 := own_ne ho3 hblk (by decide)
  have hne : b4 ≠ B := fun e => hne4 (by rw [e]; rfl)
  have hl1 : (1 : Int) ≤ l.length := by omega
  have hl2 : ((l.length : Int) == 0) = false := beq_eq_false_iff_ne.2 (by omega)
  have HN3 := Lib.hid hne3
  have HB := Lib.hid hB
  have hB2 : w.heap.size + 1 < B := by simp at hB; omega
  have hBb : w.heap.size + 1 ≠ B := by omega
  have hbb := (own_lt ho4 (g := b4) rfl).1
  have hb42 : w.heap.size + 1 < b4 := by simp at hbb; omega
  have HO3 := Lib.hid (fun g hg => (own_lt ho3 (g := g) hg).1)
  clear hb2 hblk ho3 ho4 hdis hcs4 hne3 hne4 hB hbb
  have hcut := Lib.hid (hr4.out.cut1 hl)
  have hb5 : ∀ u0 u1 u2 u3 : Value, Below w.heap.size w ((((w2.setCell ⟨B, 1, none⟩ u0).setCell ⟨w.heap.size + 1, 0, none⟩ u1).setCell ⟨w.heap.size + 1, 1, none⟩ u2).setCell ⟨w.heap.size + 1, 2, none⟩ u3).drew := fun u0 u1 u2 u3 =>
    ((((hbw.setCell (by simp; omega) _).setCell (by simp) _).setCell (by simp) _).setCell (by simp) _).drew
  have hr5 : ∀ (A : Option Addr) (n c : Nat) (zs : List Int), RI w2 A n c zs → (∀ b off, A = some ⟨b, off, none⟩ → b ≠ B ∧ w.heap.size + 1 < b) → ∀ u0 u1 u2 u3 : Value, RI ((((w2.setCell ⟨B, 1, none⟩ u0).setCell ⟨w.heap.size + 1, 0, none⟩ u1).setCell ⟨w.heap.size + 1, 1, none⟩ u2).setCell ⟨w.heap.size + 1, 2, none⟩ u3).drew A n c zs := fun A n c zs hr hp u0 u1 u2 u3 =>
    ((((hr.setOther u0 (p := ⟨B, 1, none⟩) fun b off e => (hp b off e).1).setOther u1 (p := ⟨w.heap.size + 1, 0, none⟩) fun b off e => by have := (hp b off e).2; simp; omega).setOther u2 (p := ⟨w.heap.size + 1, 1, none⟩) fun b off e => by have := (hp b off e).2; simp; omega).setOther u3 (p := ⟨w.heap.size + 1, 2, none⟩) fun b off e => by have := (hp b off e).2; simp; omega).drew
  have HB5 := Lib.hid hb5
  have HR5 := Lib.hid hr5
  clear hb5 hr5
  have h3r : ∀ b off, A3 = some ⟨b, off, none⟩ → b ≠ B ∧ w.heap.size + 1 < b := fun b off e => by
    subst e
    refine ⟨fun e => HN3.out (by rw [e]; rfl), ?_⟩
    have := HO3.out b rfl
    simp at this
    omega
  have H3R := Lib.hid h3r
  clear h3r
  by_cases hc41 : c4 = 1
  · go_wp2_with fail
    go_region
    go_wp2_with fail
    have e4 := hcut.out
    rw [if_pos hc41, show c4 - 1 = 0 by omega] at e4
    refine bodyPost_ret (v := .tuple #[.agg #[.slice A3 act.length c3, .slice (some ⟨b4, off4, none⟩) (l.length - 1) 0, .int .i64 y], .int .i64 (elt l 0), .int .i64 0]) (by simp [results, Try.results23, go_sem, hcc, hz]) rfl ?_
    exact ⟨A3, c3, _, _, rfl, HR5.out _ _ _ _ hr3.out H3R.out _ _ _ _, HR5.out _ _ _ _ e4 (fun b off e => by cases e; exact ⟨hne, hb42⟩) _ _ _ _, HB5.out _ _ _ _, fun b off e => by have := (H3R.out b off e).2; omega, fun b off e => by cases e; omega⟩
  · go_wp2_with fail
    go_region
    go_wp2_with fail
    have e4 := hcut.out
    rw [if_neg hc41] at e4
    refine bodyPost_ret (v := .tuple #[.agg #[.slice A3 act.length c3, .slice (some ⟨b4, off4 + 1, none⟩) (l.length - 1) (c4 - 1), .int .i64 y], .int .i64 (elt l 0), .int .i64 0]) (by simp [results, Try.results23, go_sem, hcc, hz]) rfl ?_
    exact ⟨A3, c3, _, _, rfl, HR5.out _ _ _ _ hr3.out H3R.out _ _ _ _, HR5.out _ _ _ _ e4 (fun b off e => by cases e; exact ⟨hne, hb42⟩) _ _ _ _, HB5.out _ _ _ _, fun b off e => by have := (H3R.out b off e).2; omega, fun b off e => by cases e; omega⟩

set_option maxHeartbeats 4000000 in
theorem push_fr (v : Int) (h : RI w A n c act) (h' : RI w A' n' c' l) (hk : Valid act l y) (hv : 0 < v ∧ v < act.length) (hm : v ∉ l) (hlen : l.length ≤ 1000000) :
    Calls Try.prog 25 #[.agg #[.slice A n c, .slice A' n' c', .int .i64 y], .int .i64 v] w (PushFr act l v y w) := by
  have hla := h.big
  have hll := h'.big
  rw [← h.len] at hla
  rw [← h'.len] at hll
  have H := Lib.hid h
  have H' := Lib.hid h'
  have HV := Lib.hid hk
  have HM := Lib.hid hm
  have hv1 : knownB act.length v = true := knownB_iff.2 ⟨by omega, by omega⟩
  have HKN := Lib.hid hv1
  clear h h' hk hv1 hm
  go_enter Try.func25, Try.ntmps25
  go_wp2_with fail
  refine (begun_ok A n c act A' n' c' l y _ ((H.out.alloc _).alloc _) ((H'.out.alloc _).alloc _) ((valid_iff _ _ _).2 HV.out)).mono ?_
  rintro e w2 ⟨B, A3, c3, A4, c4, rfl, hB, hblk, ho3, ho4, hdis, hb2⟩
  have hbw := below2 _ _ _ _ hb2
  have hz : w.heap.size + 1 < w2.heap.size := by have := hb2.size; simp at this; omega
  have hrb : w2.heap[w.heap.size + 1]? = some (.cells #[.slice none 0 0, .slice none 0 0, .int .i64 0] 24 (0, 0)) := by
    refine (hb2.block (w.heap.size + 1) (by simp)).trans ?_
    have e := heap_alloc_new (w.alloc (.cells #[.slice A n c, .slice A' n' c', .int .i64 y] 24)) (.cells #[.slice none 0 0, .slice none 0 0, .int .i64 0] 24)
    rwa [show (w.alloc (.cells #[.slice A n c, .slice A' n' c', .int .i64 y] 24)).heap.size = w.heap.size + 1 by simp] at e
  have hs2 : ((w.alloc (.cells #[.slice A n c, .slice A' n' c', .int .i64 y] 24)).alloc (.cells #[.slice none 0 0, .slice none 0 0, .int .i64 0] 24)).heap.size = w.heap.size + 2 := by simp
  rw [hs2] at hB ho3 ho4
  have HRB := Lib.hid hrb
  have HBK := Lib.hid hblk
  have HO3 := Lib.hid ho3
  have HO4 := Lib.hid ho4
  have HDIS := Lib.hid hdis
  have hc0 : w2.cell? ⟨B, 0, none⟩ = some (.slice A3 act.length c3) := by simp [World.cell?, hblk]
  have hc1 : w2.cell? ⟨B, 1, none⟩ = some (.slice A4 l.length c4) := by simp [World.cell?, hblk]
  have hBl : B < w2.heap.size := lt_of_block hblk
  clear hb2 hblk ho3 ho4 hdis hrb hs2
  go_wp2_with fail
  refine (known_any B _ _ _ _ _ hc0).mono ?_
  rintro e w3 ⟨rfl, rfl⟩
  rw [HKN.out]
  go_wp2_with fail
  refine (search_any B A3 act.length c3 act A4 l.length c4 l v _ hBl hc0 (RI.of_own HO3.out hla) (RI.of_own HO4.out hll) HV.out.dom ⟨by omega, hv.2⟩ HV.out.sorted).mono ?_
  rintro e w3 ⟨i, b, rfl, hi, hlo, hhi, hbb, hb3⟩
  have hb : b = false := by
    cases b
    · rfl
    · exact absurd ((found_mem HV.out hlo hhi).1 (hbb.1 rfl)) HM.out
  subst hb
  have hr3 : w3.heap[w.heap.size + 1]? = some (.cells #[.slice none 0 0, .slice none 0 0, .int .i64 0] 24 (0, 0)) := (hb3.block _ hz).trans HRB.out
  have hk3 : w3.heap[B]? = some (.cells #[.slice A3 act.length c3, .slice A4 l.length c4, .int .i64 y] 45 (0, 0)) := (hb3.block _ hBl).trans HBK.out
  have hd1 : w3.cell? ⟨B, 1, none⟩ = some (.slice A4 l.length c4) := by simp [World.cell?, hk3]
  have hbl3 : Below w.heap.size w w3 := hbw.trans (hb3.mono (by omega))
  have HLO := Lib.hid hlo
  have HHI := Lib.hid hhi
  have HR3 := Lib.hid hr3
  have HK3 := Lib.hid hk3
  have HP3 := Lib.hid (own_below HO3.out hb3)
  have HP4 := Lib.hid (own_below HO4.out hb3)
  have hBl3 : B < w3.heap.size := lt_of_block hk3
  have hz3 : w.heap.size + 1 < w3.heap.size := lt_of_block hr3
  clear hlo hhi hbb hb3 hr3 hk3 hc0 hc1
  go_wp2_with fail
  have hne4 := own_ne HP4.out HK3.out (by decide)
  have hne4R := own_ne HP4.out HR3.out (by decide)
  refine (insert_any _ l i v w3.heap.size (heap_alloc_new w3 _) (w.heap.size + 2) A4 c4 (own_below HP4.out ((Below.refl _ _).alloc (Nat.le_refl _) _)) (Or.inl (by simp)) (fun e => by have := (own_lt HP4.out e).2; omega) (by omega) hi).mono ?_
  rintro e w5 ⟨A5, c5, rfl, hri, hgr, hloc⟩
  have hBw : B < (w3.alloc (.cells #[.int .i64 v] 3)).heap.size := by simp; omega
  have hRw : w.heap.size + 1 < (w3.alloc (.cells #[.int .i64 v] 3)).heap.size := by simp; omega
  have hk5 : w5.heap[B]? = some (.cells #[.slice A3 act.length c3, .slice A4 l.length c4, .int .i64 y] 45 (0, 0)) := (hgr.block B hBw (fun e => hne4 e.symm)).trans ((Below.heap_alloc _ _ _ hBl3).trans HK3.out)
  have hr5 : w5.heap[w.heap.size + 1]? = some (.cells #[.slice none 0 0, .slice none 0 0, .int .i64 0] 24 (0, 0)) := (hgr.block _ hRw (fun e => hne4R e.symm)).trans ((Below.heap_alloc _ _ _ hz3).trans HR3.out)
  have hbl5 : Below w.heap.size w w5 := (hbl3.alloc (by omega) _).grown hgr (by simp; omega) (fun g hg => by have := (own_lt HP4.out hg).1; omega)
  have hd1' : w5.cell? ⟨B, 0, none⟩ = some (.slice A3 act.length c3) := by simp [World.cell?, hk5]
  have hd2 : w5.cell? ⟨B, 1, none⟩ = some (.slice A4 l.length c4) := by simp [World.cell?, hk5]
  have hd3 : w5.cell? ⟨B, 2, none⟩ = some (.int .i64 y) := by simp [World.cell?, hk5]
  have hdf : w5.frozen? ⟨B, 1, none⟩ = false := by simp [World.frozen?, hk5]
  have hr0 : w5.cell? ⟨w.heap.size + 1, 0, none⟩ = some (.slice none 0 0) := by simp [World.cell?, hr5]
  have hr1 : w5.cell? ⟨w.heap.size + 1, 1, none⟩ = some (.slice none 0 0) := by simp [World.cell?, hr5]
  have hr2 : w5.cell? ⟨w.heap.size + 1, 2, none⟩ = some (.int .i64 0) := by simp [World.cell?, hr5]
  have hf0 : w5.frozen? ⟨w.heap.size + 1, 0, none⟩ = false := by simp [World.frozen?, hr5]
  have hf1 : w5.frozen? ⟨w.heap.size + 1, 1, none⟩ = false := by simp [World.frozen?, hr5]
  have hf2 : w5.frozen? ⟨w.heap.size + 1, 2, none⟩ = false := by simp [World.frozen?, hr5]
  have hBR : B ≠ w.heap.size + 1 := by omega
  have hBR2 : w.heap.size + 1 ≠ B := by omega
  have hA5 : ∀ b off, A5 = some ⟨b, off, none⟩ → b ≠ B ∧ b ≠ w.heap.size + 1 := fun b off e => by
    rcases hloc b off e with h1 | h1
    · exact ⟨fun e2 => hne4 (by rw [h1, e2]), fun e2 => hne4R (by rw [h1, e2])⟩
    · exact ⟨by omega, by omega⟩
  have hra : RI w5 A3 act.length c3 act := (RI.of_own (own_below HP3.out ((Below.refl _ _).alloc (Nat.le_refl _) _)) hla).below' hgr (fun b off e => by
    intro e2
    exact HDIS.out b (by rw [e]; rfl) e2)
  have hF5 : Fr w A5 := fun b off e => by
    rcases hloc b off e with h1 | h1
    · have := (own_lt HP4.out h1).1; omega
    · simp at h1; omega
  have hF3 : Fr w A3 := fun b off e => by have := (own_lt HP3.out (g := b) (by rw [e]; rfl)).1; omega
  have HF5 := Lib.hid hF5
  have HF3 := Lib.hid hF3
  clear hF5 hF3
  have hA3 : ∀ b off, A3 = some ⟨b, off, none⟩ → b ≠ B ∧ b ≠ w.heap.size + 1 := fun b off e => ⟨fun e2 => own_ne HP3.out HK3.out (by decide) (by rw [e, e2]; rfl), fun e2 => own_ne HP3.out HR3.out (by decide) (by rw [e, e2]; rfl)⟩
  have HRA := Lib.hid hra
  have HRI := Lib.hid hri
  have HA5 := Lib.hid hA5
  have HA3 := Lib.hid hA3
  clear hgr hloc hk5 hr5 hra hri hA5 hA3 hne4 hne4R hBw hRw hd1
  go_wp2_with fail
  refine bodyPost_ret (v := .tuple #[.agg #[.slice A3 act.length c3, .slice A5 (l.length + 1) c5, .int .i64 y], .int .i64 0]) (by simp [results, Try.results25, go_sem, hr0, hr1, hr2]) rfl ?_
  refine ⟨i, hi, HLO.out, HHI.out, A3, c3, A5, c5, by rw [insAt_len _ _ _ hi], ?_, ?_, ?_, HF3.out, HF5.out⟩
  · exact (HRA.out.setOther _ (p := ⟨B, 1, none⟩) fun b off e => (HA3.out b off e).1).keep3 (fun b off e => (HA3.out b off e).2)
  · rw [insAt_len _ _ _ hi]
    exact (HRI.out.setOther _ (p := ⟨B, 1, none⟩) fun b off e => (HA5.out b off e).1).keep3 (fun b off e => (HA5.out b off e).2)
  · exact (((hbl5.setCell (by simp; omega) _).setCell (by simp) _).setCell (by simp) _).setCell (by simp) _
end

end Go.Proofs.Ythfadkilffmmlaa
