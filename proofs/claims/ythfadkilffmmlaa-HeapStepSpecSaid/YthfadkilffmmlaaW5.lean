/-
  Contracts of Pop. No condition.
-/
import Derived.Test.YthfadkilffmmlaaW4
import Derived.RegionTactic
import Derived.BigRegion
namespace Go.Proofs.Ythfadkilffmmlaa
open Go.RowKit
set_option linter.unusedVariables false
set_option linter.unusedSimpArgs false

theorem own_ne {w : World} {base : Nat} {e t : TypeId} {size : Nat} {v : Value} {n B : Nat} {xs : List Value} {cs : Array Value} (h : w.ownsRow base e size v n xs) (hb : w.heap[B]? = some (.cells cs t (0, 0))) (hne : e ≠ t) : v.ownBlock ≠ some B := by
  rcases h.2 with ⟨rfl, _⟩ | ⟨g', cap, cur, rfl, _, hh, _⟩
  · simp [Value.ownBlock]
  · intro he
    have : g' = B := by simpa [Value.ownBlock] using he
    subst this
    rw [hh] at hb
    injection hb with hb
    injection hb with _ ht
    exact hne ht
theorem RI.cut1 {w : World} {b off n c : Nat} {zs : List Int} (h : RI w (some ⟨b, off, none⟩) n c zs) (hn : 0 < n) :
    RI w (if c = 1 then some ⟨b, off, none⟩ else some ⟨b, off + 1, none⟩) (n - 1) (c - 1) zs.tail := by
  have hl := h.len
  have hc := h.cap
  have hb := h.big
  have hm := h.cmax
  refine ⟨by simp [hl], by omega, by omega, by omega, fun h0 => ?_⟩
  obtain ⟨b', off', he, hlt, hcs⟩ := h.cells hn
  simp only [Option.some.injEq, Addr.mk.injEq] at he
  obtain ⟨rfl, rfl, _⟩ := he
  rw [if_neg (by omega)]
  refine ⟨b, off + 1, rfl, hlt, fun j hj => ?_⟩
  have := hcs (j + 1) (by omega)
  rw [show off + (j + 1) = off + 1 + j by omega] at this
  rw [this]
  simp [elt, List.getD_eq_getElem?_getD]
theorem RI.setOther {w : World} {A : Option Addr} {n c : Nat} {zs : List Int} (h : RI w A n c zs) {p : Addr} (u : Value) (hp : ∀ b off, A = some ⟨b, off, none⟩ → b ≠ p.block) : RI (w.setCell p u) A n c zs :=
  ⟨h.len, h.cap, h.big, h.cmax, fun hn => by
    obtain ⟨b, off, rfl, hlt, hc⟩ := h.cells hn
    refine ⟨b, off, rfl, by simpa [World.setCell] using hlt, fun j hj => ?_⟩
    rw [World.cell?_setCell_other _ _ _ _ (by intro e; exact hp b off rfl (by rw [e]))]
    exact hc j hj⟩

section
variable (A : Option Addr) (n c : Nat) (act : List Int) (A' : Option Addr) (n' c' : Nat) (l : List Int) (y : Int) (w : World)

abbrev zeroH : Value := .agg #[.slice none 0 0, .slice none 0 0, .int .i64 0]

set_option maxHeartbeats 1000000 in
theorem pop_bad (h : RI w A n c act) (h' : RI w A' n' c' l) (hk : checkB act l y = false) :
    Calls Try.prog 23 #[.agg #[.slice A n c, .slice A' n' c', .int .i64 y]] w fun e w' => e = .returned (.tuple #[zeroH, .int .i64 0, .int .i64 1]) ∧ Below w.heap.size w w' := by
  have H := Lib.hid h
  have H' := Lib.hid h'
  have HK := Lib.hid hk
  clear h h' hk
  go_enter Try.func23, Try.ntmps23
  go_wp2_with fail
  refine (begun_bad A n c act A' n' c' l y _ ((H.out.alloc _).alloc _) ((H'.out.alloc _).alloc _) HK.out).mono ?_
  rintro e w2 ⟨rfl, hb2⟩
  have hbw := below2 _ _ _ _ hb2
  obtain ⟨hcc, hff⟩ := bcell hb2
  have hz : w.heap.size + 1 < w2.heap.size := by have := hb2.size; simp at this; omega
  clear hb2
  go_wp2_with fail
  refine bodyPost_ret (v := .tuple #[zeroH, .int .i64 0, .int .i64 1]) (by simp [results, Try.results23, go_sem, hcc, hz]) rfl ⟨rfl, ?_⟩
  exact ((hbw.setCell (by simp) _).setCell (by simp) _).setCell (by simp) _

set_option maxHeartbeats 1000000 in
theorem pop_none (h : RI w A n c act) (h' : RI w A' n' c' l) (hk : checkB act l y = true) (hl : l.length = 0) :
    Calls Try.prog 23 #[.agg #[.slice A n c, .slice A' n' c', .int .i64 y]] w fun e w' => e = .returned (.tuple #[zeroH, .int .i64 0, .int .i64 270]) ∧ Below w.heap.size w w' := by
  have H := Lib.hid h
  have H' := Lib.hid h'
  have HK := Lib.hid hk
  have HL := Lib.hid hl
  clear h h' hk hl
  go_enter Try.func23, Try.ntmps23
  go_wp2_with fail
  refine (begun_ok A n c act A' n' c' l y _ ((H.out.alloc _).alloc _) ((H'.out.alloc _).alloc _) HK.out).mono ?_
  rintro e w2 ⟨B, A3, c3, A4, c4, rfl, hB, hblk, ho3, ho4, hdis, hb2⟩
  rw [HL.out] at hblk
  have hbw := below2 _ _ _ _ hb2
  obtain ⟨hcc, hff⟩ := bcell hb2
  have hz : w.heap.size + 1 < w2.heap.size := by have := hb2.size; simp at this; omega
  have hc1 : w2.cell? ⟨B, 1, none⟩ = some (.slice A4 0 c4) := by simp [World.cell?, hblk]
  clear hb2 hblk ho3 ho4 hdis
  go_wp2_with fail
  refine bodyPost_ret (v := .tuple #[zeroH, .int .i64 0, .int .i64 270]) (by simp [results, Try.results23, go_sem, hcc, hz]) rfl ⟨rfl, ?_⟩
  exact ((hbw.setCell (by simp) _).setCell (by simp) _).setCell (by simp) _

def PopOk (act l : List Int) (y : Int) (w : World) (e : Ending) (w' : World) : Prop :=
  ∃ (A : Option Addr) (c : Nat) (A' : Option Addr) (c' : Nat), e = .returned (.tuple #[.agg #[.slice A act.length c, .slice A' (l.length - 1) c', .int .i64 y], .int .i64 (elt l 0), .int .i64 0]) ∧
    RI w' A act.length c act ∧ RI w' A' (l.length - 1) c' l.tail ∧ Below w.heap.size w w'

set_option maxHeartbeats 2000000 in
theorem pop_ok (h : RI w A n c act) (h' : RI w A' n' c' l) (hk : checkB act l y = true) (hl : 0 < l.length) :
    Calls Try.prog 23 #[.agg #[.slice A n c, .slice A' n' c', .int .i64 y]] w (PopOk act l y w) := by
  have hla := h.big
  have hll := h'.big
  rw [← h.len] at hla
  rw [← h'.len] at hll
  have H := Lib.hid h
  have H' := Lib.hid h'
  have HK := Lib.hid hk
  clear h h' hk
  go_enter Try.func23, Try.ntmps23
  go_wp2_with fail
  refine (begun_ok A n c act A' n' c' l y _ ((H.out.alloc _).alloc _) ((H'.out.alloc _).alloc _) HK.out).mono ?_
  rintro e w2 ⟨B, A3, c3, A4, c4, rfl, hB, hblk, ho3, ho4, hdis, hb2⟩
  have hr3 := Lib.hid (RI.of_own ho3 hla)
  have hr4 := Lib.hid (RI.of_own ho4 hll)
  have hbw := below2 _ _ _ _ hb2
  obtain ⟨hcc, hff⟩ := bcell hb2
  have hz : w.heap.size + 1 < w2.heap.size := by have := hb2.size; simp at this; omega
  have hBl : B < w2.heap.size := by
    rcases Nat.lt_or_ge B w2.heap.size with hlt | hge
    · exact hlt
    · rw [Array.getElem?_eq_none hge] at hblk; cases hblk
  have hc0 : w2.cell? ⟨B, 0, none⟩ = some (.slice A3 act.length c3) := by simp [World.cell?, hblk]
  have hc1 : w2.cell? ⟨B, 1, none⟩ = some (.slice A4 l.length c4) := by simp [World.cell?, hblk]
  have hc2 : w2.cell? ⟨B, 2, none⟩ = some (.int .i64 y) := by simp [World.cell?, hblk]
  have hf1 : w2.frozen? ⟨B, 1, none⟩ = false := by simp [World.frozen?, hblk]
  obtain ⟨b4, off4, rfl, hb4, hcs4⟩ := hr4.out.cells hl
  have hcell := hcs4 0 hl
  simp only [Nat.add_zero] at hcell
  have hcap := hr4.out.cap
  have hne4 := own_ne ho4 hblk (by decide)
  have hne3 := own_ne ho3 hblk (by decide)
  have hne : b4 ≠ B := fun e => hne4 (by rw [e]; rfl)
  have hl1 : (1 : Int) ≤ l.length := by omega
  have hl2 : ((l.length : Int) == 0) = false := beq_eq_false_iff_ne.2 (by omega)
  have HN3 := Lib.hid hne3
  have HB := Lib.hid hB
  have hB2 : w.heap.size + 1 < B := by simp at hB; omega
  have hBb : w.heap.size + 1 ≠ B := by omega
  have hbb := (own_lt ho4 (g := b4) rfl).1
  have hb42 : w.heap.size + 1 < b4 := by simp at hbb; omega
  have HO3 := Lib.hid (fun g hg => (own_lt ho3 (g := g) hg).1)
  clear hb2 hblk ho3 ho4 hdis hcs4 hne3 hne4 hB hbb
  have hcut := Lib.hid (hr4.out.cut1 hl)
  have hb5 : ∀ u0 u1 u2 u3 : Value, Below w.heap.size w ((((w2.setCell ⟨B, 1, none⟩ u0).setCell ⟨w.heap.size + 1, 0, none⟩ u1).setCell ⟨w.heap.size + 1, 1, none⟩ u2).setCell ⟨w.heap.size + 1, 2, none⟩ u3).drew := fun u0 u1 u2 u3 =>
    ((((hbw.setCell (by simp; omega) _).setCell (by simp) _).setCell (by simp) _).setCell (by simp) _).drew
  have hr5 : ∀ (A : Option Addr) (n c : Nat) (zs : List Int), RI w2 A n c zs → (∀ b off, A = some ⟨b, off, none⟩ → b ≠ B ∧ w.heap.size + 1 < b) → ∀ u0 u1 u2 u3 : Value, RI ((((w2.setCell ⟨B, 1, none⟩ u0).setCell ⟨w.heap.size + 1, 0, none⟩ u1).setCell ⟨w.heap.size + 1, 1, none⟩ u2).setCell ⟨w.heap.size + 1, 2, none⟩ u3).drew A n c zs := fun A n c zs hr hp u0 u1 u2 u3 =>
    ((((hr.setOther u0 (p := ⟨B, 1, none⟩) fun b off e => (hp b off e).1).setOther u1 (p := ⟨w.heap.size + 1, 0, none⟩) fun b off e => by have := (hp b off e).2; simp; omega).setOther u2 (p := ⟨w.heap.size + 1, 1, none⟩) fun b off e => by have := (hp b off e).2; simp; omega).setOther u3 (p := ⟨w.heap.size + 1, 2, none⟩) fun b off e => by have := (hp b off e).2; simp; omega).drew
  have HB5 := Lib.hid hb5
  have HR5 := Lib.hid hr5
  clear hb5 hr5
  have h3r : ∀ b off, A3 = some ⟨b, off, none⟩ → b ≠ B ∧ w.heap.size + 1 < b := fun b off e => by
    subst e
    refine ⟨fun e => HN3.out (by rw [e]; rfl), ?_⟩
    have := HO3.out b rfl
    simp at this
    omega
  have H3R := Lib.hid h3r
  clear h3r
  by_cases hc41 : c4 = 1
  · go_wp2_with fail
    go_region
    go_wp2_with fail
    have e4 := hcut.out
    rw [if_pos hc41, show c4 - 1 = 0 by omega] at e4
    refine bodyPost_ret (v := .tuple #[.agg #[.slice A3 act.length c3, .slice (some ⟨b4, off4, none⟩) (l.length - 1) 0, .int .i64 y], .int .i64 (elt l 0), .int .i64 0]) (by simp [results, Try.results23, go_sem, hcc, hz]) rfl ?_
    exact ⟨A3, c3, _, _, rfl, HR5.out _ _ _ _ hr3.out H3R.out _ _ _ _, HR5.out _ _ _ _ e4 (fun b off e => by cases e; exact ⟨hne, hb42⟩) _ _ _ _, HB5.out _ _ _ _⟩
  · go_wp2_with fail
    go_region
    go_wp2_with fail
    have e4 := hcut.out
    rw [if_neg hc41] at e4
    refine bodyPost_ret (v := .tuple #[.agg #[.slice A3 act.length c3, .slice (some ⟨b4, off4 + 1, none⟩) (l.length - 1) (c4 - 1), .int .i64 y], .int .i64 (elt l 0), .int .i64 0]) (by simp [results, Try.results23, go_sem, hcc, hz]) rfl ?_
    exact ⟨A3, c3, _, _, rfl, HR5.out _ _ _ _ hr3.out H3R.out _ _ _ _, HR5.out _ _ _ _ e4 (fun b off e => by cases e; exact ⟨hne, hb42⟩) _ _ _ _, HB5.out _ _ _ _⟩
end

end Go.Proofs.Ythfadkilffmmlaa
