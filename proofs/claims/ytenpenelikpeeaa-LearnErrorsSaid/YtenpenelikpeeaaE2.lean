/-
  The reference function latest of layer 20. No condition.
-/
import Derived.Test.YtenpenelikpeeaaE1
namespace Go.Proofs.Ytenpenelikpeeaa
open Go.RowKit Go.Shelf
set_option linter.unusedVariables false
set_option linter.unusedSimpArgs false

theorem latT_snoc (ts : List Stp) (n : Int) (l : List Int) (y : Int) : latT ts n (l ++ [y]) = if lvlT ts y = n then (if (latT ts n l).2 = 0 ∨ plcI ts (-(latT ts n l).1) < plcI ts (-y) then y else (latT ts n l).1, (latT ts n l).2 + 1) else latT ts n l := latG_snoc ts n y l 0 0
theorem latT_okl {ts : List Stp} {n : Int} {l : List Int} (h : Okl l) : -65536 ≤ (latT ts n l).1 ∧ (latT ts n l).1 ≤ 65536 := by
  rcases Nat.eq_zero_or_pos (hiN ts n l) with h0 | h0
  · have : ∀ (l : List Int), hiN ts n l = 0 → (latG ts n l 0 0).1 = 0 := by
      intro l
      induction l with
      | nil => intro _; rfl
      | cons y l ih =>
        intro hh
        rw [latG]
        unfold hiN at hh ih
        rw [List.filter_cons] at hh
        by_cases hy : lvlT ts y = n
        · rw [if_pos (by simpa using hy)] at hh; simp at hh
        · rw [if_neg (by simpa using hy)] at hh
          rw [if_neg hy]; exact ih hh
    have := this l h0
    unfold latT
    omega
  · have := h _ (latT_max h0).1
    omega

set_option maxRecDepth 100000 in
set_option maxHeartbeats 1000000 in
theorem latest_any (A : Option Addr) (n c : Nat) (ts : List Stp) (A' : Option Addr) (n' c' : Nat) (l : List Int) (lv : Int) (w : World) (h : RS w A n c ts) (hn : n ≤ 1000000) (h' : RI w A' n' c' l) (hz : Okl l) (hd : Under ts ts.length l) (hn' : n' ≤ 2000000) :
    Calls Try.prog 41 #[.slice A n c, .slice A' n' c', .int .i64 lv] w fun e w' => e = .returned (.tuple #[.int .i64 (latT ts lv l).1, .int .i64 (latT ts lv l).2]) ∧ Below w.heap.size w w' := by
  have H := Lib.hid h
  have H' := Lib.hid h'
  have HZ := Lib.hid hz
  have HD := Lib.hid hd
  clear h h' hz hd
  obtain ⟨rx, hrx⟩ : ∃ rx, (latT ts lv l).1 = rx := ⟨_, rfl⟩
  obtain ⟨rm, hrm⟩ : ∃ rm, (latT ts lv l).2 = rm := ⟨_, rfl⟩
  rw [hrx, hrm]
  have HRX := Lib.hid hrx
  have HRM := Lib.hid hrm
  clear hrx hrm
  go_enter Try.func41, Try.ntmps41
  go_wp2
  go_loopw [8, 9, 10] (fun s8 s9 s10 W => ∃ k : Nat, k ≤ n' ∧ s10 = .int .i64 k ∧ s8 = .int .i64 (latT ts lv (l.take k)).1 ∧ s9 = .int .i64 (latT ts lv (l.take k)).2 ∧ Below w.heap.size w W) (fun _ _ i _ => n' - (intOf i).toNat)
  case atStart => exact ⟨0, Nat.zero_le _, rfl, rfl, rfl, Below.refl _ _⟩
  case round =>
    obtain ⟨k, hk, rfl, rfl, rfl, hb⟩ := hrel
    have HB := Lib.hid hb
    clear hb
    by_cases hlt : k < n'
    · have hl : k < l.length := by rw [H'.out.len]; exact hlt
      obtain ⟨b, off, rfl, hbl, hc⟩ := (H'.out.below HB.out).cells (by omega)
      have hck := hc k hlt
      clear hc
      have hx := HZ.out.at hl
      have hdx := HD.out _ (elt_mem hl)
      have E1 : Hid (latT ts lv (l.take (k + 1)) = if lvlT ts (elt l k) = lv then (if (latT ts lv (l.take k)).2 = 0 ∨ plcI ts (-(latT ts lv (l.take k)).1) < plcI ts (-(elt l k)) then elt l k else (latT ts lv (l.take k)).1, (latT ts lv (l.take k)).2 + 1) else latT ts lv (l.take k)) := Lib.hid (by rw [take_snoc l k hl, latT_snoc])
      have ho := latT_okl (ts := ts) (n := lv) (l := l.take k) (fun y hy => HZ.out y (List.mem_of_mem_take hy))
      have hm : (latT ts lv (l.take k)).2 ≤ k := by
        rw [latT_count]; unfold hiN
        refine Nat.le_trans (List.length_filter_le _ _) ?_
        rw [List.length_take]; omega
      clear hl
      generalize elt l k = x at *
      generalize latT ts lv (l.take k) = q at *
      obtain ⟨qx, qm⟩ := q
      dsimp only at *
      obtain ⟨r, hr⟩ : ∃ r, lvlT ts x = r := ⟨_, rfl⟩
      have HR := Lib.hid hr
      rw [hr] at E1
      have hng := lit_neg' hx.2.1 hx.2.2
      have hng2 := lit_neg' ho.1 ho.2
      have hlev := fun W (hS : RS W A n c ts) => level20_val r A n c ts x W hS hn hx.2.1 hx.2.2 hdx HR.out
      clear hr hx hdx
      by_cases hrl : r = lv
      · have hrb : (r != lv) = false := by simpa using hrl
        obtain ⟨px, hpx⟩ : ∃ px, plcI ts (-x) = px := ⟨_, rfl⟩
        obtain ⟨pq, hpq⟩ : ∃ pq, plcI ts (-qx) = pq := ⟨_, rfl⟩
        rw [hpx, hpq] at E1
        have HPX := Lib.hid hpx
        have HPQ := Lib.hid hpq
        have hpl := fun (y r : Int) W (hS : RS W A n c ts) (e : plcI ts y = r) => place_val r A n c ts y W hS hn e
        clear hpx hpq
        by_cases hq0 : qm = 0
        · subst hq0
          have E2 : Hid (latT ts lv (l.take (k + 1)) = (x, 1)) := Lib.hid (by rw [E1.out, if_pos hrl, if_pos (Or.inl rfl)])
          clear hrl
          go_wp2_with (go_at_call 44; refine (hlev _ (H.out.below HB.out)).mono ?_; clear hlev; rintro e w2 ⟨rfl, hb2⟩; have HB2 := Lib.hid (HB.out.trans (hb2.mono HB.out.size)); have hck2 := (hb2.cell (p := ⟨b, off + k, none⟩) hbl).trans hck; clear hb2)
          go_roundw
          case rel => exact ⟨k + 1, by omega, by go_num, by rw [E2.out], by rw [E2.out]; rfl, HB2.out⟩
          case measure => simp [intOf]; omega
        · have hqb : ((qm : Int) == 0) = false := by simp; omega
          by_cases hpp : pq < px
          · have E2 : Hid (latT ts lv (l.take (k + 1)) = (x, qm + 1)) := Lib.hid (by rw [E1.out, if_pos hrl, if_pos (Or.inr hpp)])
            clear hrl
            go_wp2_with (first
              | (go_at_call 44; refine (hlev _ (H.out.below HB.out)).mono ?_; clear hlev; rintro e w2 ⟨rfl, hb2⟩; have HB2 := Lib.hid (HB.out.trans (hb2.mono HB.out.size)); have hck2 := (hb2.cell (p := ⟨b, off + k, none⟩) hbl).trans hck; clear hb2)
              | (go_at_call 43; ((with_reducible refine (hpl (-x) px _ (H.out.below HB2.out) HPX.out).mono ?_)); rintro e w' ⟨rfl, rfl⟩)
              | (go_at_call 43; ((with_reducible refine (hpl (-qx) pq _ (H.out.below HB2.out) HPQ.out).mono ?_)); rintro e w' ⟨rfl, rfl⟩))
            go_roundw
            case rel => exact ⟨k + 1, by omega, by go_num, by rw [E2.out], by rw [E2.out]; go_num, HB2.out⟩
            case measure => simp [intOf]; omega
          · have E2 : Hid (latT ts lv (l.take (k + 1)) = (qx, qm + 1)) := Lib.hid (by rw [E1.out, if_pos hrl, if_neg (by omega)])
            clear hrl
            go_wp2_with (first
              | (go_at_call 44; refine (hlev _ (H.out.below HB.out)).mono ?_; clear hlev; rintro e w2 ⟨rfl, hb2⟩; have HB2 := Lib.hid (HB.out.trans (hb2.mono HB.out.size)); have hck2 := (hb2.cell (p := ⟨b, off + k, none⟩) hbl).trans hck; clear hb2)
              | (go_at_call 43; ((with_reducible refine (hpl (-x) px _ (H.out.below HB2.out) HPX.out).mono ?_)); rintro e w' ⟨rfl, rfl⟩)
              | (go_at_call 43; ((with_reducible refine (hpl (-qx) pq _ (H.out.below HB2.out) HPQ.out).mono ?_)); rintro e w' ⟨rfl, rfl⟩))
            go_roundw
            case rel => exact ⟨k + 1, by omega, by go_num, by rw [E2.out], by rw [E2.out]; go_num, HB2.out⟩
            case measure => simp [intOf]; omega
      · have hrb : (r != lv) = true := by simpa using hrl
        have E2 : Hid (latT ts lv (l.take (k + 1)) = (qx, qm)) := Lib.hid (by rw [E1.out, if_neg hrl])
        clear hrl
        go_wp2_with (go_at_call 44; refine (hlev _ (H.out.below HB.out)).mono ?_; clear hlev; rintro e w2 ⟨rfl, hb2⟩; have HB2 := Lib.hid (HB.out.trans (hb2.mono HB.out.size)); clear hb2)
        go_roundw
        case rel => exact ⟨k + 1, by omega, by go_num, by rw [E2.out], by rw [E2.out], HB2.out⟩
        case measure => simp [intOf]; omega
    · have E : Hid (latT ts lv (l.take k) = (rx, rm)) := Lib.hid (by rw [List.take_of_length_le (by rw [H'.out.len]; omega), ← HRX.out, ← HRM.out])
      rw [E.out]
      go_wp2
      go_ret2
      exact ⟨rfl, HB.out⟩

end Go.Proofs.Ytenpenelikpeeaa
