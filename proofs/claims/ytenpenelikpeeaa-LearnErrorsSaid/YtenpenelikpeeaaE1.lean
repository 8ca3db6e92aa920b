/-
  The reference functions more, without, last of layer 20. No condition.
-/
import Derived.Test.YtenpenelikpeeaaP1
namespace Go.Proofs.Ytenpenelikpeeaa
open Go.RowKit Go.Shelf
set_option linter.unusedVariables false
set_option linter.unusedSimpArgs false

theorem own_lower {w : World} {b b' : Nat} {e : TypeId} {size : Nat} {v : Value} {n : Nat} {xs : List Value} (h : w.ownsRow b e size v n xs) (hb : b' ≤ b) : w.ownsRow b' e size v n xs :=
  ⟨h.1, h.2.imp id fun ⟨g, cap, cur, h1, h2, h3⟩ => ⟨g, cap, cur, h1, Nat.le_trans hb h2, h3⟩⟩

/-- a row of the call's own as a result; all that lay in W0 lies as it did -/
def OwnR (W0 : World) (zs : List Int) (e : Ending) (w' : World) : Prop :=
  ∃ A c, e = .returned (.slice A zs.length c) ∧ w'.ownsRow W0.heap.size 3 1 (.slice A zs.length c) zs.length (zs.map (Value.int .i64)) ∧ Below W0.heap.size W0 w'

set_option maxRecDepth 100000 in
set_option maxHeartbeats 1000000 in
theorem more_any (W0 : World) (A : Option Addr) (L c : Nat) (l : List Int) (A' : Option Addr) (n' c' : Nat) (m : List Int) (but : Int) (w : World) (hL : l.length = L) (h : w.ownsRow W0.heap.size 3 1 (.slice A L c) L (l.map (Value.int .i64))) (hb : Below W0.heap.size W0 w) (h' : RI W0 A' n' c' m) (h1 : L ≤ 1000000) (h2 : n' ≤ 1000000) :
    Calls Try.prog 40 #[.slice A L c, .slice A' n' c', .int .i64 but] w (OwnR W0 (moreL l but m)) := by
  obtain ⟨i0, hi, hz0, hz1, hz2⟩ := info_parts infoInt
  have H := Lib.hid h
  have HB0 := Lib.hid hb
  have H' := Lib.hid h'
  have HL := Lib.hid hL
  clear h hb h' hL
  go_enter Try.func40, Try.ntmps40
  go_wp2
  go_loopw [0, 7] (fun s0 s7 W => ∃ (k K : Nat) (O : Option Addr) (co : Nat), k ≤ n' ∧ s7 = .int .i64 k ∧ s0 = .slice O K co ∧ (moreL l but (m.take k)).length = K ∧ W.ownsRow W0.heap.size 3 1 (.slice O K co) K ((moreL l but (m.take k)).map (Value.int .i64)) ∧ Below W0.heap.size W0 W) (fun _ i _ => n' - (intOf i).toNat)
  case atStart => exact ⟨0, L, A, c, Nat.zero_le _, rfl, rfl, HL.out, H.out, HB0.out⟩
  case round =>
    obtain ⟨k, K, O, co, hk, rfl, rfl, hK, hown, hb⟩ := hrel
    have hKK : K ≤ 2000000 := by
      have := moreL_len (m.take k) l but
      rw [hK, HL.out, List.length_take] at this; omega
    have HK := Lib.hid hK
    have HO := Lib.hid hown
    have HB := Lib.hid hb
    have hsz := hb.size
    clear hK hown hb
    by_cases hlt : k < n'
    · have hl : k < m.length := by rw [H'.out.len]; exact hlt
      obtain ⟨b, off, rfl, hbl, hc⟩ := (H'.out.below HB.out).cells (by omega)
      have hck := hc k hlt
      clear hc
      have E1 : Hid (moreL l but (m.take (k + 1)) = if (elt m k == but || hasB (moreL l but (m.take k)) (elt m k)) = true then moreL l but (m.take k) else moreL l but (m.take k) ++ [elt m k]) := Lib.hid (by rw [take_snoc m k hl, moreL_snoc])
      clear hl
      generalize elt m k = x at *
      by_cases hxb : x = but
      · have z : (x != but) = false := by simpa using hxb
        have E2 : Hid (moreL l but (m.take (k + 1)) = moreL l but (m.take k)) := Lib.hid (by rw [E1.out, if_pos (by simp [hxb])])
        clear hxb
        go_wp2
        go_roundw
        case rel => exact ⟨k + 1, K, O, co, by omega, by go_num, rfl, by rw [E2.out]; exact HK.out, by rw [E2.out]; exact HO.out, HB.out⟩
        case measure => simp [intOf]; omega
      · have z : (x != but) = true := by simpa using hxb
        have HRK := Lib.hid (RI.of_own HO.out (by omega))
        cases hh : hasB (moreL l but (m.take k)) x
        · have E2 : Hid (moreL l but (m.take (k + 1)) = moreL l but (m.take k) ++ [x]) := Lib.hid (by rw [E1.out, if_neg (by simp [hxb, hh])])
          have HH := Lib.hid hh
          clear hxb hh
          go_wp2_with (first
            | (go_at_call 74; refine (has20_val false O K co _ x _ HRK.out HH.out).mono ?_; rintro e w' ⟨rfl, rfl⟩)
            | (at_builtin; refine wpList_append_own_at _ rfl (.tmp 29) (.tmp 34) 28 rfl W0.heap.size 3 i0 (.int .i64 0) 1 8 Try.underlying28 hi hz0 hz1 hz2 rfl (by decide) (.slice O K co) K _ rfl (HO.out.alloc _) ⟨_, 0, none⟩ 1 1 [.int .i64 x] rfl rfl (cell_new_at _ _ _ _ (by simp)) (by simp [Value.oneCell']) (by unfold maxLen; omega) (by omega) (by simp; omega) ?_; intro v' w4 hown' hgrow hnil hloc; obtain ⟨g', cap', rfl⟩ := own_succ hown'; have G1 := Lib.hid (grown_below hgrow); have O1 := Lib.hid hown'; clear hown' hgrow hnil hloc))
          go_roundw
          case rel => exact ⟨k + 1, K + 1, some ⟨g', 0, none⟩, cap', by omega, by go_num, rfl, by rw [E2.out, List.length_append, HK.out]; rfl, by rw [E2.out, List.map_append]; exact O1.out, HB.out.grown G1.out hsz (fun g hg => (own_lt HO.out hg).1)⟩
          case measure => simp [intOf]; omega
        · have E2 : Hid (moreL l but (m.take (k + 1)) = moreL l but (m.take k)) := Lib.hid (by rw [E1.out, if_pos (by simp [hh])])
          have HH := Lib.hid hh
          clear hxb hh
          go_wp2_with (go_at_call 74; refine (has20_val true O K co _ x _ HRK.out HH.out).mono ?_; rintro e w' ⟨rfl, rfl⟩)
          go_roundw
          case rel => exact ⟨k + 1, K, O, co, by omega, by go_num, rfl, by rw [E2.out]; exact HK.out, by rw [E2.out]; exact HO.out, HB.out⟩
          case measure => simp [intOf]; omega
    · have E : Hid (moreL l but m = moreL l but (m.take k)) := Lib.hid (by rw [List.take_of_length_le (by rw [H'.out.len]; omega)])
      go_wp2
      go_ret
      refine ⟨O, co, ?_, ?_, HB.out⟩
      · rw [E.out, HK.out]; rfl
      · rw [E.out, HK.out]; exact HO.out

theorem without_snoc (l : List Int) (x y : Int) : without (l ++ [y]) x = if y = x then without l x else without l x ++ [y] := by
  unfold without; rw [List.filter_append]
  by_cases h : y = x <;> simp [h]

set_option maxRecDepth 100000 in
set_option maxHeartbeats 1000000 in
theorem without_any (W0 : World) (A : Option Addr) (n c : Nat) (l : List Int) (x : Int) (w : World) (h : RI w A n c l) (hb : Below W0.heap.size W0 w) (h1 : n ≤ 1000000) :
    Calls Try.prog 42 #[.slice A n c, .int .i64 x] w fun e w' => OwnR W0 (without l x) e w' ∧ Below w.heap.size w w' := by
  obtain ⟨i0, hi, hz0, hz1, hz2⟩ := info_parts infoInt
  have H := Lib.hid h
  have HB0 := Lib.hid hb
  have hs0 := hb.size
  clear h hb
  have ho0 : Hid ((w.alloc (.cells #[] 3)).ownsRow w.heap.size 3 1 (.slice (some ⟨w.heap.size, 0, none⟩) 0 0) 0 []) := Lib.hid (own_empty w _ _ 3 rfl (Nat.le_refl _))
  have HB1 := Lib.hid ((Below.refl w.heap.size w).alloc (Nat.le_refl _) (.cells #[] 3))
  go_enter Try.func42, Try.ntmps42
  go_wp2
  go_loopw [5, 6] (fun s5 s6 W => ∃ (k K : Nat) (O : Option Addr) (co : Nat), k ≤ n ∧ s6 = .int .i64 k ∧ s5 = .slice O K co ∧ (without (l.take k) x).length = K ∧ W.ownsRow w.heap.size 3 1 (.slice O K co) K ((without (l.take k) x).map (Value.int .i64)) ∧ Below w.heap.size w W) (fun _ i _ => n - (intOf i).toNat)
  case atStart => exact ⟨0, 0, _, 0, Nat.zero_le _, rfl, rfl, rfl, ho0.out, HB1.out⟩
  case round =>
    obtain ⟨k, K, O, co, hk, rfl, rfl, hK, hown, hb⟩ := hrel
    have hKK : K ≤ k := by
      have : (without (l.take k) x).length ≤ (l.take k).length := List.length_filter_le _ _
      rw [hK, List.length_take] at this; omega
    have HK := Lib.hid hK
    have HO := Lib.hid hown
    have HB := Lib.hid hb
    have hsz := hb.size
    clear hK hown hb
    by_cases hlt : k < n
    · have hl : k < l.length := by rw [H.out.len]; exact hlt
      obtain ⟨b, off, rfl, hbl, hc⟩ := (H.out.below HB.out).cells (by omega)
      have hck := hc k hlt
      clear hc
      have E1 : Hid (without (l.take (k + 1)) x = if elt l k = x then without (l.take k) x else without (l.take k) x ++ [elt l k]) := Lib.hid (by rw [take_snoc l k hl, without_snoc])
      clear hl
      generalize elt l k = y at *
      by_cases hy : y = x
      · have z : (y != x) = false := by simpa using hy
        have E2 : Hid (without (l.take (k + 1)) x = without (l.take k) x) := Lib.hid (by rw [E1.out, if_pos hy])
        clear hy
        go_wp2
        go_roundw
        case rel => exact ⟨k + 1, K, O, co, by omega, by go_num, rfl, by rw [E2.out]; exact HK.out, by rw [E2.out]; exact HO.out, HB.out⟩
        case measure => simp [intOf]; omega
      · have z : (y != x) = true := by simpa using hy
        have E2 : Hid (without (l.take (k + 1)) x = without (l.take k) x ++ [y]) := Lib.hid (by rw [E1.out, if_neg hy])
        clear hy
        go_wp2_with (at_builtin; refine wpList_append_own_at _ rfl (.tmp 20) (.tmp 25) 28 rfl w.heap.size 3 i0 (.int .i64 0) 1 8 Try.underlying28 hi hz0 hz1 hz2 rfl (by decide) (.slice O K co) K _ rfl (HO.out.alloc _) ⟨_, 0, none⟩ 1 1 [.int .i64 y] rfl rfl (cell_new_at _ _ _ _ (by simp)) (by simp [Value.oneCell']) (by unfold maxLen; omega) (by omega) (by simp; omega) ?_; intro v' w4 hown' hgrow hnil hloc; obtain ⟨g', cap', rfl⟩ := own_succ hown'; have G1 := Lib.hid (grown_below hgrow); have O1 := Lib.hid hown'; clear hown' hgrow hnil hloc)
        go_roundw
        case rel => exact ⟨k + 1, K + 1, some ⟨g', 0, none⟩, cap', by omega, by go_num, rfl, by rw [E2.out, List.length_append, HK.out]; rfl, by rw [E2.out, List.map_append]; exact O1.out, HB.out.grown G1.out hsz (fun g hg => (own_lt HO.out hg).1)⟩
        case measure => simp [intOf]; omega
    · have E : Hid (without l x = without (l.take k) x) := Lib.hid (by rw [List.take_of_length_le (by rw [H.out.len]; omega)])
      go_wp2
      go_ret
      refine ⟨⟨O, co, ?_, ?_, HB0.out.trans (HB.out.mono HB0.out.size)⟩, HB.out⟩
      · rw [E.out, HK.out]; rfl
      · rw [E.out, HK.out]
        exact own_lower HO.out hs0

set_option maxHeartbeats 1000000 in
theorem last_any (A : Option Addr) (n c : Nat) (ts : List Stp) (x : Int) (ls : List (List Int)) (w : World) (h : RS w A n c ts) (ht : Tr x ls ts) (hn : n ≤ 1000000) :
    Calls Try.prog 39 #[.slice A n c] w fun e w' => e = .returned (.int .i64 (cntD ts)) ∧ w = w' := by
  have H := Lib.hid h
  have HT := Lib.hid ht
  clear h ht
  go_enter Try.func39, Try.ntmps39
  go_wp2
  go_loop [3, 4] (fun s3 s4 => ∃ k : Nat, k ≤ n ∧ s4 = .int .i64 k ∧ s3 = .int .i64 (cntD (ts.take k))) (fun _ i => n - (intOf i).toNat)
  case atStart => exact ⟨0, Nat.zero_le _, rfl, rfl⟩
  case round =>
    obtain ⟨k, hk, rfl, rfl⟩ := hrel
    have hcd : cntD (ts.take k) ≤ k := Nat.le_trans (cntD_le _) (by rw [List.length_take]; omega)
    by_cases hlt : k < n
    · have hl : k < ts.length := by rw [H.out.len]; exact hlt
      obtain ⟨b, off, rfl, hb, hc⟩ := H.out.cells (by omega)
      obtain ⟨-, hc1⟩ := hc k hlt
      clear hc
      have hw := (HT.out.why k hl).1
      have E1 : Hid (cntD (ts.take (k + 1)) = cntD (ts.take k) + (if (stp ts k).why = -1 then 1 else 0)) := Lib.hid (by rw [takes_snoc ts k hl, cntD_snoc])
      clear hl
      generalize (stp ts k).why = y at *
      generalize cntD (ts.take k) = q at *
      by_cases hy : y < 0
      · have E2 : Hid (cntD (ts.take (k + 1)) = q + 1) := Lib.hid (by rw [E1.out, if_pos (by omega)])
        go_wp2
        go_round
        case rel => exact ⟨k + 1, by omega, by go_num, by rw [E2.out]; go_num⟩
        case measure => simp [intOf]; omega
      · have E2 : Hid (cntD (ts.take (k + 1)) = q) := Lib.hid (by rw [E1.out, if_neg (by omega)]; rfl)
        go_wp2
        go_round
        case rel => exact ⟨k + 1, by omega, by go_num, by rw [E2.out]⟩
        case measure => simp [intOf]; omega
    · have E : Hid (cntD ts = cntD (ts.take k)) := Lib.hid (by rw [List.take_of_length_le (by rw [H.out.len]; omega)])
      go_wp2
      go_ret
      exact ⟨by rw [E.out]; rfl, rfl⟩

end Go.Proofs.Ytenpenelikpeeaa
