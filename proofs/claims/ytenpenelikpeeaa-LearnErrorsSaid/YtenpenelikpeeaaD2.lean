/-
  The iterator slices.Backward over a trail. No condition.
-/
import Derived.RangeFuncNested
import Derived.RangeFuncBound
import Derived.RangeFuncCalls
import Derived.RangeFuncLeaves
import Derived.Shelf.Abstract
import Derived.Shelf.RegionOpen
import Derived.WalkKit
import Derived.OwnWalkIn
import Derived.TacticsInMore
import Derived.LoopNIn
import Derived.LoopIn
import Derived.Maps.OwnIn
import Derived.Test.YtenpenelikpeeaaD1
import Derived.Test.YtenpenelikpeeaaD0
namespace Go.Proofs.Ytenpenelikpeeaa
open Go.RowKit Go.Shelf
set_option linter.unusedVariables false
set_option linter.unusedSimpArgs false
attribute [local go_sem] Oper.semAt_some

/-- what a round keeps: the cells below n₀, and one box -/
def KpB (n₀ Bb : Nat) (W W' : World) : Prop := Below n₀ W W' ∧ ∀ v, W.cell? ⟨Bb, 0, none⟩ = some v → W'.cell? ⟨Bb, 0, none⟩ = some v
theorem KpB.trans {n₀ Bb : Nat} {A B C : World} (h : KpB n₀ Bb A B) (k : KpB n₀ Bb B C) : KpB n₀ Bb A C := ⟨h.1.trans k.1, fun v hv => k.2 v (h.2 v hv)⟩
theorem KpB.refl (n₀ Bb : Nat) (A : World) : KpB n₀ Bb A A := ⟨Below.refl _ _, fun v hv => hv⟩

/-- the places from the last down to k -/
def downTo (len k : Nat) : List Nat := ((List.range len).drop k).reverse
theorem downTo_all (len : Nat) : downTo len len = [] := by simp [downTo]
theorem downTo_step {len k : Nat} (h : k < len) : downTo len k = downTo len (k + 1) ++ [k] := by
  unfold downTo
  rw [List.drop_eq_getElem_cons (by simpa using h), List.reverse_cons]
  simp
theorem downTo_len (len k : Nat) : (downTo len k).length = len - k := by simp [downTo]
theorem downTo_prefix (len k : Nat) : downTo len k <+: downTo len 0 := by
  unfold downTo; rw [List.drop_zero]; exact List.reverse_prefix.2 (List.drop_suffix _ _)

def stepV (s : Stp) : Value := .agg #[.int .i64 s.lit, .int .i64 s.why]

set_option maxRecDepth 100000 in
set_option maxHeartbeats 1000000 in
theorem back1_in (F : Fence) (n : Nat) (h65 : F.fn 65) (hro : F.round = none) (hn : 1 ≤ n) (l Bs : Nat) (A : Option Addr) (len cap : Nat) (ts : List Stp) (w0 : World) (hr : RS w0 A len cap ts) (hlen : len ≤ 1000000) (J Jx : List Nat → World → Prop)
    (hY : ∀ pre (k : Nat) W, J pre W → pre = downTo len (k + 1) → k < len → YieldAt F (n - 1) Try.prog l #[.int .i64 k, stepV (stp ts k)] W fun e W' =>
      (e = .returned (.bool true) ∧ J (pre ++ [k]) W' ∧ KpB w0.heap.size Bs W W') ∨ (e = .returned (.bool false) ∧ Jx (pre ++ [k]) W'))
    (W : World) (hW : Below w0.heap.size w0 W) (hBs : W.cell? ⟨Bs, 0, none⟩ = some (.slice A len cap)) (h0 : J [] W) :
    CallsIn F n Try.prog 65 #[.func (.yield l) #[] #[], .pointer (some ⟨Bs, 0, none⟩)] W fun e W' => (∃ v, e = .returned v) ∧
      ((∃ ys, ys = downTo len 0 ∧ J ys W') ∨ (∃ pre, pre <+: downTo len 0 ∧ Jx pre W')) := by
  have HR := Lib.hid hr
  have HW := Lib.hid hW
  clear hr hW
  refine callsIn_of_wp Try.func65 rfl h65 ?_ hro
  simp only [Try.ntmps65, List.size_toArray, List.length_cons, List.length_nil, Nat.reduceAdd, Nat.reduceSub, Array.replicate_succ, Array.replicate_zero, List.push_toArray, List.append_toArray, List.nil_append, List.cons_append]
  gi_wp2
  gi_loopw [3] (fun i wr => ∃ k : Nat, k ≤ len ∧ i = .int .i64 ((k : Int) - 1) ∧ J (downTo len k) wr ∧ KpB w0.heap.size Bs W wr) (fun i _ => (intOf i + 1).toNat)
  case atStart => exact ⟨len, Nat.le_refl _, rfl, by rw [downTo_all]; exact h0, KpB.refl _ _ _⟩
  case round =>
    obtain ⟨k, hk, rfl, hJs, hnx⟩ := hrel
    have HJ := Lib.hid hJs
    have HK := Lib.hid hnx
    have hbb := hnx.2 _ hBs
    clear hJs hnx
    by_cases hlt : 0 < k
    · obtain ⟨k, rfl⟩ : ∃ j, k = j + 1 := ⟨k - 1, by omega⟩
      have e1 : ((k + 1 : Nat) : Int) - 1 = (k : Int) := by omega
      rw [e1]
      obtain ⟨b, off, rfl, hb, hc⟩ := (HR.out.below (HW.out.trans HK.out.1)).cells (by omega)
      obtain ⟨u0, u1⟩ := hc k (by omega)
      obtain ⟨fn, tmps, assign, body, hy, hR⟩ := hY _ k wr HJ.out rfl (by omega)
      unfold stepV at hy
      have e2 : ((k + 1 : Nat) : Int) - 1 - 1 = (k : Int) - 1 := by omega
      clear e1 hc
      gi_wp2
      refine hR.mono ?_
      rintro e W3 (⟨rfl, hJ3, hk3⟩ | ⟨rfl, hJx3⟩)
      · have HJ3 := Lib.hid hJ3
        have HK3 := Lib.hid hk3
        clear hJ3 hk3
        gi_wp2
        go_roundw
        case rel => exact ⟨k, by omega, rfl, by rw [downTo_step (by omega)]; exact HJ3.out, HK.out.trans HK3.out⟩
        case measure => simp [intOf]
      · have HJ3 := Lib.hid hJx3
        clear hJx3
        gi_wp2
        refine bodyPost_ret (results_none rfl _ _ _) rfl ?_
        refine ⟨⟨_, rfl⟩, .inr ⟨_, ?_, HJ3.out⟩⟩
        rw [← downTo_step (by omega)]
        exact downTo_prefix _ _
    · obtain rfl : k = 0 := by omega
      gi_wp2
      go_end0
      exact ⟨⟨_, rfl⟩, .inl ⟨_, rfl, HJ.out⟩⟩

theorem enters65 : ∀ args w, (callFunc 65 args).run Try.prog w = .ok (.enter 65 args) w := enters_of Try.func65 (by kernel_rfl) rfl
theorem back_next (F : Fence) (n : Nat) (h65 : F.fn 65) (hro : F.round = none) (hn : 1 ≤ n) (Bs : Nat) (A : Option Addr) (len cap : Nat) (ts : List Stp) (w0 w : World) (hr : RS w0 A len cap ts) (hlen : len ≤ 1000000) (hw : Below w0.heap.size w0 w) (hB : Bs < w.heap.size) (hBs : w.cell? ⟨Bs, 0, none⟩ = some (.slice A len cap)) :
    SeqNext F n Try.prog 65 #[.pointer (some ⟨Bs, 0, none⟩)] (fun k : Nat => #[.int .i64 k, stepV (stp ts k)]) (KpB w0.heap.size Bs) (fun pre k => pre = downTo len (k + 1) ∧ k < len) (fun ys => ys = downTo len 0) (fun pre => pre <+: downTo len 0) w :=
  fun l J Jx W hW hY h0 => back1_in F n h65 hro hn l Bs A len cap ts w0 hr hlen J Jx (fun pre k W1 h1 h2 h3 => hY pre k W1 h1 ⟨h2, h3⟩) W (hw.trans (hW.mono hw.size)) ((hW.cell (p := ⟨Bs, 0, none⟩) hB).trans hBs) h0

end Go.Proofs.Ytenpenelikpeeaa
