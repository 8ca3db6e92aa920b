/-
  cnf.Norm. No condition.
-/
import Derived.Test.YtalcnkoidmoibaaN6
import Derived.IntWalk
namespace Go.Proofs.Ytalcnkoidmoibaa
open Go.RowKit Go.Shelf Go.Sort Go.Lib
set_option linter.unusedVariables false
set_option linter.unusedSimpArgs false

/-- a literal stands right behind its opposite, among the first k -/
def bothAt (l : List Int) (k : Nat) : Bool := (List.range k).any fun i => decide (0 < i) && (elt l (i - 1) == -(elt l i))
def bothP (l : List Int) : Bool := bothAt l l.length
theorem bothAt_succ (l : List Int) (k : Nat) : bothAt l (k + 1) = (bothAt l k || (decide (0 < k) && (elt l (k - 1) == -(elt l k)))) := by
  unfold bothAt; rw [List.range_succ, List.any_append]; simp
theorem bothAt_mono (l : List Int) {j k : Nat} (h : j ≤ k) (hb : bothAt l j = true) : bothAt l k = true := by
  unfold bothAt at *
  rw [List.any_eq_true] at *
  obtain ⟨x, hx, he⟩ := hb
  exact ⟨x, by rw [List.mem_range] at *; omega, he⟩
theorem bothP_at {l : List Int} {k : Nat} (hk : k < l.length) (h : bothAt l (k + 1) = true) : bothP l = true := bothAt_mono l (by omega) h

theorem normP_lit {zs : List Int} {x : Int} (h : x ∈ normP zs) : x ≠ 0 ∧ -65536 ≤ x ∧ x ≤ 65536 := isB_iff.1 (mem_normP.1 h).2
theorem normP_okl (zs : List Int) : Okl (normP zs) := fun x h => normP_lit h

theorem normP_len (zs : List Int) : (normP zs).length ≤ zs.length := by
  rw [← norm_all]
  rw [List.length_map]; unfold compactUpTo; rw [List.length_map]
  refine Nat.le_trans (List.length_filter_le _ _) ?_
  rw [List.length_range]; unfold sortedL; rw [List.length_mergeSort]
  unfold litsOf; exact List.length_filterMap_le _ _

/-- what Norm leaves -/
def Normed (zs : List Int) (w : World) (e : Ending) (w' : World) : Prop :=
  ∃ A c, e = .returned (.tuple #[.slice A (normP zs).length c, .bool (bothP (normP zs))]) ∧ RI w' A (normP zs).length c (normP zs) ∧ Below w.heap.size w w'

theorem Own.ri {w : World} {base g n cap : Nat} {zs : List Int} (h : Own w base g n cap zs) (hb : n * 8 ≤ 140737488355328) : RI w (some ⟨g, 0, none⟩) n cap zs := RI.of_own h hb
theorem Own.len {w : World} {base g n cap : Nat} {zs : List Int} (h : Own w base g n cap zs) : zs.length = n := by simpa using h.1

theorem ret_norm {A : Option Addr} {n n' c : Nat} {a b : Bool} (hn : n = n') (h : a = b) : Ending.returned (.tuple #[.slice A n c, .bool a]) = .returned (.tuple #[.slice A n' c, .bool b]) := by rw [hn, h]

set_option maxRecDepth 4000 in
set_option maxHeartbeats 1600000 in
theorem norm_any (A : Option Addr) (n c : Nat) (zs : List Int) (w : World) (h : RI w A n c zs) :
    Calls Try.prog 23 #[.slice A n c] w (Normed zs w) := by
  have hcl := clone_any A n c zs w h
  have hbig := h.big
  have hlen := h.len
  have HL := Lib.hid (And.intro hlen hbig)
  clear h hlen hbig
  go_enter Try.func23, Try.ntmps23
  go_wp2_with fail
  refine hcl.mono ?_
  clear hcl
  rintro e w1 ⟨A1, c1, rfl, hown, hb1⟩
  have HB1 := Lib.hid hb1
  clear hb1
  rcases hown.2 with ⟨hv, h0⟩ | ⟨g, cap, cur, hv, hg, hr⟩
  · have hzs : zs = [] := List.eq_nil_of_length_eq_zero h0
    subst hzs
    simp only [Value.slice.injEq] at hv
    obtain ⟨rfl, -, rfl⟩ := hv
    clear hown h0
    have hd := delete_nil (.func (.func 48) #[] #[]) w1
    have hso : Calls Try.prog 31 #[.slice none 0 0, .func (.func 50) #[] #[]] w1 fun e w' => e = .returned (.tuple #[]) ∧ w1 = w' := (Try.slices_SortFunc_none (α := LitT) none 0 (.func (.func 50) #[] #[]) w1).mono fun _ _ ⟨h1, h2⟩ => ⟨h1, h2.symm⟩
    have hco := compact_nil w1
    go_wp2_with (first
      | (go_at_call 47; refine hd.mono ?_; rintro e w' ⟨rfl, rfl⟩)
      | (go_at_call 31; refine hso.mono ?_; rintro e w' ⟨rfl, rfl⟩)
      | (go_at_call 52; refine hco.mono ?_; rintro e w' ⟨rfl, rfl⟩))
    refine wp_loop_rounds 1 ?_
    rw [rounds_succ]
    go_wp2
    go_ret2
    exact ⟨none, 0, rfl, RI.nil _ _ _ (Nat.zero_le _), HB1.out⟩
  · simp only [Value.slice.injEq] at hv
    obtain ⟨rfl, -, rfl⟩ := hv
    have hown' : Own w1 w.heap.size g zs.length c1 zs := hown
    clear hr hown
    go_wp2_with fail
    refine (delete_own w1 w.heap.size g zs.length c1 zs hown' hg).mono ?_
    rintro e w2 ⟨m2, rfl, hown2, hb2⟩
    rw [← litsOf_val] at hown2
    have hm2 := hown2.len
    have hm2' : m2 * 8 ≤ 140737488355328 := by
      rw [litsOf_val] at hm2
      have := List.length_filter_le (fun x => isB x 65536) zs
      have := HL.out
      omega
    have hs2 := sort_own w2 w.heap.size g m2 c1 (litsOf zs) hown2 hg hm2'
    have HM2 := Lib.hid hm2
    have HB2 := Lib.hid hb2
    clear hm2 hb2 hown2 hown'
    go_wp2_with fail
    refine hs2.mono ?_
    clear hs2
    rintro e w3 ⟨rfl, hown3, hb3⟩
    have hc3 := compact_own w3 w.heap.size g m2 c1 (sortedL zs) hown3 hg
    have HB3 := Lib.hid hb3
    clear hb3 hown3
    go_wp2_with fail
    refine hc3.mono ?_
    clear hc3
    rintro e w4 ⟨m, rfl, hown4, hb4⟩
    rw [norm_all] at hown4
    have hm := hown4.len
    have hm8 : m * 8 ≤ 140737488355328 := by
      have := normP_len zs
      have := HL.out
      omega
    have hri := hown4.ri hm8
    have HR := Lib.hid hri
    have HM := Lib.hid hm
    have HB : Hid (Below w.heap.size w w4) := Lib.hid (((HB1.out.trans HB2.out).trans HB3.out).trans hb4)
    clear hm hri hown4 hb4 HB1 HB2 HB3 HM2 hm2' HL
    have HO := Lib.hid (normP_okl zs)
    go_wp2
    go_loopw [15] (fun i wr => ∃ k q : Nat, k ≤ m ∧ i = .int .i64 k ∧ bothAt (normP zs) k = false ∧ wr = w4.drewN q) (fun i _ => m - (intOf i).toNat)
    case atStart => exact ⟨0, 0, Nat.zero_le _, rfl, rfl, rfl⟩
    case round =>
      obtain ⟨k, q, hk, rfl, hno, rfl⟩ := hrel
      have HN := Lib.hid hno
      clear hno
      by_cases hlt : k < m
      · obtain ⟨b, off, hA, hb, hc⟩ := HR.out.cells (by omega)
        injection hA with hA
        injection hA with hA1 hA2
        subst hA1 hA2
        have hck := hc k hlt
        have hl : k < (normP zs).length := by rw [HM.out]; exact hlt
        have hx := HO.out.at hl
        have hneg := lit_neg' hx.2.1 hx.2.2
        have HX := Lib.hid hx
        clear hx
        by_cases h0 : 0 < k
        · have hck1 := hc (k - 1) (by omega)
          obtain ⟨j, hj⟩ : ∃ j, k - 1 = j := ⟨_, rfl⟩
          rw [hj, Nat.zero_add] at hck1
          rw [Nat.zero_add] at hck
          clear hc
          have HN2 := HN.out
          have hst := bothAt_succ (normP zs) k
          rw [HN2, hj, decide_eq_true h0, Bool.false_or, Bool.true_and] at hst
          have HS := Lib.hid hst
          have hsub : IntKind.i64.wrap ((k : Int) - 1) = (j : Int) := by rw [show (k : Int) - 1 = (j : Int) by omega]; exact IntWalk.i64_in (j : Int) (by omega)
          have hjm : j < m := by omega
          have hjm' : (j : Int) < (m : Int) := by omega
          have hkm' : (k : Int) < (m : Int) := by omega
          have hk0 : (0 : Int) < (k : Int) := by omega
          have hng : IntKind.i64.wrap (-(elt (normP zs) k)) = -(elt (normP zs) k) := by have := HX.out; exact IntWalk.i64_in (-(elt (normP zs) k)) (by omega)
          clear hst HN2 hj
          generalize ho : (elt (normP zs) j == -(elt (normP zs) k)) = o at HS
          cases o
          · go_wp2_with fail
            go_quiet (fail)
            go_wp2
            go_roundw
            case rel => exact ⟨k + 1, _, by omega, by go_num, HS.out, rfl⟩
            case measure => simp [intOf]; omega
          · go_wp2_with fail
            go_quiet (fail)
            go_wp2
            go_ret2
            exact ⟨_, _, ret_norm HM.out.symm (bothP_at hl HS.out).symm, by rw [HM.out, World.drewN_drewN]; exact HR.out.below (drewN_below _ _), by rw [World.drewN_drewN]; exact HB.out.trans ((drewN_below _ _).mono HB.out.size)⟩
        · obtain rfl : k = 0 := by omega
          have hst := bothAt_succ (normP zs) 0
          rw [HN.out] at hst
          have HS := Lib.hid hst
          clear hst hc
          go_wp2_with fail
          go_quiet (fail)
          go_wp2
          go_roundw
          case rel => exact ⟨1, _, by omega, by go_num, HS.out, rfl⟩
          case measure => simp [intOf]; omega
      · have HD := Lib.hid (drewN_below w4 q)
        have hf : bothAt (normP zs) (normP zs).length = false := by
          have := HN.out
          rw [show k = (normP zs).length by rw [HM.out]; omega] at this
          exact this
        have HF := Lib.hid hf
        clear hf
        go_wp2
        go_ret2
        exact ⟨_, _, ret_norm HM.out.symm HF.out.symm, by rw [HM.out]; exact HR.out.below HD.out, HB.out.trans (HD.out.mono HB.out.size)⟩

end Go.Proofs.Ytalcnkoidmoibaa
