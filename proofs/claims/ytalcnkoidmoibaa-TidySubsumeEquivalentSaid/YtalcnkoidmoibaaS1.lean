/-
  tidy.Subsume's closure; slices.ContainsFunc with it. No condition.
-/
import Derived.Test.YtalcnkoidmoibaaV1
import Derived.Test.YtalcnkoidmoibaaB2
namespace Go.Proofs.Ytalcnkoidmoibaa
open Go.RowKit Go.Shelf
set_option linter.unusedVariables false
set_option linter.unusedSimpArgs false

theorem grow_then {W W1 W2 : World} {row : Option Nat} (h : W.grownBy W1 row) (hb : Below W1.heap.size W1 W2) : W.grownBy W2 row :=
  ⟨hb.os.trans h.os, hb.tape.trans h.tape, hb.output.trans h.output, Nat.le_trans h.size hb.size, fun k hk hne => (hb.block k (Nat.lt_of_lt_of_le hk h.size)).trans (h.block k hk hne)⟩
theorem grow_trans {W W1 W2 : World} {row : Option Nat} (h : W.grownBy W1 row) (h2 : W1.grownBy W2 row) : W.grownBy W2 row :=
  ⟨h2.os.trans h.os, h2.tape.trans h.tape, h2.output.trans h.output, Nat.le_trans h.size h2.size, fun k hk hne => (h2.block k (Nat.lt_of_lt_of_le hk h.size) hne).trans (h.block k hk hne)⟩
theorem grow_cell {W W1 : World} {b : Nat} (h : W.grownBy W1 (some b)) {p : Addr} (hp : p.block < W.heap.size) (hne : p.block ≠ b) : W1.cell? p = W.cell? p :=
  World.cell?_of_block (h.block p.block hp (by simpa using hne))
theorem boxed_below {W W' : World} {B : Nat} {t : TypeId} {v : Value} (h : Boxed W B t v) (hb : Below W.heap.size W W') : Boxed W' B t v := (hb.block B h.lt).trans h

/-- does clause x at j remove clause l at i? -/
def goI (x l : List Int) (j i : Int) : Bool := (j != i) && subB x l && (decide (j < i) || !(subB l x))

/-- what the closure leaves -/
def Clo (r : Bool) (Bj : Nat) (z : Int) (W : World) (e : Ending) (W' : World) : Prop := e = .returned (.bool r) ∧ Boxed W' Bj 3 (.int .i64 z) ∧ W.grownBy W' (some Bj)

set_option maxHeartbeats 1000000 in
theorem subs1_any (Bj Bi Bl : Nat) (z i : Int) (A : Option Addr) (n c : Nat) (x : List Int) (A' : Option Addr) (n' c' : Nat) (l : List Int) (w0 W : World) (hj : Boxed W Bj 3 (.int .i64 z)) (hi : W.cell? ⟨Bi, 0, none⟩ = some (.int .i64 i)) (hl : W.cell? ⟨Bl, 0, none⟩ = some (.slice A' n' c'))
    (hBi : Bi < W.heap.size) (hBl : Bl < W.heap.size) (hnei : Bi ≠ Bj) (hnel : Bl ≠ Bj) (hb : Below w0.heap.size w0 W) (hBj : w0.heap.size ≤ Bj) (hx : RI w0 A n c x) (hlr : RI w0 A' n' c' l) (hox : Wfl x) (hol : Wfl l) (hz0 : -1 ≤ z) (hz1 : z ≤ 1000000) :
    Calls Try.prog 44 #[.slice A n c, .pointer (some ⟨Bj, 0, none⟩), .pointer (some ⟨Bi, 0, none⟩), .pointer (some ⟨Bl, 0, none⟩)] W (Clo (goI x l (z + 1) i) Bj (z + 1) W) := by
  have cj := hj.cell
  have fj := hj.frozen
  have HJ := Lib.hid (hj.set (.int .i64 (z + 1)))
  have HB := Lib.hid (hb.setCell (p := ⟨Bj, 0, none⟩) hBj (.int .i64 (z + 1)))
  have ci : (W.setCell ⟨Bj, 0, none⟩ (.int .i64 (z + 1))).cell? ⟨Bi, 0, none⟩ = some (.int .i64 i) := (grow_cell (grownBy_setCell' W Bj _) (p := ⟨Bi, 0, none⟩) hBi hnei).trans hi
  have cl : (W.setCell ⟨Bj, 0, none⟩ (.int .i64 (z + 1))).cell? ⟨Bl, 0, none⟩ = some (.slice A' n' c') := (grow_cell (grownBy_setCell' W Bj _) (p := ⟨Bl, 0, none⟩) hBl hnel).trans hl
  have cj' := HJ.out.cell
  have hG := grownBy_setCell' W Bj (.int .i64 (z + 1))
  have HG := Lib.hid hG
  have hBi' : Bi < (W.setCell ⟨Bj, 0, none⟩ (.int .i64 (z + 1))).heap.size := Nat.lt_of_lt_of_le hBi hG.size
  have hBl' : Bl < (W.setCell ⟨Bj, 0, none⟩ (.int .i64 (z + 1))).heap.size := Nat.lt_of_lt_of_le hBl hG.size
  generalize hW1 : W.setCell ⟨Bj, 0, none⟩ (.int .i64 (z + 1)) = W1 at HJ HB ci cl cj' HG hG hBi' hBl'
  have s1 := subsumes_any A n c x A' n' c' l W1 (hx.below HB.out) (hlr.below HB.out) hox hol
  have s2 := fun (W2 : World) (h2 : Below W1.heap.size W1 W2) => subsumes_any A' n' c' l A n c x W2 ((hlr.below HB.out).below h2) ((hx.below HB.out).below h2) hol hox
  have HXX := Lib.hid (And.intro hx (And.intro hlr hb))
  clear hx hlr hb hi hl hG hj
  by_cases h1 : z + 1 = i
  · subst h1
    clear s1 s2
    go_enter Try.func44, Try.ntmps44
    go_wp2_with (rw [hW1])
    go_ret
    exact ⟨ret_bool (by simp [goI]), HJ.out, HG.out⟩
  · have h1b : (z + 1 != i) = true := by simpa using h1
    cases o1 : subB x l with
    | false =>
      have e1 : goI x l (z + 1) i = false := by simp [goI, o1]
      rw [e1]
      rw [o1] at s1
      clear s2
      go_enter Try.func44, Try.ntmps44
      go_wp2_with (first | (rw [hW1]) | (go_at_call 24; refine s1.mono ?_; clear s1; rintro e W2 ⟨rfl, hb2⟩))
      go_ret
      exact ⟨rfl, boxed_below HJ.out hb2, grow_then HG.out hb2⟩
    | true =>
      rw [o1] at s1
      by_cases h3 : z + 1 < i
      · have e1 : goI x l (z + 1) i = true := by simp [goI, o1, h3, h1]
        rw [e1]
        go_enter Try.func44, Try.ntmps44
        go_wp2_with (first | (rw [hW1]) | (go_at_call 24; refine s1.mono ?_; clear s1; rintro e W2 ⟨rfl, hb2⟩; have cj2 := (hb2.cell (p := ⟨Bj, 0, none⟩) HJ.out.lt).trans cj'; have ci2 := (hb2.cell (p := ⟨Bi, 0, none⟩) hBi').trans ci; have cl2 := (hb2.cell (p := ⟨Bl, 0, none⟩) hBl').trans cl; have s2 := s2 W2 hb2; have HB2 := Lib.hid hb2; clear hb2))
        go_ret
        exact ⟨rfl, boxed_below HJ.out HB2.out, grow_then HG.out HB2.out⟩
      · have e1 : goI x l (z + 1) i = !(subB l x) := by simp [goI, o1, h3, h1]
        rw [e1]
        generalize subB l x = o2 at s2 ⊢
        go_enter Try.func44, Try.ntmps44
        go_wp2_with (first | (rw [hW1]) | (go_at_call 24; refine s1.mono ?_; clear s1; rintro e W2 ⟨rfl, hb2⟩; have cj2 := (hb2.cell (p := ⟨Bj, 0, none⟩) HJ.out.lt).trans cj'; have ci2 := (hb2.cell (p := ⟨Bi, 0, none⟩) hBi').trans ci; have cl2 := (hb2.cell (p := ⟨Bl, 0, none⟩) hBl').trans cl; have s2 := s2 W2 hb2; have HB2 := Lib.hid hb2; clear hb2) | (go_at_call 24; refine s2.mono ?_; clear s2; rintro e W3 ⟨rfl, hb3⟩; have HB3 := Lib.hid hb3; clear hb3))
        go_ret
        exact ⟨ret_bool (by rw [decide_eq_false (by omega)]; rfl), boxed_below (boxed_below HJ.out HB2.out) HB3.out, grow_then (grow_then HG.out HB2.out) HB3.out⟩

theorem enters44 : ∀ args w, (callFunc 44 args).run Try.prog w = .ok (.enter 44 args) w := enters_of Try.func44 (by kernel_rfl) rfl

/-- is clause i removed? -/
def goB (ls : List (List Int)) (i j : Nat) : Bool := goI (ell ls j) (ell ls i) j i
def goesTo (ls : List (List Int)) (i k : Nat) : Bool := (List.range k).any (goB ls i)
def goesB (ls : List (List Int)) (i : Nat) : Bool := goesTo ls i ls.length
theorem goesTo_succ (ls : List (List Int)) (i k : Nat) : goesTo ls i (k + 1) = (goesTo ls i k || goB ls i k) := by simp [goesTo, List.range_succ]
theorem goesTo_mono {ls : List (List Int)} {i j k : Nat} (h : j ≤ k) (hb : goesTo ls i j = true) : goesTo ls i k = true := by
  induction k with
  | zero => obtain rfl : j = 0 := by omega
            exact hb
  | succ k ih =>
    rcases Nat.lt_or_ge j (k + 1) with h1 | h1
    · rw [goesTo_succ, ih (by omega)]; rfl
    · obtain rfl : j = k + 1 := by omega
      exact hb

def Idx (ls : List (List Int)) (i Bj : Nat) (W : World) (e : Ending) (W' : World) : Prop := ∃ r : Int, e = .returned (.int .i64 r) ∧ decide (0 ≤ r) = goesB ls i ∧ W.grownBy W' (some Bj)

set_option maxHeartbeats 1000000 in
theorem indexL_any (Bj Bi Bl i : Nat) (A : Option Addr) (n c : Nat) (ls : List (List Int)) (A' : Option Addr) (n' c' : Nat) (w0 W : World) (hj : Boxed W Bj 3 (.int .i64 (-1))) (hi : W.cell? ⟨Bi, 0, none⟩ = some (.int .i64 i)) (hl : W.cell? ⟨Bl, 0, none⟩ = some (.slice A' n' c'))
    (hBi : Bi < W.heap.size) (hBl : Bl < W.heap.size) (hnei : Bi ≠ Bj) (hnel : Bl ≠ Bj) (hb : Below w0.heap.size w0 W) (hBj : w0.heap.size ≤ Bj) (hL : RL w0 A n c ls) (hlr : RI w0 A' n' c' (ell ls i)) (ho : ∀ l ∈ ls, Wfl l) (hin : i < n) (hn : n ≤ 1000000) :
    Calls Try.prog 73 #[.slice A n c, .func (.func 44) #[] #[.pointer (some ⟨Bj, 0, none⟩), .pointer (some ⟨Bi, 0, none⟩), .pointer (some ⟨Bl, 0, none⟩)]] W (Idx ls i Bj W) := by
  have H := Lib.hid hL
  have HO := Lib.hid ho
  have HLR := Lib.hid hlr
  have HBw := Lib.hid hb
  have HJ := Lib.hid hj
  have eg := enters44
  clear hL ho hlr hb hj
  go_enter Try.func73, Try.ntmps73
  go_wp2
  go_loopw [8] (fun i' wr => ∃ k : Nat, k ≤ n ∧ i' = .int .i64 k ∧ goesTo ls i k = false ∧ Boxed wr Bj 3 (.int .i64 ((k : Int) - 1)) ∧ W.grownBy wr (some Bj)) (fun i' _ => n - (intOf i').toNat)
  case atStart => exact ⟨0, Nat.zero_le _, rfl, rfl, HJ.out, World.grownBy.refl _ _⟩
  case round =>
    obtain ⟨k, hk, rfl, hno, hbx, hg⟩ := hrel
    have HN := Lib.hid hno
    have HG := Lib.hid hg
    have HBX := Lib.hid hbx
    clear hno hg hbx
    by_cases hlt : k < n
    · obtain ⟨b, off, rfl, hbl, hc⟩ := H.out.cells (by omega)
      obtain ⟨a1, n1, c1, hck, hr1⟩ := hc k hlt
      clear hc
      have hll : k < ls.length := by rw [H.out.len]; exact hlt
      have hbr : Below w0.heap.size w0 wr := HBw.out.grown HG.out HBw.out.size (fun g e => by cases e; exact hBj)
      have hck2 := (hbr.cell (p := ⟨b, off + k, none⟩) hbl).trans hck
      have hcall := subs1_any Bj Bi Bl ((k : Int) - 1) i a1 n1 c1 (ell ls k) A' n' c' (ell ls i) w0 wr HBX.out ((grow_cell HG.out (p := ⟨Bi, 0, none⟩) hBi hnei).trans hi) ((grow_cell HG.out (p := ⟨Bl, 0, none⟩) hBl hnel).trans hl) (Nat.lt_of_lt_of_le hBi HG.out.size) (Nat.lt_of_lt_of_le hBl HG.out.size) hnei hnel hbr hBj hr1 HLR.out (HO.out _ (ell_mem hll)) (HO.out _ (ell_mem (by rw [H.out.len]; exact hin))) (by omega) (by omega)
      rw [Int.sub_add_cancel] at hcall
      have e1 : goI (ell ls k) (ell ls i) k i = goB ls i k := rfl
      rw [e1] at hcall
      clear hck hr1 hbr e1
      have HLL := Lib.hid hll
      clear hll
      cases ho2 : goB ls i k with
      | false =>
        rw [ho2] at hcall
        have E : Hid (goesTo ls i (k + 1) = false) := Lib.hid (by rw [goesTo_succ, HN.out, ho2]; rfl)
        clear ho2
        go_wp2_with (go_at_fn 44; refine hcall.mono ?_; clear hcall; rintro e w' ⟨rfl, hbx2, hg2⟩; have HBX2 := Lib.hid hbx2; have HG2 := Lib.hid hg2; clear hbx2 hg2)
        go_roundw
        case rel => exact ⟨k + 1, by omega, by go_num, E.out, by rw [show (((k + 1 : Nat) : Int) - 1) = (k : Int) by omega]; exact HBX2.out, grow_trans HG.out HG2.out⟩
        case measure => simp [intOf]; omega
      | true =>
        rw [ho2] at hcall
        have E : Hid (goesB ls i = true) := Lib.hid (goesTo_mono (j := k + 1) (by have := HLL.out; omega) (by rw [goesTo_succ, HN.out, ho2]; rfl))
        clear ho2
        go_wp2_with (go_at_fn 44; refine hcall.mono ?_; clear hcall; rintro e w' ⟨rfl, hbx2, hg2⟩; have HG2 := Lib.hid hg2; clear hbx2 hg2)
        go_ret
        exact ⟨k, rfl, by rw [E.out]; simp, grow_trans HG.out HG2.out⟩
    · go_wp2
      go_ret
      exact ⟨-1, rfl, by have h2 := HN.out; rw [show k = ls.length by rw [H.out.len]; omega] at h2; unfold goesB; rw [h2]; rfl, HG.out⟩

set_option maxHeartbeats 1000000 in
theorem containsL_any (Bj Bi Bl i : Nat) (A : Option Addr) (n c : Nat) (ls : List (List Int)) (A' : Option Addr) (n' c' : Nat) (w0 W : World) (hj : Boxed W Bj 3 (.int .i64 (-1))) (hi : W.cell? ⟨Bi, 0, none⟩ = some (.int .i64 i)) (hl : W.cell? ⟨Bl, 0, none⟩ = some (.slice A' n' c'))
    (hBi : Bi < W.heap.size) (hBl : Bl < W.heap.size) (hnei : Bi ≠ Bj) (hnel : Bl ≠ Bj) (hb : Below w0.heap.size w0 W) (hBj : w0.heap.size ≤ Bj) (hL : RL w0 A n c ls) (hlr : RI w0 A' n' c' (ell ls i)) (ho : ∀ l ∈ ls, Wfl l) (hin : i < n) (hn : n ≤ 1000000) :
    Calls Try.prog 43 #[.slice A n c, .func (.func 44) #[] #[.pointer (some ⟨Bj, 0, none⟩), .pointer (some ⟨Bi, 0, none⟩), .pointer (some ⟨Bl, 0, none⟩)]] W fun e W' => e = .returned (.bool (goesB ls i)) ∧ W.grownBy W' (some Bj) := by
  have hI := indexL_any Bj Bi Bl i A n c ls A' n' c' w0 W hj hi hl hBi hBl hnei hnel hb hBj hL hlr ho hin hn
  clear hj hi hl hBi hBl hnei hnel hb hBj hL hlr ho
  go_enter Try.func43, Try.ntmps43
  go_wp2_with (go_at_call 73; refine hI.mono ?_; rintro e w' ⟨r, rfl, hr, hg⟩)
  all_goals
    go_ret
    exact ⟨ret_bool (by rw [← hr]), hg⟩

end Go.Proofs.Ytalcnkoidmoibaa
