/-
  The errors of First in plain words: what a further decision does. No program in sight. No condition.
  Contracts of flip, Back and has: a trail with its literals negated, the steps up to a level, membership. No condition.
  The engine of unit propagation: look at a clause. No condition.
  Words for a map from ints to rows of ints, each row the call's own: looked up, a row made longer, a key written. No condition.
  Unit propagation with watches in plain words: one visit. No program in sight. No condition.
-/
import Derived.Test.YtenpenelikpeeaaZB18
import Derived.Deep.RegionLaw
import Derived.IntWalk

namespace Go.Proofs.Ytenpenelikpeeaa
set_option linter.unusedVariables false
set_option linter.unusedSimpArgs false

theorem errors_bad {x : Int} {ls : List (List Int)} {ts : List Stp} {q : Int} (h : propE x ls ts ≠ 0 ∨ q < 0 ∨ (ls.length : Int) ≤ q) : firstE x ls ts q ≠ 0 := fun e => by
  have R := rd_of e
  have h1 := R.q0
  have h2 := R.q1
  rcases h with h | h | h
  · exact h R.prop
  · omega
  · omega
theorem errors_alive {x : Int} {ls : List (List Int)} {ts : List Stp} {q : Int} (h : propE x ls ts = 0) (hd : deadB ts (ell ls q.toNat) = false) : firstE x ls ts q = 1 := firstE_arg h (Or.inr (Or.inr hd))
theorem errors_dead {x : Int} {ls : List (List Int)} {ts : List Stp} {q : Int} (h : propE x ls ts = 0) (h0 : 0 ≤ q) (h1 : q < (ls.length : Int)) (hd : deadB ts (ell ls q.toNat) = true) : firstE x ls ts q = 0 ∨ firstE x ls ts q = 200 := by
  have h2 : ¬(q < 0 ∨ (ls.length : Int) ≤ q ∨ deadB ts (ell ls q.toNat) = false) := by
    rintro (h3 | h3 | h3)
    · omega
    · omega
    · rw [hd] at h3; cases h3
  by_cases h3 : lastT ts = 0 ∨ hiN ts (lastT ts) (start ls q) = 0
  · exact Or.inr (firstE_back h h2 h3)
  · exact Or.inl (firstE_ok h h2 h3)

theorem stp_left {a b : List Stp} {k : Nat} (h : k < a.length) : stp (a ++ b) k = stp a k := by
  rw [stp_lt h, stp_lt (by simp; omega), List.getElem_append_left h]
theorem plc_left {a b : List Stp} {y : Int} (h : plc a y < a.length) : plc (a ++ b) y = plc a y := by
  obtain ⟨h1, h2⟩ := plc_lt h
  refine plc_at (by simp; omega) (by rw [stp_left h]; exact h1) (fun j hj => ?_)
  rw [stp_left (by omega)]; exact h2 j hj
theorem levAt_left {a b : List Stp} {k : Nat} (h : k < a.length) : levAt (a ++ b) k = levAt a k := by
  unfold levAt; rw [List.take_append_of_le_length (by omega)]
theorem lvlT_left {a b : List Stp} {y : Int} (h : plc a (-y) < a.length) : lvlT (a ++ b) y = lvlT a y := by
  rw [lvlT_of h, lvlT_of (by rw [plc_left h]; simp; omega), plc_left h, levAt_left h]
theorem lastT_more (ts : List Stp) (y : Int) : lastT (ts ++ [⟨y, -1⟩]) = lastT ts + 1 := by
  unfold lastT; rw [cntD_snoc]; simp

theorem errors_more {x : Int} {ls : List (List Int)} {ts : List Stp} {q y : Int} (h0 : 0 ≤ q) (h1 : q < (ls.length : Int)) (hd : deadB ts (ell ls q.toNat) = true) (h : propE x ls (ts ++ [⟨y, -1⟩]) = 0) : firstE x ls (ts ++ [⟨y, -1⟩]) q = 200 := by
  have hu := dead_under.1 hd
  have hd' : deadB (ts ++ [⟨y, -1⟩]) (ell ls q.toNat) = true := dead_under.2 fun z hz => by
    have := hu z hz
    rw [plc_left this]; simp; omega
  refine firstE_back h ?_ (Or.inr ?_)
  · rintro (h3 | h3 | h3)
    · omega
    · omega
    · rw [hd'] at h3; cases h3
  · rcases Nat.eq_zero_or_pos (hiN (ts ++ [⟨y, -1⟩]) (lastT (ts ++ [⟨y, -1⟩])) (start ls q)) with e | e
    · exact e
    · obtain ⟨z, hz, hl⟩ := hiN_pos.1 e
      have hz2 : z ∈ ell ls q.toNat := by
        unfold start at hz
        rw [mem_moreL] at hz
        rcases hz with hz | hz
        · cases hz
        · exact hz.1
      have h3 := hu z hz2
      rw [lvlT_left h3, lastT_more] at hl
      have := lvl_le h3
      omega

/-- the law's own test of a clause -/
def dTo (ts : List Stp) (l : List Int) (k : Nat) : Bool := (l.take k).all fun y => decide (0 ≤ lvlT ts y)
theorem dTo_succ {ts : List Stp} {l : List Int} {k : Nat} (h : k < l.length) : dTo ts l (k + 1) = (dTo ts l k && decide (0 ≤ lvlT ts (elt l k))) := by
  unfold dTo; rw [take_snoc l k h, List.all_append]; simp
theorem lvlT_ge {ts : List Stp} {y : Int} : 0 ≤ lvlT ts y ↔ plc ts (-y) < ts.length := by
  constructor
  · intro h
    unfold lvlT at h
    split at h
    · assumption
    · omega
  · intro h
    rw [lvlT_of h]; exact levAt_nn ts _
theorem dTo_all (ts : List Stp) (l : List Int) : dTo ts l l.length = deadB ts l := by
  unfold dTo deadB
  rw [List.take_length, Bool.eq_iff_iff, List.all_eq_true, List.all_eq_true]
  refine forall_congr' fun y => imp_congr_right fun _ => ?_
  rw [decide_eq_true_iff, decide_eq_true_iff, lvlT_ge]

end Go.Proofs.Ytenpenelikpeeaa

namespace Go.Proofs.Ytenpenelikpeeaa
open Go.RowKit Go.Shelf
set_option linter.unusedVariables false
set_option linter.unusedSimpArgs false

theorem step_append_st {w wr : World} {ops : Array Oper} {o : Oper} {a : Act} {K : Act → World → Prop} {Q : Exit → Act → World → Prop} {E : Prop} (hgd : o.guard = none) (s x : Operand)
    (ho : o.op = .call { callee := .builtin .append, args := #[s, x], argTypes := #[25, 25] }) (hb : Below wr.heap.size wr w) (v : Value) (n : Nat) (xs : List Stp) (hs : a.eval s = v) (hown : w.ownsRow wr.heap.size 41 2 v n (flatS xs))
    (A : Option Addr) (m c : Nat) (zs : List Stp) (hx : a.eval x = .slice A m c) (hr : RS w A m c zs) (hbytes : (n + m) * 16 ≤ 140737488355328) (k : Nat) (hk : n + m = k) (ys : List Stp) (hy : xs ++ zs = ys)
    (h : ∀ A' c' w', w'.ownsRow wr.heap.size 41 2 (.slice A' k c') k (flatS ys) → Below wr.heap.size wr w' → K (a.put o.dst (.slice A' k c')) w') :
    if Region.wanted o (yielded ops a.tmps) = true then Oper.wp Try.prog o a w K Q else E := by
  have hw : Region.wanted o (yielded ops a.tmps) = true := by simp [Region.wanted, hgd]
  rw [if_pos hw]
  subst hk hy
  obtain ⟨v', w', h1, h2, h3⟩ := run_append_st w o.type wr.heap.size v n xs hown A m c zs hr hbytes hb.size
  unfold Oper.wp
  simp only [execOp, ho, resolve, invoke, builtin, Sem.run_bind, Sem.run_pure, Result.andThen_ok, List.map_toArray, List.map_cons, List.map_nil, hs, hx, h1]
  obtain ⟨A', c', rfl⟩ := own_form h2
  exact h A' c' w' h2 (hb.grown h3 hb.size (fun g hg => (own_lt hown hg).1))

/-- a slice of steps of the call's own -/
def FreshS (ts : List Stp) (n : Nat) (w : World) (e : Ending) (w' : World) : Prop :=
  ∃ A c, e = .returned (.slice A n c) ∧ RS w' A n c ts ∧ Below w.heap.size w w'

set_option maxHeartbeats 400000 in
theorem has26_any (A : Option Addr) (n c : Nat) (zs : List Int) (x : Int) (w : World) (h : RI w A n c zs) :
    Calls Try.prog 26 #[.slice A n c, .int .i64 x] w fun e w' => e = .returned (.bool (hasB zs x)) ∧ w = w' := by
  have hn := h.small
  have H := Lib.hid h
  clear h
  go_enter Try.func26, Try.ntmps26
  go_wp2
  go_loop [5] (fun i => ∃ k : Nat, k ≤ n ∧ i = .int .i64 k ∧ hasB (zs.take k) x = false) (fun i => n - (intOf i).toNat)
  case atStart => exact ⟨0, Nat.zero_le _, rfl, rfl⟩
  case round =>
    obtain ⟨k, hk, rfl, hno⟩ := hrel
    have HN := Lib.hid hno
    clear hno
    by_cases hlt : k < n
    · have hl : k < zs.length := by rw [H.out.len]; exact hlt
      obtain ⟨b, off, rfl, hb, hc⟩ := H.out.cells (by omega)
      have hck := hc k hlt
      have E := Lib.hid (take_snoc zs k hl)
      have EM := Lib.hid (elt_mem hl)
      clear hc hl
      generalize elt zs k = y at *
      by_cases hy : y = x
      · have hyb : (y == x) = true := by simpa using hy
        have R : Hid (hasB zs x = true) := Lib.hid (hasB_iff.2 (by rw [← hy]; exact EM.out))
        clear hy
        go_wp2
        go_ret
        exact ⟨ret_bool R.out.symm, rfl⟩
      · have hyb : (y == x) = false := by simpa using hy
        have R : Hid (hasB (zs.take (k + 1)) x = false) := Lib.hid (by rw [hasB_false, E.out, List.mem_append, List.mem_singleton]; rintro (h1 | h1); exact hasB_false.1 HN.out h1; exact hy h1.symm)
        clear hy
        go_wp2
        go_round
        case rel => exact ⟨k + 1, by omega, by go_num, R.out⟩
        case measure => simp [intOf]; omega
    · have R : Hid (hasB zs x = false) := Lib.hid (by rw [← HN.out, List.take_of_length_le (by rw [H.out.len]; omega)])
      go_wp2
      go_ret
      exact ⟨ret_bool R.out.symm, rfl⟩

def flipT (ts : List Stp) : List Stp := ts.map fun s => ⟨-s.lit, s.why⟩
theorem flipT_succ {ts : List Stp} {k : Nat} (h : k < ts.length) : flipT (ts.take (k + 1)) = flipT (ts.take k) ++ [⟨-(stp ts k).lit, (stp ts k).why⟩] := by
  unfold flipT; rw [takes_snoc ts k h, List.map_append]; rfl

set_option maxRecDepth 100000 in
set_option maxHeartbeats 1000000 in
theorem flip_any (A : Option Addr) (n c : Nat) (ts : List Stp) (w : World) (h : RS w A n c ts) (hn : n ≤ 100000) (hb : ∀ s ∈ ts, -65536 ≤ s.lit ∧ s.lit ≤ 65536) :
    Calls Try.prog 29 #[.slice A n c] w (FreshS (flipT ts) n w) := by
  have H := Lib.hid h
  have HL := Lib.hid hb
  have HB1 := Lib.hid (below1 w (.cells #[] 41))
  have ho0 := Lib.hid (own_emptyS w w.heap.size w.heap.size rfl (Nat.le_refl _))
  clear h hb
  go_enter Try.func29, Try.ntmps29
  go_wp2
  go_loopw [3, 4] (fun s3 s4 W => ∃ (k : Nat) (O : Option Addr) (co : Nat), k ≤ n ∧ s4 = .int .i64 k ∧ s3 = .slice O k co ∧ W.ownsRow w.heap.size 41 2 (.slice O k co) k (flatS (flipT (ts.take k))) ∧ Below w.heap.size w W) (fun _ i _ => n - (intOf i).toNat)
  case atStart => exact ⟨0, _, 0, Nat.zero_le _, rfl, rfl, ho0.out, HB1.out⟩
  case round =>
    obtain ⟨k, O, co, hk, rfl, rfl, hown, hbW⟩ := hrel
    obtain ⟨W6, hW6, eW⟩ : ∃ W6, (Below w.heap.size w W6 ∧ W6.ownsRow w.heap.size 41 2 (.slice O k co) k (flatS (flipT (ts.take k)))) ∧ W6 = _ := ⟨_, ⟨hbW, hown⟩, rfl⟩
    subst eW
    have HO := Lib.hid hW6.2
    have HB := Lib.hid hW6.1
    clear hW6 hown hbW
    by_cases hlt : k < n
    · have hl : k < ts.length := by rw [H.out.len]; exact hlt
      obtain ⟨o2, o3⟩ := HL.out _ (stp_mem hl)
      obtain ⟨b, off, rfl, hbl, hc⟩ := (H.out.below HB.out).cells (by omega)
      obtain ⟨hc0, hc1⟩ := hc k hlt
      have E1 := Lib.hid (flipT_succ hl)
      clear hc hl
      generalize (stp ts k).why = y at *
      generalize (stp ts k).lit = x at *
      have hneg2 : IntKind.i64.wrap (-x) = -x := IntWalk.i64_in _ (by omega)
      have d1 : W6.drew.cell? ⟨b, off + k * 2, none⟩ = some (.int .i64 x) := hc0
      have d2 : W6.drew.cell? ⟨b, off + k * 2 + 1, none⟩ = some (.int .i64 y) := hc1
      have HD := Lib.hid (show W6.drew.ownsRow w.heap.size 41 2 (.slice O k co) k (flatS (flipT (ts.take k))) from HO.out)
      go_upto_region 5 with fail
      go_region_law (refine step_append_st (wr := w) rfl (.tmp 12) (.tmp 25) rfl ((HB.out.drew).alloc HB.out.size _) (.slice O k co) k (flipT (ts.take k)) rfl (HD.out.alloc _) (some ⟨W6.heap.size, 0, none⟩) 1 1 [⟨-x, y⟩] rfl (by first | exact RS.lit W6.drew [⟨-x, y⟩] 1 _ rfl rfl (by omega) | (rw [hneg2]; exact RS.lit W6.drew [⟨-x, y⟩] 1 _ rfl rfl (by omega))) (by omega) (k + 1) rfl _ E1.out.symm ?_; intro A9 c9 w9 ho9 hb9; have HO9 := Lib.hid ho9; have HB9 := Lib.hid hb9; clear ho9 hb9)
      all_goals go_wp2
      all_goals
        go_roundw
        case rel => exact ⟨k + 1, A9, c9, by omega, by go_num, rfl, HO9.out, HB9.out⟩
        case measure => simp [intOf]; omega
    · obtain rfl : k = n := by omega
      have E1 : Hid (ts.take k = ts) := Lib.hid (List.take_of_length_le (by rw [H.out.len]; omega))
      go_wp2
      go_ret
      exact ⟨O, co, rfl, by have := RS.of_own HO.out (by omega); rw [E1.out] at this; exact this, HB.out⟩

def backT (ts : List Stp) (b : Int) (k : Nat) : List Stp := ((List.range k).filter fun i => decide (levAt ts i ≤ b)).map (stp ts)
theorem backT_succ (ts : List Stp) (b : Int) (k : Nat) : backT ts b (k + 1) = if levAt ts k ≤ b then backT ts b k ++ [stp ts k] else backT ts b k := by
  unfold backT
  rw [List.range_succ, List.filter_append, List.map_append]
  by_cases h : levAt ts k ≤ b <;> simp [h]
theorem backT_len (ts : List Stp) (b : Int) (k : Nat) : (backT ts b k).length ≤ k := by
  unfold backT; rw [List.length_map]; exact Nat.le_trans (List.length_filter_le _ _) (by simp)

set_option maxRecDepth 100000 in
set_option maxHeartbeats 1000000 in
theorem back_any (bn : Nat) (A : Option Addr) (n c : Nat) (ts : List Stp) (bk : Int) (w : World) (h : RS w A n c ts) (hn : n ≤ 100000) (hbn : (backT ts bk n).length = bn) :
    Calls Try.prog 28 #[.slice A n c, .int .i64 bk] w (FreshS (backT ts bk n) bn w) := by
  have H := Lib.hid h
  have HBN := Lib.hid hbn
  clear h hbn
  go_enter Try.func28, Try.ntmps28
  go_upto_region 3 with (go_at_call 18; refine (levels_any A n c ts _ H.out (by omega)).mono ?_; rintro e w5 ⟨A5, c5, rfl, hr5, hb5⟩; have HB5 := Lib.hid hb5; have HV5 := Lib.hid hr5; clear hr5 hb5)
  go_wp2
  go_loopw [5, 11] (fun s5 s11 W => ∃ (k m : Nat) (O : Option Addr) (co : Nat), k ≤ n ∧ s11 = .int .i64 k ∧ s5 = .slice O m co ∧ (backT ts bk k).length = m ∧ W.ownsRow w5.heap.size 41 2 (.slice O m co) m (flatS (backT ts bk k)) ∧ Below w5.heap.size w5 W) (fun _ i _ => n - (intOf i).toNat)
  case atStart => exact ⟨0, 0, none, 0, Nat.zero_le _, rfl, rfl, rfl, World.ownsRow_nil _ _ _ _, Below.refl _ _⟩
  case round =>
    obtain ⟨k, m, O, co, hk, rfl, rfl, hm, hown, hbW⟩ := hrel
    obtain ⟨W6, hW6, eW⟩ : ∃ W6, (Below w5.heap.size w5 W6 ∧ W6.ownsRow w5.heap.size 41 2 (.slice O m co) m (flatS (backT ts bk k))) ∧ W6 = _ := ⟨_, ⟨hbW, hown⟩, rfl⟩
    subst eW
    have HO := Lib.hid hW6.2
    have HB := Lib.hid hW6.1
    have hmk : m ≤ k := by rw [← hm]; exact backT_len _ _ _
    have HM := Lib.hid hm
    clear hW6 hown hbW hm
    by_cases hlt : k < n
    · have hl : k < ts.length := by rw [H.out.len]; exact hlt
      obtain ⟨b, off, rfl, hbl, hc⟩ := ((H.out.below HB5.out).below HB.out).cells (by omega)
      obtain ⟨hc0, hc1⟩ := hc k hlt
      obtain ⟨b2, off2, rfl, hbl2, hc2⟩ := (HV5.out.below HB.out).cells (by omega)
      have hck := hc2 k hlt
      rw [levL_at hl] at hck
      have E1 := Lib.hid (backT_succ ts bk k)
      clear hc hc2 hl
      obtain ⟨s, hs⟩ : ∃ s, stp ts k = s := ⟨_, rfl⟩
      rw [hs] at hc0 hc1 E1
      generalize levAt ts k = v at *
      by_cases hv : v ≤ bk
      · have dv : decide (v ≤ bk) = true := decide_eq_true hv
        have E2 : Hid (backT ts bk (k + 1) = backT ts bk k ++ [s]) := Lib.hid (by rw [E1.out, if_pos hv])
        obtain ⟨x, y⟩ := s
        clear hv E1 hs
        go_wp2_with (at_builtin; refine wpList_append_st (wr := w5) rfl (.tmp 19) (.tmp 24) rfl (HB.out.alloc HB.out.size _) (.slice O m co) m (backT ts bk k) rfl (HO.out.alloc _) (some ⟨W6.heap.size, 0, none⟩) 1 1 [⟨x, y⟩] rfl (RS.lit W6 [⟨x, y⟩] 1 _ rfl rfl (by omega)) (by omega) (m + 1) rfl _ E2.out.symm ?_; intro A9 c9 w9 ho9 hb9; have HO9 := Lib.hid ho9; have HB9 := Lib.hid hb9; clear ho9 hb9)
        go_roundw
        case rel => exact ⟨k + 1, m + 1, A9, c9, by omega, by go_num, rfl, by rw [E2.out, List.length_append, HM.out]; rfl, HO9.out, HB9.out⟩
        case measure => simp [intOf]; omega
      · have dv : decide (v ≤ bk) = false := decide_eq_false hv
        have E2 : Hid (backT ts bk (k + 1) = backT ts bk k) := Lib.hid (by rw [E1.out, if_neg hv])
        clear hv E1 hs
        go_wp2
        go_roundw
        case rel => exact ⟨k + 1, m, O, co, by omega, by go_num, rfl, by rw [E2.out]; exact HM.out, by rw [E2.out]; exact HO.out, HB.out⟩
        case measure => simp [intOf]; omega
    · obtain rfl : k = n := by omega
      obtain rfl : bn = m := by rw [← HBN.out]; exact HM.out
      go_wp2
      go_ret
      exact ⟨O, co, rfl, RS.of_own HO.out (by omega), HB5.out.trans (HB.out.mono HB5.out.size)⟩

end Go.Proofs.Ytenpenelikpeeaa

namespace Go.Proofs.Ytenpenelikpeeaa
open Go.RowKit Go.Shelf
set_option linter.unusedVariables false
set_option linter.unusedSimpArgs false

/-- the engine's block -/
def BoxE (w : World) (G bt : Nat) (A : Option Addr) (n c : Nat) (bw : Nat) (O : Option Addr) (no co : Nat) (hd : Int) : Prop :=
  w.heap[G]? = some (.cells #[.map (some bt), .slice A n c, .map (some bw), .slice O no co, .int .i64 hd] 89 (0, 0))
section
variable {w w' : World} {G bt : Nat} {A : Option Addr} {n c bw : Nat} {O : Option Addr} {no co : Nat} {hd : Int}
theorem BoxE.c0 (h : BoxE w G bt A n c bw O no co hd) : w.cell? ⟨G, 0, none⟩ = some (.map (some bt)) := by simp [World.cell?, show w.heap[G]? = _ from h]
theorem BoxE.c1 (h : BoxE w G bt A n c bw O no co hd) : w.cell? ⟨G, 1, none⟩ = some (.slice A n c) := by simp [World.cell?, show w.heap[G]? = _ from h]
theorem BoxE.c2 (h : BoxE w G bt A n c bw O no co hd) : w.cell? ⟨G, 2, none⟩ = some (.map (some bw)) := by simp [World.cell?, show w.heap[G]? = _ from h]
theorem BoxE.c3 (h : BoxE w G bt A n c bw O no co hd) : w.cell? ⟨G, 3, none⟩ = some (.slice O no co) := by simp [World.cell?, show w.heap[G]? = _ from h]
theorem BoxE.c4 (h : BoxE w G bt A n c bw O no co hd) : w.cell? ⟨G, 4, none⟩ = some (.int .i64 hd) := by simp [World.cell?, show w.heap[G]? = _ from h]
theorem BoxE.f (h : BoxE w G bt A n c bw O no co hd) (k : Nat) : w.frozen? ⟨G, k, none⟩ = false := by simp [World.frozen?, show w.heap[G]? = _ from h]
theorem BoxE.lt (h : BoxE w G bt A n c bw O no co hd) : G < w.heap.size := (Array.getElem?_eq_some_iff.1 h).1
theorem BoxE.below (h : BoxE w G bt A n c bw O no co hd) (hb : Below w.heap.size w w') : BoxE w' G bt A n c bw O no co hd := (hb.block G h.lt).trans h
end

/-- the distinct literals that are not false, two at most -/
def opnS (S op : List Int) (y : Int) : List Int := if (!(hasB S (-y)) && (decide (op.length < 2) && !(hasB op y))) = true then op ++ [y] else op
def opnT (S l : List Int) : List Int := l.foldl (opnS S) []
theorem opnT_snoc (S l : List Int) (y : Int) : opnT S (l ++ [y]) = opnS S (opnT S l) y := by unfold opnT; rw [List.foldl_append]; rfl
theorem opnT_len (S l : List Int) : (opnT S l).length ≤ 2 := by
  induction l using snoc_ind with
  | h0 => simp [opnT]
  | h1 l y ih =>
    rw [opnT_snoc]; unfold opnS
    split
    · rename_i h
      simp only [Bool.and_eq_true, decide_eq_true_eq] at h
      simp; omega
    · exact ih
theorem opnS_no1 {S op : List Int} {y : Int} (h : hasB S (-y) = true) : opnS S op y = op := by unfold opnS; simp [h]
theorem opnS_no2 {S op : List Int} {y : Int} (h : ¬ op.length < 2) : opnS S op y = op := by unfold opnS; simp [h]
theorem opnS_no3 {S op : List Int} {y : Int} (h : hasB op y = true) : opnS S op y = op := by unfold opnS; simp [h]
theorem opnS_yes {S op : List Int} {y : Int} (h1 : hasB S (-y) = false) (h2 : op.length < 2) (h3 : hasB op y = false) : opnS S op y = op ++ [y] := by unfold opnS; simp [h1, h2, h3]

/-- what look hands back -/
def LookP (S l : List Int) (w : World) (e : Ending) (w' : World) : Prop :=
  ∃ (A : Option Addr) (n c : Nat), e = .returned (.tuple #[.slice A n c, .bool (l.any (hasB S))]) ∧ (l.any (hasB S) = false → (opnT S l).length = n ∧ RI w' A n c (opnT S l) ∧ ∀ b off, A = some ⟨b, off, none⟩ → w.heap.size ≤ b) ∧ Below w.heap.size w w'
theorem LookP.yes {S l : List Int} {w w' : World} {A : Option Addr} {n c : Nat} (h : l.any (hasB S) = true) (hb : Below w.heap.size w w') : LookP S l w (.returned (.tuple #[.slice A n c, .bool true])) w' :=
  ⟨A, n, c, by rw [h], fun h2 => (by rw [h] at h2; cases h2), hb⟩
theorem LookP.no {S l : List Int} {w w' : World} {A : Option Addr} {n c : Nat} (h : l.any (hasB S) = false) (h1 : (opnT S l).length = n) (h2 : RI w' A n c (opnT S l)) (h3 : ∀ b off, A = some ⟨b, off, none⟩ → w.heap.size ≤ b) (hb : Below w.heap.size w w') : LookP S l w (.returned (.tuple #[.slice A n c, .bool false])) w' :=
  ⟨A, n, c, by rw [h], fun _ => ⟨h1, h2, h3⟩, hb⟩

set_option maxRecDepth 100000 in
set_option maxHeartbeats 2000000 in
theorem look_any (G bt : Nat) (A : Option Addr) (n c bw : Nat) (O : Option Addr) (no co : Nat) (hd : Int) (ls : List (List Int)) (nt : Nat) (S : List Int) (i : Nat) (w : World)
    (hbx : BoxE w G bt A n c bw O no co hd) (h : RL w A n c ls) (hs : SetM w bt nt S) (hi : i < n) (hok : Okl (ell ls i)) :
    Calls Try.prog 81 #[.pointer (some ⟨G, 0, none⟩), .int .i64 i] w (LookP S (ell ls i) w) := by
  obtain ⟨i0, hii, hz0, hz1, hz2⟩ := info_parts infoInt
  obtain ⟨zl, hzl⟩ : ∃ zl, ell ls i = zl := ⟨_, rfl⟩
  rw [hzl] at hok ⊢
  obtain ⟨b, off, rfl, hbl, hcl⟩ := h.cells (by omega)
  obtain ⟨A1, m, c1, hcj, hr1⟩ := hcl i hi
  rw [hzl] at hr1
  have hm := hr1.small
  have HM := Lib.hid hr1.len
  have OK := Lib.hid hok
  have HR1 := Lib.hid hr1
  have BX := Lib.hid hbx
  have HS := Lib.hid hs
  have hbt := hs.lt
  have g0 := hbx.c0
  have g1 := hbx.c1
  clear hbx h hs hok hcl hr1 hzl
  go_enter Try.func81, Try.ntmps81
  go_wp2
  clear g0 g1 hcj
  go_loopw [4, 16] (fun s4 s16 W => ∃ (k K : Nat) (O : Option Addr) (co : Nat), k ≤ m ∧ s16 = .int .i64 k ∧ s4 = .slice O K co ∧ (opnT S (zl.take k)).length = K ∧ (zl.take k).any (hasB S) = false ∧ W.ownsRow w.heap.size 3 1 (.slice O K co) K ((opnT S (zl.take k)).map (Value.int .i64)) ∧ Below w.heap.size w W) (fun _ i _ => m - (intOf i).toNat)
  case atStart => exact ⟨0, 0, none, 0, Nat.zero_le _, rfl, rfl, rfl, rfl, World.ownsRow_nil _ _ _ _, Below.refl _ _⟩
  case round =>
    obtain ⟨k, K, O, co, hk, rfl, rfl, hK, hno, hown, hbW⟩ := hrel
    obtain ⟨W6, hW6, eW⟩ : ∃ W6, (Below w.heap.size w W6 ∧ W6.ownsRow w.heap.size 3 1 (.slice O K co) K ((opnT S (zl.take k)).map (Value.int .i64))) ∧ W6 = _ := ⟨_, ⟨hbW, hown⟩, rfl⟩
    subst eW
    have hK2 : K ≤ 2 := by rw [← hK]; exact opnT_len _ _
    have HO := Lib.hid hW6.2
    have HB := Lib.hid hW6.1
    have HK := Lib.hid hK
    have HN := Lib.hid hno
    have hsz := hW6.1.size
    clear hW6 hown hbW hK hno
    have BX6 := Lib.hid (BX.out.below HB.out)
    have HS6 := Lib.hid (MF.below HS.out HB.out hbt)
    have g0 := BX6.out.c0
    by_cases hlt : k < m
    · have hl : k < zl.length := by rw [HM.out]; exact hlt
      obtain ⟨b1, off1, rfl, hb1, hc1⟩ := (HR1.out.below HB.out).cells (by omega)
      have hck := hc1 k hlt
      have E1 := Lib.hid (show opnT S (zl.take (k + 1)) = opnS S (opnT S (zl.take k)) (elt zl k) by rw [take_snoc zl k hl, opnT_snoc])
      have E2 := Lib.hid (show (zl.take (k + 1)).any (hasB S) = ((zl.take k).any (hasB S) || hasB S (elt zl k)) by rw [take_snoc zl k hl, List.any_append]; simp)
      have EM := Lib.hid (elt_mem hl)
      obtain ⟨o1, o2, o3⟩ := OK.out _ (elt_mem hl)
      clear hc1 hl
      generalize elt zl k = y at *
      have hneg := lit_neg' o2 o3
      have l1 := SetM.look HS6.out Try.underlying81 (wfI_lit o2 o3)
      have l2 := SetM.look HS6.out Try.underlying81 (x := -y) (wfI_lit (by omega) (by omega))
      cases h1 : hasB S y with
      | true =>
        have R := Lib.hid (show zl.any (hasB S) = true from List.any_eq_true.2 ⟨y, EM.out, h1⟩)
        rw [h1] at l1
        clear l2 h1
        go_wp2
        go_ret2
        exact LookP.yes R.out (HB.out.trans ((below1 W6 _).mono HB.out.size))
      | false =>
        rw [h1] at l1
        have E3 := Lib.hid (show (zl.take (k + 1)).any (hasB S) = false by rw [E2.out, HN.out, h1]; rfl)
        clear h1
        cases h2 : hasB S (-y) with
        | true =>
          rw [h2] at l2
          have E4 := Lib.hid (show opnT S (zl.take (k + 1)) = opnT S (zl.take k) by rw [E1.out, opnS_no1 h2])
          clear h2
          go_wp2
          go_roundw
          case rel => exact ⟨k + 1, K, O, co, by omega, by go_num, rfl, by rw [E4.out]; exact HK.out, E3.out, by rw [E4.out]; exact HO.out, HB.out⟩
          case measure => simp [intOf]; omega
        | false =>
          rw [h2] at l2
          by_cases hK3 : K < 2
          · have dK : decide ((K : Int) < 2) = true := by rw [decide_eq_true_iff]; omega
            have HRK := Lib.hid (RI.of_own HO.out (by omega))
            cases h3 : hasB (opnT S (zl.take k)) y with
            | true =>
              have E4 := Lib.hid (show opnT S (zl.take (k + 1)) = opnT S (zl.take k) by rw [E1.out, opnS_no3 h3])
              have H3 := Lib.hid h3
              clear h2 h3
              go_wp2_with (go_at_call 55; refine (contains_val true O K co _ y _ HRK.out H3.out).mono ?_; rintro e w7 ⟨rfl, rfl⟩)
              go_roundw
              case rel => exact ⟨k + 1, K, O, co, by omega, by go_num, rfl, by rw [E4.out]; exact HK.out, E3.out, by rw [E4.out]; exact HO.out, HB.out⟩
              case measure => simp [intOf]; omega
            | false =>
              have E4 := Lib.hid (show opnT S (zl.take (k + 1)) = opnT S (zl.take k) ++ [y] by rw [E1.out, opnS_yes h2 (by rw [HK.out]; exact hK3) h3])
              have H3 := Lib.hid h3
              clear h2 h3
              go_wp2_with (first
                | (go_at_call 55; refine (contains_val false O K co _ y _ HRK.out H3.out).mono ?_; rintro e w7 ⟨rfl, rfl⟩)
                | (at_builtin; refine wpList_append_to (wr := w) rfl (.tmp 49) (.tmp 51) rfl (HB.out.alloc HB.out.size _) (.slice O K co) K (opnT S (zl.take k)) rfl (HO.out.alloc _) (some ⟨W6.heap.size, 0, none⟩) 1 1 [y] rfl (RI.lit W6 [y] 1 _ rfl rfl (by omega)) (by omega) (K + 1) rfl _ E4.out.symm ?_; intro A9 c9 w9 ho9 hb9; have HO9 := Lib.hid ho9; have HB9 := Lib.hid hb9; clear ho9 hb9))
              go_roundw
              case rel => exact ⟨k + 1, K + 1, A9, c9, by omega, by go_num, rfl, by rw [E4.out, List.length_append, HK.out]; rfl, E3.out, HO9.out, HB9.out⟩
              case measure => simp [intOf]; omega
          · have dK : decide ((K : Int) < 2) = false := by rw [decide_eq_false_iff_not]; omega
            have E4 := Lib.hid (show opnT S (zl.take (k + 1)) = opnT S (zl.take k) by rw [E1.out, opnS_no2 (by rw [HK.out]; exact hK3)])
            clear h2
            go_wp2
            go_roundw
            case rel => exact ⟨k + 1, K, O, co, by omega, by go_num, rfl, by rw [E4.out]; exact HK.out, E3.out, by rw [E4.out]; exact HO.out, HB.out⟩
            case measure => simp [intOf]; omega
    · obtain rfl : k = m := by omega
      have E : Hid (zl.take k = zl) := Lib.hid (List.take_of_length_le (by rw [HM.out]; omega))
      go_wp2
      go_ret2
      exact LookP.no (by rw [← E.out]; exact HN.out) (by rw [← E.out]; exact HK.out) (by have := RI.of_own HO.out (by omega); rw [E.out] at this; exact this) (fun b off e => (own_lt HO.out (g := b) (by rw [e]; rfl)).1) HB.out

end Go.Proofs.Ytenpenelikpeeaa

namespace Go.Proofs.Ytenpenelikpeeaa
open Go.RowKit Go.Shelf
set_option linter.unusedVariables false
set_option linter.unusedSimpArgs false

/-- a row of the call's own, as a slice names it -/
structure Hdr where
  g : Option Nat
  n : Nat
  c : Nat
def Hdr.A (h : Hdr) : Option Addr := h.g.map fun g => ⟨g, 0, none⟩
def hdrV (h : Hdr) : Value := .slice h.A h.n h.c
def hd0 : Hdr := ⟨none, 0, 0⟩
theorem hdrV_inj {a b : Hdr} (h : hdrV a = hdrV b) : a = b := by
  obtain ⟨g, n, c⟩ := a
  obtain ⟨g', n', c'⟩ := b
  simp only [hdrV, Hdr.A, Value.slice.injEq] at h
  obtain ⟨h1, rfl, rfl⟩ := h
  cases g <;> cases g' <;> simp at h1
  · rfl
  · subst h1; rfl
theorem hdrV_own (h : Hdr) : (hdrV h).ownBlock = h.g := by
  obtain ⟨g, n, c⟩ := h
  cases g <;> rfl
/-- how such a value reads: through no place -/
def hdrD (h : Hdr) : DataW Unit := .slice (match h.g with | none => [] | some g => [.lit (.int .i64 g)]) [.lit (.int .i64 h.n), .lit (.int .i64 h.c)]
theorem hdrD_inj {a b : Hdr} (h : hdrD a = hdrD b) : a = b := by
  obtain ⟨g, n, c⟩ := a
  obtain ⟨g', n', c'⟩ := b
  cases g <;> cases g' <;> simp [hdrD] at h
  · obtain ⟨h1, h2⟩ := h
    obtain rfl : n = n' := by omega
    obtain rfl : c = c' := by omega
    rfl
  · rename_i g g'
    obtain ⟨h0, h1, h2⟩ := h
    obtain rfl : n = n' := by omega
    obtain rfl : c = c' := by omega
    obtain rfl : g = g' := by omega
    rfl
open Classical in
noncomputable def RH (v : Value) : Option (DataW Unit × List MemPlace) := if h : ∃ x : Hdr, v = hdrV x then some (hdrD h.choose, []) else none
theorem RH_mk (x : Hdr) : RH (hdrV x) = some (hdrD x, []) := by
  have h : ∃ y : Hdr, hdrV x = hdrV y := ⟨x, rfl⟩
  unfold RH
  rw [dif_pos h, ← hdrV_inj h.choose_spec]
theorem RH_inv {v : Value} {x : Hdr} {ps : List MemPlace} (h : RH v = some (hdrD x, ps)) : v = hdrV x := by
  unfold RH at h
  split at h
  · rename_i h1
    simp only [Option.some.injEq, Prod.mk.injEq] at h
    rw [← hdrD_inj h.1]
    exact h1.choose_spec
  · cases h

/-- the block is a map that holds what f says -/
def HM (w : World) (b n : Nat) (f : Int → Option Hdr) : Prop := ∃ D : DataW Unit, w.ownsMap Try.prog 3 RH b n D ∧ Holdsf hdrD D f
theorem HM.made (w : World) : HM (w.alloc (.map #[] 0)) w.heap.size 0 emptyF :=
  ⟨_, World.ownsMap_made w _ _ _, fun x _ => rfl, fun x v _ h => by cases h⟩
theorem HM.lt {w : World} {b n : Nat} {f : Int → Option Hdr} (h : HM w b n f) : b < w.heap.size := by
  obtain ⟨D, h1, h2⟩ := h; exact h1.lt
theorem HM.kept {w w' : World} {b n : Nat} {f : Int → Option Hdr} {row : Option Nat} (h : HM w b n f) (hg : w.grownBy w' row) (hne : some b ≠ row) : HM w' b n f := by
  obtain ⟨D, h1, h2⟩ := h; exact ⟨D, h1.kept hg hne, h2⟩
theorem HM.block {w : World} {b n : Nat} {f : Int → Option Hdr} (h : HM w b n f) : ∃ es clock, w.heap[b]? = some (.map es clock) := by
  obtain ⟨D, ⟨es, clock, h1, _⟩, _⟩ := h; exact ⟨es, clock, h1⟩
theorem HM.look {t : TypeId} (ht : Try.prog.underlying t = some (.map 3 28)) {w : World} {b n : Nat} {f : Int → Option Hdr} (h : HM w b n f) {x : Int} (hx : wfI x = true) :
    (Instr.lookup t (.map (some b)) (.int .i64 x) false).run Try.prog w = .ok (hdrV ((f x).getD hd0)) w := by
  obtain ⟨D, h1, h2, h3⟩ := h
  obtain ⟨v, ps, hrun, hv⟩ := h1.lookup (Maps.int_keyed Try.underlying3) ht (z := hdrV hd0) (Try.zeroValue28 w) (RH_mk hd0) (Maps.keyOf_int_mk Try.underlying3 hx)
  rw [hrun]
  cases hf : f x with
  | none =>
    rw [Maps.atKey_of_not_has (by rw [h2 x hx, hf]; rfl)] at hv
    rw [RH_inv hv]; rfl
  | some y =>
    rw [h3 x y hx hf] at hv
    rw [RH_inv hv]; rfl
theorem HM.put {t : TypeId} (ht : Try.prog.underlying t = some (.map 3 28)) {w : World} {b n : Nat} {f : Int → Option Hdr} (h : HM w b n f) (hn : n < maxLen) {x : Int} (hx : wfI x = true) (v : Hdr) :
    ∃ w', (Instr.mapUpdate t (.map (some b)) (.int .i64 x) (hdrV v)).run Try.prog w = .ok () w' ∧ HM w' b (n + 1) (putF f x v) ∧ w.mapTurned w' b := by
  obtain ⟨D, h1, h2⟩ := h
  obtain ⟨w', hrun, ho, hg⟩ := h1.store (Maps.int_keyed Try.underlying3) ht hn (Maps.keyOf_int_mk Try.underlying3 hx) (RH_mk v)
  exact ⟨w', hrun, ⟨_, ho, h2.put h1.isMap x v⟩, hg⟩

def hat (f : Int → Option Hdr) (x : Int) : Hdr := (f x).getD hd0
theorem hat_put (f : Int → Option Hdr) (x : Int) (v : Hdr) (y : Int) : hat (putF f x v) y = if y = x then v else hat f y := by
  unfold hat putF; by_cases h : y = x <;> simp [h]
def setW (wt : Int → List Int) (x : Int) (zs : List Int) : Int → List Int := fun y => if y = x then zs else wt y

/-- the watches: under each key a row of the call's own, no two of them one -/
structure Wat (w : World) (base bw nw : Nat) (f : Int → Option Hdr) (wt : Int → List Int) : Prop where
  map : HM w bw nw f
  row : ∀ x, wfI x = true → w.ownsRow base 3 1 (hdrV (hat f x)) (hat f x).n ((wt x).map (Value.int .i64))
  sep : ∀ x y g, x ≠ y → wfI x = true → wfI y = true → (hat f x).g = some g → (hat f y).g ≠ some g
theorem Wat.ne {w : World} {base bw nw : Nat} {f : Int → Option Hdr} {wt : Int → List Int} (h : Wat w base bw nw f wt) {x : Int} (hx : wfI x = true) : (hat f x).g ≠ some bw := by
  intro e
  obtain ⟨es, clock, h1⟩ := h.map.block
  obtain ⟨_, h2⟩ := h.row x hx
  have h3 := hdrV_own (hat f x)
  rcases h2 with ⟨h4, _⟩ | ⟨g, cap, cur, h4, _, h5, _⟩
  · rw [h4, e] at h3; cases h3
  · rw [h4, e] at h3
    simp only [Value.ownBlock, Option.some.injEq] at h3
    subst h3
    rw [h1] at h5; cases h5
theorem Wat.kept {w w' : World} {base bw nw : Nat} {f : Int → Option Hdr} {wt : Int → List Int} {row : Option Nat} (h : Wat w base bw nw f wt) (hg : w.grownBy w' row) (h1 : some bw ≠ row) (h2 : ∀ x g, wfI x = true → (hat f x).g = some g → some g ≠ row) : Wat w' base bw nw f wt := by
  refine ⟨h.map.kept hg h1, fun x hx => (h.row x hx).kept hg ?_, h.sep⟩
  rw [hdrV_own]
  cases hg2 : (hat f x).g with
  | none => exact Or.inl rfl
  | some g => exact Or.inr (h2 x g hx hg2)
theorem Wat.made {w : World} {base : Nat} (hb : base ≤ w.heap.size) : Wat (w.alloc (.map #[] 0)) base w.heap.size 0 emptyF (fun _ => []) :=
  ⟨HM.made w, fun x _ => World.ownsRow_nil _ _ _ _, fun x y g _ _ _ h => by cases h⟩
/-- a key written: its row is one that no other key has -/
theorem Wat.put {t : TypeId} (ht : Try.prog.underlying t = some (.map 3 28)) {w : World} {base bw nw : Nat} {f : Int → Option Hdr} {wt : Int → List Int} {x : Int} (hm : HM w bw nw f) (hrow : ∀ y, y ≠ x → wfI y = true → w.ownsRow base 3 1 (hdrV (hat f y)) (hat f y).n ((wt y).map (Value.int .i64)))
    (hsep : ∀ x y g, x ≠ y → wfI x = true → wfI y = true → (hat f x).g = some g → (hat f y).g ≠ some g) (hn : nw < maxLen) (hx : wfI x = true) (v : Hdr) (zs : List Int) (hv : w.ownsRow base 3 1 (hdrV v) v.n (zs.map (Value.int .i64))) (hne : ∀ y g, y ≠ x → wfI y = true → (hat f y).g = some g → v.g ≠ some g) :
    ∃ w', (Instr.mapUpdate t (.map (some bw)) (.int .i64 x) (hdrV v)).run Try.prog w = .ok () w' ∧ Wat w' base bw (nw + 1) (putF f x v) (setW wt x zs) ∧ w.mapTurned w' bw := by
  obtain ⟨es, clock, hblk⟩ := hm.block
  obtain ⟨w', h1, h2, h3⟩ := hm.put ht hn hx v
  have keep : ∀ (h : Hdr) (l : List Value), w.ownsRow base 3 1 (hdrV h) h.n l → w'.ownsRow base 3 1 (hdrV h) h.n l := by
    intro h l ho
    refine ho.kept h3.grown ?_
    rcases ho.2 with ⟨h4, _⟩ | ⟨g, cap, cur, h4, _, h5, _⟩
    · left; rw [h4]; rfl
    · right
      rw [h4]
      simp only [Value.ownBlock, ne_eq, Option.some.injEq]
      intro e
      subst e
      rw [hblk] at h5; cases h5
  refine ⟨w', h1, ⟨h2, fun y hy => ?_, fun a b g hab ha hb hga => ?_⟩, h3⟩
  · rw [hat_put]
    unfold setW
    by_cases e : y = x
    · rw [if_pos e, if_pos e]; exact keep v _ hv
    · rw [if_neg e, if_neg e]; exact keep _ _ (hrow y e hy)
  · rw [hat_put] at hga ⊢
    by_cases e1 : a = x
    · rw [if_pos e1] at hga
      rw [if_neg (fun e2 => hab (e1.trans e2.symm))]
      intro h
      exact hne b g (fun e2 => hab (e1.trans e2.symm)) hb h hga
    · rw [if_neg e1] at hga
      by_cases e2 : b = x
      · rw [if_pos e2]
        exact hne a g e1 ha hga
      · rw [if_neg e2]; exact hsep a b g hab ha hb hga

end Go.Proofs.Ytenpenelikpeeaa

namespace Go.Proofs.Ytenpenelikpeeaa
set_option linter.unusedVariables false
set_option linter.unusedSimpArgs false

theorem opn_mem {S l : List Int} : ∀ y ∈ opnT S l, y ∈ l ∧ hasB S (-y) = false := by
  induction l using snoc_ind with
  | h0 => intro y hy; cases hy
  | h1 l x ih =>
    intro y hy
    rw [opnT_snoc] at hy
    unfold opnS at hy
    split at hy
    · rename_i h
      simp only [Bool.and_eq_true, Bool.not_eq_true'] at h
      rcases List.mem_append.1 hy with h1 | h1
      · exact ⟨by simp [(ih y h1).1], (ih y h1).2⟩
      · rw [List.mem_singleton.1 h1]; exact ⟨by simp, h.1⟩
    · exact ⟨by simp [(ih y hy).1], (ih y hy).2⟩
theorem opn_nodup {S l : List Int} : (opnT S l).Nodup := by
  induction l using snoc_ind with
  | h0 => exact List.nodup_nil
  | h1 l x ih =>
    rw [opnT_snoc]; unfold opnS
    split
    · rename_i h
      simp only [Bool.and_eq_true, Bool.not_eq_true'] at h
      rw [List.nodup_append]
      refine ⟨ih, by simp, fun a ha b hb e => hasB_false.1 h.2.2 ?_⟩
      rw [List.mem_singleton.1 hb] at e
      exact e ▸ ha
    · exact ih
theorem opn_short {S l : List Int} (h : (opnT S l).length < 2) : ∀ y ∈ l, hasB S (-y) = false → y ∈ opnT S l := by
  induction l using snoc_ind with
  | h0 => intro y hy; cases hy
  | h1 l x ih =>
    intro y hy hf
    rw [opnT_snoc] at h ⊢
    unfold opnS at h ⊢
    split at h
    · rename_i hc
      rw [if_pos hc]
      have h2 : (opnT S l).length < 2 := by simp at h; omega
      rcases List.mem_append.1 hy with h1 | h1
      · simp [ih h2 y h1 hf]
      · simp [List.mem_singleton.1 h1]
    · rename_i hc
      rw [if_neg hc]
      rcases List.mem_append.1 hy with h1 | h1
      · exact ih h y h1 hf
      · rw [List.mem_singleton.1 h1] at hf ⊢
        rcases Decidable.em (x ∈ opnT S l) with h2 | h2
        · exact h2
        · exact absurd (by simp [hf, h, hasB_false.2 h2]) hc

theorem checkE_isB {x : Int} {ls : List (List Int)} (h : checkE x ls = 0) {l : List Int} (hl : l ∈ ls) {y : Int} (hy : y ∈ l) : isB y x = true := by
  unfold checkE at h
  split at h
  · cases h
  · split at h
    · cases h
    · rename_i h1 h2
      have h3 : allB x ls = true := by simpa using h2
      have h4 : litsB x l = true := List.all_eq_true.1 h3 l hl
      exact List.all_eq_true.1 h4 y hy

/-- the trail and the watches -/
structure PS where
  ts : List Stp
  wt : Int → List Int
def addW (wt : Int → List Int) (k i : Int) : Int → List Int := setW wt k (wt k ++ [i])
theorem addW_old {wt : Int → List Int} {k i y j : Int} (h : j ∈ wt y) : j ∈ addW wt k i y := by
  unfold addW setW
  by_cases e : y = k
  · rw [if_pos e, ← e]; simp [h]
  · rw [if_neg e]; exact h
theorem addW_new (wt : Int → List Int) (k i : Int) : i ∈ addW wt k i k := by unfold addW setW; simp
/-- one visit: false where the clause is falsified -/
def visT (ls : List (List Int)) (i : Nat) (s : PS) : Bool × PS :=
  if (ell ls i).any (hasB (litsOf s.ts)) = true then (true, s) else
  match opnT (litsOf s.ts) (ell ls i) with
  | [] => (false, s)
  | [x] => (true, ⟨s.ts ++ [⟨x, i⟩], s.wt⟩)
  | x :: y :: _ => (true, ⟨s.ts, addW (addW s.wt (-x) i) (-y) i⟩)

/-- satisfied, or two of its literals watched whose negations lie not behind -/
def Good (S : List Int) (wt : Int → List Int) (P : Int → Prop) (l : List Int) (i : Nat) : Prop :=
  l.any (hasB S) = true ∨ ∃ x y, x ∈ l ∧ y ∈ l ∧ x ≠ y ∧ (i : Int) ∈ wt (-x) ∧ (i : Int) ∈ wt (-y) ∧ ¬ P (-x) ∧ ¬ P (-y)
theorem Good.grow {S S' : List Int} {wt wt' : Int → List Int} {P : Int → Prop} {l : List Int} {i : Nat} (h : Good S wt P l i) (hS : ∀ y ∈ S, y ∈ S') (hw : ∀ k j, j ∈ wt k → j ∈ wt' k) : Good S' wt' P l i := by
  rcases h with h | ⟨x, y, h1, h2, h3, h4, h5, h6, h7⟩
  · obtain ⟨y, hy, hh⟩ := List.any_eq_true.1 h
    exact Or.inl (List.any_eq_true.2 ⟨y, hy, hasB_iff.2 (hS y (hasB_iff.1 hh))⟩)
  · exact Or.inr ⟨x, y, h1, h2, h3, hw _ _ h4, hw _ _ h5, h6, h7⟩

theorem litsOf_app (a b : List Stp) : litsOf (a ++ b) = litsOf a ++ litsOf b := by simp [litsOf]
/-- a step that a clause forces keeps the trail valid -/
theorem trail_more {x : Int} {ls : List (List Int)} {ts : List Stp} (h : trailB x ls ts = true) {y : Int} {i : Nat} (hi : i < ls.length) (hb : isB y x = true) (h1 : hasB (litsOf ts) y = false) (h2 : hasB (litsOf ts) (-y) = false) (hm : y ∈ ell ls i) (ho : ∀ z ∈ ell ls i, z ≠ y → hasB (litsOf ts) (-z) = true) :
    trailB x ls (ts ++ [⟨y, i⟩]) = true := by
  unfold trailB
  rw [List.length_append]
  have hl : ([(⟨y, (i : Int)⟩ : Stp)] : List Stp).length = 1 := rfl
  rw [hl, trailTo_succ, Bool.and_eq_true]
  constructor
  · unfold trailB trailTo at h
    unfold trailTo
    rw [List.all_eq_true] at h ⊢
    intro j hj
    have hj' := List.mem_range.1 hj
    rw [List.take_append_of_le_length (by omega), stp_left hj']
    exact h j hj
  · have e1 : (ts ++ [(⟨y, (i : Int)⟩ : Stp)]).take ts.length = ts := by simp
    have e2 : stp (ts ++ [(⟨y, (i : Int)⟩ : Stp)]) ts.length = ⟨y, i⟩ := by
      rw [stp_lt (by simp)]; simp
    rw [e1, e2]
    unfold stepOk whyOk
    have h3 : ((ell ls i).any fun z => (z != y) && !(hasB (litsOf ts) (-z))) = false := by
      rw [List.any_eq_false]
      intro z hz
      by_cases e : z = y
      · simp [e]
      · simp [ho z hz e]
    simp [hb, h1, h2, hasB_iff.2 hm, h3]
    omega

theorem vis_true {x : Int} {ls : List (List Int)} {i : Nat} {s s' : PS} (hc : checkE x ls = 0) (hi : i < ls.length) (ht : trailB x ls s.ts = true) (h : visT ls i s = (true, s')) :
    trailB x ls s'.ts = true ∧ (∃ more, s'.ts = s.ts ++ more) ∧ (∀ k j, j ∈ s.wt k → j ∈ s'.wt k) ∧ ∀ P : Int → Prop, (∀ y, P y → y ∈ litsOf s.ts) → Good (litsOf s'.ts) s'.wt P (ell ls i) i := by
  unfold visT at h
  split at h
  · rename_i ha
    simp only [Prod.mk.injEq, true_and] at h
    subst h
    exact ⟨ht, ⟨[], by simp⟩, fun _ _ h => h, fun P hP => Or.inl ha⟩
  · rename_i ha
    have ha' : (ell ls i).any (hasB (litsOf s.ts)) = false := by simpa using ha
    rw [List.any_eq_false] at ha'
    split at h
    · simp at h
    · rename_i y hop
      simp only [Prod.mk.injEq, true_and] at h
      subst h
      have hy := opn_mem (S := litsOf s.ts) (l := ell ls i) y (by rw [hop]; simp)
      have hz : ∀ z ∈ ell ls i, z ≠ y → hasB (litsOf s.ts) (-z) = true := fun z hz hne => by
        cases hf : hasB (litsOf s.ts) (-z) with
        | true => rfl
        | false =>
          have := opn_short (S := litsOf s.ts) (l := ell ls i) (by rw [hop]; simp) z hz hf
          rw [hop, List.mem_singleton] at this
          exact absurd this hne
      have hyB : isB y x = true := checkE_isB hc (ell_mem hi) hy.1
      refine ⟨trail_more ht hi hyB (by simpa using ha' y hy.1) hy.2 hy.1 hz, ⟨_, rfl⟩, fun _ _ h => h, fun P hP => Or.inl ?_⟩
      exact List.any_eq_true.2 ⟨y, hy.1, hasB_iff.2 (by rw [litsOf_app]; simp [litsOf])⟩
    · rename_i a b r hop
      simp only [Prod.mk.injEq, true_and] at h
      subst h
      have h1 := opn_mem (S := litsOf s.ts) (l := ell ls i) a (by rw [hop]; simp)
      have h2 := opn_mem (S := litsOf s.ts) (l := ell ls i) b (by rw [hop]; simp)
      have hn : a ≠ b := by
        have := opn_nodup (S := litsOf s.ts) (l := ell ls i)
        rw [hop] at this
        intro e
        exact (List.nodup_cons.1 this).1 (by simp [e])
      refine ⟨ht, ⟨[], by simp⟩, fun k j hj => addW_old (addW_old hj), fun P hP => Or.inr ⟨a, b, h1.1, h2.1, hn, addW_old (addW_new _ _ _), addW_new _ _ _, fun hp => ?_, fun hp => ?_⟩⟩
      · exact hasB_false.1 h1.2 (hP _ hp)
      · exact hasB_false.1 h2.2 (hP _ hp)
theorem vis_false {ls : List (List Int)} {i : Nat} {s s' : PS} (h : visT ls i s = (false, s')) : s' = s ∧ ∀ y ∈ ell ls i, hasB (litsOf s.ts) (-y) = true := by
  unfold visT at h
  split at h
  · simp at h
  · split at h
    · rename_i hop
      simp only [Prod.mk.injEq, true_and] at h
      refine ⟨h.symm, fun y hy => ?_⟩
      cases hf : hasB (litsOf s.ts) (-y) with
      | true => rfl
      | false =>
        have := opn_short (S := litsOf s.ts) (l := ell ls i) (by rw [hop]; simp) y hy hf
        rw [hop] at this; cases this
    · simp at h
    · simp at h

end Go.Proofs.Ytenpenelikpeeaa
