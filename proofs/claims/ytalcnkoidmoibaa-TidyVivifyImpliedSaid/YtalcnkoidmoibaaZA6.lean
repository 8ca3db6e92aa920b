/-
  tidy.Vivify. No condition.
  cnf.Subsumes. No condition.
  tidy.Subsume's closure; slices.ContainsFunc with it. No condition.
-/
import Derived.Test.YtalcnkoidmoibaaZA5
import Derived.Test.YtalcnkoidmoibaaZA2
import Derived.Laws.MakeOwn
import Derived.Maps.AppendAt

namespace Go.Proofs.Ytalcnkoidmoibaa
open Go.RowKit Go.Shelf
set_option linter.unusedVariables false
set_option linter.unusedSimpArgs false

theorem own_succ {W : World} {base : Nat} {e : TypeId} {size : Nat} {v : Value} {k : Nat} {xs : List Value} (h : W.ownsRow base e size v (k + 1) xs) : ∃ g cap, v = .slice (some ⟨g, 0, none⟩) (k + 1) cap := by
  rcases h.2 with ⟨_, h0⟩ | ⟨g, cap, cur, hv, _⟩
  · omega
  · exact ⟨g, cap, hv⟩
theorem own_lt {w : World} {base : Nat} {e : TypeId} {size : Nat} {v : Value} {n : Nat} {xs : List Value} (h : w.ownsRow base e size v n xs) {g : Nat} (hg : v.ownBlock = some g) : base ≤ g ∧ g < w.heap.size := by
  rcases h.2 with ⟨rfl, _⟩ | ⟨g', cap, cur, rfl, hb, hh, _⟩
  · simp [Value.ownBlock] at hg
  · have : g' = g := by simpa [Value.ownBlock] using hg
    subst this
    refine ⟨hb, ?_⟩
    rcases Nat.lt_or_ge g' w.heap.size with hlt | hge
    · exact hlt
    · rw [Array.getElem?_eq_none hge] at hh; cases hh
theorem grown_below {w w1 : World} {o : Obj} {row : Option Nat} (hg : (w.alloc o).grownBy w1 row) : w.grownBy w1 row :=
  ⟨hg.os, hg.tape, hg.output, Nat.le_trans (by simp) hg.size, fun k hk hne => (hg.block k (by simp; omega) hne).trans (Below.heap_alloc _ _ _ hk)⟩
theorem own_below {B : Nat} {e : TypeId} {k : Nat} {v : Value} {n : Nat} {xs : List Value} {w w' : World} (h : w.ownsRow B e k v n xs) (hb : Below w.heap.size w w') : w'.ownsRow B e k v n xs :=
  h.kept (row := none) ⟨hb.os, hb.tape, hb.output, hb.size, fun j hj _ => hb.block j hj⟩ (by cases hv : v.ownBlock <;> simp)

/-- the vivified clause -/
def vivT (cls : List (List Int)) : List Int → List Int → List Int
  | [], left => left
  | x :: l, left => match closureT cls (left.map (-·)) with
    | none => left
    | some S => if hasB S x = true then left ++ [x] else if hasB S (-x) = true then vivT cls l left else vivT cls l (left ++ [x])
def vivE (x : Int) (ls : List (List Int)) (k : Int) : Int := if checkE x ls ≠ 0 then checkE x ls else if k < 0 ∨ (ls.length : Int) ≤ k then 1 else 0
def vivL (x : Int) (ls : List (List Int)) (k : Int) : List Int := if vivE x ls k = 0 then vivT (ls.eraseIdx k.toNat) (normP (ell ls k.toNat)) [] else []
def Viv (zs : List Int) (e' : Int) (w : World) (e : Ending) (w' : World) : Prop :=
  ∃ A c, e = .returned (.tuple #[.slice A zs.length c, .int .i64 e']) ∧ RI w' A zs.length c zs ∧ Below w.heap.size w w'

theorem ret_viv {A : Option Addr} {n n' c : Nat} {e : Int} (hn : n = n') : Ending.returned (.tuple #[.slice A n c, .int .i64 e]) = .returned (.tuple #[.slice A n' c, .int .i64 e]) := by rw [hn]

theorem checkE_lits {x : Int} {ls : List (List Int)} (h : checkE x ls = 0) : ∀ l ∈ ls, Okl l := by
  unfold checkE at h
  split at h
  · cases h
  · split at h
    · cases h
    · rename_i h1 h2
      have h3 : allB x ls = true := by simpa using h2
      intro l hl y hy
      have h4 : litsB x l = true := List.all_eq_true.1 h3 l hl
      have h5 := isB_iff.1 (List.all_eq_true.1 h4 y hy)
      have h6 := h5.1
      refine ⟨h6, by omega, by omega⟩
theorem sumL_erase : ∀ (ls : List (List Int)) (k : Nat), sumL (ls.eraseIdx k) ≤ sumL ls
  | [], k => by simp
  | l :: ls, 0 => by simp [sumL]
  | l :: ls, k + 1 => by have := sumL_erase ls k; simp [sumL] at this ⊢; omega
theorem sumL_ell : ∀ (ls : List (List Int)) (k : Nat), (ell ls k).length ≤ sumL ls
  | [], k => by simp [ell]
  | l :: ls, 0 => by simp [sumL, ell]
  | l :: ls, k + 1 => by have := sumL_ell ls k; simp [sumL, ell] at this ⊢; omega

set_option maxHeartbeats 1000000 in
theorem vivify_bad (x : Int) (A : Option Addr) (n c : Nat) (ls : List (List Int)) (k : Int) (w : World) (h : RL w A n c ls) (he : vivE x ls k ≠ 0) :
    Calls Try.prog 16 #[.agg #[.int .i64 x, .slice A n c], .int .i64 k] w (Viv [] (vivE x ls k) w) := by
  have hcall := check_any x A n c ls (w.alloc (.cells #[.int .i64 x, .slice A n c] 29)) (h.alloc _)
  have hl := h.len
  by_cases h0 : checkE x ls = 0
  · rw [h0] at hcall
    have hv : k < 0 ∨ (n : Int) ≤ k := by
      unfold vivE at he; rw [if_neg (by simpa using h0)] at he
      split at he
      · rename_i h1; rw [hl] at h1; exact h1
      · exact absurd rfl he
    have hE : vivE x ls k = 1 := by unfold vivE; rw [if_neg (by simpa using h0), if_pos (by rw [hl]; exact hv)]
    rw [hE]
    clear he hE h0 h
    by_cases hk : k < 0
    · clear hv
      go_enter Try.func16, Try.ntmps16
      go_wp2_with (go_at_call 25; refine hcall.mono ?_; clear hcall; rintro e w1 ⟨rfl, hb⟩)
      go_ret2
      exact ⟨none, 0, rfl, RI.nil _ _ _ (Nat.zero_le _), ((Below.refl _ w).alloc (Nat.le_refl _) _).trans (hb.mono (by simp))⟩
    · have hk2 : (n : Int) ≤ k := by omega
      clear hv
      go_enter Try.func16, Try.ntmps16
      go_wp2_with (go_at_call 25; refine hcall.mono ?_; clear hcall; rintro e w1 ⟨rfl, hb⟩; have bx := (BoxC.new w x A n c).below hb; have p0 := bx.c0; have p1 := bx.c1)
      go_ret2
      exact ⟨none, 0, rfl, RI.nil _ _ _ (Nat.zero_le _), ((Below.refl _ w).alloc (Nat.le_refl _) _).trans (hb.mono (by simp))⟩
  · have hE : vivE x ls k = checkE x ls := by unfold vivE; rw [if_pos h0]
    rw [hE]
    generalize checkE x ls = r at hcall h0 ⊢
    have hr : (r != 0) = true := by simpa using h0
    clear he hE h h0
    go_enter Try.func16, Try.ntmps16
    go_wp2_with (go_at_call 25; refine hcall.mono ?_; clear hcall; rintro e w1 ⟨rfl, hb⟩)
    go_ret2
    exact ⟨none, 0, rfl, RI.nil _ _ _ (Nat.zero_le _), ((Below.refl _ w).alloc (Nat.le_refl _) _).trans (hb.mono (by simp))⟩

set_option maxRecDepth 100000 in
set_option maxHeartbeats 4000000 in
theorem vivify_ok (x : Int) (A : Option Addr) (n c : Nat) (ls : List (List Int)) (k : Nat) (w : World) (h : RL w A n c ls) (h0 : checkE x ls = 0) (hk : k < n) (hs : sumL ls ≤ 50000) :
    Calls Try.prog 16 #[.agg #[.int .i64 x, .slice A n c], .int .i64 (k : Int)] w (Viv (vivT (ls.eraseIdx k) (normP (ell ls k)) []) 0 w) := by
  obtain ⟨i0, hi, hz0, hz1, hz2⟩ := info_parts infoInt
  have hcall := check_any x A n c ls (w.alloc (.cells #[.int .i64 x, .slice A n c] 29)) (h.alloc _)
  rw [h0] at hcall
  have hn := h.small
  obtain ⟨b, off, rfl, hbl, hc⟩ := h.cells (by omega)
  obtain ⟨a1, n1, c1, hck, hr1⟩ := hc k hk
  have hlen : (normP (ell ls k)).length ≤ 50000 := Nat.le_trans (normP_len _) (Nat.le_trans (sumL_ell ls k) hs)
  have hokl : Okl (normP (ell ls k)) := normP_okl _
  have hsu := Nat.le_trans (sumL_erase ls k) hs
  have hnorm := fun (W : World) (hr : RI W a1 n1 c1 (ell ls k)) => norm_any a1 n1 c1 (ell ls k) W hr
  unfold Normed at hnorm
  generalize normP (ell ls k) = l at hlen hokl hnorm ⊢
  obtain ⟨m, hm⟩ : ∃ m, l.length = m := ⟨_, rfl⟩
  rw [hm] at hlen hnorm
  have HK := Lib.hid (checkE_lits h0)
  have H := Lib.hid h
  have HR1 := Lib.hid hr1
  clear hc h hr1 h0
  have hkn : ¬ (n : Int) ≤ (k : Int) := by omega
  have hk0 : ¬ (k : Int) < 0 := by omega
  go_enter Try.func16, Try.ntmps16
  go_wp2_with (first
    | (go_at_call 25; refine hcall.mono ?_; clear hcall; rintro e w1 ⟨rfl, hb⟩; have bx := (BoxC.new w x (some ⟨b, off, none⟩) n c).below hb; have p0 := bx.c0; have p1 := bx.c1; have hb1 := ((Below.refl _ w).alloc (Nat.le_refl _) _).trans (hb.mono (by simp)); have hck1 := (hb1.cell (p := ⟨b, off + k, none⟩) hbl).trans hck; have BX := Lib.hid bx; have HB1 := Lib.hid hb1; clear bx hb1 hb)
    | (go_at_call 23; refine (hnorm _ (HR1.out.below HB1.out)).mono ?_; clear hnorm; rintro e w2 ⟨A2, c2, rfl, hr2, hb2⟩; have HR2 := Lib.hid hr2; have BX2 := Lib.hid (BX.out.below hb2); have HB2 := Lib.hid (HB1.out.trans (hb2.mono HB1.out.size)); clear hr2 hb2 HB1 BX p0 p1 hck1))
  have HO := Lib.hid hokl
  clear hokl
  go_loopw [9, 39] (fun s9 s39 wr => ∃ (j : Nat) (O : Option Addr) (co : Nat) (left : List Int) (L : Nat), left.length = L ∧ j ≤ m ∧ s39 = .int .i64 j ∧ s9 = .slice O L co ∧ wr.ownsRow w2.heap.size 3 1 (.slice O L co) L (left.map (Value.int .i64)) ∧ Below w2.heap.size w2 wr ∧ vivT (ls.eraseIdx k) l [] = vivT (ls.eraseIdx k) (l.drop j) left ∧ Okl left ∧ L ≤ j) (fun _ i _ => m - (intOf i).toNat)
  case atStart => exact ⟨0, none, 0, [], 0, rfl, Nat.zero_le _, rfl, rfl, World.ownsRow_nil _ _ _ _, Below.refl _ _, rfl, fun x h => (by cases h), Nat.le_refl _⟩
  case round =>
    obtain ⟨j, O, co, left, L, hL, hj, rfl, rfl, hown, hb3, hv, hol, hLj⟩ := hrel
    have HB3 := Lib.hid hb3
    have HV := Lib.hid hv
    have HOL := Lib.hid hol
    have HLL := Lib.hid hL
    have hsz := hb3.size
    have HBw := Lib.hid (HB2.out.trans (hb3.mono HB2.out.size))
    have bx3 := BX2.out.below hb3
    have p0 := bx3.c0
    have p1 := bx3.c1
    clear hb3 hv hol hL bx3
    by_cases hlt : j < m
    · have hll : j < l.length := by rw [hm]; exact hlt
      obtain ⟨b2, off2, rfl, hb2', hc2⟩ := HR2.out.cells (by omega)
      have hcj := (HB3.out.cell (p := ⟨b2, off2 + j, none⟩) hb2').trans (hc2 j hlt)
      clear hc2
      have hxx := HO.out.at hll
      have hneg := lit_neg' hxx.2.1 hxx.2.2
      have hw1 := wf_lit hxx.2.1 hxx.2.2
      have hw2 : (Lit.int .i64 (-(elt l j))).wf = true := wf_lit (by omega) (by omega)
      have HX := Lib.hid hxx
      have HLt := Lib.hid hll
      clear hxx hll
      have hcome := comes_any n c b off ls k O L co left wr (H.out.below HBw.out) (Nat.lt_of_lt_of_le hbl HBw.out.size) hk HK.out (RI.of_own hown (by omega)) HOL.out (by omega)
      have hv2 := HV.out
      rw [drop_at HLt.out, vivT] at hv2
      cases hcl : closureT (ls.eraseIdx k) (left.map (-·)) with
      | none =>
        rw [hcl] at hv2
        have HV2 := Lib.hid hv2
        have hcome' : Calls Try.prog 37 #[.slice (some ⟨b, off, none⟩) n c, .int .i64 k, .slice O L co] wr (fun e w' => e = .returned (.tuple #[.map none, .bool false]) ∧ Below wr.heap.size wr w') := hcome.mono (by
          rintro e w' (⟨_, h1, h2⟩ | ⟨S, b', m', h1, _⟩)
          · exact ⟨h1, h2⟩
          · rw [hcl] at h1; cases h1)
        clear hcome hcl hv2
        have RL := Lib.hid (RI.of_own hown (by omega))
        go_wp2_with (go_at_call 37; refine hcome'.mono ?_; clear hcome'; rintro e w3 ⟨rfl, hb4⟩)
        go_ret2
        refine ⟨O, co, ret_viv (by rw [HV2.out, HLL.out]), ?_, HBw.out.trans (hb4.mono HBw.out.size)⟩
        rw [HV2.out, HLL.out]; exact RL.out.below hb4
      | some S =>
        rw [hcl] at hv2
        dsimp only at hv2
        have HV2 := Lib.hid hv2
        have hcome' : Calls Try.prog 37 #[.slice (some ⟨b, off, none⟩) n c, .int .i64 k, .slice O L co] wr (fun e w' => ∃ b' m', e = .returned (.tuple #[.map (some b'), .bool true]) ∧ SM w' b' m' S ∧ Below wr.heap.size wr w') := hcome.mono (by
          rintro e w' (⟨h1, _⟩ | ⟨S', b', m', h1, h2, h3, h4⟩)
          · rw [hcl] at h1; cases h1
          · rw [hcl] at h1; cases h1; exact ⟨b', m', h2, h3, h4⟩)
        clear hcome hcl hv2
        by_cases h1 : hasB S (elt l j) = true
        · have HV3 : Hid (vivT (ls.eraseIdx k) l [] = left ++ [elt l j]) := Lib.hid (by rw [HV2.out, if_pos h1])
          go_wp2_with (first
            | (go_at_call 37; refine hcome'.mono ?_; clear hcome'; rintro e w3 ⟨b', m', rfl, hsm, hb4⟩; have hk1 := hsm.look hw1; rw [h1] at hk1; have hown3 := own_below hown hb4; have hsz3 := hb4.size; have HB4 := Lib.hid hb4; clear hsm hb4)
            | (at_builtin; refine wpList_append_own_at _ rfl (.tmp 59) (.tmp 61) 31 rfl w2.heap.size 3 i0 (.int .i64 0) 1 8 Try.underlying31 hi hz0 hz1 hz2 rfl (by decide) (.slice O L co) L _ rfl (hown3.alloc _) ⟨_, 0, none⟩ 1 1 [.int .i64 (elt l j)] rfl rfl (cell_one_new _ _ _) (by simp [Value.oneCell']) (by unfold maxLen; omega) (by omega) (by simp; omega) ?_; intro v' w4 hown' hgrow hnil hloc; obtain ⟨g', cap', rfl⟩ := own_succ hown'; have G1 := Lib.hid (grown_below hgrow); have O1 := Lib.hid hown'; have OL := Lib.hid (fun g hg => (own_lt hown3 (g := g) hg).1); clear hown' hgrow hnil hloc))
          go_ret2
          have hB4 := HBw.out.trans (HB4.out.mono HBw.out.size)
          have el : (left ++ [elt l j]).length = L + 1 := by rw [List.length_append, HLL.out]; rfl
          refine ⟨some ⟨g', 0, none⟩, cap', ret_viv (by rw [HV3.out, el]), ?_, hB4.grown G1.out hB4.size (fun g hg => Nat.le_trans HB2.out.size (OL.out g hg))⟩
          rw [HV3.out, el]; exact RI.of_own (by rw [List.map_append]; exact O1.out) (by omega)
        · have h1' : hasB S (elt l j) = false := by simpa using h1
          by_cases h2 : hasB S (-(elt l j)) = true
          · have HV3 : Hid (vivT (ls.eraseIdx k) l [] = vivT (ls.eraseIdx k) (l.drop (j + 1)) left) := Lib.hid (by rw [HV2.out, if_neg h1, if_pos h2])
            go_wp2_with (go_at_call 37; refine hcome'.mono ?_; clear hcome'; rintro e w3 ⟨b', m', rfl, hsm, hb4⟩; have hk1 := hsm.look hw1; rw [h1'] at hk1; have hk2 := hsm.look hw2; rw [h2] at hk2; have hown3 := own_below hown hb4; have HB4 := Lib.hid hb4; clear hsm hb4)
            go_roundw
            case rel => exact ⟨j + 1, O, co, left, L, HLL.out, by omega, by go_num, rfl, hown3, HB3.out.trans (HB4.out.mono HB3.out.size), HV3.out, HOL.out, by omega⟩
            case measure => simp [intOf]; omega
          · have h2' : hasB S (-(elt l j)) = false := by simpa using h2
            have HV3 : Hid (vivT (ls.eraseIdx k) l [] = vivT (ls.eraseIdx k) (l.drop (j + 1)) (left ++ [elt l j])) := Lib.hid (by rw [HV2.out, if_neg h1, if_neg h2])
            go_wp2_with (first
              | (go_at_call 37; refine hcome'.mono ?_; clear hcome'; rintro e w3 ⟨b', m', rfl, hsm, hb4⟩; have hk1 := hsm.look hw1; rw [h1'] at hk1; have hk2 := hsm.look hw2; rw [h2'] at hk2; have hown3 := own_below hown hb4; have hsz3 := hb4.size; have HB4 := Lib.hid hb4; clear hsm hb4)
              | (at_builtin; refine wpList_append_own_at _ rfl (.tmp 69) (.tmp 71) 31 rfl w2.heap.size 3 i0 (.int .i64 0) 1 8 Try.underlying31 hi hz0 hz1 hz2 rfl (by decide) (.slice O L co) L _ rfl (hown3.alloc _) ⟨_, 0, none⟩ 1 1 [.int .i64 (elt l j)] rfl rfl (cell_one_new _ _ _) (by simp [Value.oneCell']) (by unfold maxLen; omega) (by omega) (by simp; omega) ?_; intro v' w4 hown' hgrow hnil hloc; obtain ⟨g', cap', rfl⟩ := own_succ hown'; have G1 := Lib.hid (grown_below hgrow); have O1 := Lib.hid hown'; have OL := Lib.hid (fun g hg => (own_lt hown3 (g := g) hg).1); clear hown' hgrow hnil hloc))
            go_roundw
            case rel =>
              refine ⟨j + 1, some ⟨g', 0, none⟩, cap', left ++ [elt l j], L + 1, by rw [List.length_append, HLL.out]; rfl, by omega, by go_num, rfl, by rw [List.map_append]; exact O1.out, ?_, HV3.out, ?_, by omega⟩
              · have hB4 := HB3.out.trans (HB4.out.mono HB3.out.size)
                exact hB4.grown G1.out hB4.size (fun g hg => OL.out g hg)
              · intro y hy
                rcases List.mem_append.1 hy with hy | hy
                · exact HOL.out y hy
                · rw [List.mem_singleton.1 hy]; exact HX.out
            case measure => simp [intOf]; omega
    · have hvv := HV.out
      rw [List.drop_of_length_le (by omega), vivT] at hvv
      have HVV := Lib.hid hvv
      clear hvv
      have RL := Lib.hid (RI.of_own hown (by omega))
      go_wp2
      go_ret2
      refine ⟨O, co, ret_viv (by rw [HVV.out, HLL.out]), ?_, HBw.out⟩
      rw [HVV.out, HLL.out]; exact RL.out

theorem vivify_any (x : Int) (A : Option Addr) (n c : Nat) (ls : List (List Int)) (k : Int) (w : World) (h : RL w A n c ls) (hs : sumL ls ≤ 50000) :
    Calls Try.prog 16 #[.agg #[.int .i64 x, .slice A n c], .int .i64 k] w (Viv (vivL x ls k) (vivE x ls k) w) := by
  by_cases he : vivE x ls k = 0
  · have h1 : checkE x ls = 0 := by
      unfold vivE at he; split at he
      · exact he
      · rename_i h1; simpa using h1
    have h2 : ¬ (k < 0 ∨ (ls.length : Int) ≤ k) := by
      intro h2; unfold vivE at he; rw [if_neg (by simpa using h1), if_pos h2] at he; cases he
    have hl := h.len
    obtain ⟨j, rfl⟩ : ∃ j : Nat, k = j := ⟨k.toNat, by omega⟩
    have := vivify_ok x A n c ls j w h h1 (by omega) hs
    unfold vivL
    rw [if_pos he, he]
    simpa using this
  · have := vivify_bad x A n c ls k w h he
    unfold vivL
    rw [if_neg he]
    exact this

end Go.Proofs.Ytalcnkoidmoibaa

namespace Go.Proofs.Ytalcnkoidmoibaa
open Go.RowKit Go.Shelf
set_option linter.unusedVariables false
set_option linter.unusedSimpArgs false

theorem grown_cell {W W' : World} {b : Nat} (hg : W.grownBy W' (some b)) {p : Addr} {v : Value} (hne : p.block ≠ b) (h : W.cell? p = some v) : W'.cell? p = some v := by
  have hlt : p.block < W.heap.size := by
    rcases Nat.lt_or_ge p.block W.heap.size with hlt | hge
    · exact hlt
    · simp [World.cell?, Array.getElem?_eq_none hge] at h
  exact (World.cell?_of_block (w := W) (hg.block p.block hlt (by intro e; injection e with e; exact hne e))).trans h

/-- every element is within its range -/
def Wfl (zs : List Int) : Prop := ∀ x ∈ zs, (Lit.int .i64 x).wf = true

set_option maxHeartbeats 400000 in
theorem subsumes1_any (B b m : Nat) (S : List Int) (x : Int) (w : World) (hc : w.cell? ⟨B, 0, none⟩ = some (.map (some b))) (h : SM w b m S) (hx : (Lit.int .i64 x).wf = true) :
    Calls Try.prog 54 #[.int .i64 x, .pointer (some ⟨B, 0, none⟩)] w fun e w' => e = .returned (.bool (!(hasB S x))) ∧ w = w' := by
  have hl := h.look hx
  clear h
  go_enter Try.func54, Try.ntmps54
  go_wp2
  go_ret
  exact ⟨rfl, rfl⟩

theorem any_not_sub (S l : List Int) : l.any (fun x => !(hasB S x)) = !(subB l S) := by
  unfold subB; rw [List.not_all_eq_any_not]

set_option maxHeartbeats 800000 in
theorem subsumes_any (A : Option Addr) (n c : Nat) (zs : List Int) (A' : Option Addr) (n' c' : Nat) (zs' : List Int) (w : World) (h : RI w A n c zs) (h' : RI w A' n' c' zs') (hz : Wfl zs) (hz' : Wfl zs') :
    Calls Try.prog 24 #[.slice A n c, .slice A' n' c'] w fun e w' => e = .returned (.bool (subB zs zs')) ∧ Below w.heap.size w w' := by
  have hn := h.small
  have hn' := h'.small
  have H := Lib.hid h
  have H' := Lib.hid h'
  clear h h'
  have HZ := Lib.hid (And.intro hz hz')
  clear hz hz'
  have hmm := @run_makeMap Try.prog
  go_enter Try.func24, Try.ntmps24
  go_wp2
  have hS0 := (SM.made w).alloc (.cells #[.map (some w.heap.size)] 59)
  have hb0 : Below w.heap.size w ((w.alloc (.map #[] 0)).alloc (.cells #[.map (some w.heap.size)] 59)) := ((Below.refl _ _).alloc (Nat.le_refl _) _).alloc (by simp) _
  have hc0 : ((w.alloc (.map #[] 0)).alloc (.cells #[.map (some w.heap.size)] 59)).cell? ⟨w.heap.size + 1, 0, none⟩ = some (.map (some w.heap.size)) := by simp
  generalize hW : (w.alloc (.map #[] 0)).alloc (.cells #[.map (some w.heap.size)] 59) = W at hS0 hb0 hc0 ⊢
  clear hW
  have HS0 := Lib.hid hS0
  have HB0 := Lib.hid hb0
  have HC0 := Lib.hid hc0
  clear hS0 hb0 hc0
  go_loopw [11] (fun i wr => ∃ k : Nat, k ≤ n' ∧ i = .int .i64 k ∧ SM wr w.heap.size k (zs'.take k) ∧ wr.cell? ⟨w.heap.size + 1, 0, none⟩ = some (.map (some w.heap.size)) ∧ Below w.heap.size w wr) (fun i _ => n' - (intOf i).toNat)
  case atStart => exact ⟨0, Nat.zero_le _, rfl, HS0.out, HC0.out, HB0.out⟩
  case round =>
    obtain ⟨k, hk, rfl, hS, hcb, hbl⟩ := hrel
    have HS := Lib.hid hS
    have HB := Lib.hid hbl
    clear hS hbl
    by_cases hlt : k < n'
    · obtain ⟨b, off, rfl, hb, hc⟩ := (H'.out.below HB.out).cells (by omega)
      have hck := hc k hlt
      clear hc
      have hl : k < zs'.length := by rw [H'.out.len]; exact hlt
      obtain ⟨w1, hrun, hS1, hg1⟩ := HS.out.put (by simp [maxLen]; omega) (HZ.out.2 _ (elt_mem hl))
      have HS1 := Lib.hid hS1
      have HG1 := Lib.hid hg1
      clear hS1 hg1
      have HCB := Lib.hid hcb
      go_wp2
      go_roundw
      case rel =>
        refine ⟨k + 1, by omega, by go_num, by rw [take_snoc _ _ hl]; exact HS1.out, grown_cell HG1.out (by simp) HCB.out, HB.out.grown HG1.out HB.out.size (fun j e => ?_)⟩
        cases e; exact Nat.le_refl _
      case measure => simp [intOf]; omega
    · have hS := HS.out
      rw [List.take_of_length_le (by rw [H'.out.len]; omega)] at hS
      have hcall := containsI_any 54 #[.pointer (some ⟨w.heap.size + 1, 0, none⟩)] (fun y => !(hasB zs' y)) enters54 A n c zs wr (H.out.below HB.out) (fun y hy => subsumes1_any (w.heap.size + 1) w.heap.size k zs' y wr hcb hS (HZ.out.1 y hy))
      rw [any_not_sub] at hcall
      clear hS hcb
      go_wp2_with (go_at_call 53; refine hcall.mono ?_; rintro e w' ⟨rfl, rfl⟩)
      go_ret
      exact ⟨ret_bool (by simp), HB.out⟩

end Go.Proofs.Ytalcnkoidmoibaa

namespace Go.Proofs.Ytalcnkoidmoibaa
open Go.RowKit Go.Shelf
set_option linter.unusedVariables false
set_option linter.unusedSimpArgs false

theorem grow_then {W W1 W2 : World} {row : Option Nat} (h : W.grownBy W1 row) (hb : Below W1.heap.size W1 W2) : W.grownBy W2 row :=
  ⟨hb.os.trans h.os, hb.tape.trans h.tape, hb.output.trans h.output, Nat.le_trans h.size hb.size, fun k hk hne => (hb.block k (Nat.lt_of_lt_of_le hk h.size)).trans (h.block k hk hne)⟩
theorem grow_trans {W W1 W2 : World} {row : Option Nat} (h : W.grownBy W1 row) (h2 : W1.grownBy W2 row) : W.grownBy W2 row :=
  ⟨h2.os.trans h.os, h2.tape.trans h.tape, h2.output.trans h.output, Nat.le_trans h.size h2.size, fun k hk hne => (h2.block k (Nat.lt_of_lt_of_le hk h.size) hne).trans (h.block k hk hne)⟩
theorem grow_cell {W W1 : World} {b : Nat} (h : W.grownBy W1 (some b)) {p : Addr} (hp : p.block < W.heap.size) (hne : p.block ≠ b) : W1.cell? p = W.cell? p :=
  World.cell?_of_block (h.block p.block hp (by simpa using hne))
theorem boxed_below {W W' : World} {B : Nat} {t : TypeId} {v : Value} (h : Boxed W B t v) (hb : Below W.heap.size W W') : Boxed W' B t v := (hb.block B h.lt).trans h

/-- does clause x at j remove clause l at i? -/
def goI (x l : List Int) (j i : Int) : Bool := (j != i) && subB x l && (decide (j < i) || !(subB l x))

/-- what the closure leaves -/
def Clo (r : Bool) (Bj : Nat) (z : Int) (W : World) (e : Ending) (W' : World) : Prop := e = .returned (.bool r) ∧ Boxed W' Bj 3 (.int .i64 z) ∧ W.grownBy W' (some Bj)

set_option maxHeartbeats 1000000 in
theorem subs1_any (Bj Bi Bl : Nat) (z i : Int) (A : Option Addr) (n c : Nat) (x : List Int) (A' : Option Addr) (n' c' : Nat) (l : List Int) (w0 W : World) (hj : Boxed W Bj 3 (.int .i64 z)) (hi : W.cell? ⟨Bi, 0, none⟩ = some (.int .i64 i)) (hl : W.cell? ⟨Bl, 0, none⟩ = some (.slice A' n' c'))
    (hBi : Bi < W.heap.size) (hBl : Bl < W.heap.size) (hnei : Bi ≠ Bj) (hnel : Bl ≠ Bj) (hb : Below w0.heap.size w0 W) (hBj : w0.heap.size ≤ Bj) (hx : RI w0 A n c x) (hlr : RI w0 A' n' c' l) (hox : Wfl x) (hol : Wfl l) (hz0 : -1 ≤ z) (hz1 : z ≤ 1000000) :
    Calls Try.prog 44 #[.slice A n c, .pointer (some ⟨Bj, 0, none⟩), .pointer (some ⟨Bi, 0, none⟩), .pointer (some ⟨Bl, 0, none⟩)] W (Clo (goI x l (z + 1) i) Bj (z + 1) W) := by
  have cj := hj.cell
  have fj := hj.frozen
  have HJ := Lib.hid (hj.set (.int .i64 (z + 1)))
  have HB := Lib.hid (hb.setCell (p := ⟨Bj, 0, none⟩) hBj (.int .i64 (z + 1)))
  have ci : (W.setCell ⟨Bj, 0, none⟩ (.int .i64 (z + 1))).cell? ⟨Bi, 0, none⟩ = some (.int .i64 i) := (grow_cell (grownBy_setCell' W Bj _) (p := ⟨Bi, 0, none⟩) hBi hnei).trans hi
  have cl : (W.setCell ⟨Bj, 0, none⟩ (.int .i64 (z + 1))).cell? ⟨Bl, 0, none⟩ = some (.slice A' n' c') := (grow_cell (grownBy_setCell' W Bj _) (p := ⟨Bl, 0, none⟩) hBl hnel).trans hl
  have cj' := HJ.out.cell
  have hG := grownBy_setCell' W Bj (.int .i64 (z + 1))
  have HG := Lib.hid hG
  have hBi' : Bi < (W.setCell ⟨Bj, 0, none⟩ (.int .i64 (z + 1))).heap.size := Nat.lt_of_lt_of_le hBi hG.size
  have hBl' : Bl < (W.setCell ⟨Bj, 0, none⟩ (.int .i64 (z + 1))).heap.size := Nat.lt_of_lt_of_le hBl hG.size
  generalize hW1 : W.setCell ⟨Bj, 0, none⟩ (.int .i64 (z + 1)) = W1 at HJ HB ci cl cj' HG hG hBi' hBl'
  have s1 := subsumes_any A n c x A' n' c' l W1 (hx.below HB.out) (hlr.below HB.out) hox hol
  have s2 := fun (W2 : World) (h2 : Below W1.heap.size W1 W2) => subsumes_any A' n' c' l A n c x W2 ((hlr.below HB.out).below h2) ((hx.below HB.out).below h2) hol hox
  have HXX := Lib.hid (And.intro hx (And.intro hlr hb))
  clear hx hlr hb hi hl hG hj
  by_cases h1 : z + 1 = i
  · subst h1
    clear s1 s2
    go_enter Try.func44, Try.ntmps44
    go_wp2_with (rw [hW1])
    go_ret
    exact ⟨ret_bool (by simp [goI]), HJ.out, HG.out⟩
  · have h1b : (z + 1 != i) = true := by simpa using h1
    cases o1 : subB x l with
    | false =>
      have e1 : goI x l (z + 1) i = false := by simp [goI, o1]
      rw [e1]
      rw [o1] at s1
      clear s2
      go_enter Try.func44, Try.ntmps44
      go_wp2_with (first | (rw [hW1]) | (go_at_call 24; refine s1.mono ?_; clear s1; rintro e W2 ⟨rfl, hb2⟩))
      go_ret
      exact ⟨rfl, boxed_below HJ.out hb2, grow_then HG.out hb2⟩
    | true =>
      rw [o1] at s1
      by_cases h3 : z + 1 < i
      · have e1 : goI x l (z + 1) i = true := by simp [goI, o1, h3, h1]
        rw [e1]
        go_enter Try.func44, Try.ntmps44
        go_wp2_with (first | (rw [hW1]) | (go_at_call 24; refine s1.mono ?_; clear s1; rintro e W2 ⟨rfl, hb2⟩; have cj2 := (hb2.cell (p := ⟨Bj, 0, none⟩) HJ.out.lt).trans cj'; have ci2 := (hb2.cell (p := ⟨Bi, 0, none⟩) hBi').trans ci; have cl2 := (hb2.cell (p := ⟨Bl, 0, none⟩) hBl').trans cl; have s2 := s2 W2 hb2; have HB2 := Lib.hid hb2; clear hb2))
        go_ret
        exact ⟨rfl, boxed_below HJ.out HB2.out, grow_then HG.out HB2.out⟩
      · have e1 : goI x l (z + 1) i = !(subB l x) := by simp [goI, o1, h3, h1]
        rw [e1]
        generalize subB l x = o2 at s2 ⊢
        go_enter Try.func44, Try.ntmps44
        go_wp2_with (first | (rw [hW1]) | (go_at_call 24; refine s1.mono ?_; clear s1; rintro e W2 ⟨rfl, hb2⟩; have cj2 := (hb2.cell (p := ⟨Bj, 0, none⟩) HJ.out.lt).trans cj'; have ci2 := (hb2.cell (p := ⟨Bi, 0, none⟩) hBi').trans ci; have cl2 := (hb2.cell (p := ⟨Bl, 0, none⟩) hBl').trans cl; have s2 := s2 W2 hb2; have HB2 := Lib.hid hb2; clear hb2) | (go_at_call 24; refine s2.mono ?_; clear s2; rintro e W3 ⟨rfl, hb3⟩; have HB3 := Lib.hid hb3; clear hb3))
        go_ret
        exact ⟨ret_bool (by rw [decide_eq_false (by omega)]; rfl), boxed_below (boxed_below HJ.out HB2.out) HB3.out, grow_then (grow_then HG.out HB2.out) HB3.out⟩

theorem enters44 : ∀ args w, (callFunc 44 args).run Try.prog w = .ok (.enter 44 args) w := enters_of Try.func44 (by kernel_rfl) rfl

/-- is clause i removed? -/
def goB (ls : List (List Int)) (i j : Nat) : Bool := goI (ell ls j) (ell ls i) j i
def goesTo (ls : List (List Int)) (i k : Nat) : Bool := (List.range k).any (goB ls i)
def goesB (ls : List (List Int)) (i : Nat) : Bool := goesTo ls i ls.length
theorem goesTo_succ (ls : List (List Int)) (i k : Nat) : goesTo ls i (k + 1) = (goesTo ls i k || goB ls i k) := by simp [goesTo, List.range_succ]
theorem goesTo_mono {ls : List (List Int)} {i j k : Nat} (h : j ≤ k) (hb : goesTo ls i j = true) : goesTo ls i k = true := by
  induction k with
  | zero => obtain rfl : j = 0 := by omega
            exact hb
  | succ k ih =>
    rcases Nat.lt_or_ge j (k + 1) with h1 | h1
    · rw [goesTo_succ, ih (by omega)]; rfl
    · obtain rfl : j = k + 1 := by omega
      exact hb

def Idx (ls : List (List Int)) (i Bj : Nat) (W : World) (e : Ending) (W' : World) : Prop := ∃ r : Int, e = .returned (.int .i64 r) ∧ decide (0 ≤ r) = goesB ls i ∧ W.grownBy W' (some Bj)

set_option maxHeartbeats 1000000 in
theorem indexL_any (Bj Bi Bl i : Nat) (A : Option Addr) (n c : Nat) (ls : List (List Int)) (A' : Option Addr) (n' c' : Nat) (w0 W : World) (hj : Boxed W Bj 3 (.int .i64 (-1))) (hi : W.cell? ⟨Bi, 0, none⟩ = some (.int .i64 i)) (hl : W.cell? ⟨Bl, 0, none⟩ = some (.slice A' n' c'))
    (hBi : Bi < W.heap.size) (hBl : Bl < W.heap.size) (hnei : Bi ≠ Bj) (hnel : Bl ≠ Bj) (hb : Below w0.heap.size w0 W) (hBj : w0.heap.size ≤ Bj) (hL : RL w0 A n c ls) (hlr : RI w0 A' n' c' (ell ls i)) (ho : ∀ l ∈ ls, Wfl l) (hin : i < n) (hn : n ≤ 1000000) :
    Calls Try.prog 73 #[.slice A n c, .func (.func 44) #[] #[.pointer (some ⟨Bj, 0, none⟩), .pointer (some ⟨Bi, 0, none⟩), .pointer (some ⟨Bl, 0, none⟩)]] W (Idx ls i Bj W) := by
  have H := Lib.hid hL
  have HO := Lib.hid ho
  have HLR := Lib.hid hlr
  have HBw := Lib.hid hb
  have HJ := Lib.hid hj
  have eg := enters44
  clear hL ho hlr hb hj
  go_enter Try.func73, Try.ntmps73
  go_wp2
  go_loopw [8] (fun i' wr => ∃ k : Nat, k ≤ n ∧ i' = .int .i64 k ∧ goesTo ls i k = false ∧ Boxed wr Bj 3 (.int .i64 ((k : Int) - 1)) ∧ W.grownBy wr (some Bj)) (fun i' _ => n - (intOf i').toNat)
  case atStart => exact ⟨0, Nat.zero_le _, rfl, rfl, HJ.out, World.grownBy.refl _ _⟩
  case round =>
    obtain ⟨k, hk, rfl, hno, hbx, hg⟩ := hrel
    have HN := Lib.hid hno
    have HG := Lib.hid hg
    have HBX := Lib.hid hbx
    clear hno hg hbx
    by_cases hlt : k < n
    · obtain ⟨b, off, rfl, hbl, hc⟩ := H.out.cells (by omega)
      obtain ⟨a1, n1, c1, hck, hr1⟩ := hc k hlt
      clear hc
      have hll : k < ls.length := by rw [H.out.len]; exact hlt
      have hbr : Below w0.heap.size w0 wr := HBw.out.grown HG.out HBw.out.size (fun g e => by cases e; exact hBj)
      have hck2 := (hbr.cell (p := ⟨b, off + k, none⟩) hbl).trans hck
      have hcall := subs1_any Bj Bi Bl ((k : Int) - 1) i a1 n1 c1 (ell ls k) A' n' c' (ell ls i) w0 wr HBX.out ((grow_cell HG.out (p := ⟨Bi, 0, none⟩) hBi hnei).trans hi) ((grow_cell HG.out (p := ⟨Bl, 0, none⟩) hBl hnel).trans hl) (Nat.lt_of_lt_of_le hBi HG.out.size) (Nat.lt_of_lt_of_le hBl HG.out.size) hnei hnel hbr hBj hr1 HLR.out (HO.out _ (ell_mem hll)) (HO.out _ (ell_mem (by rw [H.out.len]; exact hin))) (by omega) (by omega)
      rw [Int.sub_add_cancel] at hcall
      have e1 : goI (ell ls k) (ell ls i) k i = goB ls i k := rfl
      rw [e1] at hcall
      clear hck hr1 hbr e1
      have HLL := Lib.hid hll
      clear hll
      cases ho2 : goB ls i k with
      | false =>
        rw [ho2] at hcall
        have E : Hid (goesTo ls i (k + 1) = false) := Lib.hid (by rw [goesTo_succ, HN.out, ho2]; rfl)
        clear ho2
        go_wp2_with (go_at_fn 44; refine hcall.mono ?_; clear hcall; rintro e w' ⟨rfl, hbx2, hg2⟩; have HBX2 := Lib.hid hbx2; have HG2 := Lib.hid hg2; clear hbx2 hg2)
        go_roundw
        case rel => exact ⟨k + 1, by omega, by go_num, E.out, by rw [show (((k + 1 : Nat) : Int) - 1) = (k : Int) by omega]; exact HBX2.out, grow_trans HG.out HG2.out⟩
        case measure => simp [intOf]; omega
      | true =>
        rw [ho2] at hcall
        have E : Hid (goesB ls i = true) := Lib.hid (goesTo_mono (j := k + 1) (by have := HLL.out; omega) (by rw [goesTo_succ, HN.out, ho2]; rfl))
        clear ho2
        go_wp2_with (go_at_fn 44; refine hcall.mono ?_; clear hcall; rintro e w' ⟨rfl, hbx2, hg2⟩; have HG2 := Lib.hid hg2; clear hbx2 hg2)
        go_ret
        exact ⟨k, rfl, by rw [E.out]; simp, grow_trans HG.out HG2.out⟩
    · go_wp2
      go_ret
      exact ⟨-1, rfl, by have h2 := HN.out; rw [show k = ls.length by rw [H.out.len]; omega] at h2; unfold goesB; rw [h2]; rfl, HG.out⟩

set_option maxHeartbeats 1000000 in
theorem containsL_any (Bj Bi Bl i : Nat) (A : Option Addr) (n c : Nat) (ls : List (List Int)) (A' : Option Addr) (n' c' : Nat) (w0 W : World) (hj : Boxed W Bj 3 (.int .i64 (-1))) (hi : W.cell? ⟨Bi, 0, none⟩ = some (.int .i64 i)) (hl : W.cell? ⟨Bl, 0, none⟩ = some (.slice A' n' c'))
    (hBi : Bi < W.heap.size) (hBl : Bl < W.heap.size) (hnei : Bi ≠ Bj) (hnel : Bl ≠ Bj) (hb : Below w0.heap.size w0 W) (hBj : w0.heap.size ≤ Bj) (hL : RL w0 A n c ls) (hlr : RI w0 A' n' c' (ell ls i)) (ho : ∀ l ∈ ls, Wfl l) (hin : i < n) (hn : n ≤ 1000000) :
    Calls Try.prog 43 #[.slice A n c, .func (.func 44) #[] #[.pointer (some ⟨Bj, 0, none⟩), .pointer (some ⟨Bi, 0, none⟩), .pointer (some ⟨Bl, 0, none⟩)]] W fun e W' => e = .returned (.bool (goesB ls i)) ∧ W.grownBy W' (some Bj) := by
  have hI := indexL_any Bj Bi Bl i A n c ls A' n' c' w0 W hj hi hl hBi hBl hnei hnel hb hBj hL hlr ho hin hn
  clear hj hi hl hBi hBl hnei hnel hb hBj hL hlr ho
  go_enter Try.func43, Try.ntmps43
  go_wp2_with (go_at_call 73; refine hI.mono ?_; rintro e w' ⟨r, rfl, hr, hg⟩)
  all_goals
    go_ret
    exact ⟨ret_bool (by rw [← hr]), hg⟩

end Go.Proofs.Ytalcnkoidmoibaa
