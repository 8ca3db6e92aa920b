/-
  tidy.Vivify. No condition.
-/
import Derived.Test.YtalcnkoidmoibaaC3
import Derived.Test.YtalcnkoidmoibaaB1
import Derived.Laws.MakeOwn
import Derived.Maps.AppendAt
namespace Go.Proofs.Ytalcnkoidmoibaa
open Go.RowKit Go.Shelf
set_option linter.unusedVariables false
set_option linter.unusedSimpArgs false

theorem own_succ {W : World} {base : Nat} {e : TypeId} {size : Nat} {v : Value} {k : Nat} {xs : List Value} (h : W.ownsRow base e size v (k + 1) xs) : ∃ g cap, v = .slice (some ⟨g, 0, none⟩) (k + 1) cap := by
  rcases h.2 with ⟨_, h0⟩ | ⟨g, cap, cur, hv, _⟩
  · omega
  · exact ⟨g, cap, hv⟩
theorem own_lt {w : World} {base : Nat} {e : TypeId} {size : Nat} {v : Value} {n : Nat} {xs : List Value} (h : w.ownsRow base e size v n xs) {g : Nat} (hg : v.ownBlock = some g) : base ≤ g ∧ g < w.heap.size := by
  rcases h.2 with ⟨rfl, _⟩ | ⟨g', cap, cur, rfl, hb, hh, _⟩
  · simp [Value.ownBlock] at hg
  · have : g' = g := by simpa [Value.ownBlock] using hg
    subst this
    refine ⟨hb, ?_⟩
    rcases Nat.lt_or_ge g' w.heap.size with hlt | hge
    · exact hlt
    · rw [Array.getElem?_eq_none hge] at hh; cases hh
theorem grown_below {w w1 : World} {o : Obj} {row : Option Nat} (hg : (w.alloc o).grownBy w1 row) : w.grownBy w1 row :=
  ⟨hg.os, hg.tape, hg.output, Nat.le_trans (by simp) hg.size, fun k hk hne => (hg.block k (by simp; omega) hne).trans (Below.heap_alloc _ _ _ hk)⟩
theorem own_below {B : Nat} {e : TypeId} {k : Nat} {v : Value} {n : Nat} {xs : List Value} {w w' : World} (h : w.ownsRow B e k v n xs) (hb : Below w.heap.size w w') : w'.ownsRow B e k v n xs :=
  h.kept (row := none) ⟨hb.os, hb.tape, hb.output, hb.size, fun j hj _ => hb.block j hj⟩ (by cases hv : v.ownBlock <;> simp)

/-- the vivified clause -/
def vivT (cls : List (List Int)) : List Int → List Int → List Int
  | [], left => left
  | x :: l, left => match closureT cls (left.map (-·)) with
    | none => left
    | some S => if hasB S x = true then left ++ [x] else if hasB S (-x) = true then vivT cls l left else vivT cls l (left ++ [x])
def vivE (x : Int) (ls : List (List Int)) (k : Int) : Int := if checkE x ls ≠ 0 then checkE x ls else if k < 0 ∨ (ls.length : Int) ≤ k then 1 else 0
def vivL (x : Int) (ls : List (List Int)) (k : Int) : List Int := if vivE x ls k = 0 then vivT (ls.eraseIdx k.toNat) (normP (ell ls k.toNat)) [] else []
def Viv (zs : List Int) (e' : Int) (w : World) (e : Ending) (w' : World) : Prop :=
  ∃ A c, e = .returned (.tuple #[.slice A zs.length c, .int .i64 e']) ∧ RI w' A zs.length c zs ∧ Below w.heap.size w w'

theorem ret_viv {A : Option Addr} {n n' c : Nat} {e : Int} (hn : n = n') : Ending.returned (.tuple #[.slice A n c, .int .i64 e]) = .returned (.tuple #[.slice A n' c, .int .i64 e]) := by rw [hn]

theorem checkE_lits {x : Int} {ls : List (List Int)} (h : checkE x ls = 0) : ∀ l ∈ ls, Okl l := by
  unfold checkE at h
  split at h
  · cases h
  · split at h
    · cases h
    · rename_i h1 h2
      have h3 : allB x ls = true := by simpa using h2
      intro l hl y hy
      have h4 : litsB x l = true := List.all_eq_true.1 h3 l hl
      have h5 := isB_iff.1 (List.all_eq_true.1 h4 y hy)
      have h6 := h5.1
      refine ⟨h6, by omega, by omega⟩
theorem sumL_erase : ∀ (ls : List (List Int)) (k : Nat), sumL (ls.eraseIdx k) ≤ sumL ls
  | [], k => by simp
  | l :: ls, 0 => by simp [sumL]
  | l :: ls, k + 1 => by have := sumL_erase ls k; simp [sumL] at this ⊢; omega
theorem sumL_ell : ∀ (ls : List (List Int)) (k : Nat), (ell ls k).length ≤ sumL ls
  | [], k => by simp [ell]
  | l :: ls, 0 => by simp [sumL, ell]
  | l :: ls, k + 1 => by have := sumL_ell ls k; simp [sumL, ell] at this ⊢; omega

set_option maxHeartbeats 1000000 in
theorem vivify_bad (x : Int) (A : Option Addr) (n c : Nat) (ls : List (List Int)) (k : Int) (w : World) (h : RL w A n c ls) (he : vivE x ls k ≠ 0) :
    Calls Try.prog 16 #[.agg #[.int .i64 x, .slice A n c], .int .i64 k] w (Viv [] (vivE x ls k) w) := by
  have hcall := check_any x A n c ls (w.alloc (.cells #[.int .i64 x, .slice A n c] 29)) (h.alloc _)
  have hl := h.len
  by_cases h0 : checkE x ls = 0
  · rw [h0] at hcall
    have hv : k < 0 ∨ (n : Int) ≤ k := by
      unfold vivE at he; rw [if_neg (by simpa using h0)] at he
      split at he
      · rename_i h1; rw [hl] at h1; exact h1
      · exact absurd rfl he
    have hE : vivE x ls k = 1 := by unfold vivE; rw [if_neg (by simpa using h0), if_pos (by rw [hl]; exact hv)]
    rw [hE]
    clear he hE h0 h
    by_cases hk : k < 0
    · clear hv
      go_enter Try.func16, Try.ntmps16
      go_wp2_with (go_at_call 25; refine hcall.mono ?_; clear hcall; rintro e w1 ⟨rfl, hb⟩)
      go_ret2
      exact ⟨none, 0, rfl, RI.nil _ _ _ (Nat.zero_le _), ((Below.refl _ w).alloc (Nat.le_refl _) _).trans (hb.mono (by simp))⟩
    · have hk2 : (n : Int) ≤ k := by omega
      clear hv
      go_enter Try.func16, Try.ntmps16
      go_wp2_with (go_at_call 25; refine hcall.mono ?_; clear hcall; rintro e w1 ⟨rfl, hb⟩; have bx := (BoxC.new w x A n c).below hb; have p0 := bx.c0; have p1 := bx.c1)
      go_ret2
      exact ⟨none, 0, rfl, RI.nil _ _ _ (Nat.zero_le _), ((Below.refl _ w).alloc (Nat.le_refl _) _).trans (hb.mono (by simp))⟩
  · have hE : vivE x ls k = checkE x ls := by unfold vivE; rw [if_pos h0]
    rw [hE]
    generalize checkE x ls = r at hcall h0 ⊢
    have hr : (r != 0) = true := by simpa using h0
    clear he hE h h0
    go_enter Try.func16, Try.ntmps16
    go_wp2_with (go_at_call 25; refine hcall.mono ?_; clear hcall; rintro e w1 ⟨rfl, hb⟩)
    go_ret2
    exact ⟨none, 0, rfl, RI.nil _ _ _ (Nat.zero_le _), ((Below.refl _ w).alloc (Nat.le_refl _) _).trans (hb.mono (by simp))⟩

set_option maxRecDepth 100000 in
set_option maxHeartbeats 4000000 in
theorem vivify_ok (x : Int) (A : Option Addr) (n c : Nat) (ls : List (List Int)) (k : Nat) (w : World) (h : RL w A n c ls) (h0 : checkE x ls = 0) (hk : k < n) (hs : sumL ls ≤ 50000) :
    Calls Try.prog 16 #[.agg #[.int .i64 x, .slice A n c], .int .i64 (k : Int)] w (Viv (vivT (ls.eraseIdx k) (normP (ell ls k)) []) 0 w) := by
  obtain ⟨i0, hi, hz0, hz1, hz2⟩ := info_parts infoInt
  have hcall := check_any x A n c ls (w.alloc (.cells #[.int .i64 x, .slice A n c] 29)) (h.alloc _)
  rw [h0] at hcall
  have hn := h.small
  obtain ⟨b, off, rfl, hbl, hc⟩ := h.cells (by omega)
  obtain ⟨a1, n1, c1, hck, hr1⟩ := hc k hk
  have hlen : (normP (ell ls k)).length ≤ 50000 := Nat.le_trans (normP_len _) (Nat.le_trans (sumL_ell ls k) hs)
  have hokl : Okl (normP (ell ls k)) := normP_okl _
  have hsu := Nat.le_trans (sumL_erase ls k) hs
  have hnorm := fun (W : World) (hr : RI W a1 n1 c1 (ell ls k)) => norm_any a1 n1 c1 (ell ls k) W hr
  unfold Normed at hnorm
  generalize normP (ell ls k) = l at hlen hokl hnorm ⊢
  obtain ⟨m, hm⟩ : ∃ m, l.length = m := ⟨_, rfl⟩
  rw [hm] at hlen hnorm
  have HK := Lib.hid (checkE_lits h0)
  have H := Lib.hid h
  have HR1 := Lib.hid hr1
  clear hc h hr1 h0
  have hkn : ¬ (n : Int) ≤ (k : Int) := by omega
  have hk0 : ¬ (k : Int) < 0 := by omega
  go_enter Try.func16, Try.ntmps16
  go_wp2_with (first
    | (go_at_call 25; refine hcall.mono ?_; clear hcall; rintro e w1 ⟨rfl, hb⟩; have bx := (BoxC.new w x (some ⟨b, off, none⟩) n c).below hb; have p0 := bx.c0; have p1 := bx.c1; have hb1 := ((Below.refl _ w).alloc (Nat.le_refl _) _).trans (hb.mono (by simp)); have hck1 := (hb1.cell (p := ⟨b, off + k, none⟩) hbl).trans hck; have BX := Lib.hid bx; have HB1 := Lib.hid hb1; clear bx hb1 hb)
    | (go_at_call 23; refine (hnorm _ (HR1.out.below HB1.out)).mono ?_; clear hnorm; rintro e w2 ⟨A2, c2, rfl, hr2, hb2⟩; have HR2 := Lib.hid hr2; have BX2 := Lib.hid (BX.out.below hb2); have HB2 := Lib.hid (HB1.out.trans (hb2.mono HB1.out.size)); clear hr2 hb2 HB1 BX p0 p1 hck1))
  have HO := Lib.hid hokl
  clear hokl
  go_loopw [9, 39] (fun s9 s39 wr => ∃ (j : Nat) (O : Option Addr) (co : Nat) (left : List Int) (L : Nat), left.length = L ∧ j ≤ m ∧ s39 = .int .i64 j ∧ s9 = .slice O L co ∧ wr.ownsRow w2.heap.size 3 1 (.slice O L co) L (left.map (Value.int .i64)) ∧ Below w2.heap.size w2 wr ∧ vivT (ls.eraseIdx k) l [] = vivT (ls.eraseIdx k) (l.drop j) left ∧ Okl left ∧ L ≤ j) (fun _ i _ => m - (intOf i).toNat)
  case atStart => exact ⟨0, none, 0, [], 0, rfl, Nat.zero_le _, rfl, rfl, World.ownsRow_nil _ _ _ _, Below.refl _ _, rfl, fun x h => (by cases h), Nat.le_refl _⟩
  case round =>
    obtain ⟨j, O, co, left, L, hL, hj, rfl, rfl, hown, hb3, hv, hol, hLj⟩ := hrel
    have HB3 := Lib.hid hb3
    have HV := Lib.hid hv
    have HOL := Lib.hid hol
    have HLL := Lib.hid hL
    have hsz := hb3.size
    have HBw := Lib.hid (HB2.out.trans (hb3.mono HB2.out.size))
    have bx3 := BX2.out.below hb3
    have p0 := bx3.c0
    have p1 := bx3.c1
    clear hb3 hv hol hL bx3
    by_cases hlt : j < m
    · have hll : j < l.length := by rw [hm]; exact hlt
      obtain ⟨b2, off2, rfl, hb2', hc2⟩ := HR2.out.cells (by omega)
      have hcj := (HB3.out.cell (p := ⟨b2, off2 + j, none⟩) hb2').trans (hc2 j hlt)
      clear hc2
      have hxx := HO.out.at hll
      have hneg := lit_neg' hxx.2.1 hxx.2.2
      have hw1 := wf_lit hxx.2.1 hxx.2.2
      have hw2 : (Lit.int .i64 (-(elt l j))).wf = true := wf_lit (by omega) (by omega)
      have HX := Lib.hid hxx
      have HLt := Lib.hid hll
      clear hxx hll
      have hcome := comes_any n c b off ls k O L co left wr (H.out.below HBw.out) (Nat.lt_of_lt_of_le hbl HBw.out.size) hk HK.out (RI.of_own hown (by omega)) HOL.out (by omega)
      have hv2 := HV.out
      rw [drop_at HLt.out, vivT] at hv2
      cases hcl : closureT (ls.eraseIdx k) (left.map (-·)) with
      | none =>
        rw [hcl] at hv2
        have HV2 := Lib.hid hv2
        have hcome' : Calls Try.prog 37 #[.slice (some ⟨b, off, none⟩) n c, .int .i64 k, .slice O L co] wr (fun e w' => e = .returned (.tuple #[.map none, .bool false]) ∧ Below wr.heap.size wr w') := hcome.mono (by
          rintro e w' (⟨_, h1, h2⟩ | ⟨S, b', m', h1, _⟩)
          · exact ⟨h1, h2⟩
          · rw [hcl] at h1; cases h1)
        clear hcome hcl hv2
        have RL := Lib.hid (RI.of_own hown (by omega))
        go_wp2_with (go_at_call 37; refine hcome'.mono ?_; clear hcome'; rintro e w3 ⟨rfl, hb4⟩)
        go_ret2
        refine ⟨O, co, ret_viv (by rw [HV2.out, HLL.out]), ?_, HBw.out.trans (hb4.mono HBw.out.size)⟩
        rw [HV2.out, HLL.out]; exact RL.out.below hb4
      | some S =>
        rw [hcl] at hv2
        dsimp only at hv2
        have HV2 := Lib.hid hv2
        have hcome' : Calls Try.prog 37 #[.slice (some ⟨b, off, none⟩) n c, .int .i64 k, .slice O L co] wr (fun e w' => ∃ b' m', e = .returned (.tuple #[.map (some b'), .bool true]) ∧ SM w' b' m' S ∧ Below wr.heap.size wr w') := hcome.mono (by
          rintro e w' (⟨h1, _⟩ | ⟨S', b', m', h1, h2, h3, h4⟩)
          · rw [hcl] at h1; cases h1
          · rw [hcl] at h1; cases h1; exact ⟨b', m', h2, h3, h4⟩)
        clear hcome hcl hv2
        by_cases h1 : hasB S (elt l j) = true
        · have HV3 : Hid (vivT (ls.eraseIdx k) l [] = left ++ [elt l j]) := Lib.hid (by rw [HV2.out, if_pos h1])
          go_wp2_with (first
            | (go_at_call 37; refine hcome'.mono ?_; clear hcome'; rintro e w3 ⟨b', m', rfl, hsm, hb4⟩; have hk1 := hsm.look hw1; rw [h1] at hk1; have hown3 := own_below hown hb4; have hsz3 := hb4.size; have HB4 := Lib.hid hb4; clear hsm hb4)
            | (at_builtin; refine wpList_append_own_at _ rfl (.tmp 59) (.tmp 61) 31 rfl w2.heap.size 3 i0 (.int .i64 0) 1 8 Try.underlying31 hi hz0 hz1 hz2 rfl (by decide) (.slice O L co) L _ rfl (hown3.alloc _) ⟨_, 0, none⟩ 1 1 [.int .i64 (elt l j)] rfl rfl (cell_one_new _ _ _) (by simp [Value.oneCell']) (by unfold maxLen; omega) (by omega) (by simp; omega) ?_; intro v' w4 hown' hgrow hnil hloc; obtain ⟨g', cap', rfl⟩ := own_succ hown'; have G1 := Lib.hid (grown_below hgrow); have O1 := Lib.hid hown'; have OL := Lib.hid (fun g hg => (own_lt hown3 (g := g) hg).1); clear hown' hgrow hnil hloc))
          go_ret2
          have hB4 := HBw.out.trans (HB4.out.mono HBw.out.size)
          have el : (left ++ [elt l j]).length = L + 1 := by rw [List.length_append, HLL.out]; rfl
          refine ⟨some ⟨g', 0, none⟩, cap', ret_viv (by rw [HV3.out, el]), ?_, hB4.grown G1.out hB4.size (fun g hg => Nat.le_trans HB2.out.size (OL.out g hg))⟩
          rw [HV3.out, el]; exact RI.of_own (by rw [List.map_append]; exact O1.out) (by omega)
        · have h1' : hasB S (elt l j) = false := by simpa using h1
          by_cases h2 : hasB S (-(elt l j)) = true
          · have HV3 : Hid (vivT (ls.eraseIdx k) l [] = vivT (ls.eraseIdx k) (l.drop (j + 1)) left) := Lib.hid (by rw [HV2.out, if_neg h1, if_pos h2])
            go_wp2_with (go_at_call 37; refine hcome'.mono ?_; clear hcome'; rintro e w3 ⟨b', m', rfl, hsm, hb4⟩; have hk1 := hsm.look hw1; rw [h1'] at hk1; have hk2 := hsm.look hw2; rw [h2] at hk2; have hown3 := own_below hown hb4; have HB4 := Lib.hid hb4; clear hsm hb4)
            go_roundw
            case rel => exact ⟨j + 1, O, co, left, L, HLL.out, by omega, by go_num, rfl, hown3, HB3.out.trans (HB4.out.mono HB3.out.size), HV3.out, HOL.out, by omega⟩
            case measure => simp [intOf]; omega
          · have h2' : hasB S (-(elt l j)) = false := by simpa using h2
            have HV3 : Hid (vivT (ls.eraseIdx k) l [] = vivT (ls.eraseIdx k) (l.drop (j + 1)) (left ++ [elt l j])) := Lib.hid (by rw [HV2.out, if_neg h1, if_neg h2])
            go_wp2_with (first
              | (go_at_call 37; refine hcome'.mono ?_; clear hcome'; rintro e w3 ⟨b', m', rfl, hsm, hb4⟩; have hk1 := hsm.look hw1; rw [h1'] at hk1; have hk2 := hsm.look hw2; rw [h2'] at hk2; have hown3 := own_below hown hb4; have hsz3 := hb4.size; have HB4 := Lib.hid hb4; clear hsm hb4)
              | (at_builtin; refine wpList_append_own_at _ rfl (.tmp 69) (.tmp 71) 31 rfl w2.heap.size 3 i0 (.int .i64 0) 1 8 Try.underlying31 hi hz0 hz1 hz2 rfl (by decide) (.slice O L co) L _ rfl (hown3.alloc _) ⟨_, 0, none⟩ 1 1 [.int .i64 (elt l j)] rfl rfl (cell_one_new _ _ _) (by simp [Value.oneCell']) (by unfold maxLen; omega) (by omega) (by simp; omega) ?_; intro v' w4 hown' hgrow hnil hloc; obtain ⟨g', cap', rfl⟩ := own_succ hown'; have G1 := Lib.hid (grown_below hgrow); have O1 := Lib.hid hown'; have OL := Lib.hid (fun g hg => (own_lt hown3 (g := g) hg).1); clear hown' hgrow hnil hloc))
            go_roundw
            case rel =>
              refine ⟨j + 1, some ⟨g', 0, none⟩, cap', left ++ [elt l j], L + 1, by rw [List.length_append, HLL.out]; rfl, by omega, by go_num, rfl, by rw [List.map_append]; exact O1.out, ?_, HV3.out, ?_, by omega⟩
              · have hB4 := HB3.out.trans (HB4.out.mono HB3.out.size)
                exact hB4.grown G1.out hB4.size (fun g hg => OL.out g hg)
              · intro y hy
                rcases List.mem_append.1 hy with hy | hy
                · exact HOL.out y hy
                · rw [List.mem_singleton.1 hy]; exact HX.out
            case measure => simp [intOf]; omega
    · have hvv := HV.out
      rw [List.drop_of_length_le (by omega), vivT] at hvv
      have HVV := Lib.hid hvv
      clear hvv
      have RL := Lib.hid (RI.of_own hown (by omega))
      go_wp2
      go_ret2
      refine ⟨O, co, ret_viv (by rw [HVV.out, HLL.out]), ?_, HBw.out⟩
      rw [HVV.out, HLL.out]; exact RL.out

theorem vivify_any (x : Int) (A : Option Addr) (n c : Nat) (ls : List (List Int)) (k : Int) (w : World) (h : RL w A n c ls) (hs : sumL ls ≤ 50000) :
    Calls Try.prog 16 #[.agg #[.int .i64 x, .slice A n c], .int .i64 k] w (Viv (vivL x ls k) (vivE x ls k) w) := by
  by_cases he : vivE x ls k = 0
  · have h1 : checkE x ls = 0 := by
      unfold vivE at he; split at he
      · exact he
      · rename_i h1; simpa using h1
    have h2 : ¬ (k < 0 ∨ (ls.length : Int) ≤ k) := by
      intro h2; unfold vivE at he; rw [if_neg (by simpa using h1), if_pos h2] at he; cases he
    have hl := h.len
    obtain ⟨j, rfl⟩ : ∃ j : Nat, k = j := ⟨k.toNat, by omega⟩
    have := vivify_ok x A n c ls j w h h1 (by omega) hs
    unfold vivL
    rw [if_pos he, he]
    simpa using this
  · have := vivify_bad x A n c ls k w h he
    unfold vivL
    rw [if_neg he]
    exact this

end Go.Proofs.Ytalcnkoidmoibaa
