/-
  Vivify in plain words: unit propagation from the negations of a vivified clause ends in a conflict. No program in sight. No condition.
  The law TidyVivifyImplied, walked. No condition.
-/
import Derived.Test.YtalcnkoidmoibaaZA20
import Derived.Test.YtalcnkoidmoibaaZA22
import Derived.Test.YtalcnkoidmoibaaZA14

namespace Go.Proofs.Ytalcnkoidmoibaa
open Go.RowKit Go.Shelf
set_option linter.unusedVariables false
set_option linter.unusedSimpArgs false

/-- in an ordered row a literal's opposite is its neighbour -/
theorem asc_next {zs : List Int} (h : Asc zs) {y : Int} (h0 : 0 < y) (h1 : y ∈ zs) (h2 : -y ∈ zs) : ∃ i, i + 1 < zs.length ∧ elt zs (i + 1) = -elt zs i := by
  obtain ⟨i, hi, e1⟩ := List.mem_iff_getElem.1 h1
  obtain ⟨j, hj, e2⟩ := List.mem_iff_getElem.1 h2
  have hp := List.pairwise_iff_getElem.1 h
  have hij : i < j := by
    rcases Nat.lt_trichotomy i j with h | h | h
    · exact h
    · subst h; omega
    · have := litLt_iff.1 (hp j i hj hi h)
      rw [e1, e2] at this
      unfold absI at this
      split at this <;> split at this <;> omega
  have hle : j = i + 1 := by
    rcases Nat.lt_or_ge (i + 1) j with h | h
    · have a := litLt_iff.1 (hp i (i + 1) hi (by omega) (by omega))
      have b := litLt_iff.1 (hp (i + 1) j (by omega) hj h)
      rw [e1] at a
      rw [e2] at b
      generalize zs[i + 1] = u at a b
      unfold absI at a b
      split at a <;> split at a <;> split at b <;> split at b <;> omega
    · omega
  subst hle
  refine ⟨i, hj, ?_⟩
  rw [elt_lt hj, elt_lt hi, e1, e2]

/-- a set that is at peace with the other clauses and holds the negations of what is left makes the whole clause false -/
theorem viv_false {cls : List (List Int)} {T : List Int} (hg : Good cls T) (hz : Nzs cls) : ∀ (l left : List Int), (∀ y ∈ vivT cls l left, -y ∈ T) → ∀ y ∈ l, -y ∈ T
  | [], left, _, y, hy => by cases hy
  | x :: l, left, h, y, hy => by
    obtain ⟨r, hr, _⟩ := vivT_sub cls (x :: l) left
    have hs : Sub (left.map (-·)) T := fun z hz => by
      obtain ⟨u, hu, rfl⟩ := List.mem_map.1 hz
      exact h u (by rw [hr]; simp [hu])
    obtain ⟨S', hc, hS⟩ := closureT_stay hg hz hs
    rw [vivT, hc] at h
    have hx : -x ∈ T ∧ ∀ z ∈ l, -z ∈ T := by
      by_cases h1 : hasB S' x = true
      · have h : ∀ y ∈ (if hasB S' x = true then left ++ [x] else if hasB S' (-x) = true then vivT cls l left else vivT cls l (left ++ [x])), -y ∈ T := h
        rw [if_pos h1] at h
        exact absurd (h x (by simp)) (hg.con x (hS x (hasB_iff.1 h1)))
      · have h : ∀ y ∈ (if hasB S' x = true then left ++ [x] else if hasB S' (-x) = true then vivT cls l left else vivT cls l (left ++ [x])), -y ∈ T := h
        rw [if_neg h1] at h
        by_cases h2 : hasB S' (-x) = true
        · rw [if_pos h2] at h
          exact ⟨hS _ (hasB_iff.1 h2), viv_false hg hz l left h⟩
        · rw [if_neg h2] at h
          obtain ⟨r2, hr2, _⟩ := vivT_sub cls l (left ++ [x])
          exact ⟨h x (by rw [hr2]; simp), viv_false hg hz l (left ++ [x]) h⟩
    rcases List.mem_cons.1 hy with e | e
    · rw [e]; exact hx.1
    · exact hx.2 y e

theorem implied {x : Int} {ls : List (List Int)} {k : Nat} (hE : vivE x ls k = 0) (hap : ∀ i, i + 1 < (vivL x ls k).length → elt (vivL x ls k) (i + 1) ≠ -elt (vivL x ls k) i) :
    propE x ls (negT (vivL x ls k)) = 0 ∧ (propT x ls (negT (vivL x ls k))).1 ≠ none := by
  obtain ⟨hc, hk0, hkl⟩ := vivE_zero hE
  obtain ⟨_, _, hnorm, hin⟩ := viv_again hE
  have hk : k < ls.length := by omega
  have e1 : vivL x ls k = vivT (ls.eraseIdx k) (normP (ell ls k)) [] := by unfold vivL; rw [if_pos hE]; simp
  have hasc : Asc (vivL x ls k) := by rw [← hnorm]; exact normP_asc _
  have hb : ∀ y ∈ vivL x ls k, isB y x = true := fun y hy => checkE_isB hc (ell_mem hk) (hin y hy)
  have hn : (vivL x ls k).Nodup := by
    have h := hasc
    unfold Asc at h
    show (vivL x ls k).Pairwise (· ≠ ·)
    refine h.imp ?_
    intro a b hab e
    rw [e] at hab
    exact litLt_irrefl b hab
  have hcon : ∀ y ∈ vivL x ls k, ¬ -y ∈ vivL x ls k := fun y hy hy2 => by
    have h0 := isB_iff.1 (hb y hy)
    rcases Int.lt_or_le 0 y with h | h
    · obtain ⟨i, hi, e⟩ := asc_next hasc h hy hy2
      exact hap i hi e
    · obtain ⟨i, hi, e⟩ := asc_next hasc (y := -y) (by omega) hy2 (by rw [Int.neg_neg]; exact hy)
      exact hap i hi e
  have hpe : propE x ls (negT (vivL x ls k)) = 0 := by
    unfold propE
    rw [if_neg (by simpa using hc), if_pos (negT_trail hb hn hcon)]
  refine ⟨hpe, fun hnone => ?_⟩
  have hF := prop_fixed hpe
  have hC := fixed_clo hF hnone
  have hmem : ∀ l ∈ ls.eraseIdx k, ∃ i, i < ls.length ∧ ell ls i = l := fun l hl => by
    obtain ⟨i, hi, e⟩ := List.mem_iff_getElem.1 (List.mem_of_mem_eraseIdx hl)
    exact ⟨i, hi, by rw [ell_lt hi]; exact e⟩
  have hz : Nzs (ls.eraseIdx k) := fun l hl y hy => by
    obtain ⟨i, hi, rfl⟩ := hmem l hl
    have := isB_iff.1 (checkE_isB hc (ell_mem hi) hy)
    omega
  have hg : Good (ls.eraseIdx k) (slitsOf (propT x ls (negT (vivL x ls k))).2.ts) := by
    refine ⟨fun y hy hy2 => ?_, fun l hl => ?_, fun l hl => ?_⟩
    · have := trail_apart hF.tr (hasB_iff.2 hy)
      rw [hasB_iff.2 hy2] at this; cases this
    · obtain ⟨i, hi, rfl⟩ := hmem l hl
      cases h : falseB (ell ls i) (slitsOf (propT x ls (negT (vivL x ls k))).2.ts) with
      | false => rfl
      | true => exact absurd (fun z hz => hasB_iff.2 (falseB_iff.1 h z hz)) (hC.open' i hi)
    · obtain ⟨i, hi, rfl⟩ := hmem l hl
      by_cases h : (unitT (slitsOf (propT x ls (negT (vivL x ls k))).2.ts) (ell ls i) 0).1 = 0
      · exact h
      · obtain ⟨m1, m2, m3⟩ := unitT_mem h
        have hv := (unitT_val (ell ls i) 0 (hz _ hl) h).1
        have := hC.unit i hi _ m1 (fun z hz' hne => by
          rcases (hv z hz').2 with e | e
          · exact hasB_iff.2 e
          · exact absurd e hne)
        rw [m2] at this; cases this
  have hsub : ∀ y ∈ vivL x ls k, -y ∈ slitsOf (propT x ls (negT (vivL x ls k))).2.ts := fun y hy => by
    refine litsOf_sub hF.more _ (hasB_iff.1 ?_)
    rw [litsOf_negT, Int.neg_neg]; exact hy
  have hall := viv_false hg hz (normP (ell ls k)) [] (fun y hy => hsub y (by rw [e1]; exact hy))
  refine hC.open' k hk fun z hz' => hasB_iff.2 ?_
  refine hall z (mem_normP.2 ⟨hz', ?_⟩)
  have h1 := checkE_n hc
  have h2 := isB_iff.1 (checkE_isB hc (ell_mem hk) hz')
  rw [isB_iff]; omega

end Go.Proofs.Ytalcnkoidmoibaa

namespace Go.Proofs.Ytalcnkoidmoibaa
open Go.RowKit Go.Shelf
set_option linter.unusedVariables false
set_option linter.unusedSimpArgs false

theorem few_facts {ls : List (List Int)} (h : fewL ls = true) : ls.length ≤ 60 ∧ sumL ls ≤ 1000 := fewL_len h

set_option maxRecDepth 100000 in
set_option maxHeartbeats 2000000 in
theorem vivifyImp_few (x : Int) (A : Option Addr) (n c : Nat) (ls : List (List Int)) (k : Int) (w : World) (h : RL w A n c ls) (hf : fewL ls = false) :
    Calls Try.prog 10 #[.agg #[.int .i64 x, .slice A n c], .int .i64 k] w (Truly w) := by
  have H := Lib.hid (h.alloc (.cells #[.int .i64 x, .slice A n c] 29))
  have HB0 := Lib.hid ((Below.refl w.heap.size w).alloc (Nat.le_refl _) (.cells #[.int .i64 x, .slice A n c] 29))
  have BX := Lib.hid (Two.new w (.int .i64 x) (.slice A n c))
  clear h
  have HF := Lib.hid hf
  clear hf
  go_enter Try.func10, Try.ntmps10
  go_wp2_with (first
    | (go_at_call 11; refine (live_any _).mono ?_; rintro e w1 ⟨rfl, hb1⟩; have HB1 := Lib.hid hb1; have t1 := (BX.out.below hb1); have q0 := t1.c0; have q1 := t1.c1; clear hb1 t1)
    | (go_at_call 15; refine (few_val false x A n c ls _ (H.out.below HB1.out) HF.out).mono ?_; rintro e w2 ⟨rfl, hb2⟩; have HB2 := Lib.hid hb2; clear hb2))
  go_ret
  exact ⟨rfl, HB0.out.trans ((HB1.out.trans (HB2.out.mono HB1.out.size)).mono HB0.out.size)⟩

set_option maxRecDepth 100000 in
set_option maxHeartbeats 2000000 in
theorem vivifyImp_bad (x : Int) (A : Option Addr) (n c : Nat) (ls : List (List Int)) (k : Int) (w : World) (h : RL w A n c ls) (hf : fewL ls = true) (hE : vivE x ls k ≠ 0) :
    Calls Try.prog 10 #[.agg #[.int .i64 x, .slice A n c], .int .i64 k] w (Truly w) := by
  have H := Lib.hid (h.alloc (.cells #[.int .i64 x, .slice A n c] 29))
  have HB0 := Lib.hid ((Below.refl w.heap.size w).alloc (Nat.le_refl _) (.cells #[.int .i64 x, .slice A n c] 29))
  have BX := Lib.hid (Two.new w (.int .i64 x) (.slice A n c))
  clear h
  obtain ⟨hn, hsum⟩ := fewL_len hf
  have HF := Lib.hid hf
  clear hf
  have hv := fun W (h : RL W A n c ls) => vivify_any x A n c ls k W h (by omega)
  unfold Viv at hv
  obtain ⟨e', he'⟩ : ∃ e', vivE x ls k = e' := ⟨_, rfl⟩
  obtain ⟨z, hz⟩ : ∃ z, vivL x ls k = z := ⟨_, rfl⟩
  obtain ⟨m, hm⟩ : ∃ m, z.length = m := ⟨_, rfl⟩
  rw [he', hz, hm] at hv
  rw [he'] at hE
  have d0 : (e' != 0) = true := by simpa using hE
  clear he' hz hm hE
  go_enter Try.func10, Try.ntmps10
  go_wp2_with (first
    | (go_at_call 11; refine (live_any _).mono ?_; rintro e w1 ⟨rfl, hb1⟩; have HB1 := Lib.hid (HB0.out.trans (hb1.mono HB0.out.size)); have HR1 := Lib.hid (H.out.below hb1); have BX1 := Lib.hid (BX.out.below hb1); have q0 := BX1.out.c0; have q1 := BX1.out.c1; clear hb1)
    | (go_at_call 15; refine (few_val true x A n c ls _ HR1.out HF.out).mono ?_; rintro e w2 ⟨rfl, hb2⟩; have HB2 := Lib.hid (HB1.out.trans (hb2.mono HB1.out.size)); have HR2 := Lib.hid (HR1.out.below hb2); have BX2 := Lib.hid (BX1.out.below hb2); clear q0 q1; have q0 := BX2.out.c0; have q1 := BX2.out.c1; clear hb2)
    | (go_at_call 16; refine (hv _ HR2.out).mono ?_; clear hv; rintro e w3 ⟨A3, c3, rfl, hr3, hb3⟩; have HB3 := Lib.hid (HB2.out.trans (hb3.mono HB2.out.size)); clear q0 q1 hr3 hb3))
  go_ret
  exact ⟨rfl, HB3.out⟩

/-- a row of the call's own stays where only memory is made -/
theorem own_keep {w w' : World} {base e size : Nat} {v : Value} {n : Nat} {xs : List Value} (h : w.ownsRow base e size v n xs) (hb : Below w.heap.size w w') : w'.ownsRow base e size v n xs := own_below h hb

set_option maxRecDepth 100000 in
set_option maxHeartbeats 8000000 in
theorem vivifyImp_ok (x : Int) (A : Option Addr) (n c : Nat) (ls : List (List Int)) (j : Nat) (w : World) (h : RL w A n c ls) (hf : fewL ls = true) (hE : vivE x ls j = 0) :
    Calls Try.prog 10 #[.agg #[.int .i64 x, .slice A n c], .int .i64 j] w (Truly w) := by
  have H := Lib.hid (h.alloc (.cells #[.int .i64 x, .slice A n c] 29))
  have HB0 := Lib.hid ((Below.refl w.heap.size w).alloc (Nat.le_refl _) (.cells #[.int .i64 x, .slice A n c] 29))
  have BX := Lib.hid (Two.new w (.int .i64 x) (.slice A n c))
  have hlen := h.len
  clear h
  have HF := Lib.hid hf
  obtain ⟨hn, hsum⟩ := fewL_len hf
  rw [hlen] at hn
  clear hf
  have hv := fun W (h : RL W A n c ls) => vivify_any x A n c ls j W h (by omega)
  unfold Viv at hv
  obtain ⟨hce, hk0, hkl⟩ := vivE_zero hE
  have hcell := checkE_lits hce _ (ell_mem (k := j) (by omega))
  have okz : Okl (vivL x ls (j : Int)) := fun y hy => hcell y ((viv_again hE).2.2.2 y hy)
  have himp := implied hE
  have hzl : (vivL x ls (j : Int)).length ≤ 1000 := by
    have h1 : (vivL x ls (j : Int)).Sublist (normP (ell ls j)) := by
      have e1 : vivL x ls j = vivT (ls.eraseIdx j) (normP (ell ls j)) [] := by unfold vivL; rw [if_pos hE]; simp
      rw [e1]; exact viv_part _ _
    have h2 := h1.length_le
    have h3 := normP_len (ell ls j)
    have h4 := sumL_ell ls j
    omega
  rw [hE] at hv
  generalize vivL x ls (j : Int) = zs at hv okz himp hzl
  obtain ⟨m, hm⟩ : ∃ m, zs.length = m := ⟨_, rfl⟩
  rw [hm] at hv hzl
  have HM := Lib.hid hm
  have OZ := Lib.hid okz
  have IMP := Lib.hid himp
  clear hE hce hk0 hkl hcell okz himp hm hlen
  go_enter Try.func10, Try.ntmps10
  go_upto_region 8 with (first
    | (go_at_call 11; refine (live_any _).mono ?_; rintro e w1 ⟨rfl, hb1⟩; have HB1 := Lib.hid (HB0.out.trans (hb1.mono HB0.out.size)); have HR1 := Lib.hid (H.out.below hb1); have BX1 := Lib.hid (BX.out.below hb1); have q0 := BX1.out.c0; have q1 := BX1.out.c1; clear hb1)
    | (go_at_call 15; refine (few_val true x A n c ls _ HR1.out HF.out).mono ?_; rintro e w2 ⟨rfl, hb2⟩; have HB2 := Lib.hid (HB1.out.trans (hb2.mono HB1.out.size)); have HR2 := Lib.hid (HR1.out.below hb2); have BX2 := Lib.hid (BX1.out.below hb2); clear q0 q1; have q0 := BX2.out.c0; have q1 := BX2.out.c1; clear hb2)
    | (go_at_call 16; refine (hv _ HR2.out).mono ?_; clear hv; rintro e W6 ⟨A3, c3, rfl, hr3, hb3⟩; have HR6 := Lib.hid (HR2.out.below hb3); have HM6 := Lib.hid hr3; have BX6 := Lib.hid (BX2.out.below hb3); have HB6 := Lib.hid (HB2.out.trans (hb3.mono HB2.out.size)); clear q0 q1 hr3 hb3))
  go_wp2
  go_loopw [7, 8] (fun s7 s8 W => ∃ (k2 : Nat) (A7 : Option Addr) (c7 : Nat), k2 ≤ m ∧ s8 = .int .i64 k2 ∧ s7 = .slice A7 k2 c7 ∧ W.ownsRow W6.heap.size 52 2 (.slice A7 k2 c7) k2 (flatS (negT (zs.take k2))) ∧ Below W6.heap.size W6 W ∧ ∀ i, i + 1 < k2 → elt zs (i + 1) ≠ -elt zs i) (fun _ i _ => m - (intOf i).toNat)
  case atStart => exact ⟨0, none, 0, Nat.zero_le _, rfl, rfl, World.ownsRow_nil _ _ _ _, Below.refl _ _, fun i hi => by omega⟩
  case round =>
    obtain ⟨k2, A7, c7, hk2, rfl, rfl, ho7, hbW, hap⟩ := hrel
    obtain ⟨W7, hw7, eW⟩ : ∃ W7, (Below W6.heap.size W6 W7 ∧ W7.ownsRow W6.heap.size 52 2 (.slice A7 k2 c7) k2 (flatS (negT (zs.take k2)))) ∧ W7 = _ := ⟨_, ⟨hbW, ho7⟩, rfl⟩
    subst eW
    have HW7 := Lib.hid hw7.1
    have HO7 := Lib.hid hw7.2
    have HB7 := Lib.hid (bthen HB6.out hw7.1)
    have AP := Lib.hid hap
    clear hbW ho7 hw7 hap
    by_cases hlt : k2 < m
    · have hjl : k2 < zs.length := by rw [HM.out]; exact hlt
      obtain ⟨y, hy⟩ : ∃ y, elt zs k2 = y := ⟨_, rfl⟩
      obtain ⟨q1, q2, q3⟩ := OZ.out y (by rw [← hy]; exact elt_mem hjl)
      obtain ⟨b4, o4, rfl, hb4l, hc4⟩ := (HM6.out.below HW7.out).cells (by omega)
      have e4 := hc4 k2 hlt
      rw [hy] at e4
      have hneg : wrap64 (0 - y) = -y := by unfold wrap64; omega
      have NX := Lib.hid (show negT (zs.take k2) ++ [⟨-y, -1⟩] = negT (zs.take (k2 + 1)) by rw [take_snoc zs k2 hjl, negT_snoc, hy])
      by_cases hk0 : k2 = 0
      · have d0 : decide (0 < k2) = false := by rw [decide_eq_false_iff_not]; omega
        have hlt' : (k2 : Int) < (m : Int) := by omega
        have HK0 := Lib.hid hk0
        clear hc4 hjl hy hk0
        go_wp2_with fail
        refine wp_region_grow (by kernel_rfl) (by kernel_rfl) ?_
        repeat (go_big_quiet_step (fail))
        refine wpQuiet_nil ?_
        rintro w8 ⟨⟨_, hb8⟩, rfl⟩
        have HW8 := Lib.hid (bthen HW7.out hb8)
        have HO8 := Lib.hid (own_keep HO7.out hb8)
        have e8 := (hb8.cell (p := ⟨b4, o4 + k2, none⟩) hb4l).trans e4
        clear e4 hb8
        go_wp2_with (at_builtin; refine wpList_append_st (wr := W6) rfl (.tmp 46) (.tmp 53) rfl (HW8.out.alloc HW8.out.size _) (.slice A7 k2 c7) k2 (negT (zs.take k2)) rfl (HO8.out.alloc _) (some ⟨w8.heap.size, 0, none⟩) 1 1 [⟨-y, -1⟩] rfl (RS.lit w8 [⟨-y, -1⟩] 1 _ rfl rfl (by omega)) (by omega) (k2 + 1) rfl (negT (zs.take (k2 + 1))) NX.out ?_; intro A8 c8 w9 ho9 hb9; have HO9 := Lib.hid ho9; have HB9 := Lib.hid hb9; clear ho9 hb9)
        go_roundw
        case rel => exact ⟨k2 + 1, A8, c8, by omega, by go_num, rfl, HO9.out, HB9.out, fun i hi => by have := HK0.out; omega⟩
        case measure => simp [intOf]; omega
      · obtain ⟨k1, hk1⟩ : ∃ k1, k2 = k1 + 1 := ⟨k2 - 1, by omega⟩
        obtain ⟨u, hu⟩ : ∃ u, elt zs k1 = u := ⟨_, rfl⟩
        obtain ⟨u1, u2, u3⟩ := OZ.out u (by rw [← hu]; exact elt_mem (by omega))
        have e5 := hc4 k1 (by omega)
        rw [hu, show k1 = k2 - 1 by omega] at e5
        have hnegu : wrap64 (0 - u) = -u := by unfold wrap64; omega
        have hix : wrap64 ((k2 : Int) - 1) = (k1 : Int) := by unfold wrap64; omega
        have d0 : decide (0 < k2) = true := by rw [decide_eq_true_iff]; omega
        have hk0' : (0 : Int) < (k2 : Int) := by omega
        have hk0n : 0 < k2 := by omega
        have hlt' : (k2 : Int) < (m : Int) := by omega
        have hlt1 : (k1 : Int) < (m : Int) := by omega
        have hltn : k1 < m := by omega
        have g4 := fun u : Gr W7 => u.cell (p := ⟨b4, o4 + k2, none⟩) hb4l e4
        have g5 := fun u : Gr W7 => u.cell (p := ⟨b4, o4 + (k2 - 1), none⟩) hb4l e5
        obtain ⟨dd, hdd⟩ : ∃ dd, (y == -u) = dd := ⟨_, rfl⟩
        have AP2 := Lib.hid (show dd = false → ∀ i, i + 1 < k2 + 1 → elt zs (i + 1) ≠ -elt zs i from fun hd i hi => by
          by_cases e : i = k1
          · rw [e, ← hk1, hy, hu]
            rw [hd] at hdd
            simpa using hdd
          · exact AP.out i (by omega))
        clear hc4 hjl hy hu hk1 hk0
        go_wp2_with fail
        refine wp_region_grow (by kernel_rfl) (by kernel_rfl) ?_
        repeat (go_big_quiet_step (fail))
        refine wpQuiet_nil ?_
        rintro w8 ⟨⟨_, hb8⟩, rfl⟩
        have HW8 := Lib.hid (bthen HW7.out hb8)
        have HO8 := Lib.hid (own_keep HO7.out hb8)
        have e8 := (hb8.cell (p := ⟨b4, o4 + k2, none⟩) hb4l).trans e4
        have HB8 := Lib.hid (bthen HB7.out hb8)
        clear g4 g5 e4 e5 hb8
        cases dd with
        | true =>
          go_wp2_with fail
          go_ret
          exact ⟨rfl, HB8.out⟩
        | false =>
          go_wp2_with (at_builtin; refine wpList_append_st (wr := W6) rfl (.tmp 46) (.tmp 53) rfl (HW8.out.alloc HW8.out.size _) (.slice A7 k2 c7) k2 (negT (zs.take k2)) rfl (HO8.out.alloc _) (some ⟨w8.heap.size, 0, none⟩) 1 1 [⟨-y, -1⟩] rfl (RS.lit w8 [⟨-y, -1⟩] 1 _ rfl rfl (by omega)) (by omega) (k2 + 1) rfl (negT (zs.take (k2 + 1))) NX.out ?_; intro A8 c8 w9 ho9 hb9; have HO9 := Lib.hid ho9; have HB9 := Lib.hid hb9; clear ho9 hb9)
          go_roundw
          case rel => exact ⟨k2 + 1, A8, c8, by omega, by go_num, rfl, HO9.out, HB9.out, AP2.out rfl⟩
          case measure => simp [intOf]; omega
    · obtain rfl : k2 = m := by omega
      obtain ⟨p1, p2⟩ := IMP.out (fun i hi => AP.out i (by rw [← HM.out]; exact hi))
      obtain ⟨us, hus⟩ : ∃ us, negT zs = us := ⟨_, rfl⟩
      rw [hus] at p1 p2
      obtain ⟨rp, hrp⟩ : ∃ rp, propT x ls us = rp := ⟨_, rfl⟩
      obtain ⟨r1, hr1⟩ : ∃ r1, rp.1 = r1 := ⟨_, rfl⟩
      obtain ⟨xs, hxs⟩ : ∃ xs, rp.2.ts = xs := ⟨_, rfl⟩
      obtain ⟨kx, hkx⟩ : ∃ kx, xs.length = kx := ⟨_, rfl⟩
      rw [hrp, hr1] at p2
      have HRP := Lib.hid (And.intro hrp (And.intro hr1 (And.intro hxs hkx)))
      have HU7 : Hid (RS W7 A7 k2 c7 us) := Lib.hid (by have := RS.of_own HO7.out (by omega); rw [← HM.out, List.take_length, hus, HM.out] at this; exact this)
      have P1 := Lib.hid p1
      have BX7 := Lib.hid (BX6.out.below HW7.out)
      have t0 := BX7.out.c0
      have t1 := BX7.out.c1
      cases r1 with
      | none => exact absurd rfl p2
      | some i1 =>
        have d9 : decide ((0 : Int) ≤ cfl (some i1)) = true := by rw [decide_eq_true_iff]; simp [cfl]
        obtain ⟨ci, hci⟩ : ∃ ci, cfl (some i1) = ci := ⟨_, rfl⟩
        rw [hci] at d9
        clear hlt HO7 p1 p2 hus hrp hr1 hxs hkx
        go_wp2_with (go_at_call 29; refine (prop_ok x A n c ls A7 k2 c7 us _ (HR6.out.below HW7.out) HU7.out P1.out (by omega) (by omega)).mono ?_; rintro e w9 hpd; obtain ⟨Ax, cx, rfl, hrx, hb9⟩ := hpd.named HRP.out; rw [hci]; have HB9 := Lib.hid (bthen HB7.out hb9); clear hpd hrx hb9)
        go_ret
        exact ⟨rfl, HB9.out⟩

theorem vivifyImp_any (x : Int) (A : Option Addr) (n c : Nat) (ls : List (List Int)) (k : Int) (w : World) (h : RL w A n c ls) :
    Calls Try.prog 10 #[.agg #[.int .i64 x, .slice A n c], .int .i64 k] w (Truly w) := by
  cases hf : fewL ls with
  | false => exact vivifyImp_few x A n c ls k w h hf
  | true =>
    by_cases hE : vivE x ls k = 0
    · obtain ⟨_, h2, h3⟩ := vivE_zero hE
      obtain ⟨j, rfl⟩ : ∃ j : Nat, k = j := ⟨k.toNat, by omega⟩
      exact vivifyImp_ok x A n c ls j w h hf hE
    · exact vivifyImp_bad x A n c ls k w h hf hE

end Go.Proofs.Ytalcnkoidmoibaa
