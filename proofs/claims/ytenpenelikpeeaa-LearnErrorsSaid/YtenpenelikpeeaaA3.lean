/-
  prop.Check of the program, walked. No condition.
-/
import Derived.Test.YtenpenelikpeeaaA2
namespace Go.Proofs.Ytenpenelikpeeaa
open Go.RowKit Go.Shelf
set_option linter.unusedVariables false
set_option linter.unusedSimpArgs false

theorem checkE_lits {x : Int} {ls : List (List Int)} (h : checkE x ls = 0) : ∀ l ∈ ls, Okl l := by
  unfold checkE at h
  split at h
  · cases h
  · split at h
    · cases h
    · rename_i h1 h2
      have h3 : allB x ls = true := by simpa using h2
      intro l hl y hy
      have h4 : litsB x l = true := List.all_eq_true.1 h3 l hl
      have h5 := isB_iff.1 (List.all_eq_true.1 h4 y hy)
      have h6 := h5.1
      refine ⟨h6, by omega, by omega⟩
theorem checkE_n {x : Int} {ls : List (List Int)} (h : checkE x ls = 0) : 0 ≤ x ∧ x ≤ 65536 := by
  unfold checkE at h
  split at h
  · cases h
  · rename_i h1; omega
theorem check_val (r : Int) (x : Int) (A : Option Addr) (n c : Nat) (ls : List (List Int)) (w : World) (h : RL w A n c ls) (hr : checkE x ls = r) :
    Calls Try.prog 23 #[.agg #[.int .i64 x, .slice A n c]] w fun e w' => e = .returned (.int .i64 r) ∧ Below w.heap.size w w' := by
  have := check_any x A n c ls w h
  rw [hr] at this; exact this

/-- the loop of Check under way -/
structure Ck (w1 wr : World) (k : Nat) (S : List Int) : Prop where
  set : SetM wr w1.heap.size k S
  dbox : Boxed wr (w1.heap.size + 1) 81 (.map (some w1.heap.size))
  below : Below w1.heap.size w1 wr
theorem Ck.start (w1 : World) : Ck w1 ((w1.alloc (.map #[] 0)).alloc (.cells #[.map (some w1.heap.size)] 81)) 0 [] :=
  ⟨(MF.made w1).alloc _, by have := Boxed.new (w1.alloc (.map #[] 0)) 81 (.map (some w1.heap.size)); simpa using this, ((Below.refl _ _).alloc (Nat.le_refl _) _).alloc (by simp) _⟩
theorem Ck.alloc {w1 wr : World} {k : Nat} {S : List Int} (h : Ck w1 wr k S) (o : Obj) : Ck w1 (wr.alloc o) k S :=
  ⟨h.set.alloc o, boxed_below h.dbox ((Below.refl _ _).alloc (Nat.le_refl _) _), h.below.alloc h.below.size _⟩
theorem Ck.turn {w1 wr w' : World} {k k' : Nat} {S S' : List Int} (h : Ck w1 wr k S) (hs : SetM w' w1.heap.size k' S') (ht : wr.mapTurned w' w1.heap.size) : Ck w1 w' k' S' :=
  ⟨hs, (ht.grown.block _ h.dbox.lt (by simp)).trans h.dbox, h.below.grown ht.grown h.below.size (fun g e => by cases e; exact Nat.le_refl _)⟩

set_option maxRecDepth 100000 in
set_option maxHeartbeats 4000000 in
theorem pcheck_in (x : Int) (A : Option Addr) (n c : Nat) (ls : List (List Int)) (A' : Option Addr) (n' c' : Nat) (ts : List Stp) (w : World) (h : RL w A n c ls) (h' : RS w A' n' c' ts) (hE : checkE x ls = 0) (hn' : n' ≤ 1000000) (r : Int) (hr : (if trailB x ls ts = true then 0 else 1) = r) :
    Calls Try.prog 20 #[.agg #[.int .i64 x, .slice A n c], .slice A' n' c'] w fun e w' => e = .returned (.int .i64 r) ∧ Below w.heap.size w w' := by
  obtain ⟨hx0, hx1⟩ := checkE_n hE
  have H := Lib.hid (h.alloc (.cells #[.int .i64 x, .slice A n c] 24))
  have HS := Lib.hid (h'.alloc (.cells #[.int .i64 x, .slice A n c] 24))
  have HB0 := Lib.hid ((Below.refl w.heap.size w).alloc (Nat.le_refl _) (.cells #[.int .i64 x, .slice A n c] 24))
  have BX := Lib.hid (Two.new w (.int .i64 x) (.slice A n c))
  have HE := Lib.hid hE
  have HK := Lib.hid (checkE_lits hE)
  have hlen := h.len
  have hnx := neg_small hx0 hx1
  have HLN := Lib.hid hlen
  have hnb := h.small
  have HRR := Lib.hid hr
  clear h h' hE hlen hr
  have hmm := @run_makeMap Try.prog
  go_enter Try.func20, Try.ntmps20
  go_upto_region 5 with (go_at_call 23; refine (check_val 0 x A n c ls _ H.out HE.out).mono ?_; rintro e w1 ⟨rfl, hb1⟩; have HB1 := Lib.hid (HB0.out.trans (hb1.mono HB0.out.size)); have HR1 := Lib.hid (H.out.below hb1); have HS1 := Lib.hid (HS.out.below hb1); have BX1 := Lib.hid (BX.out.below hb1); clear hb1)
  go_wp2_with fail
  go_loopw [19] (fun s19 W => ∃ k : Nat, k ≤ n' ∧ s19 = .int .i64 k ∧ trailTo x ls ts k = true ∧ Ck w1 W k (litsOf (ts.take k))) (fun s19 _ => n' - (intOf s19).toNat)
  case atStart => exact ⟨0, Nat.zero_le _, rfl, rfl, Ck.start w1⟩
  case round =>
    obtain ⟨k, hk, rfl, htr, hck⟩ := hrel
    have HT := Lib.hid htr
    have HC := Lib.hid hck
    clear htr hck
    by_cases hlt : k < n'
    · have hl : k < ts.length := by rw [HS.out.len]; exact hlt
      obtain ⟨b, off, rfl, hbl, hc⟩ := (HS1.out.below HC.out.below).cells (by omega)
      obtain ⟨hc0, hc1⟩ := hc k hlt
      clear hc
      have E1 := Lib.hid (trailTo_succ x ls ts k)
      have E2 : Hid (litsOf (ts.take (k + 1)) = litsOf (ts.take k) ++ [(stp ts k).lit]) := Lib.hid (by rw [takes_snoc ts k hl, litsOf_snoc])
      have E3 := Lib.hid (trailB_no (x := x) (ls := ls) (ts := ts) hl)
      have HX := Lib.hid (BoxS.new wr (stp ts k).lit (stp ts k).why)
      have HC2 := Lib.hid (HC.out.alloc (.cells #[.int .i64 (stp ts k).lit, .int .i64 (stp ts k).why] 41))
      have q0 := (BX1.out.below HC2.out.below).c0
      have q1 := (BX1.out.below HC2.out.below).c1
      have d0 := HC2.out.dbox.cell
      clear hl
      generalize hs : stp ts k = s at *
      obtain ⟨lt, wy⟩ := s
      dsimp only at *
      cases hok : stepOk x ls (litsOf (ts.take k)) ⟨lt, wy⟩ with
      | false =>
        have E4 := Lib.hid (E3.out hok)
        have hno := step_no hok
        dsimp only at hno
        rw [HLN.out] at hno
        have hkv := fun (r : Bool) (h0 : isB lt x = true) hr => known_val r _ _ (litsOf (ts.take k)) lt _ HC2.out.set (by have := isB_iff.1 h0; omega) (by have := isB_iff.1 h0; omega) hr
        clear E1 E2 E3 hok
        rcases hno with h1 | ⟨h1, h2⟩ | ⟨h1, h2, h3⟩ | ⟨h1, h2⟩ | ⟨h1, h2, h3⟩ | ⟨h1, h2, h3, h4⟩ | ⟨h1, h2, h3, h4, h5⟩ | ⟨h1, h2, h3, h4, h5, h6⟩
        · have z : (lt == 0) = true := by simpa using h1
          clear h1 hkv
          go_wp2_with fail
          go_ret
          exact ⟨ret_int (by rw [← HRR.out, E4.out]; rfl), HB1.out.trans (HC2.out.below.mono HB1.out.size)⟩
        · have z : (lt == 0) = false := by simpa using h1
          clear h1 hkv
          go_wp2_with fail
          go_ret
          exact ⟨ret_int (by rw [← HRR.out, E4.out]; rfl), HB1.out.trans (HC2.out.below.mono HB1.out.size)⟩
        · have z : (lt == 0) = false := by simpa using h1
          have z2 : ¬ x < lt := by omega
          clear h1 hkv
          go_wp2_with fail
          go_ret
          exact ⟨ret_int (by rw [← HRR.out, E4.out]; rfl), HB1.out.trans (HC2.out.below.mono HB1.out.size)⟩
        · have hb := isB_iff.1 h1
          have hcall := hkv true h1 h2
          have z : (lt == 0) = false := by simpa using hb.1
          have z2 : ¬ x < lt := by omega
          have z3 : ¬ lt < -x := by omega
          clear h1 h2 hkv hb
          go_wp2_with (go_at_call 53; refine hcall.mono ?_; clear hcall; rintro e w' ⟨rfl, rfl⟩)
          go_ret
          exact ⟨ret_int (by rw [← HRR.out, E4.out]; rfl), HB1.out.trans (HC2.out.below.mono HB1.out.size)⟩
        · have hb := isB_iff.1 h1
          have hcall := hkv false h1 h2
          have z : (lt == 0) = false := by simpa using hb.1
          have z2 : ¬ x < lt := by omega
          have z3 : ¬ lt < -x := by omega
          clear h1 h2 hkv hb
          go_wp2_with (go_at_call 53; refine hcall.mono ?_; clear hcall; rintro e w' ⟨rfl, rfl⟩)
          go_ret
          exact ⟨ret_int (by rw [← HRR.out, E4.out]; rfl), HB1.out.trans (HC2.out.below.mono HB1.out.size)⟩
        · have hb := isB_iff.1 h1
          have hcall := hkv false h1 h2
          have z : (lt == 0) = false := by simpa using hb.1
          have z2 : ¬ x < lt := by omega
          have z3 : ¬ lt < -x := by omega
          have z4 : ¬ wy < -1 := by omega
          clear h1 h2 h3 hkv hb
          go_wp2_with (go_at_call 53; refine hcall.mono ?_; clear hcall; rintro e w' ⟨rfl, rfl⟩)
          go_ret
          exact ⟨ret_int (by rw [← HRR.out, E4.out]; rfl), HB1.out.trans (HC2.out.below.mono HB1.out.size)⟩
        · have hb := isB_iff.1 h1
          have hcall := hkv false h1 h2
          have z : (lt == 0) = false := by simpa using hb.1
          have z2 : ¬ x < lt := by omega
          have z3 : ¬ lt < -x := by omega
          have z4 : ¬ wy < -1 := by omega
          have z5 : ¬ (n : Int) ≤ wy := by omega
          obtain ⟨j, rfl⟩ : ∃ j : Nat, wy = j := ⟨wy.toNat, by omega⟩
          obtain ⟨b2, off2, rfl, hb2, hc2⟩ := (HR1.out.below HC2.out.below).cells (by omega)
          obtain ⟨a3, n3, c3, hc3, hr3⟩ := hc2 j (by omega)
          rw [Int.toNat_natCast] at h5
          have hcon := contains_val false a3 n3 c3 _ lt _ hr3 h5
          clear h1 h2 h5 hkv hb hc2 hr3
          go_wp2_with (first | (go_at_call 53; refine hcall.mono ?_; clear hcall; rintro e w' ⟨rfl, rfl⟩) | (go_at_call 55; refine hcon.mono ?_; clear hcon; rintro e w' ⟨rfl, rfl⟩))
          go_ret
          exact ⟨ret_int (by rw [← HRR.out, E4.out]; rfl), HB1.out.trans (HC2.out.below.mono HB1.out.size)⟩
        · have hb := isB_iff.1 h1
          have hcall := hkv false h1 h2
          have z : (lt == 0) = false := by simpa using hb.1
          have z2 : ¬ x < lt := by omega
          have z3 : ¬ lt < -x := by omega
          have z4 : ¬ wy < -1 := by omega
          have z5 : ¬ (n : Int) ≤ wy := by omega
          obtain ⟨j, rfl⟩ : ∃ j : Nat, wy = j := ⟨wy.toNat, by omega⟩
          obtain ⟨b2, off2, rfl, hb2, hc2⟩ := (HR1.out.below HC2.out.below).cells (by omega)
          obtain ⟨a3, n3, c3, hc3, hr3⟩ := hc2 j (by omega)
          rw [Int.toNat_natCast] at h5 h6
          have hokl := HK.out _ (ell_mem (ls := ls) (k := j) (by rw [HLN.out]; omega))
          have hcon := contains_val true a3 n3 c3 _ lt _ hr3 h5
          have hany := containsI_any 54 #[.pointer (some ⟨wr.heap.size, 0, none⟩), .pointer (some ⟨w1.heap.size + 1, 0, none⟩)] (fun y => (y != lt) && !(hasB (litsOf (ts.take k)) (-y))) enters54 a3 n3 c3 _ _ hr3 (fun y hy => check1p_any wr.heap.size (w1.heap.size + 1) w1.heap.size k _ ⟨lt, (j : Int)⟩ y _ HX.out d0 HC2.out.set (hokl y hy).2.1 (hokl y hy).2.2)
          rw [h6] at hany
          clear h1 h2 h5 h6 hkv hb hc2 hr3 hokl
          go_wp2_with (first | (go_at_call 53; refine hcall.mono ?_; clear hcall; rintro e w' ⟨rfl, rfl⟩) | (go_at_call 55; refine hcon.mono ?_; clear hcon; rintro e w' ⟨rfl, rfl⟩) | (go_at_call 49; refine hany.mono ?_; clear hany; rintro e w' ⟨rfl, rfl⟩))
          go_ret
          exact ⟨ret_int (by rw [← HRR.out, E4.out]; rfl), HB1.out.trans (HC2.out.below.mono HB1.out.size)⟩
      | true =>
        have E4 : Hid (trailTo x ls ts (k + 1) = true) := Lib.hid (by rw [E1.out, HT.out, hok]; rfl)
        obtain ⟨h1, h2, h3, h4, h5⟩ := step_yes hok
        dsimp only at h1 h2 h3 h4 h5
        rw [HLN.out] at h4
        have hb := isB_iff.1 h1
        have hcall := known_val false _ _ (litsOf (ts.take k)) lt _ HC2.out.set (by omega) (by omega) h2
        have hstep := fun W (hs : SetM W w1.heap.size k (litsOf (ts.take k))) => step56_any _ _ _ lt W hs (by unfold maxLen; omega) (wfI_lit (by omega) (by omega))
        have z : (lt == 0) = false := by simpa using hb.1
        have z2 : ¬ x < lt := by omega
        have z3 : ¬ lt < -x := by omega
        have z4 : ¬ wy < -1 := by omega
        have z5 : ¬ (n : Int) ≤ wy := by omega
        clear h1 h2 E1 E3 hok hb
        by_cases hw0 : 0 ≤ wy
        · obtain ⟨j, rfl⟩ : ∃ j : Nat, wy = j := ⟨wy.toNat, by omega⟩
          obtain ⟨h6, h7⟩ := h5 hw0
          obtain ⟨b2, off2, rfl, hb2, hc2⟩ := (HR1.out.below HC2.out.below).cells (by omega)
          obtain ⟨a3, n3, c3, hc3, hr3⟩ := hc2 j (by omega)
          rw [Int.toNat_natCast] at h6 h7
          have hokl := HK.out _ (ell_mem (ls := ls) (k := j) (by rw [HLN.out]; omega))
          have hcon := contains_val true a3 n3 c3 _ lt _ hr3 h6
          have hany := containsI_any 54 #[.pointer (some ⟨wr.heap.size, 0, none⟩), .pointer (some ⟨w1.heap.size + 1, 0, none⟩)] (fun y => (y != lt) && !(hasB (litsOf (ts.take k)) (-y))) enters54 a3 n3 c3 _ _ hr3 (fun y hy => check1p_any wr.heap.size (w1.heap.size + 1) w1.heap.size k _ ⟨lt, (j : Int)⟩ y _ HX.out d0 HC2.out.set (hokl y hy).2.1 (hokl y hy).2.2)
          rw [h7] at hany
          clear h5 h6 h7 hc2 hr3 hokl
          go_wp2_with (first | (go_at_call 53; refine hcall.mono ?_; clear hcall; rintro e w' ⟨rfl, rfl⟩) | (go_at_call 55; refine hcon.mono ?_; clear hcon; rintro e w' ⟨rfl, rfl⟩) | (go_at_call 49; refine hany.mono ?_; clear hany; rintro e w' ⟨rfl, rfl⟩) | (go_at_call 56; refine (hstep _ HC2.out.set).mono ?_; clear hstep; rintro e w4 ⟨rfl, hs4, ht4⟩; have HC4 := Lib.hid (HC2.out.turn hs4 ht4); clear hs4 ht4))
          go_roundw
          case rel => exact ⟨k + 1, by omega, by go_num, E4.out, by rw [E2.out]; exact HC4.out⟩
          case measure => simp [intOf]; omega
        · clear h5
          go_wp2_with (first | (go_at_call 53; refine hcall.mono ?_; clear hcall; rintro e w' ⟨rfl, rfl⟩) | (go_at_call 56; refine (hstep _ HC2.out.set).mono ?_; clear hstep; rintro e w4 ⟨rfl, hs4, ht4⟩; have HC4 := Lib.hid (HC2.out.turn hs4 ht4); clear hs4 ht4))
          go_roundw
          case rel => exact ⟨k + 1, by omega, by go_num, E4.out, by rw [E2.out]; exact HC4.out⟩
          case measure => simp [intOf]; omega
    · have E : Hid (trailB x ls ts = true) := Lib.hid (by unfold trailB; rw [show ts.length = k by rw [HS.out.len]; omega]; exact HT.out)
      go_wp2_with fail
      go_ret
      exact ⟨ret_int (by rw [← HRR.out, E.out]; rfl), HB1.out.trans (HC.out.below.mono HB1.out.size)⟩

set_option maxRecDepth 100000 in
set_option maxHeartbeats 1000000 in
theorem pcheck_out (x : Int) (A : Option Addr) (n c : Nat) (ls : List (List Int)) (A' : Option Addr) (n' c' : Nat) (w : World) (h : RL w A n c ls) (hE : checkE x ls ≠ 0) :
    Calls Try.prog 20 #[.agg #[.int .i64 x, .slice A n c], .slice A' n' c'] w fun e w' => e = .returned (.int .i64 (checkE x ls)) ∧ Below w.heap.size w w' := by
  have hcall := check_any x A n c ls (w.alloc (.cells #[.int .i64 x, .slice A n c] 24)) (h.alloc _)
  generalize checkE x ls = r at hcall hE ⊢
  have hr : (r != 0) = true := by simpa using hE
  clear hE h
  go_enter Try.func20, Try.ntmps20
  go_wp2_with (go_at_call 23; refine hcall.mono ?_; clear hcall; rintro e w1 ⟨rfl, hb⟩)
  go_ret
  exact ⟨rfl, ((Below.refl _ w).alloc (Nat.le_refl _) _).trans (hb.mono (by simp))⟩

theorem pcheck_any (x : Int) (A : Option Addr) (n c : Nat) (ls : List (List Int)) (A' : Option Addr) (n' c' : Nat) (ts : List Stp) (w : World) (h : RL w A n c ls) (h' : RS w A' n' c' ts) (hn' : n' ≤ 1000000) :
    Calls Try.prog 20 #[.agg #[.int .i64 x, .slice A n c], .slice A' n' c'] w fun e w' => e = .returned (.int .i64 (propE x ls ts)) ∧ Below w.heap.size w w' := by
  unfold propE
  by_cases hE : checkE x ls = 0
  · rw [if_neg (by simpa using hE)]; exact pcheck_in x A n c ls A' n' c' ts w h h' hE hn' _ rfl
  · rw [if_pos hE]; exact pcheck_out x A n c ls A' n' c' w h hE
theorem pcheck_val (r : Int) (x : Int) (A : Option Addr) (n c : Nat) (ls : List (List Int)) (A' : Option Addr) (n' c' : Nat) (ts : List Stp) (w : World) (h : RL w A n c ls) (h' : RS w A' n' c' ts) (hn' : n' ≤ 1000000) (hr : propE x ls ts = r) :
    Calls Try.prog 20 #[.agg #[.int .i64 x, .slice A n c], .slice A' n' c'] w fun e w' => e = .returned (.int .i64 r) ∧ Below w.heap.size w w' := by
  have := pcheck_any x A n c ls A' n' c' ts w h h' hn'
  rw [hr] at this; exact this

end Go.Proofs.Ytenpenelikpeeaa
