/-
  The law TidyVivifyEquivalent, walked. No condition.
  What Subsume leaves: nothing in it is subsumed, all that went is subsumed by it; no program in sight. No condition.
  slices.Equal, slices.EqualFunc, cnf.Same at equal arguments. No condition.
-/
import Derived.Test.YtalcnkoidmoibaaZA14
import Derived.Test.YtalcnkoidmoibaaZA15

namespace Go.Proofs.Ytalcnkoidmoibaa
open Go.RowKit Go.Shelf
set_option linter.unusedVariables false
set_option linter.unusedSimpArgs false

theorem value_val (r : Bool) (x : Int) (A : Option Addr) (n c : Nat) (ls : List (List Int)) (A' : Option Addr) (n' c' : Nat) (bs : List Bool) (w : World) (h : RL w A n c ls) (h' : RB w A' n' c' bs) (hr : valueT x ls bs = r) :
    Calls Try.prog 27 #[.agg #[.int .i64 x, .slice A n c], .slice A' n' c'] w fun e w' => e = .returned (.bool r) ∧ Below w.heap.size w w' := by
  have := value_any x A n c ls A' n' c' bs w h h'
  rw [hr] at this; exact this
theorem check_val (r : Int) (x : Int) (A : Option Addr) (n c : Nat) (ls : List (List Int)) (w : World) (h : RL w A n c ls) (hr : checkE x ls = r) :
    Calls Try.prog 25 #[.agg #[.int .i64 x, .slice A n c]] w fun e w' => e = .returned (.int .i64 r) ∧ Below w.heap.size w w' := by
  have := check_any x A n c ls w h
  rw [hr] at this; exact this

/-- what stands when the loop begins: two formulas of the same value -/
structure Ve (w W : World) (x : Int) (B B' : Nat) (A : Option Addr) (n c : Nat) (ls : List (List Int)) (A' : Option Addr) (c' : Nat) (ls' : List (List Int)) : Prop where
  b : Two W B (.int .i64 x) (.slice A n c)
  b' : Two W B' (.int .i64 x) (.slice A' n c')
  l : RL W A n c ls
  l' : RL W A' n c' ls'
  below : Below w.heap.size w W
theorem Ve.more {w W W' : World} {x : Int} {B B' : Nat} {A : Option Addr} {n c : Nat} {ls : List (List Int)} {A' : Option Addr} {c' : Nat} {ls' : List (List Int)} (h : Ve w W x B B' A n c ls A' c' ls') (hb : Below W.heap.size W W') : Ve w W' x B B' A n c ls A' c' ls' :=
  ⟨h.b.below hb, h.b'.below hb, h.l.below hb, h.l'.below hb, h.below.trans (hb.mono h.below.size)⟩

theorem pow9 {m : Nat} (h : m ≤ 9) : (1 : Int) ≤ 2 ^ m ∧ (2 : Int) ^ m ≤ 512 := by
  rcases (by omega : m = 0 ∨ m = 1 ∨ m = 2 ∨ m = 3 ∨ m = 4 ∨ m = 5 ∨ m = 6 ∨ m = 7 ∨ m = 8 ∨ m = 9) with h | h | h | h | h | h | h | h | h | h <;> subst h <;> decide

set_option maxRecDepth 100000 in
set_option maxHeartbeats 2000000 in
theorem vivifyEq_few (x : Int) (A : Option Addr) (n c : Nat) (ls : List (List Int)) (k : Int) (w : World) (h : RL w A n c ls) (hf : fewL ls = false ∨ x < 0 ∨ 9 < x) :
    Calls Try.prog 8 #[.agg #[.int .i64 x, .slice A n c], .int .i64 k] w (Truly w) := by
  have H := Lib.hid (h.alloc (.cells #[.int .i64 x, .slice A n c] 29))
  have HB0 := Lib.hid ((Below.refl w.heap.size w).alloc (Nat.le_refl _) (.cells #[.int .i64 x, .slice A n c] 29))
  have BX := Lib.hid (Two.new w (.int .i64 x) (.slice A n c))
  clear h
  cases hfl : fewL ls
  · have HF := Lib.hid hfl
    clear hf hfl
    go_enter Try.func8, Try.ntmps8
    go_wp2_with (first
      | (go_at_call 11; refine (live_any _).mono ?_; rintro e w1 ⟨rfl, hb1⟩; have HB1 := Lib.hid hb1; have t1 := (BX.out.below hb1); have q0 := t1.c0; have q1 := t1.c1; clear hb1 t1)
      | (go_at_call 15; refine (few_val false x A n c ls _ (H.out.below HB1.out) HF.out).mono ?_; rintro e w2 ⟨rfl, hb2⟩; have HB2 := Lib.hid hb2; clear hb2))
    go_ret
    exact ⟨rfl, HB0.out.trans ((HB1.out.trans (HB2.out.mono HB1.out.size)).mono HB0.out.size)⟩
  · have HF := Lib.hid hfl
    have hx : x < 0 ∨ 9 < x := by
      rcases hf with hf | hf
      · rw [hf] at hfl; cases hfl
      · exact hf
    clear hf hfl
    by_cases hx0 : x < 0
    all_goals
      first
      | (have hx9 : 9 < x := by omega)
      | skip
      clear hx
      go_enter Try.func8, Try.ntmps8
      go_wp2_with (first
        | (go_at_call 11; refine (live_any _).mono ?_; rintro e w1 ⟨rfl, hb1⟩; have HB1 := Lib.hid hb1; have t1 := (BX.out.below hb1); have T1 := Lib.hid t1; have q0 := t1.c0; have q1 := t1.c1; clear hb1 t1)
        | (go_at_call 15; refine (few_val true x A n c ls _ (H.out.below HB1.out) HF.out).mono ?_; rintro e w2 ⟨rfl, hb2⟩; have HB2 := Lib.hid hb2; have t2 := (T1.out.below hb2); clear q0 q1; have q0 := t2.c0; have q1 := t2.c1; clear hb2 t2))
      go_ret
      exact ⟨rfl, HB0.out.trans ((HB1.out.trans (HB2.out.mono HB1.out.size)).mono HB0.out.size)⟩

set_option maxRecDepth 100000 in
set_option maxHeartbeats 2000000 in
theorem vivifyEq_bad (x : Int) (A : Option Addr) (n c : Nat) (ls : List (List Int)) (k : Int) (w : World) (h : RL w A n c ls) (hf : fewL ls = true) (hx0 : 0 ≤ x) (hx9 : x ≤ 9) (hE : vivE x ls k ≠ 0) :
    Calls Try.prog 8 #[.agg #[.int .i64 x, .slice A n c], .int .i64 k] w (Truly w) := by
  have H := Lib.hid (h.alloc (.cells #[.int .i64 x, .slice A n c] 29))
  have HB0 := Lib.hid ((Below.refl w.heap.size w).alloc (Nat.le_refl _) (.cells #[.int .i64 x, .slice A n c] 29))
  have BX := Lib.hid (Two.new w (.int .i64 x) (.slice A n c))
  have hlen := h.len
  clear h
  have HF := Lib.hid hf
  obtain ⟨hn, hsum⟩ := fewL_len hf
  rw [hlen] at hn
  clear hf
  have hv := fun W (h : RL W A n c ls) => vivify_any x A n c ls k W h (by omega)
  unfold Viv at hv
  rw [vivL_bad hE] at hv
  have hck := fun (h0 : 0 ≤ k) (h1 : k < n) => (vivE_in (x := x) (ls := ls) h0 (by rw [hlen]; exact h1)).symm
  generalize vivE x ls k = e' at hv hE hck
  have he : (e' != 0) = true := by simpa using hE
  simp only [List.length_nil] at hv
  clear hE hlen
  by_cases k0 : k < 0
  · clear hck
    go_enter Try.func8, Try.ntmps8
    go_wp2_with (first
      | (go_at_call 11; refine (live_any _).mono ?_; rintro e w1 ⟨rfl, hb1⟩; have HB1 := Lib.hid (HB0.out.trans (hb1.mono HB0.out.size)); have HR1 := Lib.hid (H.out.below hb1); have BX1 := Lib.hid (BX.out.below hb1); have q0 := BX1.out.c0; have q1 := BX1.out.c1; clear hb1)
      | (go_at_call 15; refine (few_val true x A n c ls _ HR1.out HF.out).mono ?_; rintro e w2 ⟨rfl, hb2⟩; have HB2 := Lib.hid (HB1.out.trans (hb2.mono HB1.out.size)); have HR2 := Lib.hid (HR1.out.below hb2); have BX2 := Lib.hid (BX1.out.below hb2); clear q0 q1; have q0 := BX2.out.c0; have q1 := BX2.out.c1; clear hb2)
      | (go_at_call 16; refine (hv _ HR2.out).mono ?_; clear hv; rintro e w3 ⟨A3, c3, rfl, hr3, hb3⟩; have HB3 := Lib.hid (HB2.out.trans (hb3.mono HB2.out.size)); have BX3 := Lib.hid (BX2.out.below hb3); clear q0 q1; have q0 := BX3.out.c0; have q1 := BX3.out.c1; clear hr3 hb3))
    go_ret
    exact ⟨rfl, HB3.out⟩
  · by_cases k1 : (n : Int) ≤ k
    · clear hck
      go_enter Try.func8, Try.ntmps8
      go_wp2_with (first
        | (go_at_call 11; refine (live_any _).mono ?_; rintro e w1 ⟨rfl, hb1⟩; have HB1 := Lib.hid (HB0.out.trans (hb1.mono HB0.out.size)); have HR1 := Lib.hid (H.out.below hb1); have BX1 := Lib.hid (BX.out.below hb1); have q0 := BX1.out.c0; have q1 := BX1.out.c1; clear hb1)
        | (go_at_call 15; refine (few_val true x A n c ls _ HR1.out HF.out).mono ?_; rintro e w2 ⟨rfl, hb2⟩; have HB2 := Lib.hid (HB1.out.trans (hb2.mono HB1.out.size)); have HR2 := Lib.hid (HR1.out.below hb2); have BX2 := Lib.hid (BX1.out.below hb2); clear q0 q1; have q0 := BX2.out.c0; have q1 := BX2.out.c1; clear hb2)
        | (go_at_call 16; refine (hv _ HR2.out).mono ?_; clear hv; rintro e w3 ⟨A3, c3, rfl, hr3, hb3⟩; have HB3 := Lib.hid (HB2.out.trans (hb3.mono HB2.out.size)); have BX3 := Lib.hid (BX2.out.below hb3); clear q0 q1; have q0 := BX3.out.c0; have q1 := BX3.out.c1; clear hr3 hb3))
      go_ret
      exact ⟨rfl, HB3.out⟩
    · have HC := Lib.hid (hck (by omega) (by omega))
      clear hck
      go_enter Try.func8, Try.ntmps8
      go_wp2_with (first
        | (go_at_call 11; refine (live_any _).mono ?_; rintro e w1 ⟨rfl, hb1⟩; have HB1 := Lib.hid (HB0.out.trans (hb1.mono HB0.out.size)); have HR1 := Lib.hid (H.out.below hb1); have BX1 := Lib.hid (BX.out.below hb1); have q0 := BX1.out.c0; have q1 := BX1.out.c1; clear hb1)
        | (go_at_call 15; refine (few_val true x A n c ls _ HR1.out HF.out).mono ?_; rintro e w2 ⟨rfl, hb2⟩; have HB2 := Lib.hid (HB1.out.trans (hb2.mono HB1.out.size)); have HR2 := Lib.hid (HR1.out.below hb2); have BX2 := Lib.hid (BX1.out.below hb2); clear q0 q1; have q0 := BX2.out.c0; have q1 := BX2.out.c1; clear hb2)
        | (go_at_call 16; refine (hv _ HR2.out).mono ?_; clear hv; rintro e w3 ⟨A3, c3, rfl, hr3, hb3⟩; have HR3 := Lib.hid (HR2.out.below hb3); have HB3 := Lib.hid (HB2.out.trans (hb3.mono HB2.out.size)); have BX3 := Lib.hid (BX2.out.below hb3); clear q0 q1; have q0 := BX3.out.c0; have q1 := BX3.out.c1; clear hr3 hb3)
        | (go_at_call 25; refine (check_val e' x A n c ls _ HR3.out HC.out).mono ?_; rintro e w4 ⟨rfl, hb4⟩; have HB4 := Lib.hid (HB3.out.trans (hb4.mono HB3.out.size)); clear hb4))
      go_ret
      exact ⟨ret_bool (by simp), HB4.out⟩

set_option maxRecDepth 100000 in
set_option maxHeartbeats 2000000 in
theorem vivifyEq_ok (x : Int) (A : Option Addr) (n c : Nat) (ls : List (List Int)) (j : Nat) (w : World) (h : RL w A n c ls) (hf : fewL ls = true) (hx0 : 0 ≤ x) (hx9 : x ≤ 9) (hE : vivE x ls j = 0) :
    Calls Try.prog 8 #[.agg #[.int .i64 x, .slice A n c], .int .i64 j] w (Truly w) := by
  have H := Lib.hid (h.alloc (.cells #[.int .i64 x, .slice A n c] 29))
  have HB0 := Lib.hid ((Below.refl w.heap.size w).alloc (Nat.le_refl _) (.cells #[.int .i64 x, .slice A n c] 29))
  have BX := Lib.hid (Two.new w (.int .i64 x) (.slice A n c))
  have hlen := h.len
  clear h
  have HF := Lib.hid hf
  obtain ⟨hn, hsum⟩ := fewL_len hf
  rw [hlen] at hn
  clear hf
  have hv := fun W (h : RL W A n c ls) => vivify_any x A n c ls j W h (by omega)
  unfold Viv at hv
  obtain ⟨hce, hk0, hkl⟩ := vivE_zero hE
  have hjn : j < n := by omega
  have hval := Lib.hid (viv_value hE)
  have hsubs := Lib.hid (viv_subB hE)
  have hcell := checkE_lits hce _ (ell_mem (k := j) (by omega))
  have g6 : Okl (vivL x ls (j : Int)) := fun y hy => hcell y ((viv_again hE).2.2.2 y hy)
  rw [hE] at hv
  generalize vivL x ls (j : Int) = z at hv hval hsubs g6
  obtain ⟨m, hm⟩ : ∃ m, z.length = m := ⟨_, rfl⟩
  rw [hm] at hv
  have G6 := Lib.hid (okl_wfl g6)
  have G7 := Lib.hid (okl_wfl hcell)
  have hwi := fun W A' c' (h : RL W A n c ls) (h' : RI W A' m c' z) => with_any x A n c ls j A' m c' z W h hjn h' (by omega)
  unfold Withd at hwi
  clear hE hce hk0 hkl hcell g6 hm hlen
  have k0 : ¬ (j : Int) < 0 := by omega
  have k1 : ¬ (n : Int) ≤ (j : Int) := by omega
  obtain ⟨b, off, rfl, hbl, hc⟩ := H.out.cells (by omega)
  obtain ⟨a1, n1, c1, hck, hr1⟩ := hc j hjn
  have HCK := Lib.hid hck
  have HR := Lib.hid hr1
  clear hc hck hr1
  go_enter Try.func8, Try.ntmps8
  go_upto_region 11 with (first
      | (go_at_call 11; refine (live_any _).mono ?_; rintro e w1 ⟨rfl, hb1⟩; have HB1 := Lib.hid (HB0.out.trans (hb1.mono HB0.out.size)); have HA1 := Lib.hid hb1; have HR1 := Lib.hid (H.out.below hb1); have BX1 := Lib.hid (BX.out.below hb1); have q0 := BX1.out.c0; have q1 := BX1.out.c1; clear hb1)
      | (go_at_call 15; refine (few_val true x _ n c ls _ HR1.out HF.out).mono ?_; rintro e w2 ⟨rfl, hb2⟩; have HB2 := Lib.hid (HB1.out.trans (hb2.mono HB1.out.size)); have HA2 := Lib.hid (HA1.out.trans (hb2.mono HA1.out.size)); have HR2 := Lib.hid (HR1.out.below hb2); have BX2 := Lib.hid (BX1.out.below hb2); clear q0 q1; have q0 := BX2.out.c0; have q1 := BX2.out.c1; clear hb2)
      | (go_at_call 16; refine (hv _ HR2.out).mono ?_; clear hv; rintro e w3 ⟨A3, c3, rfl, hr3, hb3⟩; have HR3 := Lib.hid (HR2.out.below hb3); have HZ3 := Lib.hid hr3; have BX3 := Lib.hid (BX2.out.below hb3); have HB3 := Lib.hid (HB2.out.trans (hb3.mono HB2.out.size)); have HA3 := Lib.hid (HA2.out.trans (hb3.mono HA2.out.size)); have hck := (HA3.out.cell (p := ⟨b, off + j, none⟩) hbl).trans HCK.out; clear q0 q1; have q0 := BX3.out.c0; have q1 := BX3.out.c1; clear hr3 hb3)
      | (go_at_call 24; refine (subsumes_val true _ _ _ _ _ _ _ _ _ HZ3.out (HR.out.below HA3.out) G6.out G7.out hsubs.out).mono ?_; rintro e w4 ⟨rfl, hb4⟩; have HB4 := Lib.hid (HB3.out.trans (hb4.mono HB3.out.size)); have HR4 := Lib.hid (HR3.out.below hb4); have HZ4 := Lib.hid (HZ3.out.below hb4); have BX4 := Lib.hid (BX3.out.below hb4); clear q0 q1 hck; have q0 := BX4.out.c0; have q1 := BX4.out.c1; clear hb4)
      | (go_at_call 22; refine (hwi _ _ _ HR4.out HZ4.out).mono ?_; clear hwi; rintro e w5 ⟨A5, c5, rfl, hr5, hb5⟩; have HV5 : Hid (Ve w (w5.alloc (.cells #[.int .i64 x, .slice A5 n c5] 29)) x w.heap.size w5.heap.size _ n c ls A5 c5 (ls.set j z)) := Lib.hid ⟨(BX4.out.below hb5).below ((Below.refl _ _).alloc (Nat.le_refl _) _), Two.new _ _ _, (HR4.out.below hb5).alloc _, hr5.alloc _, (HB4.out.trans (hb5.mono HB4.out.size)).alloc (by have := HB4.out.size; have := hb5.size; omega) _⟩; clear q0 q1 hr5 hb5))
  generalize hW : (w5.alloc (.cells #[.int .i64 x, .slice A5 n c5] 29)) = W5 at HV5
  obtain ⟨t, rfl⟩ : ∃ t : Nat, x = t := ⟨x.toNat, by omega⟩
  obtain ⟨hp1, hp2⟩ := pow9 (m := t) (by omega)
  have HP := Lib.hid (And.intro hp1 hp2)
  clear hp1 hp2 hW
  go_wp2_with fail
  go_loopw [8] (fun s8 W => ∃ q : Nat, q ≤ 512 ∧ s8 = .int .i64 q ∧ Below W5.heap.size W5 W) (fun s8 _ => 512 - (intOf s8).toNat)
  case atStart => exact ⟨0, by omega, rfl, Below.refl _ _⟩
  case round =>
    obtain ⟨q, hq, rfl, hb⟩ := hrel
    have HV := Lib.hid (HV5.out.more hb)
    have HB := Lib.hid hb
    clear hb
    have q0 := HV.out.b.c0
    have q1 := HV.out.b.c1
    have p0 := HV.out.b'.c0
    have p1 := HV.out.b'.c1
    by_cases hlt : (q : Int) < wrap64 (2 ^ t)
    · have hq5 : q < 512 := by
        have h1 := HP.out
        have h2 : wrap64 ((2 : Int) ^ t) = 2 ^ t := by unfold wrap64; omega
        rw [h2] at hlt; omega
      go_upto_region 15 with (go_at_call 26; refine (truths_any t q _ (by omega)).mono ?_; rintro e w6 ⟨A6, c6, bs, rfl, hr6, hb6⟩; have HV6 := Lib.hid (HV.out.more hb6); have HR6 := Lib.hid hr6; have HB6 := Lib.hid (HB.out.trans (hb6.mono HB.out.size)); clear q0 q1 p0 p1 hr6 hb6)
      have g0 := fun u : Gr w6 => u.cell (p := ⟨w.heap.size, 0, none⟩) HV6.out.b.lt HV6.out.b.c0
      have g1 := fun u : Gr w6 => u.cell (p := ⟨w.heap.size, 1, none⟩) HV6.out.b.lt HV6.out.b.c1
      have g2 := fun u : Gr w6 => u.cell (p := ⟨w5.heap.size, 0, none⟩) HV6.out.b'.lt HV6.out.b'.c0
      have g3 := fun u : Gr w6 => u.cell (p := ⟨w5.heap.size, 1, none⟩) HV6.out.b'.lt HV6.out.b'.c1
      obtain ⟨v, hvv⟩ : ∃ v, valueT t ls bs = v := ⟨_, rfl⟩
      have E1 := Lib.hid hvv
      have E2 := Lib.hid ((hval.out bs).trans hvv)
      clear hvv hlt
      go_wp2_with fail
      refine wp_region_grow (by kernel_rfl) (by kernel_rfl) ?_
      repeat (go_big_quiet_step ((go_at_call 27; exact Gr.call _ (value_val v t _ n _ _ A6 _ c6 bs _ (by first | exact HV6.out.l.below (Gr.ok _) | exact HV6.out.l'.below (Gr.ok _)) (HR6.out.below (Gr.ok _)) (by first | exact E1.out | exact E2.out)))))
      refine wpQuiet_nil ?_
      rintro w7 ⟨⟨_, hb7⟩, rfl⟩
      have HB7 := Lib.hid (HB6.out.trans (hb7.mono HB6.out.size))
      clear hb7 g0 g1 g2 g3
      go_wp2_with fail
      go_roundw
      case rel => exact ⟨q + 1, by omega, by go_num, HB7.out⟩
      case measure => simp [intOf]; omega
    · go_wp2_with fail
      go_ret
      exact ⟨rfl, HV.out.below⟩

theorem vivifyEq_any (x : Int) (A : Option Addr) (n c : Nat) (ls : List (List Int)) (k : Int) (w : World) (h : RL w A n c ls) :
    Calls Try.prog 8 #[.agg #[.int .i64 x, .slice A n c], .int .i64 k] w (Truly w) := by
  by_cases hf : fewL ls = false ∨ x < 0 ∨ 9 < x
  · exact vivifyEq_few x A n c ls k w h hf
  · have hf1 : fewL ls = true := by
      cases hh : fewL ls with
      | true => rfl
      | false => exact absurd (Or.inl hh) hf
    by_cases hE : vivE x ls k = 0
    · obtain ⟨_, h2, h3⟩ := vivE_zero hE
      obtain ⟨j, rfl⟩ : ∃ j : Nat, k = j := ⟨k.toNat, by omega⟩
      exact vivifyEq_ok x A n c ls j w h hf1 (by omega) (by omega) hE
    · exact vivifyEq_bad x A n c ls k w h hf1 (by omega) (by omega) hE

end Go.Proofs.Ytalcnkoidmoibaa

namespace Go.Proofs.Ytalcnkoidmoibaa
set_option linter.unusedVariables false
set_option linter.unusedSimpArgs false

theorem subB_refl (l : List Int) : subB l l = true := subB_iff.2 fun x h => h
theorem subB_trans {a b c : List Int} (h : subB a b = true) (k : subB b c = true) : subB a c = true := subB_iff.2 fun x hx => subB_iff.1 k x (subB_iff.1 h x hx)

theorem goB_iff {ls : List (List Int)} {i j : Nat} : goB ls i j = true ↔ j ≠ i ∧ subB (ell ls j) (ell ls i) = true ∧ (j < i ∨ subB (ell ls i) (ell ls j) = false) := by
  unfold goB goI
  rw [Bool.and_eq_true, Bool.and_eq_true, Bool.or_eq_true, bne_iff_ne, decide_eq_true_iff, Bool.not_eq_true']
  constructor
  · rintro ⟨⟨h1, h2⟩, h3⟩; exact ⟨by omega, h2, h3.imp (by omega) id⟩
  · rintro ⟨h1, h2, h3⟩; exact ⟨⟨by omega, h2⟩, h3.imp (by omega) id⟩
theorem goesB_iff {ls : List (List Int)} {i : Nat} : goesB ls i = true ↔ ∃ j, j < ls.length ∧ goB ls i j = true := by
  unfold goesB goesTo
  rw [List.any_eq_true]
  exact ⟨fun ⟨j, hj, h⟩ => ⟨j, List.mem_range.1 hj, h⟩, fun ⟨j, hj, h⟩ => ⟨j, List.mem_range.2 hj, h⟩⟩

/-- the places that are kept, in order -/
def keptP (ls : List (List Int)) : List Nat := (List.range ls.length).filter fun i => !(goesB ls i)
theorem subL_eq (ls : List (List Int)) : subL ls = (keptP ls).map (ell ls) := rfl
theorem mem_kept {ls : List (List Int)} {i : Nat} : i ∈ keptP ls ↔ i < ls.length ∧ goesB ls i = false := by
  unfold keptP; rw [List.mem_filter, List.mem_range, Bool.not_eq_true']
theorem kept_inc (ls : List (List Int)) : (keptP ls).Pairwise (· < ·) := List.Pairwise.filter _ List.pairwise_lt_range

theorem subL_len (ls : List (List Int)) : (subL ls).length ≤ ls.length := outTo_len _ _
theorem subL_mem {ls : List (List Int)} {l : List Int} (h : l ∈ subL ls) : l ∈ ls := by
  rw [subL_eq] at h
  obtain ⟨i, hi, rfl⟩ := List.mem_map.1 h
  exact ell_mem (mem_kept.1 hi).1

theorem kept_two {ls : List (List Int)} {i k : Nat} (hi : i ∈ keptP ls) (hk : k ∈ keptP ls) (hne : i ≠ k) : subB (ell ls i) (ell ls k) = false := by
  cases h : subB (ell ls i) (ell ls k) with
  | false => rfl
  | true =>
    obtain ⟨hi1, hi2⟩ := mem_kept.1 hi
    obtain ⟨hk1, hk2⟩ := mem_kept.1 hk
    by_cases h1 : i < k
    · have : goesB ls k = true := goesB_iff.2 ⟨i, hi1, goB_iff.2 ⟨hne, h, Or.inl h1⟩⟩
      rw [hk2] at this; cases this
    · cases h2 : subB (ell ls k) (ell ls i) with
      | false =>
        have : goesB ls k = true := goesB_iff.2 ⟨i, hi1, goB_iff.2 ⟨hne, h, Or.inr h2⟩⟩
        rw [hk2] at this; cases this
      | true =>
        have : goesB ls i = true := goesB_iff.2 ⟨k, hk1, goB_iff.2 ⟨fun e => hne e.symm, h2, Or.inl (by omega)⟩⟩
        rw [hi2] at this; cases this

theorem ell_map {ls : List (List Int)} {P : List Nat} {a : Nat} (h : a < P.length) : ell (P.map (ell ls)) a = ell ls P[a] := by
  rw [ell_lt (by simpa using h)]; simp

/-- no remaining clause subsumes another -/
theorem subL_apart {ls : List (List Int)} {a b : Nat} (ha : a < (subL ls).length) (hb : b < (subL ls).length) (hne : a ≠ b) : subB (ell (subL ls) a) (ell (subL ls) b) = false := by
  rw [subL_eq] at ha hb ⊢
  rw [List.length_map] at ha hb
  rw [ell_map ha, ell_map hb]
  refine kept_two (List.getElem_mem ha) (List.getElem_mem hb) ?_
  have hp := List.pairwise_iff_getElem.1 (kept_inc ls)
  rcases Nat.lt_or_gt_of_ne hne with h | h
  · have := hp a b ha hb h; omega
  · have := hp b a hb ha h; omega

/-- how much of the literals a clause holds -/
def sizeP (ls : List (List Int)) (i : Nat) : Nat := (ls.flatten.filter fun x => hasB (ell ls i) x).length
theorem filter_le {l : List Int} {p q : Int → Bool} (h : ∀ x, q x = true → p x = true) : (l.filter q).length ≤ (l.filter p).length := by
  induction l with
  | nil => simp
  | cons z l ih =>
    rw [List.filter_cons, List.filter_cons]
    cases hqz : q z with
    | true => rw [h z hqz]; simpa using ih
    | false => cases p z <;> simp <;> omega
theorem sizeP_le {ls : List (List Int)} {i j : Nat} (h : subB (ell ls j) (ell ls i) = true) : sizeP ls j ≤ sizeP ls i :=
  filter_le fun x hx => hasB_iff.2 (subB_iff.1 h x (hasB_iff.1 hx))
theorem sizeP_lt {ls : List (List Int)} {i j : Nat} (hi : i < ls.length) (h : subB (ell ls j) (ell ls i) = true) (h2 : subB (ell ls i) (ell ls j) = false) : sizeP ls j < sizeP ls i := by
  have : ∃ x, x ∈ ell ls i ∧ ¬ x ∈ ell ls j := by
    apply Classical.byContradiction
    intro hn
    have : subB (ell ls i) (ell ls j) = true := subB_iff.2 fun x hx => Classical.byContradiction fun hh => hn ⟨x, hx, hh⟩
    rw [h2] at this; cases this
  obtain ⟨x, h3, h4⟩ := this
  exact filter_lt (x := x) (fun y hy => hasB_iff.2 (subB_iff.1 h y (hasB_iff.1 hy))) (List.mem_flatten.2 ⟨_, ell_mem hi, h3⟩) (hasB_iff.2 h3) (hasB_false.2 h4)

theorem kept_under {ls : List (List Int)} : ∀ (s i : Nat), i < ls.length → sizeP ls i ≤ s → ∀ f, i < f → ∃ j ∈ keptP ls, subB (ell ls j) (ell ls i) = true := by
  intro s
  induction s with
  | zero =>
    intro i hi hs f
    induction f generalizing i with
    | zero => intro h; omega
    | succ f ih =>
      intro hf
      cases hg : goesB ls i with
      | false => exact ⟨i, mem_kept.2 ⟨hi, hg⟩, subB_refl _⟩
      | true =>
        obtain ⟨j, hj, hgo⟩ := goesB_iff.1 hg
        obtain ⟨h1, h2, h3⟩ := goB_iff.1 hgo
        have hlt : j < i := by
          rcases h3 with h3 | h3
          · exact h3
          · have := sizeP_lt hi h2 h3; omega
        obtain ⟨q, hq, hs2⟩ := ih j hj (by have := sizeP_le h2; omega) (by omega)
        exact ⟨q, hq, subB_trans hs2 h2⟩
  | succ s ihs =>
    intro i hi hs f
    induction f generalizing i with
    | zero => intro h; omega
    | succ f ih =>
      intro hf
      cases hg : goesB ls i with
      | false => exact ⟨i, mem_kept.2 ⟨hi, hg⟩, subB_refl _⟩
      | true =>
        obtain ⟨j, hj, hgo⟩ := goesB_iff.1 hg
        obtain ⟨h1, h2, h3⟩ := goB_iff.1 hgo
        cases h4 : subB (ell ls i) (ell ls j) with
        | false =>
          obtain ⟨q, hq, hs2⟩ := ihs j hj (by have := sizeP_lt hi h2 h4; omega) (j + 1) (by omega)
          exact ⟨q, hq, subB_trans hs2 h2⟩
        | true =>
          have hlt : j < i := by
            rcases h3 with h3 | h3
            · exact h3
            · rw [h4] at h3; cases h3
          obtain ⟨q, hq, hs2⟩ := ih j hj (by have := sizeP_le h2; omega) (by omega)
          exact ⟨q, hq, subB_trans hs2 h2⟩

/-- every clause is subsumed by a remaining one -/
theorem subL_over {ls : List (List Int)} {i : Nat} (hi : i < ls.length) : (subL ls).any (fun o => subB o (ell ls i)) = true := by
  obtain ⟨j, hj, h⟩ := kept_under (sizeP ls i) i hi (Nat.le_refl _) (i + 1) (by omega)
  rw [List.any_eq_true]
  exact ⟨ell ls j, by rw [subL_eq]; exact List.mem_map.2 ⟨j, hj, rfl⟩, h⟩

theorem map_ell_range (ls : List (List Int)) : (List.range ls.length).map (ell ls) = ls := by
  refine List.ext_getElem (by simp) fun i h1 h2 => ?_
  rw [List.getElem_map, List.getElem_range, ell_lt h2]

/-- Subsume again changes nothing -/
theorem subL_again (ls : List (List Int)) : subL (subL ls) = subL ls := by
  have h : ∀ i ∈ List.range (subL ls).length, (!(goesB (subL ls) i)) = true := by
    intro i hi
    have hi' := List.mem_range.1 hi
    cases hg : goesB (subL ls) i with
    | false => rfl
    | true =>
      obtain ⟨j, hj, hgo⟩ := goesB_iff.1 hg
      obtain ⟨h1, h2, _⟩ := goB_iff.1 hgo
      rw [subL_apart hj hi' h1] at h2; cases h2
  rw [subL_eq (subL ls)]
  unfold keptP
  rw [List.filter_eq_self.2 h, map_ell_range]

theorem checkE_sub {x : Int} {ls : List (List Int)} (h : checkE x ls = 0) : checkE x (subL ls) = 0 := by
  unfold checkE at h ⊢
  split at h
  · cases h
  · split at h
    · cases h
    · rename_i h1 h2
      split at h
      · cases h
      · rename_i h3
        rw [if_neg h1]
        have ha : allB x ls = true := by simpa using h2
        have hb : allB x (subL ls) = true := by
          unfold allB at *
          rw [List.all_eq_true] at *
          exact fun l hl => ha l (subL_mem hl)
        have := subL_len ls
        rw [hb]
        simp
        omega

theorem sub_value {x : Int} {ls : List (List Int)} (h : checkE x ls = 0) (bs : List Bool) : valueT x (subL ls) bs = valueT x ls bs := by
  unfold valueT
  rw [h, checkE_sub h]
  congr 1
  rw [Bool.eq_iff_iff, List.all_eq_true, List.all_eq_true]
  constructor
  · intro hh l hl
    obtain ⟨i, hi, rfl⟩ := List.mem_iff_getElem.1 hl
    have h1 := subL_over hi
    rw [List.any_eq_true] at h1
    obtain ⟨o, ho, hs⟩ := h1
    obtain ⟨y, hy, ht⟩ := holdsT_iff.1 (hh o ho)
    rw [ell_lt hi] at hs
    exact holdsT_iff.2 ⟨y, subB_iff.1 hs y hy, ht⟩
  · intro hh l hl
    exact hh l (subL_mem hl)

end Go.Proofs.Ytalcnkoidmoibaa

namespace Go.Proofs.Ytalcnkoidmoibaa
open Go.RowKit Go.Shelf
set_option linter.unusedVariables false
set_option linter.unusedSimpArgs false

set_option maxHeartbeats 400000 in
theorem equal_true (A : Option Addr) (n c : Nat) (zs : List Int) (A' : Option Addr) (c' : Nat) (w : World) (h : RI w A n c zs) (h' : RI w A' n c' zs) :
    Calls Try.prog 59 #[.slice A n c, .slice A' n c'] w fun e w' => e = .returned (.bool true) ∧ Below w.heap.size w w' := by
  have hn := h.small
  have H := Lib.hid h
  have H' := Lib.hid h'
  clear h h'
  go_enter Try.func59, Try.ntmps59
  go_wp2
  go_loopw [13] (fun i wr => ∃ k q : Nat, k ≤ n ∧ i = .int .i64 k ∧ wr = w.drewN q) (fun i _ => n - (intOf i).toNat)
  case atStart => exact ⟨0, 0, Nat.zero_le _, rfl, rfl⟩
  case round =>
    obtain ⟨k, q, hk, rfl, rfl⟩ := hrel
    by_cases hlt : k < n
    · obtain ⟨b, off, rfl, hb, hc⟩ := H.out.cells (by omega)
      have hck := hc k hlt
      clear hc
      obtain ⟨b', off', rfl, hb', hc'⟩ := H'.out.cells (by omega)
      have hck' := hc' k hlt
      clear hc'
      have hl1 : (k : Int) < (n : Int) := by omega
      go_wp2_with fail
      go_quiet (fail)
      go_wp2
      go_roundw
      case rel => exact ⟨k + 1, _, by omega, by go_num, rfl⟩
      case measure => simp [intOf]; omega
    · go_wp2
      go_ret
      exact ⟨rfl, drewN_below _ _⟩

theorem enters59 : ∀ args w, (callFunc 59 args).run Try.prog w = .ok (.enter 59 args) w := enters_of Try.func59 (by kernel_rfl) rfl

set_option maxHeartbeats 400000 in
theorem equalFunc_true (A : Option Addr) (n c : Nat) (ls : List (List Int)) (A' : Option Addr) (c' : Nat) (w : World) (h : RL w A n c ls) (h' : RL w A' n c' ls) :
    Calls Try.prog 58 #[.slice A n c, .slice A' n c', .func (.func 59) #[] #[]] w fun e w' => e = .returned (.bool true) ∧ Below w.heap.size w w' := by
  have hn := h.small
  have H := Lib.hid h
  have H' := Lib.hid h'
  have eg := enters59
  clear h h'
  go_enter Try.func58, Try.ntmps58
  go_wp2
  go_loopw [17] (fun i wr => ∃ k : Nat, k ≤ n ∧ i = .int .i64 k ∧ Below w.heap.size w wr) (fun i _ => n - (intOf i).toNat)
  case atStart => exact ⟨0, Nat.zero_le _, rfl, Below.refl _ _⟩
  case round =>
    obtain ⟨k, hk, rfl, hb⟩ := hrel
    have HB := Lib.hid hb
    clear hb
    by_cases hlt : k < n
    · obtain ⟨b, off, rfl, hbl, hc⟩ := (H.out.below HB.out).cells (by omega)
      obtain ⟨a1, n1, c1, hck, hr1⟩ := hc k hlt
      clear hc
      obtain ⟨b', off', rfl, hbl', hc'⟩ := (H'.out.below HB.out).cells (by omega)
      obtain ⟨a2, n2, c2, hck', hr2⟩ := hc' k hlt
      clear hc'
      have hn12 : n1 = n2 := by rw [← hr1.len, ← hr2.len]
      subst hn12
      have hcall := equal_true a1 n1 c1 (ell ls k) a2 c2 wr hr1 hr2
      clear hr1 hr2
      go_wp2_with (go_at_fn 59; refine hcall.mono ?_; clear hcall; rintro e w2 ⟨rfl, hb2⟩; have HB2 := Lib.hid hb2; clear hb2)
      go_roundw
      case rel => exact ⟨k + 1, by omega, by go_num, HB.out.trans (HB2.out.mono HB.out.size)⟩
      case measure => simp [intOf]; omega
    · go_wp2
      go_ret
      exact ⟨rfl, HB.out⟩

set_option maxHeartbeats 400000 in
theorem cnfSame_true (x : Int) (A : Option Addr) (n c : Nat) (ls : List (List Int)) (A' : Option Addr) (c' : Nat) (w : World) (h : RL w A n c ls) (h' : RL w A' n c' ls) :
    Calls Try.prog 28 #[.agg #[.int .i64 x, .slice A n c], .agg #[.int .i64 x, .slice A' n c']] w fun e w' => e = .returned (.bool true) ∧ Below w.heap.size w w' := by
  have hb0 : Below w.heap.size w ((w.alloc (.cells #[.int .i64 x, .slice A n c] 29)).alloc (.cells #[.int .i64 x, .slice A' n c'] 29)) := ((Below.refl _ _).alloc (Nat.le_refl _) _).alloc (by simp) _
  have hcall := equalFunc_true A n c ls A' c' _ (h.below hb0) (h'.below hb0)
  have HB0 := Lib.hid hb0
  clear h h' hb0
  go_enter Try.func28, Try.ntmps28
  go_wp2_with (go_at_call 58; refine hcall.mono ?_; clear hcall; rintro e w2 ⟨rfl, hb2⟩; have HB2 := Lib.hid hb2; clear hb2)
  go_ret
  exact ⟨rfl, HB0.out.trans (HB2.out.mono HB0.out.size)⟩

end Go.Proofs.Ytalcnkoidmoibaa
