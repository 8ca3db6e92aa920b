/-
  The law TidyVivifyEquivalent, walked. No condition.
-/
import Derived.Test.YtalcnkoidmoibaaK4
import Derived.Test.YtalcnkoidmoibaaG2
import Derived.Test.YtalcnkoidmoibaaG3
namespace Go.Proofs.Ytalcnkoidmoibaa
open Go.RowKit Go.Shelf
set_option linter.unusedVariables false
set_option linter.unusedSimpArgs false

theorem value_val (r : Bool) (x : Int) (A : Option Addr) (n c : Nat) (ls : List (List Int)) (A' : Option Addr) (n' c' : Nat) (bs : List Bool) (w : World) (h : RL w A n c ls) (h' : RB w A' n' c' bs) (hr : valueT x ls bs = r) :
    Calls Try.prog 27 #[.agg #[.int .i64 x, .slice A n c], .slice A' n' c'] w fun e w' => e = .returned (.bool r) ∧ Below w.heap.size w w' := by
  have := value_any x A n c ls A' n' c' bs w h h'
  rw [hr] at this; exact this
theorem check_val (r : Int) (x : Int) (A : Option Addr) (n c : Nat) (ls : List (List Int)) (w : World) (h : RL w A n c ls) (hr : checkE x ls = r) :
    Calls Try.prog 25 #[.agg #[.int .i64 x, .slice A n c]] w fun e w' => e = .returned (.int .i64 r) ∧ Below w.heap.size w w' := by
  have := check_any x A n c ls w h
  rw [hr] at this; exact this

/-- what stands when the loop begins: two formulas of the same value -/
structure Ve (w W : World) (x : Int) (B B' : Nat) (A : Option Addr) (n c : Nat) (ls : List (List Int)) (A' : Option Addr) (c' : Nat) (ls' : List (List Int)) : Prop where
  b : Two W B (.int .i64 x) (.slice A n c)
  b' : Two W B' (.int .i64 x) (.slice A' n c')
  l : RL W A n c ls
  l' : RL W A' n c' ls'
  below : Below w.heap.size w W
theorem Ve.more {w W W' : World} {x : Int} {B B' : Nat} {A : Option Addr} {n c : Nat} {ls : List (List Int)} {A' : Option Addr} {c' : Nat} {ls' : List (List Int)} (h : Ve w W x B B' A n c ls A' c' ls') (hb : Below W.heap.size W W') : Ve w W' x B B' A n c ls A' c' ls' :=
  ⟨h.b.below hb, h.b'.below hb, h.l.below hb, h.l'.below hb, h.below.trans (hb.mono h.below.size)⟩

theorem pow9 {m : Nat} (h : m ≤ 9) : (1 : Int) ≤ 2 ^ m ∧ (2 : Int) ^ m ≤ 512 := by
  rcases (by omega : m = 0 ∨ m = 1 ∨ m = 2 ∨ m = 3 ∨ m = 4 ∨ m = 5 ∨ m = 6 ∨ m = 7 ∨ m = 8 ∨ m = 9) with h | h | h | h | h | h | h | h | h | h <;> subst h <;> decide

set_option maxRecDepth 100000 in
set_option maxHeartbeats 2000000 in
theorem vivifyEq_few (x : Int) (A : Option Addr) (n c : Nat) (ls : List (List Int)) (k : Int) (w : World) (h : RL w A n c ls) (hf : fewL ls = false ∨ x < 0 ∨ 9 < x) :
    Calls Try.prog 8 #[.agg #[.int .i64 x, .slice A n c], .int .i64 k] w (Truly w) := by
  have H := Lib.hid (h.alloc (.cells #[.int .i64 x, .slice A n c] 29))
  have HB0 := Lib.hid ((Below.refl w.heap.size w).alloc (Nat.le_refl _) (.cells #[.int .i64 x, .slice A n c] 29))
  have BX := Lib.hid (Two.new w (.int .i64 x) (.slice A n c))
  clear h
  cases hfl : fewL ls
  · have HF := Lib.hid hfl
    clear hf hfl
    go_enter Try.func8, Try.ntmps8
    go_wp2_with (first
      | (go_at_call 11; refine (live_any _).mono ?_; rintro e w1 ⟨rfl, hb1⟩; have HB1 := Lib.hid hb1; have t1 := (BX.out.below hb1); have q0 := t1.c0; have q1 := t1.c1; clear hb1 t1)
      | (go_at_call 15; refine (few_val false x A n c ls _ (H.out.below HB1.out) HF.out).mono ?_; rintro e w2 ⟨rfl, hb2⟩; have HB2 := Lib.hid hb2; clear hb2))
    go_ret
    exact ⟨rfl, HB0.out.trans ((HB1.out.trans (HB2.out.mono HB1.out.size)).mono HB0.out.size)⟩
  · have HF := Lib.hid hfl
    have hx : x < 0 ∨ 9 < x := by
      rcases hf with hf | hf
      · rw [hf] at hfl; cases hfl
      · exact hf
    clear hf hfl
    by_cases hx0 : x < 0
    all_goals
      first
      | (have hx9 : 9 < x := by omega)
      | skip
      clear hx
      go_enter Try.func8, Try.ntmps8
      go_wp2_with (first
        | (go_at_call 11; refine (live_any _).mono ?_; rintro e w1 ⟨rfl, hb1⟩; have HB1 := Lib.hid hb1; have t1 := (BX.out.below hb1); have T1 := Lib.hid t1; have q0 := t1.c0; have q1 := t1.c1; clear hb1 t1)
        | (go_at_call 15; refine (few_val true x A n c ls _ (H.out.below HB1.out) HF.out).mono ?_; rintro e w2 ⟨rfl, hb2⟩; have HB2 := Lib.hid hb2; have t2 := (T1.out.below hb2); clear q0 q1; have q0 := t2.c0; have q1 := t2.c1; clear hb2 t2))
      go_ret
      exact ⟨rfl, HB0.out.trans ((HB1.out.trans (HB2.out.mono HB1.out.size)).mono HB0.out.size)⟩

set_option maxRecDepth 100000 in
set_option maxHeartbeats 2000000 in
theorem vivifyEq_bad (x : Int) (A : Option Addr) (n c : Nat) (ls : List (List Int)) (k : Int) (w : World) (h : RL w A n c ls) (hf : fewL ls = true) (hx0 : 0 ≤ x) (hx9 : x ≤ 9) (hE : vivE x ls k ≠ 0) :
    Calls Try.prog 8 #[.agg #[.int .i64 x, .slice A n c], .int .i64 k] w (Truly w) := by
  have H := Lib.hid (h.alloc (.cells #[.int .i64 x, .slice A n c] 29))
  have HB0 := Lib.hid ((Below.refl w.heap.size w).alloc (Nat.le_refl _) (.cells #[.int .i64 x, .slice A n c] 29))
  have BX := Lib.hid (Two.new w (.int .i64 x) (.slice A n c))
  have hlen := h.len
  clear h
  have HF := Lib.hid hf
  obtain ⟨hn, hsum⟩ := fewL_len hf
  rw [hlen] at hn
  clear hf
  have hv := fun W (h : RL W A n c ls) => vivify_any x A n c ls k W h (by omega)
  unfold Viv at hv
  rw [vivL_bad hE] at hv
  have hck := fun (h0 : 0 ≤ k) (h1 : k < n) => (vivE_in (x := x) (ls := ls) h0 (by rw [hlen]; exact h1)).symm
  generalize vivE x ls k = e' at hv hE hck
  have he : (e' != 0) = true := by simpa using hE
  simp only [List.length_nil] at hv
  clear hE hlen
  by_cases k0 : k < 0
  · clear hck
    go_enter Try.func8, Try.ntmps8
    go_wp2_with (first
      | (go_at_call 11; refine (live_any _).mono ?_; rintro e w1 ⟨rfl, hb1⟩; have HB1 := Lib.hid (HB0.out.trans (hb1.mono HB0.out.size)); have HR1 := Lib.hid (H.out.below hb1); have BX1 := Lib.hid (BX.out.below hb1); have q0 := BX1.out.c0; have q1 := BX1.out.c1; clear hb1)
      | (go_at_call 15; refine (few_val true x A n c ls _ HR1.out HF.out).mono ?_; rintro e w2 ⟨rfl, hb2⟩; have HB2 := Lib.hid (HB1.out.trans (hb2.mono HB1.out.size)); have HR2 := Lib.hid (HR1.out.below hb2); have BX2 := Lib.hid (BX1.out.below hb2); clear q0 q1; have q0 := BX2.out.c0; have q1 := BX2.out.c1; clear hb2)
      | (go_at_call 16; refine (hv _ HR2.out).mono ?_; clear hv; rintro e w3 ⟨A3, c3, rfl, hr3, hb3⟩; have HB3 := Lib.hid (HB2.out.trans (hb3.mono HB2.out.size)); have BX3 := Lib.hid (BX2.out.below hb3); clear q0 q1; have q0 := BX3.out.c0; have q1 := BX3.out.c1; clear hr3 hb3))
    go_ret
    exact ⟨rfl, HB3.out⟩
  · by_cases k1 : (n : Int) ≤ k
    · clear hck
      go_enter Try.func8, Try.ntmps8
      go_wp2_with (first
        | (go_at_call 11; refine (live_any _).mono ?_; rintro e w1 ⟨rfl, hb1⟩; have HB1 := Lib.hid (HB0.out.trans (hb1.mono HB0.out.size)); have HR1 := Lib.hid (H.out.below hb1); have BX1 := Lib.hid (BX.out.below hb1); have q0 := BX1.out.c0; have q1 := BX1.out.c1; clear hb1)
        | (go_at_call 15; refine (few_val true x A n c ls _ HR1.out HF.out).mono ?_; rintro e w2 ⟨rfl, hb2⟩; have HB2 := Lib.hid (HB1.out.trans (hb2.mono HB1.out.size)); have HR2 := Lib.hid (HR1.out.below hb2); have BX2 := Lib.hid (BX1.out.below hb2); clear q0 q1; have q0 := BX2.out.c0; have q1 := BX2.out.c1; clear hb2)
        | (go_at_call 16; refine (hv _ HR2.out).mono ?_; clear hv; rintro e w3 ⟨A3, c3, rfl, hr3, hb3⟩; have HB3 := Lib.hid (HB2.out.trans (hb3.mono HB2.out.size)); have BX3 := Lib.hid (BX2.out.below hb3); clear q0 q1; have q0 := BX3.out.c0; have q1 := BX3.out.c1; clear hr3 hb3))
      go_ret
      exact ⟨rfl, HB3.out⟩
    · have HC := Lib.hid (hck (by omega) (by omega))
      clear hck
      go_enter Try.func8, Try.ntmps8
      go_wp2_with (first
        | (go_at_call 11; refine (live_any _).mono ?_; rintro e w1 ⟨rfl, hb1⟩; have HB1 := Lib.hid (HB0.out.trans (hb1.mono HB0.out.size)); have HR1 := Lib.hid (H.out.below hb1); have BX1 := Lib.hid (BX.out.below hb1); have q0 := BX1.out.c0; have q1 := BX1.out.c1; clear hb1)
        | (go_at_call 15; refine (few_val true x A n c ls _ HR1.out HF.out).mono ?_; rintro e w2 ⟨rfl, hb2⟩; have HB2 := Lib.hid (HB1.out.trans (hb2.mono HB1.out.size)); have HR2 := Lib.hid (HR1.out.below hb2); have BX2 := Lib.hid (BX1.out.below hb2); clear q0 q1; have q0 := BX2.out.c0; have q1 := BX2.out.c1; clear hb2)
        | (go_at_call 16; refine (hv _ HR2.out).mono ?_; clear hv; rintro e w3 ⟨A3, c3, rfl, hr3, hb3⟩; have HR3 := Lib.hid (HR2.out.below hb3); have HB3 := Lib.hid (HB2.out.trans (hb3.mono HB2.out.size)); have BX3 := Lib.hid (BX2.out.below hb3); clear q0 q1; have q0 := BX3.out.c0; have q1 := BX3.out.c1; clear hr3 hb3)
        | (go_at_call 25; refine (check_val e' x A n c ls _ HR3.out HC.out).mono ?_; rintro e w4 ⟨rfl, hb4⟩; have HB4 := Lib.hid (HB3.out.trans (hb4.mono HB3.out.size)); clear hb4))
      go_ret
      exact ⟨ret_bool (by simp), HB4.out⟩

set_option maxRecDepth 100000 in
set_option maxHeartbeats 2000000 in
theorem vivifyEq_ok (x : Int) (A : Option Addr) (n c : Nat) (ls : List (List Int)) (j : Nat) (w : World) (h : RL w A n c ls) (hf : fewL ls = true) (hx0 : 0 ≤ x) (hx9 : x ≤ 9) (hE : vivE x ls j = 0) :
    Calls Try.prog 8 #[.agg #[.int .i64 x, .slice A n c], .int .i64 j] w (Truly w) := by
  have H := Lib.hid (h.alloc (.cells #[.int .i64 x, .slice A n c] 29))
  have HB0 := Lib.hid ((Below.refl w.heap.size w).alloc (Nat.le_refl _) (.cells #[.int .i64 x, .slice A n c] 29))
  have BX := Lib.hid (Two.new w (.int .i64 x) (.slice A n c))
  have hlen := h.len
  clear h
  have HF := Lib.hid hf
  obtain ⟨hn, hsum⟩ := fewL_len hf
  rw [hlen] at hn
  clear hf
  have hv := fun W (h : RL W A n c ls) => vivify_any x A n c ls j W h (by omega)
  unfold Viv at hv
  obtain ⟨hce, hk0, hkl⟩ := vivE_zero hE
  have hjn : j < n := by omega
  have hval := Lib.hid (viv_value hE)
  have hsubs := Lib.hid (viv_subB hE)
  have hcell := checkE_lits hce _ (ell_mem (k := j) (by omega))
  have g6 : Okl (vivL x ls (j : Int)) := fun y hy => hcell y ((viv_again hE).2.2.2 y hy)
  rw [hE] at hv
  generalize vivL x ls (j : Int) = z at hv hval hsubs g6
  obtain ⟨m, hm⟩ : ∃ m, z.length = m := ⟨_, rfl⟩
  rw [hm] at hv
  have G6 := Lib.hid (okl_wfl g6)
  have G7 := Lib.hid (okl_wfl hcell)
  have hwi := fun W A' c' (h : RL W A n c ls) (h' : RI W A' m c' z) => with_any x A n c ls j A' m c' z W h hjn h' (by omega)
  unfold Withd at hwi
  clear hE hce hk0 hkl hcell g6 hm hlen
  have k0 : ¬ (j : Int) < 0 := by omega
  have k1 : ¬ (n : Int) ≤ (j : Int) := by omega
  obtain ⟨b, off, rfl, hbl, hc⟩ := H.out.cells (by omega)
  obtain ⟨a1, n1, c1, hck, hr1⟩ := hc j hjn
  have HCK := Lib.hid hck
  have HR := Lib.hid hr1
  clear hc hck hr1
  go_enter Try.func8, Try.ntmps8
  go_upto_region 11 with (first
      | (go_at_call 11; refine (live_any _).mono ?_; rintro e w1 ⟨rfl, hb1⟩; have HB1 := Lib.hid (HB0.out.trans (hb1.mono HB0.out.size)); have HA1 := Lib.hid hb1; have HR1 := Lib.hid (H.out.below hb1); have BX1 := Lib.hid (BX.out.below hb1); have q0 := BX1.out.c0; have q1 := BX1.out.c1; clear hb1)
      | (go_at_call 15; refine (few_val true x _ n c ls _ HR1.out HF.out).mono ?_; rintro e w2 ⟨rfl, hb2⟩; have HB2 := Lib.hid (HB1.out.trans (hb2.mono HB1.out.size)); have HA2 := Lib.hid (HA1.out.trans (hb2.mono HA1.out.size)); have HR2 := Lib.hid (HR1.out.below hb2); have BX2 := Lib.hid (BX1.out.below hb2); clear q0 q1; have q0 := BX2.out.c0; have q1 := BX2.out.c1; clear hb2)
      | (go_at_call 16; refine (hv _ HR2.out).mono ?_; clear hv; rintro e w3 ⟨A3, c3, rfl, hr3, hb3⟩; have HR3 := Lib.hid (HR2.out.below hb3); have HZ3 := Lib.hid hr3; have BX3 := Lib.hid (BX2.out.below hb3); have HB3 := Lib.hid (HB2.out.trans (hb3.mono HB2.out.size)); have HA3 := Lib.hid (HA2.out.trans (hb3.mono HA2.out.size)); have hck := (HA3.out.cell (p := ⟨b, off + j, none⟩) hbl).trans HCK.out; clear q0 q1; have q0 := BX3.out.c0; have q1 := BX3.out.c1; clear hr3 hb3)
      | (go_at_call 24; refine (subsumes_val true _ _ _ _ _ _ _ _ _ HZ3.out (HR.out.below HA3.out) G6.out G7.out hsubs.out).mono ?_; rintro e w4 ⟨rfl, hb4⟩; have HB4 := Lib.hid (HB3.out.trans (hb4.mono HB3.out.size)); have HR4 := Lib.hid (HR3.out.below hb4); have HZ4 := Lib.hid (HZ3.out.below hb4); have BX4 := Lib.hid (BX3.out.below hb4); clear q0 q1 hck; have q0 := BX4.out.c0; have q1 := BX4.out.c1; clear hb4)
      | (go_at_call 22; refine (hwi _ _ _ HR4.out HZ4.out).mono ?_; clear hwi; rintro e w5 ⟨A5, c5, rfl, hr5, hb5⟩; have HV5 : Hid (Ve w (w5.alloc (.cells #[.int .i64 x, .slice A5 n c5] 29)) x w.heap.size w5.heap.size _ n c ls A5 c5 (ls.set j z)) := Lib.hid ⟨(BX4.out.below hb5).below ((Below.refl _ _).alloc (Nat.le_refl _) _), Two.new _ _ _, (HR4.out.below hb5).alloc _, hr5.alloc _, (HB4.out.trans (hb5.mono HB4.out.size)).alloc (by have := HB4.out.size; have := hb5.size; omega) _⟩; clear q0 q1 hr5 hb5))
  generalize hW : (w5.alloc (.cells #[.int .i64 x, .slice A5 n c5] 29)) = W5 at HV5
  obtain ⟨t, rfl⟩ : ∃ t : Nat, x = t := ⟨x.toNat, by omega⟩
  obtain ⟨hp1, hp2⟩ := pow9 (m := t) (by omega)
  have HP := Lib.hid (And.intro hp1 hp2)
  clear hp1 hp2 hW
  go_wp2_with fail
  go_loopw [8] (fun s8 W => ∃ q : Nat, q ≤ 512 ∧ s8 = .int .i64 q ∧ Below W5.heap.size W5 W) (fun s8 _ => 512 - (intOf s8).toNat)
  case atStart => exact ⟨0, by omega, rfl, Below.refl _ _⟩
  case round =>
    obtain ⟨q, hq, rfl, hb⟩ := hrel
    have HV := Lib.hid (HV5.out.more hb)
    have HB := Lib.hid hb
    clear hb
    have q0 := HV.out.b.c0
    have q1 := HV.out.b.c1
    have p0 := HV.out.b'.c0
    have p1 := HV.out.b'.c1
    by_cases hlt : (q : Int) < wrap64 (2 ^ t)
    · have hq5 : q < 512 := by
        have h1 := HP.out
        have h2 : wrap64 ((2 : Int) ^ t) = 2 ^ t := by unfold wrap64; omega
        rw [h2] at hlt; omega
      go_upto_region 15 with (go_at_call 26; refine (truths_any t q _ (by omega)).mono ?_; rintro e w6 ⟨A6, c6, bs, rfl, hr6, hb6⟩; have HV6 := Lib.hid (HV.out.more hb6); have HR6 := Lib.hid hr6; have HB6 := Lib.hid (HB.out.trans (hb6.mono HB.out.size)); clear q0 q1 p0 p1 hr6 hb6)
      have g0 := fun u : Gr w6 => u.cell (p := ⟨w.heap.size, 0, none⟩) HV6.out.b.lt HV6.out.b.c0
      have g1 := fun u : Gr w6 => u.cell (p := ⟨w.heap.size, 1, none⟩) HV6.out.b.lt HV6.out.b.c1
      have g2 := fun u : Gr w6 => u.cell (p := ⟨w5.heap.size, 0, none⟩) HV6.out.b'.lt HV6.out.b'.c0
      have g3 := fun u : Gr w6 => u.cell (p := ⟨w5.heap.size, 1, none⟩) HV6.out.b'.lt HV6.out.b'.c1
      obtain ⟨v, hvv⟩ : ∃ v, valueT t ls bs = v := ⟨_, rfl⟩
      have E1 := Lib.hid hvv
      have E2 := Lib.hid ((hval.out bs).trans hvv)
      clear hvv hlt
      go_wp2_with fail
      refine wp_region_grow (by kernel_rfl) (by kernel_rfl) ?_
      repeat (go_big_quiet_step ((go_at_call 27; exact Gr.call _ (value_val v t _ n _ _ A6 _ c6 bs _ (by first | exact HV6.out.l.below (Gr.ok _) | exact HV6.out.l'.below (Gr.ok _)) (HR6.out.below (Gr.ok _)) (by first | exact E1.out | exact E2.out)))))
      refine wpQuiet_nil ?_
      rintro w7 ⟨⟨_, hb7⟩, rfl⟩
      have HB7 := Lib.hid (HB6.out.trans (hb7.mono HB6.out.size))
      clear hb7 g0 g1 g2 g3
      go_wp2_with fail
      go_roundw
      case rel => exact ⟨q + 1, by omega, by go_num, HB7.out⟩
      case measure => simp [intOf]; omega
    · go_wp2_with fail
      go_ret
      exact ⟨rfl, HV.out.below⟩

theorem vivifyEq_any (x : Int) (A : Option Addr) (n c : Nat) (ls : List (List Int)) (k : Int) (w : World) (h : RL w A n c ls) :
    Calls Try.prog 8 #[.agg #[.int .i64 x, .slice A n c], .int .i64 k] w (Truly w) := by
  by_cases hf : fewL ls = false ∨ x < 0 ∨ 9 < x
  · exact vivifyEq_few x A n c ls k w h hf
  · have hf1 : fewL ls = true := by
      cases hh : fewL ls with
      | true => rfl
      | false => exact absurd (Or.inl hh) hf
    by_cases hE : vivE x ls k = 0
    · obtain ⟨_, h2, h3⟩ := vivE_zero hE
      obtain ⟨j, rfl⟩ : ∃ j : Nat, k = j := ⟨k.toNat, by omega⟩
      exact vivifyEq_ok x A n c ls j w h hf1 (by omega) (by omega) hE
    · exact vivifyEq_bad x A n c ls k w h hf1 (by omega) (by omega) hE

end Go.Proofs.Ytalcnkoidmoibaa
