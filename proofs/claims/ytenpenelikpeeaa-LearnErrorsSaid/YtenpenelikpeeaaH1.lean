/-
  Every assignment that satisfies the clauses satisfies what First and Less hand back. No program in sight. No condition.
-/
import Derived.Test.YtenpenelikpeeaaG1
namespace Go.Proofs.Ytenpenelikpeeaa
set_option linter.unusedVariables false
set_option linter.unusedSimpArgs false

theorem asc_nodup {l : List Int} (h : AscV l) : l.Nodup := h.imp fun h e => by rw [e] at h; omega

/-- where First answers: its road -/
structure Rd (x : Int) (ls : List (List Int)) (ts : List Stp) (q : Int) : Prop where
  prop : propE x ls ts = 0
  chk : checkE x ls = 0
  tr : Tr x ls ts
  q0 : 0 ≤ q
  q1 : q < (ls.length : Int)
  dead : deadB ts (ell ls q.toNat) = true
  last : lastT ts ≠ 0
  hi : 0 < hiN ts (lastT ts) (start ls q)
  under : Under ts ts.length (roadEnd ls ts q)
  nodup : (roadEnd ls ts q).Nodup
  one : hiN ts (lastT ts) (roadEnd ls ts q) = 1
theorem rd_of {x : Int} {ls : List (List Int)} {ts : List Stp} {q : Int} (h : firstE x ls ts q = 0) : Rd x ls ts q := by
  unfold firstE at h
  by_cases h1 : propE x ls ts = 0
  · rw [if_neg (by simpa using h1)] at h
    by_cases h2 : q < 0 ∨ (ls.length : Int) ≤ q ∨ deadB ts (ell ls q.toNat) = false
    · rw [if_pos h2] at h; exact absurd h (by decide)
    · rw [if_neg h2] at h
      by_cases h3 : lastT ts = 0 ∨ hiN ts (lastT ts) (start ls q) = 0
      · rw [if_pos h3] at h; exact absurd h (by decide)
      · have hd : deadB ts (ell ls q.toNat) = true := by
          cases hd : deadB ts (ell ls q.toNat) with
          | true => rfl
          | false => exact absurd (Or.inr (Or.inr hd)) h2
        obtain ⟨hc, ht⟩ := propE_zero h1
        have T := trail_tr ht
        have hu := start_under hd
        have hi : 0 < hiN ts (lastT ts) (start ls q) := by omega
        obtain ⟨e1, e2, e3⟩ := road_end T ts.length (start ls q) hu (start_nodup _ _) hi hu (Nat.le_refl _)
        exact ⟨h1, hc, T, by omega, by omega, hd, by omega, hi, e1, e2, e3⟩
  · rw [if_pos h1] at h; exact absurd h h1
theorem firstL_rd {x : Int} {ls : List (List Int)} {ts : List Stp} {q : Int} (h : firstE x ls ts q = 0) : firstL x ls ts q = risL (highs ts (roadEnd ls ts q)) := by unfold firstL; rw [if_pos h]
theorem Rd.big {x : Int} {ls : List (List Int)} {ts : List Stp} {q : Int} (h : Rd x ls ts q) : x ≤ 65536 := (checkE_n h.chk).2
theorem mem_highs {ts : List Stp} {S : List Int} {y : Int} : y ∈ highs ts S ↔ y ∈ S ∧ 0 < lvlT ts y := by unfold highs; simp
theorem mem_firstL {x : Int} {ls : List (List Int)} {ts : List Stp} {q : Int} (h : firstE x ls ts q = 0) {y : Int} : y ∈ firstL x ls ts q ↔ y ∈ roadEnd ls ts q ∧ 0 < lvlT ts y := by
  rw [firstL_rd h, mem_risL, mem_highs]
theorem firstL_under {x : Int} {ls : List (List Int)} {ts : List Stp} {q : Int} (h : firstE x ls ts q = 0) : Under ts ts.length (firstL x ls ts q) := fun y hy => (rd_of h).under y ((mem_firstL h).1 hy).1
theorem firstL_asc {x : Int} {ls : List (List Int)} {ts : List Stp} {q : Int} (h : firstE x ls ts q = 0) : AscV (firstL x ls ts q) := by
  have R := rd_of h
  rw [firstL_rd h]
  refine asc_risL (R.nodup.sublist List.filter_sublist) (under_cons R.tr R.big (fun y hy => R.under y (mem_highs.1 hy).1))
theorem firstL_len {x : Int} {ls : List (List Int)} {ts : List Stp} {q : Int} (h : firstE x ls ts q = 0) : (firstL x ls ts q).length ≤ ts.length := under_len (firstL_under h) (asc_nodup (firstL_asc h))

/-- the clause of First is one that Less takes -/
theorem less_takes {x : Int} {ls : List (List Int)} {ts : List Stp} (hT : Tr x ls ts) (hx : x ≤ 65536) {l : List Int} (hn : l.Nodup) (hu : Under ts ts.length l) : lessOk x ts l = true := by
  have hC := under_cons hT hx hu
  unfold lessOk unlB unlTo
  rw [Bool.and_eq_true]
  refine ⟨List.all_eq_true.2 fun k hk => ?_, dead_under.2 hu⟩
  rw [List.mem_range] at hk
  have hm := elt_mem hk
  unfold unl
  simp only [Bool.and_eq_true, Bool.not_eq_true', hasB_false]
  refine ⟨?_, fun hy => ?_, fun hy => hC.2 _ hm (List.mem_of_mem_take hy)⟩
  · have h1 := (plc_lt (hu _ hm)).1
    have h2 := isB_iff.1 (hT.lit _ (hu _ hm))
    rw [h1] at h2
    exact isB_iff.2 ⟨by omega, by omega, by omega⟩
  · have h1 : (l.take (k + 1)).Nodup := hn.sublist (List.take_sublist _ _)
    rw [take_snoc l k hk, List.nodup_append] at h1
    exact h1.2.2 _ hy _ (by simp) rfl
theorem firstL_takes {x : Int} {ls : List (List Int)} {ts : List Stp} {q : Int} (h : firstE x ls ts q = 0) : lessE x ls ts (firstL x ls ts q) = 0 := by
  have R := rd_of h
  unfold lessE
  rw [if_neg (by simpa using R.prop), if_neg (by rw [less_takes R.tr R.big (asc_nodup (firstL_asc h)) (firstL_under h)]; decide)]

theorem levAt_nn (ts : List Stp) (k : Nat) : 0 ≤ levAt ts k := by unfold levAt; omega

section
variable {x : Int} {ls : List (List Int)} {ts : List Stp} {bs : List Bool}
/-- a clause of the trail's reasons holds -/
theorem reason_holds (h : Tr x ls ts) (ha : ls.all (holdsT bs) = true) {k : Nat} (hk : k < ts.length) (hw : 0 ≤ (stp ts k).why) : ∃ z ∈ ell ls (stp ts k).why.toNat, litT bs z = true := by
  have := (h.why k hk).2
  exact holdsT_iff.1 (List.all_eq_true.1 ha _ (ell_mem (by omega)))
theorem reason_okl (h : Tr x ls ts) (hc : checkE x ls = 0) {k : Nat} (hk : k < ts.length) (hw : 0 ≤ (stp ts k).why) : Okl (ell ls (stp ts k).why.toNat) := by
  have := (h.why k hk).2
  exact checkE_lits hc _ (ell_mem (by omega))
theorem low_true (h : Tr x ls ts) (hc : checkE x ls = 0) (ha : ls.all (holdsT bs) = true) : ∀ k, k < ts.length → levAt ts k = 0 → litT bs (stp ts k).lit = true := by
  intro k
  induction k using Nat.strongRecOn with
  | _ k ih =>
    intro hk hl
    have hw : 0 ≤ (stp ts k).why := by
      rcases Int.lt_or_le (stp ts k).why 0 with h0 | h0
      · have h1 := (h.why k hk).1
        have h2 := levAt_yes hk (show (stp ts k).why = -1 by omega)
        omega
      · exact h0
    obtain ⟨z, hz, ht⟩ := reason_holds h ha hk hw
    by_cases e : z = (stp ts k).lit
    · rw [← e]; exact ht
    · obtain ⟨j, hj, e2⟩ := (h.reason k hk hw).2 z hz e
      have h3 := levAt_mono (ts := ts) (j := j) (k := k) (by omega)
      have h4 := levAt_nn ts j
      have h5 := ih j hj (by omega) (by omega)
      rw [e2, litT_neg (reason_okl h hc hk hw z hz), ht] at h5
      exact absurd h5 (by decide)
theorem step_holds (h : Tr x ls ts) (hc : checkE x ls = 0) (ha : ls.all (holdsT bs) = true) {S : List Int} {z : Int} (hz : z ∈ S) (hC : Okl S) (hi : plc ts (-z) < ts.length) (hw : 0 ≤ (stp ts (plc ts (-z))).why) (hS : holdsT bs S = true) : holdsT bs (stepU ls ts S z) = true := by
  obtain ⟨y, hy, ht⟩ := holdsT_iff.1 hS
  rw [holdsT_iff]
  unfold stepU
  by_cases e : y = z
  · subst e
    obtain ⟨u, hu, htu⟩ := reason_holds h ha hi hw
    refine ⟨u, ?_, htu⟩
    rw [mem_moreL]
    refine Or.inr ⟨hu, fun e => ?_⟩
    rw [e, litT_neg (hC y hy), ht] at htu
    exact absurd htu (by decide)
  · exact ⟨y, by rw [mem_moreL, mem_without]; exact Or.inl ⟨hy, e⟩, ht⟩
theorem uip_holds (h : Tr x ls ts) (hc : checkE x ls = 0) (ha : ls.all (holdsT bs) = true) : ∀ (f : Nat) (S : List Int), Under ts ts.length S → S.Nodup → 0 < hiN ts (lastT ts) S → holdsT bs S = true → holdsT bs (uipL ls ts (lastT ts) f S) = true
  | 0, S, _, _, _, hS => hS
  | f + 1, S, hu, hn, hi, hS => by
    rw [uipL]
    split
    · exact hS
    · rename_i hc2
      rw [latT_count] at hc2
      obtain ⟨h2, h3, h4, h5, h6, h7⟩ := ref_step h hu hn (by omega)
      obtain ⟨h8, _, _⟩ := latT_max (show 0 < hiN ts (lastT ts) S by omega)
      exact uip_holds h hc ha f _ (h4.mono (by omega)) h5 h6 (step_holds h hc ha h8 (under_cons h (checkE_n hc).2 hu).1 h2 h3 hS)
theorem first_holds {q : Int} (hE : firstE x ls ts q = 0) (ha : ls.all (holdsT bs) = true) : holdsT bs (firstL x ls ts q) = true := by
  have R := rd_of hE
  have h0 : holdsT bs (start ls q) = true := by
    have hm : ell ls q.toNat ∈ ls := ell_mem (by have := R.q1; have := R.q0; omega)
    obtain ⟨z, hz, ht⟩ := holdsT_iff.1 (List.all_eq_true.1 ha _ hm)
    refine holdsT_iff.2 ⟨z, ?_, ht⟩
    unfold start
    rw [mem_moreL]
    exact Or.inr ⟨hz, (checkE_lits R.chk _ hm z hz).1⟩
  obtain ⟨y, hy, ht⟩ := holdsT_iff.1 (uip_holds R.tr R.chk ha ts.length _ (start_under R.dead) (start_nodup _ _) R.hi h0)
  refine holdsT_iff.2 ⟨y, (mem_firstL hE).2 ⟨hy, ?_⟩, ht⟩
  have hp := R.under y hy
  rw [lvlT_of hp]
  rcases Int.lt_or_le 0 (levAt ts (plc ts (-y))) with h1 | h1
  · exact h1
  · have h2 := levAt_nn ts (plc ts (-y))
    have h3 := low_true R.tr R.chk ha _ hp (by omega)
    rw [(plc_lt hp).1, litT_neg ((under_cons R.tr R.big R.under).1 y hy), ht] at h3
    exact absurd h3 (by decide)

theorem red_true (h : Tr x ls ts) (hc : checkE x ls = 0) (ha : ls.all (holdsT bs) = true) (l : List Int) : ∀ k, k < ts.length → redB ls ts l k = true → litT bs (stp ts k).lit = false → ∃ z ∈ l, litT bs z = true ∧ plc ts (-z) < k := by
  intro k
  induction k using Nat.strongRecOn with
  | _ k ih =>
    intro hk hr hf
    rw [redB_eq h l hk, Bool.or_eq_true, Bool.and_eq_true] at hr
    rcases hr with hr | ⟨hw, hr⟩
    · have := low_true h hc ha k hk (of_decide_eq_true hr)
      rw [hf] at this; exact absurd this (by decide)
    · have hw := of_decide_eq_true hw
      obtain ⟨z, hz, ht⟩ := reason_holds h ha hk hw
      have hne : z ≠ (stp ts k).lit := fun e => by rw [e, hf] at ht; exact absurd ht (by decide)
      obtain ⟨j, hj, e2⟩ := (h.reason k hk hw).2 z hz hne
      have hp := h.plc (k := j) (by omega)
      have h1 := List.all_eq_true.1 hr z hz
      rw [Bool.or_eq_true, Bool.or_eq_true] at h1
      rcases h1 with h1 | h1 | h1
      · exact absurd (by simpa using h1) hne
      · exact ⟨z, hasB_iff.1 h1, ht, by rw [← e2, hp]; exact hj⟩
      · rw [← e2, hp] at h1
        obtain ⟨u, hu, htu, hlt⟩ := ih j hj (by omega) h1 (by rw [e2, litT_neg (reason_okl h hc hk hw z hz), ht]; rfl)
        exact ⟨u, hu, htu, by omega⟩
theorem less_holds (h : Tr x ls ts) (hc : checkE x ls = 0) (ha : ls.all (holdsT bs) = true) {l : List Int} (hu : Under ts ts.length l) : ∀ (k : Nat) (y : Int), plc ts (-y) = k → y ∈ l → litT bs y = true → holdsT bs (lessL ls ts l) = true := by
  intro k
  induction k using Nat.strongRecOn with
  | _ k ih =>
    intro y hk hy ht
    cases hb : keepB ls ts l y with
    | true =>
      refine holdsT_iff.2 ⟨y, ?_, ht⟩
      unfold lessL
      rw [mem_risL, List.mem_filter]
      exact ⟨hy, hb⟩
    | false =>
      unfold keepB at hb
      rw [Bool.or_eq_false_iff] at hb
      have hr : redB ls ts l (plc ts (-y)) = true := by simpa using hb.2
      have hp := hu y hy
      obtain ⟨z, hz, htz, hlt⟩ := red_true h hc ha l _ hp hr (by rw [(plc_lt hp).1, litT_neg ((under_cons h (checkE_n hc).2 hu).1 y hy), ht]; rfl)
      exact ih _ (by omega) z rfl hz htz
theorem both_hold {q : Int} (hE : firstE x ls ts q = 0) (ha : ls.all (holdsT bs) = true) : holdsT bs (lessR x ls ts (firstL x ls ts q)) = true := by
  have R := rd_of hE
  unfold lessR
  rw [if_pos (firstL_takes hE)]
  obtain ⟨y, hy, ht⟩ := holdsT_iff.1 (first_holds hE ha)
  exact less_holds R.tr R.chk ha (firstL_under hE) _ y rfl hy ht
end

end Go.Proofs.Ytenpenelikpeeaa
