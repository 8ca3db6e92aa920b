/-
  Every assignment that satisfies the clauses satisfies what First and Less hand back. No program in sight. No condition.
  The clause of First asserts: one literal of the last level, the greatest level of the others. No program in sight. No condition.
  The errors of First in plain words: what a further decision does. No program in sight. No condition.
  Contracts of flip, Back and has: a trail with its literals negated, the steps up to a level, membership. No condition.
  The engine of unit propagation: look at a clause. No condition.
-/
import Derived.Test.YtenpenelikpeeaaZC17
import Derived.Deep.RegionLaw
import Derived.IntWalk

namespace Go.Proofs.Ytenpenelikpeeaa
set_option linter.unusedVariables false
set_option linter.unusedSimpArgs false

theorem asc_nodup {l : List Int} (h : AscV l) : l.Nodup := h.imp fun h e => by rw [e] at h; omega

/-- where First answers: its road -/
structure Rd (x : Int) (ls : List (List Int)) (ts : List Stp) (q : Int) : Prop where
  prop : propE x ls ts = 0
  chk : checkE x ls = 0
  tr : Tr x ls ts
  q0 : 0 ≤ q
  q1 : q < (ls.length : Int)
  dead : deadB ts (ell ls q.toNat) = true
  last : lastT ts ≠ 0
  hi : 0 < hiN ts (lastT ts) (start ls q)
  under : Under ts ts.length (roadEnd ls ts q)
  nodup : (roadEnd ls ts q).Nodup
  one : hiN ts (lastT ts) (roadEnd ls ts q) = 1
theorem rd_of {x : Int} {ls : List (List Int)} {ts : List Stp} {q : Int} (h : firstE x ls ts q = 0) : Rd x ls ts q := by
  unfold firstE at h
  by_cases h1 : propE x ls ts = 0
  · rw [if_neg (by simpa using h1)] at h
    by_cases h2 : q < 0 ∨ (ls.length : Int) ≤ q ∨ deadB ts (ell ls q.toNat) = false
    · rw [if_pos h2] at h; exact absurd h (by decide)
    · rw [if_neg h2] at h
      by_cases h3 : lastT ts = 0 ∨ hiN ts (lastT ts) (start ls q) = 0
      · rw [if_pos h3] at h; exact absurd h (by decide)
      · have hd : deadB ts (ell ls q.toNat) = true := by
          cases hd : deadB ts (ell ls q.toNat) with
          | true => rfl
          | false => exact absurd (Or.inr (Or.inr hd)) h2
        obtain ⟨hc, ht⟩ := propE_zero h1
        have T := trail_tr ht
        have hu := start_under hd
        have hi : 0 < hiN ts (lastT ts) (start ls q) := by omega
        obtain ⟨e1, e2, e3⟩ := road_end T ts.length (start ls q) hu (start_nodup _ _) hi hu (Nat.le_refl _)
        exact ⟨h1, hc, T, by omega, by omega, hd, by omega, hi, e1, e2, e3⟩
  · rw [if_pos h1] at h; exact absurd h h1
theorem firstL_rd {x : Int} {ls : List (List Int)} {ts : List Stp} {q : Int} (h : firstE x ls ts q = 0) : firstL x ls ts q = risL (highs ts (roadEnd ls ts q)) := by unfold firstL; rw [if_pos h]
theorem Rd.big {x : Int} {ls : List (List Int)} {ts : List Stp} {q : Int} (h : Rd x ls ts q) : x ≤ 65536 := (checkE_n h.chk).2
theorem mem_highs {ts : List Stp} {S : List Int} {y : Int} : y ∈ highs ts S ↔ y ∈ S ∧ 0 < lvlT ts y := by unfold highs; simp
theorem mem_firstL {x : Int} {ls : List (List Int)} {ts : List Stp} {q : Int} (h : firstE x ls ts q = 0) {y : Int} : y ∈ firstL x ls ts q ↔ y ∈ roadEnd ls ts q ∧ 0 < lvlT ts y := by
  rw [firstL_rd h, mem_risL, mem_highs]
theorem firstL_under {x : Int} {ls : List (List Int)} {ts : List Stp} {q : Int} (h : firstE x ls ts q = 0) : Under ts ts.length (firstL x ls ts q) := fun y hy => (rd_of h).under y ((mem_firstL h).1 hy).1
theorem firstL_asc {x : Int} {ls : List (List Int)} {ts : List Stp} {q : Int} (h : firstE x ls ts q = 0) : AscV (firstL x ls ts q) := by
  have R := rd_of h
  rw [firstL_rd h]
  refine asc_risL (R.nodup.sublist List.filter_sublist) (under_cons R.tr R.big (fun y hy => R.under y (mem_highs.1 hy).1))
theorem firstL_len {x : Int} {ls : List (List Int)} {ts : List Stp} {q : Int} (h : firstE x ls ts q = 0) : (firstL x ls ts q).length ≤ ts.length := under_len (firstL_under h) (asc_nodup (firstL_asc h))

/-- the clause of First is one that Less takes -/
theorem less_takes {x : Int} {ls : List (List Int)} {ts : List Stp} (hT : Tr x ls ts) (hx : x ≤ 65536) {l : List Int} (hn : l.Nodup) (hu : Under ts ts.length l) : lessOk x ts l = true := by
  have hC := under_cons hT hx hu
  unfold lessOk unlB unlTo
  rw [Bool.and_eq_true]
  refine ⟨List.all_eq_true.2 fun k hk => ?_, dead_under.2 hu⟩
  rw [List.mem_range] at hk
  have hm := elt_mem hk
  unfold unl
  simp only [Bool.and_eq_true, Bool.not_eq_true', hasB_false]
  refine ⟨?_, fun hy => ?_, fun hy => hC.2 _ hm (List.mem_of_mem_take hy)⟩
  · have h1 := (plc_lt (hu _ hm)).1
    have h2 := isB_iff.1 (hT.lit _ (hu _ hm))
    rw [h1] at h2
    exact isB_iff.2 ⟨by omega, by omega, by omega⟩
  · have h1 : (l.take (k + 1)).Nodup := hn.sublist (List.take_sublist _ _)
    rw [take_snoc l k hk, List.nodup_append] at h1
    exact h1.2.2 _ hy _ (by simp) rfl
theorem firstL_takes {x : Int} {ls : List (List Int)} {ts : List Stp} {q : Int} (h : firstE x ls ts q = 0) : lessE x ls ts (firstL x ls ts q) = 0 := by
  have R := rd_of h
  unfold lessE
  rw [if_neg (by simpa using R.prop), if_neg (by rw [less_takes R.tr R.big (asc_nodup (firstL_asc h)) (firstL_under h)]; decide)]

theorem levAt_nn (ts : List Stp) (k : Nat) : 0 ≤ levAt ts k := by unfold levAt; omega

section
variable {x : Int} {ls : List (List Int)} {ts : List Stp} {bs : List Bool}
/-- a clause of the trail's reasons holds -/
theorem reason_holds (h : Tr x ls ts) (ha : ls.all (holdsT bs) = true) {k : Nat} (hk : k < ts.length) (hw : 0 ≤ (stp ts k).why) : ∃ z ∈ ell ls (stp ts k).why.toNat, litT bs z = true := by
  have := (h.why k hk).2
  exact holdsT_iff.1 (List.all_eq_true.1 ha _ (ell_mem (by omega)))
theorem reason_okl (h : Tr x ls ts) (hc : checkE x ls = 0) {k : Nat} (hk : k < ts.length) (hw : 0 ≤ (stp ts k).why) : Okl (ell ls (stp ts k).why.toNat) := by
  have := (h.why k hk).2
  exact checkE_lits hc _ (ell_mem (by omega))
theorem low_true (h : Tr x ls ts) (hc : checkE x ls = 0) (ha : ls.all (holdsT bs) = true) : ∀ k, k < ts.length → levAt ts k = 0 → litT bs (stp ts k).lit = true := by
  intro k
  induction k using Nat.strongRecOn with
  | _ k ih =>
    intro hk hl
    have hw : 0 ≤ (stp ts k).why := by
      rcases Int.lt_or_le (stp ts k).why 0 with h0 | h0
      · have h1 := (h.why k hk).1
        have h2 := levAt_yes hk (show (stp ts k).why = -1 by omega)
        omega
      · exact h0
    obtain ⟨z, hz, ht⟩ := reason_holds h ha hk hw
    by_cases e : z = (stp ts k).lit
    · rw [← e]; exact ht
    · obtain ⟨j, hj, e2⟩ := (h.reason k hk hw).2 z hz e
      have h3 := levAt_mono (ts := ts) (j := j) (k := k) (by omega)
      have h4 := levAt_nn ts j
      have h5 := ih j hj (by omega) (by omega)
      rw [e2, litT_neg (reason_okl h hc hk hw z hz), ht] at h5
      exact absurd h5 (by decide)
theorem step_holds (h : Tr x ls ts) (hc : checkE x ls = 0) (ha : ls.all (holdsT bs) = true) {S : List Int} {z : Int} (hz : z ∈ S) (hC : Okl S) (hi : plc ts (-z) < ts.length) (hw : 0 ≤ (stp ts (plc ts (-z))).why) (hS : holdsT bs S = true) : holdsT bs (stepU ls ts S z) = true := by
  obtain ⟨y, hy, ht⟩ := holdsT_iff.1 hS
  rw [holdsT_iff]
  unfold stepU
  by_cases e : y = z
  · subst e
    obtain ⟨u, hu, htu⟩ := reason_holds h ha hi hw
    refine ⟨u, ?_, htu⟩
    rw [mem_moreL]
    refine Or.inr ⟨hu, fun e => ?_⟩
    rw [e, litT_neg (hC y hy), ht] at htu
    exact absurd htu (by decide)
  · exact ⟨y, by rw [mem_moreL, mem_without]; exact Or.inl ⟨hy, e⟩, ht⟩
theorem uip_holds (h : Tr x ls ts) (hc : checkE x ls = 0) (ha : ls.all (holdsT bs) = true) : ∀ (f : Nat) (S : List Int), Under ts ts.length S → S.Nodup → 0 < hiN ts (lastT ts) S → holdsT bs S = true → holdsT bs (uipL ls ts (lastT ts) f S) = true
  | 0, S, _, _, _, hS => hS
  | f + 1, S, hu, hn, hi, hS => by
    rw [uipL]
    split
    · exact hS
    · rename_i hc2
      rw [latT_count] at hc2
      obtain ⟨h2, h3, h4, h5, h6, h7⟩ := ref_step h hu hn (by omega)
      obtain ⟨h8, _, _⟩ := latT_max (show 0 < hiN ts (lastT ts) S by omega)
      exact uip_holds h hc ha f _ (h4.mono (by omega)) h5 h6 (step_holds h hc ha h8 (under_cons h (checkE_n hc).2 hu).1 h2 h3 hS)
theorem first_holds {q : Int} (hE : firstE x ls ts q = 0) (ha : ls.all (holdsT bs) = true) : holdsT bs (firstL x ls ts q) = true := by
  have R := rd_of hE
  have h0 : holdsT bs (start ls q) = true := by
    have hm : ell ls q.toNat ∈ ls := ell_mem (by have := R.q1; have := R.q0; omega)
    obtain ⟨z, hz, ht⟩ := holdsT_iff.1 (List.all_eq_true.1 ha _ hm)
    refine holdsT_iff.2 ⟨z, ?_, ht⟩
    unfold start
    rw [mem_moreL]
    exact Or.inr ⟨hz, (checkE_lits R.chk _ hm z hz).1⟩
  obtain ⟨y, hy, ht⟩ := holdsT_iff.1 (uip_holds R.tr R.chk ha ts.length _ (start_under R.dead) (start_nodup _ _) R.hi h0)
  refine holdsT_iff.2 ⟨y, (mem_firstL hE).2 ⟨hy, ?_⟩, ht⟩
  have hp := R.under y hy
  rw [lvlT_of hp]
  rcases Int.lt_or_le 0 (levAt ts (plc ts (-y))) with h1 | h1
  · exact h1
  · have h2 := levAt_nn ts (plc ts (-y))
    have h3 := low_true R.tr R.chk ha _ hp (by omega)
    rw [(plc_lt hp).1, litT_neg ((under_cons R.tr R.big R.under).1 y hy), ht] at h3
    exact absurd h3 (by decide)

theorem red_true (h : Tr x ls ts) (hc : checkE x ls = 0) (ha : ls.all (holdsT bs) = true) (l : List Int) : ∀ k, k < ts.length → redB ls ts l k = true → litT bs (stp ts k).lit = false → ∃ z ∈ l, litT bs z = true ∧ plc ts (-z) < k := by
  intro k
  induction k using Nat.strongRecOn with
  | _ k ih =>
    intro hk hr hf
    rw [redB_eq h l hk, Bool.or_eq_true, Bool.and_eq_true] at hr
    rcases hr with hr | ⟨hw, hr⟩
    · have := low_true h hc ha k hk (of_decide_eq_true hr)
      rw [hf] at this; exact absurd this (by decide)
    · have hw := of_decide_eq_true hw
      obtain ⟨z, hz, ht⟩ := reason_holds h ha hk hw
      have hne : z ≠ (stp ts k).lit := fun e => by rw [e, hf] at ht; exact absurd ht (by decide)
      obtain ⟨j, hj, e2⟩ := (h.reason k hk hw).2 z hz hne
      have hp := h.plc (k := j) (by omega)
      have h1 := List.all_eq_true.1 hr z hz
      rw [Bool.or_eq_true, Bool.or_eq_true] at h1
      rcases h1 with h1 | h1 | h1
      · exact absurd (by simpa using h1) hne
      · exact ⟨z, hasB_iff.1 h1, ht, by rw [← e2, hp]; exact hj⟩
      · rw [← e2, hp] at h1
        obtain ⟨u, hu, htu, hlt⟩ := ih j hj (by omega) h1 (by rw [e2, litT_neg (reason_okl h hc hk hw z hz), ht]; rfl)
        exact ⟨u, hu, htu, by omega⟩
theorem less_holds (h : Tr x ls ts) (hc : checkE x ls = 0) (ha : ls.all (holdsT bs) = true) {l : List Int} (hu : Under ts ts.length l) : ∀ (k : Nat) (y : Int), plc ts (-y) = k → y ∈ l → litT bs y = true → holdsT bs (lessL ls ts l) = true := by
  intro k
  induction k using Nat.strongRecOn with
  | _ k ih =>
    intro y hk hy ht
    cases hb : keepB ls ts l y with
    | true =>
      refine holdsT_iff.2 ⟨y, ?_, ht⟩
      unfold lessL
      rw [mem_risL, List.mem_filter]
      exact ⟨hy, hb⟩
    | false =>
      unfold keepB at hb
      rw [Bool.or_eq_false_iff] at hb
      have hr : redB ls ts l (plc ts (-y)) = true := by simpa using hb.2
      have hp := hu y hy
      obtain ⟨z, hz, htz, hlt⟩ := red_true h hc ha l _ hp hr (by rw [(plc_lt hp).1, litT_neg ((under_cons h (checkE_n hc).2 hu).1 y hy), ht]; rfl)
      exact ih _ (by omega) z rfl hz htz
theorem both_hold {q : Int} (hE : firstE x ls ts q = 0) (ha : ls.all (holdsT bs) = true) : holdsT bs (lessR x ls ts (firstL x ls ts q)) = true := by
  have R := rd_of hE
  unfold lessR
  rw [if_pos (firstL_takes hE)]
  obtain ⟨y, hy, ht⟩ := holdsT_iff.1 (first_holds hE ha)
  exact less_holds R.tr R.chk ha (firstL_under hE) _ y rfl hy ht
end

end Go.Proofs.Ytenpenelikpeeaa

namespace Go.Proofs.Ytenpenelikpeeaa
set_option linter.unusedVariables false
set_option linter.unusedSimpArgs false

/-- the greatest level but one -/
def mostT (ts : List Stp) (n : Int) (l : List Int) : Int := l.foldl (fun m y => if lvlT ts y = n then m else max m (lvlT ts y)) 0
theorem mostT_snoc (ts : List Stp) (n : Int) (l : List Int) (y : Int) : mostT ts n (l ++ [y]) = if lvlT ts y = n then mostT ts n l else max (mostT ts n l) (lvlT ts y) := by unfold mostT; rw [List.foldl_append]; rfl
theorem mostT_spec (ts : List Stp) (n : Int) (l : List Int) : 0 ≤ mostT ts n l ∧ (∀ y ∈ l, lvlT ts y ≠ n → lvlT ts y ≤ mostT ts n l) ∧ (mostT ts n l = 0 ∨ ∃ y ∈ l, lvlT ts y ≠ n ∧ lvlT ts y = mostT ts n l) := by
  induction l using snoc_ind with
  | h0 => exact ⟨Int.le_refl _, fun y hy => (by cases hy), Or.inl rfl⟩
  | h1 l y ih =>
    obtain ⟨h1, h2, h3⟩ := ih
    rw [mostT_snoc]
    by_cases e : lvlT ts y = n
    · rw [if_pos e]
      refine ⟨h1, fun z hz hne => ?_, h3.imp id fun ⟨z, hz, h⟩ => ⟨z, by simp [hz], h⟩⟩
      rcases List.mem_append.1 hz with hz | hz
      · exact h2 z hz hne
      · rw [List.mem_singleton.1 hz] at hne; exact absurd e hne
    · rw [if_neg e]
      refine ⟨by omega, fun z hz hne => ?_, ?_⟩
      · rcases List.mem_append.1 hz with hz | hz
        · have := h2 z hz hne; omega
        · rw [List.mem_singleton.1 hz]; omega
      · by_cases hc : mostT ts n l ≤ lvlT ts y
        · exact Or.inr ⟨y, by simp, e, by omega⟩
        · rcases h3 with h3 | ⟨z, hz, h4, h5⟩
          · exact Or.inl (by omega)
          · exact Or.inr ⟨z, by simp [hz], h4, by omega⟩
theorem backL_spec (ts : List Stp) (x : Int) (l : List Int) : 0 ≤ backL ts x l ∧ (∀ y ∈ l, y ≠ x → lvlT ts y ≤ backL ts x l) ∧ (backL ts x l = 0 ∨ ∃ y ∈ l, y ≠ x ∧ lvlT ts y = backL ts x l) := by
  induction l using snoc_ind with
  | h0 => exact ⟨Int.le_refl _, fun y hy => (by cases hy), Or.inl rfl⟩
  | h1 l y ih =>
    obtain ⟨h1, h2, h3⟩ := ih
    unfold backL at *
    rw [backG_snoc]
    by_cases e : y = x
    · rw [if_pos e]
      refine ⟨h1, fun z hz hne => ?_, h3.imp id fun ⟨z, hz, h⟩ => ⟨z, by simp [hz], h⟩⟩
      rcases List.mem_append.1 hz with hz | hz
      · exact h2 z hz hne
      · rw [List.mem_singleton.1 hz] at hne; exact absurd e hne
    · rw [if_neg e]
      refine ⟨by omega, fun z hz hne => ?_, ?_⟩
      · rcases List.mem_append.1 hz with hz | hz
        · have := h2 z hz hne; omega
        · rw [List.mem_singleton.1 hz]; omega
      · by_cases hc : backG ts x 0 l ≤ lvlT ts y
        · exact Or.inr ⟨y, by simp, e, by omega⟩
        · rcases h3 with h3 | ⟨z, hz, h4, h5⟩
          · exact Or.inl (by omega)
          · exact Or.inr ⟨z, by simp [hz], h4, by omega⟩
theorem hi_cons (ts : List Stp) (n : Int) (y : Int) (l : List Int) : hiN ts n (y :: l) = hiN ts n l + (if lvlT ts y = n then 1 else 0) := by
  unfold hiN; rw [List.filter_cons]
  by_cases h : lvlT ts y = n <;> simp [h]
theorem hi_insV (ts : List Stp) (n : Int) (x : Int) : ∀ l : List Int, hiN ts n (insV x l) = hiN ts n l + (if lvlT ts x = n then 1 else 0)
  | [] => by rw [insV, hi_cons]
  | y :: l => by
    rw [insV]
    split
    · rw [hi_cons, hi_cons, hi_insV ts n x l]; omega
    · rw [hi_cons]
theorem hi_risL (ts : List Stp) (n : Int) (l : List Int) : hiN ts n (risL l) = hiN ts n l := by
  induction l using snoc_ind with
  | h0 => rfl
  | h1 l y ih => rw [risL_snoc, hi_insV, ih, hiN_snoc]
theorem hi_highs (ts : List Stp) {n : Int} (hn : 0 < n) (l : List Int) : hiN ts n (highs ts l) = hiN ts n l := by
  unfold hiN highs
  rw [List.filter_filter]
  congr 1
  refine List.filter_congr fun y _ => ?_
  by_cases h : lvlT ts y = n
  · simp [h, hn]
  · simp [h]
theorem hi_le (ts : List Stp) (n : Int) (l : List Int) : hiN ts n l ≤ l.length := List.length_filter_le _ _

theorem asserting {x : Int} {ls : List (List Int)} {ts : List Stp} {q : Int} (h : firstE x ls ts q = 0) :
    hiN ts (lastT ts) (firstL x ls ts q) = 1 ∧ mostT ts (lastT ts) (firstL x ls ts q) = firstB x ls ts q ∧ firstB x ls ts q < lastT ts ∧ 0 < ts.length ∧ ∀ y ∈ firstL x ls ts q, 0 < lvlT ts y := by
  have R := rd_of h
  have hL : 0 < lastT ts := by have := R.last; unfold lastT at this ⊢; omega
  have hb : firstB x ls ts q = backL ts (firstX ls ts q) (roadEnd ls ts q) := by unfold firstB; rw [if_pos h]
  have hone : hiN ts (lastT ts) (firstL x ls ts q) = 1 := by rw [firstL_rd h, hi_risL, hi_highs ts hL, R.one]
  obtain ⟨x1, x2, -⟩ := latT_max (show 0 < hiN ts (lastT ts) (roadEnd ls ts q) by rw [R.one]; omega)
  have hX : firstX ls ts q ∈ roadEnd ls ts q ∧ lvlT ts (firstX ls ts q) = lastT ts := ⟨x1, x2⟩
  have huniq : ∀ y ∈ roadEnd ls ts q, (y ≠ firstX ls ts q ↔ lvlT ts y ≠ lastT ts) := fun y hy => by
    constructor
    · intro hne he
      have h1 := without_hi (ts := ts) R.nodup hX.1 hX.2
      rw [R.one] at h1
      have h2 : 0 < hiN ts (lastT ts) (without (roadEnd ls ts q) (firstX ls ts q)) := hiN_pos.2 ⟨y, mem_without.2 ⟨hy, hne⟩, he⟩
      omega
    · intro hne he
      rw [he] at hne; exact hne hX.2
  obtain ⟨m1, m2, m3⟩ := mostT_spec ts (lastT ts) (firstL x ls ts q)
  obtain ⟨b1, b2, b3⟩ := backL_spec ts (firstX ls ts q) (roadEnd ls ts q)
  rw [← hb] at b1 b2 b3
  have hlt : firstB x ls ts q < lastT ts := by
    rcases b3 with b3 | ⟨y, hy, h1, h2⟩
    · omega
    · have h3 := lvl_le (R.under y hy)
      have h4 := (huniq y hy).1 h1
      omega
  refine ⟨hone, ?_, hlt, ?_, fun y hy => ((mem_firstL h).1 hy).2⟩
  · have h1 : mostT ts (lastT ts) (firstL x ls ts q) ≤ firstB x ls ts q := by
      rcases m3 with m3 | ⟨y, hy, h1, h2⟩
      · omega
      · have hy' := ((mem_firstL h).1 hy).1
        have := b2 y hy' ((huniq y hy').2 h1)
        omega
    have h2 : firstB x ls ts q ≤ mostT ts (lastT ts) (firstL x ls ts q) := by
      rcases b3 with b3 | ⟨y, hy, h1, h2⟩
      · omega
      · by_cases h3 : 0 < lvlT ts y
        · have := m2 y ((mem_firstL h).2 ⟨hy, h3⟩) ((huniq y hy).1 h1)
          omega
        · omega
    omega
  · have := cntD_le ts
    unfold lastT at hL
    omega

theorem asc_at {l : List Int} (h : AscV l) {j k : Nat} (hjk : j < k) (hk : k < l.length) : absI (elt l j) < absI (elt l k) := by
  rw [elt_lt (show j < l.length by omega), elt_lt hk]
  exact List.pairwise_iff_getElem.1 h j k (by omega) hk hjk

end Go.Proofs.Ytenpenelikpeeaa

namespace Go.Proofs.Ytenpenelikpeeaa
set_option linter.unusedVariables false
set_option linter.unusedSimpArgs false

theorem errors_bad {x : Int} {ls : List (List Int)} {ts : List Stp} {q : Int} (h : propE x ls ts ≠ 0 ∨ q < 0 ∨ (ls.length : Int) ≤ q) : firstE x ls ts q ≠ 0 := fun e => by
  have R := rd_of e
  have h1 := R.q0
  have h2 := R.q1
  rcases h with h | h | h
  · exact h R.prop
  · omega
  · omega
theorem errors_alive {x : Int} {ls : List (List Int)} {ts : List Stp} {q : Int} (h : propE x ls ts = 0) (hd : deadB ts (ell ls q.toNat) = false) : firstE x ls ts q = 1 := firstE_arg h (Or.inr (Or.inr hd))
theorem errors_dead {x : Int} {ls : List (List Int)} {ts : List Stp} {q : Int} (h : propE x ls ts = 0) (h0 : 0 ≤ q) (h1 : q < (ls.length : Int)) (hd : deadB ts (ell ls q.toNat) = true) : firstE x ls ts q = 0 ∨ firstE x ls ts q = 200 := by
  have h2 : ¬(q < 0 ∨ (ls.length : Int) ≤ q ∨ deadB ts (ell ls q.toNat) = false) := by
    rintro (h3 | h3 | h3)
    · omega
    · omega
    · rw [hd] at h3; cases h3
  by_cases h3 : lastT ts = 0 ∨ hiN ts (lastT ts) (start ls q) = 0
  · exact Or.inr (firstE_back h h2 h3)
  · exact Or.inl (firstE_ok h h2 h3)

theorem stp_left {a b : List Stp} {k : Nat} (h : k < a.length) : stp (a ++ b) k = stp a k := by
  rw [stp_lt h, stp_lt (by simp; omega), List.getElem_append_left h]
theorem plc_left {a b : List Stp} {y : Int} (h : plc a y < a.length) : plc (a ++ b) y = plc a y := by
  obtain ⟨h1, h2⟩ := plc_lt h
  refine plc_at (by simp; omega) (by rw [stp_left h]; exact h1) (fun j hj => ?_)
  rw [stp_left (by omega)]; exact h2 j hj
theorem levAt_left {a b : List Stp} {k : Nat} (h : k < a.length) : levAt (a ++ b) k = levAt a k := by
  unfold levAt; rw [List.take_append_of_le_length (by omega)]
theorem lvlT_left {a b : List Stp} {y : Int} (h : plc a (-y) < a.length) : lvlT (a ++ b) y = lvlT a y := by
  rw [lvlT_of h, lvlT_of (by rw [plc_left h]; simp; omega), plc_left h, levAt_left h]
theorem lastT_more (ts : List Stp) (y : Int) : lastT (ts ++ [⟨y, -1⟩]) = lastT ts + 1 := by
  unfold lastT; rw [cntD_snoc]; simp

theorem errors_more {x : Int} {ls : List (List Int)} {ts : List Stp} {q y : Int} (h0 : 0 ≤ q) (h1 : q < (ls.length : Int)) (hd : deadB ts (ell ls q.toNat) = true) (h : propE x ls (ts ++ [⟨y, -1⟩]) = 0) : firstE x ls (ts ++ [⟨y, -1⟩]) q = 200 := by
  have hu := dead_under.1 hd
  have hd' : deadB (ts ++ [⟨y, -1⟩]) (ell ls q.toNat) = true := dead_under.2 fun z hz => by
    have := hu z hz
    rw [plc_left this]; simp; omega
  refine firstE_back h ?_ (Or.inr ?_)
  · rintro (h3 | h3 | h3)
    · omega
    · omega
    · rw [hd'] at h3; cases h3
  · rcases Nat.eq_zero_or_pos (hiN (ts ++ [⟨y, -1⟩]) (lastT (ts ++ [⟨y, -1⟩])) (start ls q)) with e | e
    · exact e
    · obtain ⟨z, hz, hl⟩ := hiN_pos.1 e
      have hz2 : z ∈ ell ls q.toNat := by
        unfold start at hz
        rw [mem_moreL] at hz
        rcases hz with hz | hz
        · cases hz
        · exact hz.1
      have h3 := hu z hz2
      rw [lvlT_left h3, lastT_more] at hl
      have := lvl_le h3
      omega

/-- the law's own test of a clause -/
def dTo (ts : List Stp) (l : List Int) (k : Nat) : Bool := (l.take k).all fun y => decide (0 ≤ lvlT ts y)
theorem dTo_succ {ts : List Stp} {l : List Int} {k : Nat} (h : k < l.length) : dTo ts l (k + 1) = (dTo ts l k && decide (0 ≤ lvlT ts (elt l k))) := by
  unfold dTo; rw [take_snoc l k h, List.all_append]; simp
theorem lvlT_ge {ts : List Stp} {y : Int} : 0 ≤ lvlT ts y ↔ plc ts (-y) < ts.length := by
  constructor
  · intro h
    unfold lvlT at h
    split at h
    · assumption
    · omega
  · intro h
    rw [lvlT_of h]; exact levAt_nn ts _
theorem dTo_all (ts : List Stp) (l : List Int) : dTo ts l l.length = deadB ts l := by
  unfold dTo deadB
  rw [List.take_length, Bool.eq_iff_iff, List.all_eq_true, List.all_eq_true]
  refine forall_congr' fun y => imp_congr_right fun _ => ?_
  rw [decide_eq_true_iff, decide_eq_true_iff, lvlT_ge]

end Go.Proofs.Ytenpenelikpeeaa

namespace Go.Proofs.Ytenpenelikpeeaa
open Go.RowKit Go.Shelf
set_option linter.unusedVariables false
set_option linter.unusedSimpArgs false

theorem step_append_st {w wr : World} {ops : Array Oper} {o : Oper} {a : Act} {K : Act → World → Prop} {Q : Exit → Act → World → Prop} {E : Prop} (hgd : o.guard = none) (s x : Operand)
    (ho : o.op = .call { callee := .builtin .append, args := #[s, x], argTypes := #[25, 25] }) (hb : Below wr.heap.size wr w) (v : Value) (n : Nat) (xs : List Stp) (hs : a.eval s = v) (hown : w.ownsRow wr.heap.size 41 2 v n (flatS xs))
    (A : Option Addr) (m c : Nat) (zs : List Stp) (hx : a.eval x = .slice A m c) (hr : RS w A m c zs) (hbytes : (n + m) * 16 ≤ 140737488355328) (k : Nat) (hk : n + m = k) (ys : List Stp) (hy : xs ++ zs = ys)
    (h : ∀ A' c' w', w'.ownsRow wr.heap.size 41 2 (.slice A' k c') k (flatS ys) → Below wr.heap.size wr w' → K (a.put o.dst (.slice A' k c')) w') :
    if Region.wanted o (yielded ops a.tmps) = true then Oper.wp Try.prog o a w K Q else E := by
  have hw : Region.wanted o (yielded ops a.tmps) = true := by simp [Region.wanted, hgd]
  rw [if_pos hw]
  subst hk hy
  obtain ⟨v', w', h1, h2, h3⟩ := run_append_st w o.type wr.heap.size v n xs hown A m c zs hr hbytes hb.size
  unfold Oper.wp
  simp only [execOp, ho, resolve, invoke, builtin, Sem.run_bind, Sem.run_pure, Result.andThen_ok, List.map_toArray, List.map_cons, List.map_nil, hs, hx, h1]
  obtain ⟨A', c', rfl⟩ := own_form h2
  exact h A' c' w' h2 (hb.grown h3 hb.size (fun g hg => (own_lt hown hg).1))

/-- a slice of steps of the call's own -/
def FreshS (ts : List Stp) (n : Nat) (w : World) (e : Ending) (w' : World) : Prop :=
  ∃ A c, e = .returned (.slice A n c) ∧ RS w' A n c ts ∧ Below w.heap.size w w'

set_option maxHeartbeats 400000 in
theorem has26_any (A : Option Addr) (n c : Nat) (zs : List Int) (x : Int) (w : World) (h : RI w A n c zs) :
    Calls Try.prog 26 #[.slice A n c, .int .i64 x] w fun e w' => e = .returned (.bool (hasB zs x)) ∧ w = w' := by
  have hn := h.small
  have H := Lib.hid h
  clear h
  go_enter Try.func26, Try.ntmps26
  go_wp2
  go_loop [5] (fun i => ∃ k : Nat, k ≤ n ∧ i = .int .i64 k ∧ hasB (zs.take k) x = false) (fun i => n - (intOf i).toNat)
  case atStart => exact ⟨0, Nat.zero_le _, rfl, rfl⟩
  case round =>
    obtain ⟨k, hk, rfl, hno⟩ := hrel
    have HN := Lib.hid hno
    clear hno
    by_cases hlt : k < n
    · have hl : k < zs.length := by rw [H.out.len]; exact hlt
      obtain ⟨b, off, rfl, hb, hc⟩ := H.out.cells (by omega)
      have hck := hc k hlt
      have E := Lib.hid (take_snoc zs k hl)
      have EM := Lib.hid (elt_mem hl)
      clear hc hl
      generalize elt zs k = y at *
      by_cases hy : y = x
      · have hyb : (y == x) = true := by simpa using hy
        have R : Hid (hasB zs x = true) := Lib.hid (hasB_iff.2 (by rw [← hy]; exact EM.out))
        clear hy
        go_wp2
        go_ret
        exact ⟨ret_bool R.out.symm, rfl⟩
      · have hyb : (y == x) = false := by simpa using hy
        have R : Hid (hasB (zs.take (k + 1)) x = false) := Lib.hid (by rw [hasB_false, E.out, List.mem_append, List.mem_singleton]; rintro (h1 | h1); exact hasB_false.1 HN.out h1; exact hy h1.symm)
        clear hy
        go_wp2
        go_round
        case rel => exact ⟨k + 1, by omega, by go_num, R.out⟩
        case measure => simp [intOf]; omega
    · have R : Hid (hasB zs x = false) := Lib.hid (by rw [← HN.out, List.take_of_length_le (by rw [H.out.len]; omega)])
      go_wp2
      go_ret
      exact ⟨ret_bool R.out.symm, rfl⟩

def flipT (ts : List Stp) : List Stp := ts.map fun s => ⟨-s.lit, s.why⟩
theorem flipT_succ {ts : List Stp} {k : Nat} (h : k < ts.length) : flipT (ts.take (k + 1)) = flipT (ts.take k) ++ [⟨-(stp ts k).lit, (stp ts k).why⟩] := by
  unfold flipT; rw [takes_snoc ts k h, List.map_append]; rfl

set_option maxRecDepth 100000 in
set_option maxHeartbeats 1000000 in
theorem flip_any (A : Option Addr) (n c : Nat) (ts : List Stp) (w : World) (h : RS w A n c ts) (hn : n ≤ 100000) (hb : ∀ s ∈ ts, -65536 ≤ s.lit ∧ s.lit ≤ 65536) :
    Calls Try.prog 29 #[.slice A n c] w (FreshS (flipT ts) n w) := by
  have H := Lib.hid h
  have HL := Lib.hid hb
  have HB1 := Lib.hid (below1 w (.cells #[] 41))
  have ho0 := Lib.hid (own_emptyS w w.heap.size w.heap.size rfl (Nat.le_refl _))
  clear h hb
  go_enter Try.func29, Try.ntmps29
  go_wp2
  go_loopw [3, 4] (fun s3 s4 W => ∃ (k : Nat) (O : Option Addr) (co : Nat), k ≤ n ∧ s4 = .int .i64 k ∧ s3 = .slice O k co ∧ W.ownsRow w.heap.size 41 2 (.slice O k co) k (flatS (flipT (ts.take k))) ∧ Below w.heap.size w W) (fun _ i _ => n - (intOf i).toNat)
  case atStart => exact ⟨0, _, 0, Nat.zero_le _, rfl, rfl, ho0.out, HB1.out⟩
  case round =>
    obtain ⟨k, O, co, hk, rfl, rfl, hown, hbW⟩ := hrel
    obtain ⟨W6, hW6, eW⟩ : ∃ W6, (Below w.heap.size w W6 ∧ W6.ownsRow w.heap.size 41 2 (.slice O k co) k (flatS (flipT (ts.take k)))) ∧ W6 = _ := ⟨_, ⟨hbW, hown⟩, rfl⟩
    subst eW
    have HO := Lib.hid hW6.2
    have HB := Lib.hid hW6.1
    clear hW6 hown hbW
    by_cases hlt : k < n
    · have hl : k < ts.length := by rw [H.out.len]; exact hlt
      obtain ⟨o2, o3⟩ := HL.out _ (stp_mem hl)
      obtain ⟨b, off, rfl, hbl, hc⟩ := (H.out.below HB.out).cells (by omega)
      obtain ⟨hc0, hc1⟩ := hc k hlt
      have E1 := Lib.hid (flipT_succ hl)
      clear hc hl
      generalize (stp ts k).why = y at *
      generalize (stp ts k).lit = x at *
      have hneg2 : IntKind.i64.wrap (-x) = -x := IntWalk.i64_in _ (by omega)
      have d1 : W6.drew.cell? ⟨b, off + k * 2, none⟩ = some (.int .i64 x) := hc0
      have d2 : W6.drew.cell? ⟨b, off + k * 2 + 1, none⟩ = some (.int .i64 y) := hc1
      have HD := Lib.hid (show W6.drew.ownsRow w.heap.size 41 2 (.slice O k co) k (flatS (flipT (ts.take k))) from HO.out)
      go_upto_region 5 with fail
      go_region_law (refine step_append_st (wr := w) rfl (.tmp 12) (.tmp 25) rfl ((HB.out.drew).alloc HB.out.size _) (.slice O k co) k (flipT (ts.take k)) rfl (HD.out.alloc _) (some ⟨W6.heap.size, 0, none⟩) 1 1 [⟨-x, y⟩] rfl (by first | exact RS.lit W6.drew [⟨-x, y⟩] 1 _ rfl rfl (by omega) | (rw [hneg2]; exact RS.lit W6.drew [⟨-x, y⟩] 1 _ rfl rfl (by omega))) (by omega) (k + 1) rfl _ E1.out.symm ?_; intro A9 c9 w9 ho9 hb9; have HO9 := Lib.hid ho9; have HB9 := Lib.hid hb9; clear ho9 hb9)
      all_goals go_wp2
      all_goals
        go_roundw
        case rel => exact ⟨k + 1, A9, c9, by omega, by go_num, rfl, HO9.out, HB9.out⟩
        case measure => simp [intOf]; omega
    · obtain rfl : k = n := by omega
      have E1 : Hid (ts.take k = ts) := Lib.hid (List.take_of_length_le (by rw [H.out.len]; omega))
      go_wp2
      go_ret
      exact ⟨O, co, rfl, by have := RS.of_own HO.out (by omega); rw [E1.out] at this; exact this, HB.out⟩

def backT (ts : List Stp) (b : Int) (k : Nat) : List Stp := ((List.range k).filter fun i => decide (levAt ts i ≤ b)).map (stp ts)
theorem backT_succ (ts : List Stp) (b : Int) (k : Nat) : backT ts b (k + 1) = if levAt ts k ≤ b then backT ts b k ++ [stp ts k] else backT ts b k := by
  unfold backT
  rw [List.range_succ, List.filter_append, List.map_append]
  by_cases h : levAt ts k ≤ b <;> simp [h]
theorem backT_len (ts : List Stp) (b : Int) (k : Nat) : (backT ts b k).length ≤ k := by
  unfold backT; rw [List.length_map]; exact Nat.le_trans (List.length_filter_le _ _) (by simp)

set_option maxRecDepth 100000 in
set_option maxHeartbeats 1000000 in
theorem back_any (bn : Nat) (A : Option Addr) (n c : Nat) (ts : List Stp) (bk : Int) (w : World) (h : RS w A n c ts) (hn : n ≤ 100000) (hbn : (backT ts bk n).length = bn) :
    Calls Try.prog 28 #[.slice A n c, .int .i64 bk] w (FreshS (backT ts bk n) bn w) := by
  have H := Lib.hid h
  have HBN := Lib.hid hbn
  clear h hbn
  go_enter Try.func28, Try.ntmps28
  go_upto_region 3 with (go_at_call 18; refine (levels_any A n c ts _ H.out (by omega)).mono ?_; rintro e w5 ⟨A5, c5, rfl, hr5, hb5⟩; have HB5 := Lib.hid hb5; have HV5 := Lib.hid hr5; clear hr5 hb5)
  go_wp2
  go_loopw [5, 11] (fun s5 s11 W => ∃ (k m : Nat) (O : Option Addr) (co : Nat), k ≤ n ∧ s11 = .int .i64 k ∧ s5 = .slice O m co ∧ (backT ts bk k).length = m ∧ W.ownsRow w5.heap.size 41 2 (.slice O m co) m (flatS (backT ts bk k)) ∧ Below w5.heap.size w5 W) (fun _ i _ => n - (intOf i).toNat)
  case atStart => exact ⟨0, 0, none, 0, Nat.zero_le _, rfl, rfl, rfl, World.ownsRow_nil _ _ _ _, Below.refl _ _⟩
  case round =>
    obtain ⟨k, m, O, co, hk, rfl, rfl, hm, hown, hbW⟩ := hrel
    obtain ⟨W6, hW6, eW⟩ : ∃ W6, (Below w5.heap.size w5 W6 ∧ W6.ownsRow w5.heap.size 41 2 (.slice O m co) m (flatS (backT ts bk k))) ∧ W6 = _ := ⟨_, ⟨hbW, hown⟩, rfl⟩
    subst eW
    have HO := Lib.hid hW6.2
    have HB := Lib.hid hW6.1
    have hmk : m ≤ k := by rw [← hm]; exact backT_len _ _ _
    have HM := Lib.hid hm
    clear hW6 hown hbW hm
    by_cases hlt : k < n
    · have hl : k < ts.length := by rw [H.out.len]; exact hlt
      obtain ⟨b, off, rfl, hbl, hc⟩ := ((H.out.below HB5.out).below HB.out).cells (by omega)
      obtain ⟨hc0, hc1⟩ := hc k hlt
      obtain ⟨b2, off2, rfl, hbl2, hc2⟩ := (HV5.out.below HB.out).cells (by omega)
      have hck := hc2 k hlt
      rw [levL_at hl] at hck
      have E1 := Lib.hid (backT_succ ts bk k)
      clear hc hc2 hl
      obtain ⟨s, hs⟩ : ∃ s, stp ts k = s := ⟨_, rfl⟩
      rw [hs] at hc0 hc1 E1
      generalize levAt ts k = v at *
      by_cases hv : v ≤ bk
      · have dv : decide (v ≤ bk) = true := decide_eq_true hv
        have E2 : Hid (backT ts bk (k + 1) = backT ts bk k ++ [s]) := Lib.hid (by rw [E1.out, if_pos hv])
        obtain ⟨x, y⟩ := s
        clear hv E1 hs
        go_wp2_with (at_builtin; refine wpList_append_st (wr := w5) rfl (.tmp 19) (.tmp 24) rfl (HB.out.alloc HB.out.size _) (.slice O m co) m (backT ts bk k) rfl (HO.out.alloc _) (some ⟨W6.heap.size, 0, none⟩) 1 1 [⟨x, y⟩] rfl (RS.lit W6 [⟨x, y⟩] 1 _ rfl rfl (by omega)) (by omega) (m + 1) rfl _ E2.out.symm ?_; intro A9 c9 w9 ho9 hb9; have HO9 := Lib.hid ho9; have HB9 := Lib.hid hb9; clear ho9 hb9)
        go_roundw
        case rel => exact ⟨k + 1, m + 1, A9, c9, by omega, by go_num, rfl, by rw [E2.out, List.length_append, HM.out]; rfl, HO9.out, HB9.out⟩
        case measure => simp [intOf]; omega
      · have dv : decide (v ≤ bk) = false := decide_eq_false hv
        have E2 : Hid (backT ts bk (k + 1) = backT ts bk k) := Lib.hid (by rw [E1.out, if_neg hv])
        clear hv E1 hs
        go_wp2
        go_roundw
        case rel => exact ⟨k + 1, m, O, co, by omega, by go_num, rfl, by rw [E2.out]; exact HM.out, by rw [E2.out]; exact HO.out, HB.out⟩
        case measure => simp [intOf]; omega
    · obtain rfl : k = n := by omega
      obtain rfl : bn = m := by rw [← HBN.out]; exact HM.out
      go_wp2
      go_ret
      exact ⟨O, co, rfl, RS.of_own HO.out (by omega), HB5.out.trans (HB.out.mono HB5.out.size)⟩

end Go.Proofs.Ytenpenelikpeeaa

namespace Go.Proofs.Ytenpenelikpeeaa
open Go.RowKit Go.Shelf
set_option linter.unusedVariables false
set_option linter.unusedSimpArgs false

/-- the engine's block -/
def BoxE (w : World) (G bt : Nat) (A : Option Addr) (n c : Nat) (bw : Nat) (O : Option Addr) (no co : Nat) (hd : Int) : Prop :=
  w.heap[G]? = some (.cells #[.map (some bt), .slice A n c, .map (some bw), .slice O no co, .int .i64 hd] 89 (0, 0))
section
variable {w w' : World} {G bt : Nat} {A : Option Addr} {n c bw : Nat} {O : Option Addr} {no co : Nat} {hd : Int}
theorem BoxE.c0 (h : BoxE w G bt A n c bw O no co hd) : w.cell? ⟨G, 0, none⟩ = some (.map (some bt)) := by simp [World.cell?, show w.heap[G]? = _ from h]
theorem BoxE.c1 (h : BoxE w G bt A n c bw O no co hd) : w.cell? ⟨G, 1, none⟩ = some (.slice A n c) := by simp [World.cell?, show w.heap[G]? = _ from h]
theorem BoxE.c2 (h : BoxE w G bt A n c bw O no co hd) : w.cell? ⟨G, 2, none⟩ = some (.map (some bw)) := by simp [World.cell?, show w.heap[G]? = _ from h]
theorem BoxE.c3 (h : BoxE w G bt A n c bw O no co hd) : w.cell? ⟨G, 3, none⟩ = some (.slice O no co) := by simp [World.cell?, show w.heap[G]? = _ from h]
theorem BoxE.c4 (h : BoxE w G bt A n c bw O no co hd) : w.cell? ⟨G, 4, none⟩ = some (.int .i64 hd) := by simp [World.cell?, show w.heap[G]? = _ from h]
theorem BoxE.f (h : BoxE w G bt A n c bw O no co hd) (k : Nat) : w.frozen? ⟨G, k, none⟩ = false := by simp [World.frozen?, show w.heap[G]? = _ from h]
theorem BoxE.lt (h : BoxE w G bt A n c bw O no co hd) : G < w.heap.size := (Array.getElem?_eq_some_iff.1 h).1
theorem BoxE.below (h : BoxE w G bt A n c bw O no co hd) (hb : Below w.heap.size w w') : BoxE w' G bt A n c bw O no co hd := (hb.block G h.lt).trans h
end

/-- the distinct literals that are not false, two at most -/
def opnS (S op : List Int) (y : Int) : List Int := if (!(hasB S (-y)) && (decide (op.length < 2) && !(hasB op y))) = true then op ++ [y] else op
def opnT (S l : List Int) : List Int := l.foldl (opnS S) []
theorem opnT_snoc (S l : List Int) (y : Int) : opnT S (l ++ [y]) = opnS S (opnT S l) y := by unfold opnT; rw [List.foldl_append]; rfl
theorem opnT_len (S l : List Int) : (opnT S l).length ≤ 2 := by
  induction l using snoc_ind with
  | h0 => simp [opnT]
  | h1 l y ih =>
    rw [opnT_snoc]; unfold opnS
    split
    · rename_i h
      simp only [Bool.and_eq_true, decide_eq_true_eq] at h
      simp; omega
    · exact ih
theorem opnS_no1 {S op : List Int} {y : Int} (h : hasB S (-y) = true) : opnS S op y = op := by unfold opnS; simp [h]
theorem opnS_no2 {S op : List Int} {y : Int} (h : ¬ op.length < 2) : opnS S op y = op := by unfold opnS; simp [h]
theorem opnS_no3 {S op : List Int} {y : Int} (h : hasB op y = true) : opnS S op y = op := by unfold opnS; simp [h]
theorem opnS_yes {S op : List Int} {y : Int} (h1 : hasB S (-y) = false) (h2 : op.length < 2) (h3 : hasB op y = false) : opnS S op y = op ++ [y] := by unfold opnS; simp [h1, h2, h3]

/-- what look hands back -/
def LookP (S l : List Int) (w : World) (e : Ending) (w' : World) : Prop :=
  ∃ (A : Option Addr) (n c : Nat), e = .returned (.tuple #[.slice A n c, .bool (l.any (hasB S))]) ∧ (l.any (hasB S) = false → (opnT S l).length = n ∧ RI w' A n c (opnT S l) ∧ ∀ b off, A = some ⟨b, off, none⟩ → w.heap.size ≤ b) ∧ Below w.heap.size w w'
theorem LookP.yes {S l : List Int} {w w' : World} {A : Option Addr} {n c : Nat} (h : l.any (hasB S) = true) (hb : Below w.heap.size w w') : LookP S l w (.returned (.tuple #[.slice A n c, .bool true])) w' :=
  ⟨A, n, c, by rw [h], fun h2 => (by rw [h] at h2; cases h2), hb⟩
theorem LookP.no {S l : List Int} {w w' : World} {A : Option Addr} {n c : Nat} (h : l.any (hasB S) = false) (h1 : (opnT S l).length = n) (h2 : RI w' A n c (opnT S l)) (h3 : ∀ b off, A = some ⟨b, off, none⟩ → w.heap.size ≤ b) (hb : Below w.heap.size w w') : LookP S l w (.returned (.tuple #[.slice A n c, .bool false])) w' :=
  ⟨A, n, c, by rw [h], fun _ => ⟨h1, h2, h3⟩, hb⟩

set_option maxRecDepth 100000 in
set_option maxHeartbeats 2000000 in
theorem look_any (G bt : Nat) (A : Option Addr) (n c bw : Nat) (O : Option Addr) (no co : Nat) (hd : Int) (ls : List (List Int)) (nt : Nat) (S : List Int) (i : Nat) (w : World)
    (hbx : BoxE w G bt A n c bw O no co hd) (h : RL w A n c ls) (hs : SetM w bt nt S) (hi : i < n) (hok : Okl (ell ls i)) :
    Calls Try.prog 81 #[.pointer (some ⟨G, 0, none⟩), .int .i64 i] w (LookP S (ell ls i) w) := by
  obtain ⟨i0, hii, hz0, hz1, hz2⟩ := info_parts infoInt
  obtain ⟨zl, hzl⟩ : ∃ zl, ell ls i = zl := ⟨_, rfl⟩
  rw [hzl] at hok ⊢
  obtain ⟨b, off, rfl, hbl, hcl⟩ := h.cells (by omega)
  obtain ⟨A1, m, c1, hcj, hr1⟩ := hcl i hi
  rw [hzl] at hr1
  have hm := hr1.small
  have HM := Lib.hid hr1.len
  have OK := Lib.hid hok
  have HR1 := Lib.hid hr1
  have BX := Lib.hid hbx
  have HS := Lib.hid hs
  have hbt := hs.lt
  have g0 := hbx.c0
  have g1 := hbx.c1
  clear hbx h hs hok hcl hr1 hzl
  go_enter Try.func81, Try.ntmps81
  go_wp2
  clear g0 g1 hcj
  go_loopw [4, 16] (fun s4 s16 W => ∃ (k K : Nat) (O : Option Addr) (co : Nat), k ≤ m ∧ s16 = .int .i64 k ∧ s4 = .slice O K co ∧ (opnT S (zl.take k)).length = K ∧ (zl.take k).any (hasB S) = false ∧ W.ownsRow w.heap.size 3 1 (.slice O K co) K ((opnT S (zl.take k)).map (Value.int .i64)) ∧ Below w.heap.size w W) (fun _ i _ => m - (intOf i).toNat)
  case atStart => exact ⟨0, 0, none, 0, Nat.zero_le _, rfl, rfl, rfl, rfl, World.ownsRow_nil _ _ _ _, Below.refl _ _⟩
  case round =>
    obtain ⟨k, K, O, co, hk, rfl, rfl, hK, hno, hown, hbW⟩ := hrel
    obtain ⟨W6, hW6, eW⟩ : ∃ W6, (Below w.heap.size w W6 ∧ W6.ownsRow w.heap.size 3 1 (.slice O K co) K ((opnT S (zl.take k)).map (Value.int .i64))) ∧ W6 = _ := ⟨_, ⟨hbW, hown⟩, rfl⟩
    subst eW
    have hK2 : K ≤ 2 := by rw [← hK]; exact opnT_len _ _
    have HO := Lib.hid hW6.2
    have HB := Lib.hid hW6.1
    have HK := Lib.hid hK
    have HN := Lib.hid hno
    have hsz := hW6.1.size
    clear hW6 hown hbW hK hno
    have BX6 := Lib.hid (BX.out.below HB.out)
    have HS6 := Lib.hid (MF.below HS.out HB.out hbt)
    have g0 := BX6.out.c0
    by_cases hlt : k < m
    · have hl : k < zl.length := by rw [HM.out]; exact hlt
      obtain ⟨b1, off1, rfl, hb1, hc1⟩ := (HR1.out.below HB.out).cells (by omega)
      have hck := hc1 k hlt
      have E1 := Lib.hid (show opnT S (zl.take (k + 1)) = opnS S (opnT S (zl.take k)) (elt zl k) by rw [take_snoc zl k hl, opnT_snoc])
      have E2 := Lib.hid (show (zl.take (k + 1)).any (hasB S) = ((zl.take k).any (hasB S) || hasB S (elt zl k)) by rw [take_snoc zl k hl, List.any_append]; simp)
      have EM := Lib.hid (elt_mem hl)
      obtain ⟨o1, o2, o3⟩ := OK.out _ (elt_mem hl)
      clear hc1 hl
      generalize elt zl k = y at *
      have hneg := lit_neg' o2 o3
      have l1 := SetM.look HS6.out Try.underlying81 (wfI_lit o2 o3)
      have l2 := SetM.look HS6.out Try.underlying81 (x := -y) (wfI_lit (by omega) (by omega))
      cases h1 : hasB S y with
      | true =>
        have R := Lib.hid (show zl.any (hasB S) = true from List.any_eq_true.2 ⟨y, EM.out, h1⟩)
        rw [h1] at l1
        clear l2 h1
        go_wp2
        go_ret2
        exact LookP.yes R.out (HB.out.trans ((below1 W6 _).mono HB.out.size))
      | false =>
        rw [h1] at l1
        have E3 := Lib.hid (show (zl.take (k + 1)).any (hasB S) = false by rw [E2.out, HN.out, h1]; rfl)
        clear h1
        cases h2 : hasB S (-y) with
        | true =>
          rw [h2] at l2
          have E4 := Lib.hid (show opnT S (zl.take (k + 1)) = opnT S (zl.take k) by rw [E1.out, opnS_no1 h2])
          clear h2
          go_wp2
          go_roundw
          case rel => exact ⟨k + 1, K, O, co, by omega, by go_num, rfl, by rw [E4.out]; exact HK.out, E3.out, by rw [E4.out]; exact HO.out, HB.out⟩
          case measure => simp [intOf]; omega
        | false =>
          rw [h2] at l2
          by_cases hK3 : K < 2
          · have dK : decide ((K : Int) < 2) = true := by rw [decide_eq_true_iff]; omega
            have HRK := Lib.hid (RI.of_own HO.out (by omega))
            cases h3 : hasB (opnT S (zl.take k)) y with
            | true =>
              have E4 := Lib.hid (show opnT S (zl.take (k + 1)) = opnT S (zl.take k) by rw [E1.out, opnS_no3 h3])
              have H3 := Lib.hid h3
              clear h2 h3
              go_wp2_with (go_at_call 55; refine (contains_val true O K co _ y _ HRK.out H3.out).mono ?_; rintro e w7 ⟨rfl, rfl⟩)
              go_roundw
              case rel => exact ⟨k + 1, K, O, co, by omega, by go_num, rfl, by rw [E4.out]; exact HK.out, E3.out, by rw [E4.out]; exact HO.out, HB.out⟩
              case measure => simp [intOf]; omega
            | false =>
              have E4 := Lib.hid (show opnT S (zl.take (k + 1)) = opnT S (zl.take k) ++ [y] by rw [E1.out, opnS_yes h2 (by rw [HK.out]; exact hK3) h3])
              have H3 := Lib.hid h3
              clear h2 h3
              go_wp2_with (first
                | (go_at_call 55; refine (contains_val false O K co _ y _ HRK.out H3.out).mono ?_; rintro e w7 ⟨rfl, rfl⟩)
                | (at_builtin; refine wpList_append_to (wr := w) rfl (.tmp 49) (.tmp 51) rfl (HB.out.alloc HB.out.size _) (.slice O K co) K (opnT S (zl.take k)) rfl (HO.out.alloc _) (some ⟨W6.heap.size, 0, none⟩) 1 1 [y] rfl (RI.lit W6 [y] 1 _ rfl rfl (by omega)) (by omega) (K + 1) rfl _ E4.out.symm ?_; intro A9 c9 w9 ho9 hb9; have HO9 := Lib.hid ho9; have HB9 := Lib.hid hb9; clear ho9 hb9))
              go_roundw
              case rel => exact ⟨k + 1, K + 1, A9, c9, by omega, by go_num, rfl, by rw [E4.out, List.length_append, HK.out]; rfl, E3.out, HO9.out, HB9.out⟩
              case measure => simp [intOf]; omega
          · have dK : decide ((K : Int) < 2) = false := by rw [decide_eq_false_iff_not]; omega
            have E4 := Lib.hid (show opnT S (zl.take (k + 1)) = opnT S (zl.take k) by rw [E1.out, opnS_no2 (by rw [HK.out]; exact hK3)])
            clear h2
            go_wp2
            go_roundw
            case rel => exact ⟨k + 1, K, O, co, by omega, by go_num, rfl, by rw [E4.out]; exact HK.out, E3.out, by rw [E4.out]; exact HO.out, HB.out⟩
            case measure => simp [intOf]; omega
    · obtain rfl : k = m := by omega
      have E : Hid (zl.take k = zl) := Lib.hid (List.take_of_length_le (by rw [HM.out]; omega))
      go_wp2
      go_ret2
      exact LookP.no (by rw [← E.out]; exact HN.out) (by rw [← E.out]; exact HK.out) (by have := RI.of_own HO.out (by omega); rw [E.out] at this; exact this) (fun b off e => (own_lt HO.out (g := b) (by rw [e]; rfl)).1) HB.out

end Go.Proofs.Ytenpenelikpeeaa
