/-
  The derivation of the first-UIP clause in plain words. No program in sight. No condition.
  The reference functions more, without, last of layer 20. No condition.
  The reference function latest of layer 20. No condition.
-/
import Derived.Test.YtenpenelikpeeaaZC6

namespace Go.Proofs.Ytenpenelikpeeaa
set_option linter.unusedVariables false
set_option linter.unusedSimpArgs false

/-- l, and the elements of m that are not in it, except one -/
def moreL (l : List Int) (but : Int) : List Int → List Int
  | [] => l
  | y :: m => if (y == but || hasB l y) = true then moreL l but m else moreL (l ++ [y]) but m
theorem moreL_snoc : ∀ (m : List Int) (l : List Int) (but y : Int), moreL l but (m ++ [y]) = if (y == but || hasB (moreL l but m) y) = true then moreL l but m else moreL l but m ++ [y]
  | [], l, but, y => by
    have e : moreL l but [] = l := rfl
    have e2 : moreL (l ++ [y]) but [] = l ++ [y] := rfl
    rw [List.nil_append, moreL, moreL, e, e2]
  | z :: m, l, but, y => by
    rw [List.cons_append, moreL, moreL]
    split
    · exact moreL_snoc m l but y
    · exact moreL_snoc m (l ++ [z]) but y
theorem mem_moreL : ∀ (m : List Int) (l : List Int) (but x : Int), x ∈ moreL l but m ↔ x ∈ l ∨ (x ∈ m ∧ x ≠ but)
  | [], l, but, x => by simp [moreL]
  | y :: m, l, but, x => by
    rw [moreL]
    split
    · rename_i h
      rw [mem_moreL m l but x]
      rw [Bool.or_eq_true, beq_iff_eq, hasB_iff] at h
      constructor
      · rintro (h1 | ⟨h1, h2⟩)
        · exact Or.inl h1
        · exact Or.inr ⟨by simp [h1], h2⟩
      · rintro (h1 | ⟨h1, h2⟩)
        · exact Or.inl h1
        · rcases List.mem_cons.1 h1 with e | e
          · subst e
            rcases h with h | h
            · exact absurd h h2
            · exact Or.inl h
          · exact Or.inr ⟨e, h2⟩
    · rename_i h
      rw [mem_moreL m (l ++ [y]) but x]
      have hy : y ≠ but := fun e => h (by simp [e])
      simp only [List.mem_append, List.mem_cons, List.not_mem_nil, or_false]
      constructor
      · rintro ((h1 | h1) | ⟨h1, h2⟩)
        · exact Or.inl h1
        · exact Or.inr ⟨Or.inl h1, by rw [h1]; exact hy⟩
        · exact Or.inr ⟨Or.inr h1, h2⟩
      · rintro (h1 | ⟨h1 | h1, h2⟩)
        · exact Or.inl (Or.inl h1)
        · exact Or.inl (Or.inr h1)
        · exact Or.inr ⟨h1, h2⟩
theorem moreL_nodup : ∀ (m : List Int) (l : List Int) (but : Int), l.Nodup → (moreL l but m).Nodup
  | [], l, but, h => h
  | y :: m, l, but, h => by
    rw [moreL]
    split
    · exact moreL_nodup m l but h
    · rename_i h1
      refine moreL_nodup m (l ++ [y]) but ?_
      rw [List.nodup_append]
      refine ⟨h, by simp, fun a ha b hb e => h1 ?_⟩
      rw [List.mem_singleton.1 hb] at e
      rw [e] at ha
      rw [hasB_iff.2 ha]; simp
theorem moreL_len : ∀ (m : List Int) (l : List Int) (but : Int), (moreL l but m).length ≤ l.length + m.length
  | [], l, but => by simp [moreL]
  | y :: m, l, but => by
    rw [moreL]
    split
    · have := moreL_len m l but; simp; omega
    · have := moreL_len m (l ++ [y]) but; simp at this ⊢; omega

/-- how many literals are at a level -/
def hiN (ts : List Stp) (n : Int) (S : List Int) : Nat := (S.filter fun y => lvlT ts y == n).length
theorem hiN_snoc (ts : List Stp) (n : Int) (S : List Int) (y : Int) : hiN ts n (S ++ [y]) = hiN ts n S + (if lvlT ts y = n then 1 else 0) := by
  unfold hiN; rw [List.filter_append, List.length_append]
  by_cases h : lvlT ts y = n <;> simp [h]
theorem hiN_pos {ts : List Stp} {n : Int} {S : List Int} : 0 < hiN ts n S ↔ ∃ y ∈ S, lvlT ts y = n := by
  unfold hiN
  rw [List.length_pos_iff_exists_mem]
  constructor
  · rintro ⟨y, hy⟩
    rw [List.mem_filter] at hy
    exact ⟨y, hy.1, by simpa using hy.2⟩
  · rintro ⟨y, hy, h⟩
    exact ⟨y, List.mem_filter.2 ⟨hy, by simpa using h⟩⟩

/-- one literal struck -/
def without (S : List Int) (x : Int) : List Int := S.filter fun y => y != x
theorem mem_without {S : List Int} {x y : Int} : y ∈ without S x ↔ y ∈ S ∧ y ≠ x := by unfold without; simp
theorem without_nodup {S : List Int} {x : Int} (h : S.Nodup) : (without S x).Nodup := h.sublist (List.filter_sublist)
theorem without_hi {ts : List Stp} {n : Int} : ∀ {S : List Int} {x : Int}, S.Nodup → x ∈ S → lvlT ts x = n → hiN ts n (without S x) + 1 = hiN ts n S
  | [], x, _, h, _ => by cases h
  | y :: S, x, hn, h, e => by
    have hn' := List.nodup_cons.1 hn
    unfold without hiN
    rw [List.filter_cons]
    rcases List.mem_cons.1 h with h1 | h1
    · subst h1
      have e1 : (S.filter fun z => z != x) = S := List.filter_eq_self.2 fun z hz => by
        have : z ≠ x := fun e2 => hn'.1 (e2 ▸ hz)
        simpa using this
      simp [e1, e]
    · have hyx : y ≠ x := fun e2 => hn'.1 (e2 ▸ h1)
      have ih := without_hi (ts := ts) (n := n) hn'.2 h1 e
      unfold without hiN at ih
      rw [if_pos (by simpa using hyx), List.filter_cons, List.filter_cons]
      by_cases h2 : lvlT ts y = n
      · rw [if_pos (by simpa using h2), if_pos (by simpa using h2), List.length_cons, List.length_cons]; omega
      · rw [if_neg (by simpa using h2), if_neg (by simpa using h2)]; exact ih

/-- the latest literal at a level, and how many there are -/
def latG (ts : List Stp) (n : Int) : List Int → Int → Nat → Int × Nat
  | [], x, m => (x, m)
  | y :: l, x, m => if lvlT ts y = n then latG ts n l (if m = 0 ∨ plcI ts (-x) < plcI ts (-y) then y else x) (m + 1) else latG ts n l x m
def latT (ts : List Stp) (n : Int) (l : List Int) : Int × Nat := latG ts n l 0 0
theorem latG_snoc (ts : List Stp) (n : Int) (y : Int) : ∀ (l : List Int) (x : Int) (m : Nat), latG ts n (l ++ [y]) x m = if lvlT ts y = n then (if (latG ts n l x m).2 = 0 ∨ plcI ts (-(latG ts n l x m).1) < plcI ts (-y) then y else (latG ts n l x m).1, (latG ts n l x m).2 + 1) else latG ts n l x m
  | [], x, m => by
    rw [List.nil_append, latG, latG]
    split <;> rfl
  | z :: l, x, m => by
    rw [List.cons_append, latG, latG]
    split
    · exact latG_snoc ts n y l _ _
    · exact latG_snoc ts n y l _ _
theorem latG_count (ts : List Stp) (n : Int) : ∀ (l : List Int) (x : Int) (m : Nat), (latG ts n l x m).2 = m + hiN ts n l
  | [], x, m => by simp [latG, hiN]
  | y :: l, x, m => by
    rw [latG]
    unfold hiN
    rw [List.filter_cons]
    by_cases h : lvlT ts y = n
    · rw [if_pos h, latG_count ts n l, if_pos (by simpa using h)]; unfold hiN; simp; omega
    · rw [if_neg h, latG_count ts n l, if_neg (by simpa using h)]; rfl
theorem latT_count (ts : List Stp) (n : Int) (l : List Int) : (latT ts n l).2 = hiN ts n l := by unfold latT; rw [latG_count]; omega
theorem latG_max (ts : List Stp) (n : Int) : ∀ (l : List Int) (x : Int) (m : Nat), 0 < m + hiN ts n l →
    ((latG ts n l x m).1 = x ∧ 0 < m ∨ (latG ts n l x m).1 ∈ l ∧ lvlT ts (latG ts n l x m).1 = n) ∧ (∀ y ∈ l, lvlT ts y = n → plcI ts (-y) ≤ plcI ts (-(latG ts n l x m).1)) ∧ (0 < m → plcI ts (-x) ≤ plcI ts (-(latG ts n l x m).1))
  | [], x, m, h => ⟨Or.inl ⟨rfl, by simpa [hiN] using h⟩, fun y hy => (by cases hy), fun _ => Int.le_refl _⟩
  | y :: l, x, m, h => by
    rw [latG]
    by_cases hy : lvlT ts y = n
    · rw [if_pos hy]
      obtain ⟨h1, h2, h3⟩ := latG_max ts n l (if m = 0 ∨ plcI ts (-x) < plcI ts (-y) then y else x) (m + 1) (by omega)
      have h3' := h3 (by omega)
      generalize (latG ts n l (if m = 0 ∨ plcI ts (-x) < plcI ts (-y) then y else x) (m + 1)).1 = z at *
      refine ⟨?_, fun u hu hl => ?_, fun hm => ?_⟩
      · rcases h1 with ⟨h1, _⟩ | ⟨h1, h4⟩
        · split at h1
          · exact Or.inr ⟨by simp [h1], by rw [h1]; exact hy⟩
          · rename_i hc; exact Or.inl ⟨h1, by omega⟩
        · exact Or.inr ⟨by simp [h1], h4⟩
      · rcases List.mem_cons.1 hu with e | e
        · subst e
          split at h3'
          · exact h3'
          · rename_i hc; omega
        · exact h2 u e hl
      · split at h3'
        · rename_i hc; omega
        · exact h3'
    · rw [if_neg hy]
      have h' : 0 < m + hiN ts n l := by
        unfold hiN at h ⊢
        rw [List.filter_cons, if_neg (by simpa using hy)] at h
        exact h
      obtain ⟨h1, h2, h3⟩ := latG_max ts n l x m h'
      refine ⟨h1.imp id fun h => ⟨by simp [h.1], h.2⟩, fun u hu hl => ?_, h3⟩
      rcases List.mem_cons.1 hu with e | e
      · rw [e] at hl; exact absurd hl hy
      · exact h2 u e hl
theorem latT_max {ts : List Stp} {n : Int} {l : List Int} (h : 0 < hiN ts n l) : (latT ts n l).1 ∈ l ∧ lvlT ts (latT ts n l).1 = n ∧ ∀ y ∈ l, lvlT ts y = n → plcI ts (-y) ≤ plcI ts (-(latT ts n l).1) := by
  obtain ⟨h1, h2, _⟩ := latG_max ts n l 0 0 (by omega)
  rcases h1 with ⟨_, h1⟩ | ⟨h1, h3⟩
  · omega
  · exact ⟨h1, h3, h2⟩

/-- one step of the derivation -/
def stepU (ls : List (List Int)) (ts : List Stp) (S : List Int) (x : Int) : List Int := moreL (without S x) (-x) (ell ls (stp ts (plc ts (-x))).why.toNat)
def uipL (ls : List (List Int)) (ts : List Stp) (n : Int) : Nat → List Int → List Int
  | 0, S => S
  | f + 1, S => if (latT ts n S).2 ≤ 1 then S else uipL ls ts n f (stepU ls ts S (latT ts n S).1)

/-- all are false, at places below i -/
def Under (ts : List Stp) (i : Nat) (S : List Int) : Prop := ∀ y ∈ S, plc ts (-y) < i

theorem levAt_mono {ts : List Stp} {j k : Nat} (h : j ≤ k) : levAt ts j ≤ levAt ts k := by
  unfold levAt cntD
  have : (ts.take (j + 1)).Sublist (ts.take (k + 1)) := by
    have e : ts.take (j + 1) = (ts.take (k + 1)).take (j + 1) := by rw [List.take_take]; congr 1; omega
    rw [e]; exact List.take_sublist _ _
  have := (this.filter fun s => s.why == -1).length_le
  omega

theorem Under.step {x : Int} {ls : List (List Int)} {ts : List Stp} (h : Tr x ls ts) {i : Nat} {S : List Int} (hu : Under ts (i + 1) S) (hi : i < ts.length) (hw : 0 ≤ (stp ts i).why) : Under ts i (stepU ls ts S (-(stp ts i).lit)) := by
  intro y hy
  unfold stepU at hy
  rw [Int.neg_neg, h.plc hi, mem_moreL, mem_without] at hy
  rcases hy with ⟨h1, h2⟩ | ⟨h1, h2⟩
  · have h3 := hu y h1
    rcases Nat.lt_or_ge (plc ts (-y)) i with h4 | h4
    · exact h4
    · have h5 : plc ts (-y) = i := by omega
      have h6 := (plc_lt (ts := ts) (x := -y) (by omega)).1
      rw [h5] at h6
      exact absurd (by rw [h6]; omega) h2
  · obtain ⟨j, hj, e⟩ := (h.reason i hi hw).2 y h1 h2
    have := h.plc (k := j) (by omega)
    rw [← e, this]; exact hj
theorem Under.stay {ts : List Stp} {i : Nat} {S : List Int} (hu : Under ts (i + 1) S) (hi : i < ts.length) (hx : hasB S (-(stp ts i).lit) = false) : Under ts i S := by
  intro y hy
  have h3 := hu y hy
  rcases Nat.lt_or_ge (plc ts (-y)) i with h4 | h4
  · exact h4
  · have h5 : plc ts (-y) = i := by omega
    have h6 := (plc_lt (ts := ts) (x := -y) (by omega)).1
    rw [h5] at h6
    rw [hasB_false] at hx
    exact absurd (by rw [h6, Int.neg_neg]; exact hy) hx

/-- the level of a literal that is false -/
theorem lvlT_of {ts : List Stp} {y : Int} (h : plc ts (-y) < ts.length) : lvlT ts y = levAt ts (plc ts (-y)) := by unfold lvlT; rw [if_pos h]
theorem plcI_of {ts : List Stp} {y : Int} (h : plc ts y < ts.length) : plcI ts y = (plc ts y : Int) := by unfold plcI; rw [if_pos h]

/-- at step i, its literal in the set: it is the latest one of the last level -/
theorem latest_is {x : Int} {ls : List (List Int)} {ts : List Stp} (h : Tr x ls ts) {i : Nat} {S : List Int} {n : Int} (hn : n = levAt ts (ts.length - 1)) (hu : Under ts (i + 1) S) (hi : i < ts.length) (hx : hasB S (-(stp ts i).lit) = true) (hp : 0 < hiN ts n S) :
    lvlT ts (-(stp ts i).lit) = n ∧ (latT ts n S).1 = -(stp ts i).lit := by
  have hpl : plc ts (-(-(stp ts i).lit)) = i := by rw [Int.neg_neg]; exact h.plc hi
  have hl1 : lvlT ts (-(stp ts i).lit) = levAt ts i := by rw [lvlT_of (by rw [hpl]; exact hi), hpl]
  have hlev : levAt ts i = n := by
    obtain ⟨y, hy, e⟩ := hiN_pos.1 hp
    have h1 := hu y hy
    rw [lvlT_of (by omega)] at e
    have h2 := levAt_mono (ts := ts) (j := plc ts (-y)) (k := i) (by omega)
    have h3 := levAt_mono (ts := ts) (j := i) (k := ts.length - 1) (by omega)
    omega
  refine ⟨by rw [hl1, hlev], ?_⟩
  obtain ⟨h1, h2, h3⟩ := latT_max hp
  have h4 := h3 _ (hasB_iff.1 hx) (by rw [hl1, hlev])
  have h5 := hu _ h1
  rw [plcI_of (by rw [hpl]; exact hi), plcI_of (by omega), hpl] at h4
  have h6 : plc ts (-(latT ts n S).1) = i := by omega
  have h7 := (plc_lt (ts := ts) (x := -(latT ts n S).1) (by omega)).1
  rw [h6] at h7
  omega

theorem uipL_stop {ls : List (List Int)} {ts : List Stp} {n : Int} {S : List Int} (h : hiN ts n S ≤ 1) : ∀ f, uipL ls ts n f S = S
  | 0 => rfl
  | f + 1 => by rw [uipL, if_pos (by rw [latT_count]; exact h)]

/-- a decision is the first of its level -/
theorem reason_is {x : Int} {ls : List (List Int)} {ts : List Stp} (h : Tr x ls ts) {i : Nat} {S : List Int} {n : Int} (hu : Under ts (i + 1) S) (hnd : S.Nodup) (hi : i < ts.length) (hx : hasB S (-(stp ts i).lit) = true) (hl : lvlT ts (-(stp ts i).lit) = n) (h2 : 2 ≤ hiN ts n S) : 0 ≤ (stp ts i).why := by
  have hw := (h.why i hi).1
  rcases Int.lt_or_le (stp ts i).why 0 with h0 | h0
  · have e : (stp ts i).why = -1 := by omega
    have hpl : plc ts (-(-(stp ts i).lit)) = i := by rw [Int.neg_neg]; exact h.plc hi
    have hl1 : lvlT ts (-(stp ts i).lit) = levAt ts i := by rw [lvlT_of (by rw [hpl]; exact hi), hpl]
    have h3 := without_hi (ts := ts) (n := n) hnd (hasB_iff.1 hx) hl
    have h4 : 0 < hiN ts n (without S (-(stp ts i).lit)) := by omega
    obtain ⟨y, hy, hly⟩ := hiN_pos.1 h4
    rw [mem_without] at hy
    have h5 := hu y hy.1
    have h6 : plc ts (-y) ≠ i := fun e2 => by
      have h7 := (plc_lt (ts := ts) (x := -y) (by omega)).1
      rw [e2] at h7
      exact hy.2 (by rw [h7]; omega)
    rw [lvlT_of (by omega)] at hly
    have h8 := levAt_yes hi e
    have h9 : levAt ts (plc ts (-y)) ≤ (cntD (ts.take i) : Int) := by
      unfold levAt cntD
      have : (ts.take (plc ts (-y) + 1)).Sublist (ts.take i) := by
        have e3 : ts.take (plc ts (-y) + 1) = (ts.take i).take (plc ts (-y) + 1) := by rw [List.take_take]; congr 1; omega
        rw [e3]; exact List.take_sublist _ _
      have := (this.filter fun s => s.why == -1).length_le
      omega
    rw [hl1] at hl
    omega
  · exact h0

/-- fuel beyond the places is idle -/
theorem uipL_fuel {x : Int} {ls : List (List Int)} {ts : List Stp} (h : Tr x ls ts) {n : Int} (hn : n = levAt ts (ts.length - 1)) : ∀ (i f : Nat) (S : List Int), i ≤ ts.length → Under ts i S → S.Nodup → i ≤ f → uipL ls ts n f S = uipL ls ts n i S := by
  intro i
  induction i with
  | zero =>
    intro f S _ hu _ _
    have : hiN ts n S ≤ 1 := by
      rcases Nat.eq_zero_or_pos (hiN ts n S) with h0 | h0
      · omega
      · obtain ⟨y, hy, _⟩ := hiN_pos.1 h0
        have := hu y hy; omega
    rw [uipL_stop this, uipL_stop this]
  | succ i ih =>
    intro f S hi hu hnd hf
    obtain ⟨g, rfl⟩ : ∃ g, f = g + 1 := ⟨f - 1, by omega⟩
    by_cases hc : hiN ts n S ≤ 1
    · rw [uipL_stop hc, uipL_stop hc]
    · cases hx : hasB S (-(stp ts i).lit) with
      | false =>
        have hu' := hu.stay (by omega) hx
        rw [ih (g + 1) S (by omega) hu' hnd (by omega), ih (i + 1) S (by omega) hu' hnd (by omega)]
      | true =>
        obtain ⟨hl, hlat⟩ := latest_is h hn hu (by omega) hx (by omega)
        have hw := reason_is h hu hnd (by omega) hx hl (by omega)
        rw [uipL, uipL, if_neg (by rw [latT_count]; exact hc), if_neg (by rw [latT_count]; exact hc), hlat]
        exact ih g _ (by omega) (hu.step h (by omega) hw) (moreL_nodup _ _ _ (without_nodup hnd)) (by omega)

/-- what the trail backwards has come to: S is on the derivation's road -/
structure Road (ls : List (List Int)) (ts : List Stp) (n : Int) (S0 : List Int) (i : Nat) (S : List Int) : Prop where
  same : uipL ls ts n i S = uipL ls ts n ts.length S0
  under : Under ts i S
  nd : S.Nodup
  pos : 0 < hiN ts n S

theorem Road.stay {x : Int} {ls : List (List Int)} {ts : List Stp} (h : Tr x ls ts) {n : Int} (hn : n = levAt ts (ts.length - 1)) {S0 S : List Int} {i : Nat} (r : Road ls ts n S0 (i + 1) S) (hi : i < ts.length) (hx : hasB S (-(stp ts i).lit) = false) : Road ls ts n S0 i S := by
  have hu := r.under.stay hi hx
  exact ⟨by rw [← r.same, uipL_fuel h hn i (i + 1) S (by omega) hu r.nd (by omega)], hu, r.nd, r.pos⟩
theorem Road.next {x : Int} {ls : List (List Int)} {ts : List Stp} (h : Tr x ls ts) {n : Int} (hn : n = levAt ts (ts.length - 1)) {S0 S : List Int} {i : Nat} (r : Road ls ts n S0 (i + 1) S) (hi : i < ts.length) (hx : hasB S (-(stp ts i).lit) = true) (hc : hiN ts n S ≠ 1) :
    lvlT ts (-(stp ts i).lit) = n ∧ 0 ≤ (stp ts i).why ∧ Road ls ts n S0 i (stepU ls ts S (-(stp ts i).lit)) := by
  have hp := r.pos
  obtain ⟨hl, hlat⟩ := latest_is h hn r.under hi hx hp
  have hw := reason_is h r.under r.nd hi hx hl (by omega)
  have hu := r.under.step h hi hw
  have hnd := moreL_nodup (ell ls (stp ts (plc ts (-(-(stp ts i).lit)))).why.toNat) (without S (-(stp ts i).lit)) (-(-(stp ts i).lit)) (without_nodup r.nd)
  refine ⟨hl, hw, ?_, hu, hnd, ?_⟩
  · rw [← r.same, uipL, if_neg (by rw [latT_count]; omega), hlat]
  · have h3 := without_hi (ts := ts) (n := n) r.nd (hasB_iff.1 hx) hl
    obtain ⟨y, hy, hly⟩ := hiN_pos.1 (show 0 < hiN ts n (without S (-(stp ts i).lit)) by omega)
    exact hiN_pos.2 ⟨y, by unfold stepU; rw [mem_moreL]; exact Or.inl hy, hly⟩
theorem Road.done {x : Int} {ls : List (List Int)} {ts : List Stp} (h : Tr x ls ts) {n : Int} (hn : n = levAt ts (ts.length - 1)) {S0 S : List Int} {i : Nat} (r : Road ls ts n S0 (i + 1) S) (hi : i < ts.length) (hx : hasB S (-(stp ts i).lit) = true) (hc : hiN ts n S = 1) :
    uipL ls ts n ts.length S0 = S ∧ (latT ts n S).1 = -(stp ts i).lit :=
  ⟨by rw [← r.same, uipL_stop (by omega)], (latest_is h hn r.under hi hx r.pos).2⟩
theorem Road.never {ls : List (List Int)} {ts : List Stp} {n : Int} {S0 S : List Int} (r : Road ls ts n S0 0 S) : False := by
  obtain ⟨y, hy, _⟩ := hiN_pos.1 r.pos
  have := r.under y hy; omega

end Go.Proofs.Ytenpenelikpeeaa

namespace Go.Proofs.Ytenpenelikpeeaa
open Go.RowKit Go.Shelf
set_option linter.unusedVariables false
set_option linter.unusedSimpArgs false

theorem own_lower {w : World} {b b' : Nat} {e : TypeId} {size : Nat} {v : Value} {n : Nat} {xs : List Value} (h : w.ownsRow b e size v n xs) (hb : b' ≤ b) : w.ownsRow b' e size v n xs :=
  ⟨h.1, h.2.imp id fun ⟨g, cap, cur, h1, h2, h3⟩ => ⟨g, cap, cur, h1, Nat.le_trans hb h2, h3⟩⟩

/-- a row of the call's own as a result; all that lay in W0 lies as it did -/
def OwnR (W0 : World) (zs : List Int) (e : Ending) (w' : World) : Prop :=
  ∃ A c, e = .returned (.slice A zs.length c) ∧ w'.ownsRow W0.heap.size 3 1 (.slice A zs.length c) zs.length (zs.map (Value.int .i64)) ∧ Below W0.heap.size W0 w'

set_option maxRecDepth 100000 in
set_option maxHeartbeats 1000000 in
theorem more_any (W0 : World) (A : Option Addr) (L c : Nat) (l : List Int) (A' : Option Addr) (n' c' : Nat) (m : List Int) (but : Int) (w : World) (hL : l.length = L) (h : w.ownsRow W0.heap.size 3 1 (.slice A L c) L (l.map (Value.int .i64))) (hb : Below W0.heap.size W0 w) (h' : RI W0 A' n' c' m) (h1 : L ≤ 1000000) (h2 : n' ≤ 1000000) :
    Calls Try.prog 40 #[.slice A L c, .slice A' n' c', .int .i64 but] w (OwnR W0 (moreL l but m)) := by
  obtain ⟨i0, hi, hz0, hz1, hz2⟩ := info_parts infoInt
  have H := Lib.hid h
  have HB0 := Lib.hid hb
  have H' := Lib.hid h'
  have HL := Lib.hid hL
  clear h hb h' hL
  go_enter Try.func40, Try.ntmps40
  go_wp2
  go_loopw [0, 7] (fun s0 s7 W => ∃ (k K : Nat) (O : Option Addr) (co : Nat), k ≤ n' ∧ s7 = .int .i64 k ∧ s0 = .slice O K co ∧ (moreL l but (m.take k)).length = K ∧ W.ownsRow W0.heap.size 3 1 (.slice O K co) K ((moreL l but (m.take k)).map (Value.int .i64)) ∧ Below W0.heap.size W0 W) (fun _ i _ => n' - (intOf i).toNat)
  case atStart => exact ⟨0, L, A, c, Nat.zero_le _, rfl, rfl, HL.out, H.out, HB0.out⟩
  case round =>
    obtain ⟨k, K, O, co, hk, rfl, rfl, hK, hown, hb⟩ := hrel
    have hKK : K ≤ 2000000 := by
      have := moreL_len (m.take k) l but
      rw [hK, HL.out, List.length_take] at this; omega
    have HK := Lib.hid hK
    have HO := Lib.hid hown
    have HB := Lib.hid hb
    have hsz := hb.size
    clear hK hown hb
    by_cases hlt : k < n'
    · have hl : k < m.length := by rw [H'.out.len]; exact hlt
      obtain ⟨b, off, rfl, hbl, hc⟩ := (H'.out.below HB.out).cells (by omega)
      have hck := hc k hlt
      clear hc
      have E1 : Hid (moreL l but (m.take (k + 1)) = if (elt m k == but || hasB (moreL l but (m.take k)) (elt m k)) = true then moreL l but (m.take k) else moreL l but (m.take k) ++ [elt m k]) := Lib.hid (by rw [take_snoc m k hl, moreL_snoc])
      clear hl
      generalize elt m k = x at *
      by_cases hxb : x = but
      · have z : (x != but) = false := by simpa using hxb
        have E2 : Hid (moreL l but (m.take (k + 1)) = moreL l but (m.take k)) := Lib.hid (by rw [E1.out, if_pos (by simp [hxb])])
        clear hxb
        go_wp2
        go_roundw
        case rel => exact ⟨k + 1, K, O, co, by omega, by go_num, rfl, by rw [E2.out]; exact HK.out, by rw [E2.out]; exact HO.out, HB.out⟩
        case measure => simp [intOf]; omega
      · have z : (x != but) = true := by simpa using hxb
        have HRK := Lib.hid (RI.of_own HO.out (by omega))
        cases hh : hasB (moreL l but (m.take k)) x
        · have E2 : Hid (moreL l but (m.take (k + 1)) = moreL l but (m.take k) ++ [x]) := Lib.hid (by rw [E1.out, if_neg (by simp [hxb, hh])])
          have HH := Lib.hid hh
          clear hxb hh
          go_wp2_with (first
            | (go_at_call 74; refine (has20_val false O K co _ x _ HRK.out HH.out).mono ?_; rintro e w' ⟨rfl, rfl⟩)
            | (at_builtin; refine wpList_append_own_at _ rfl (.tmp 29) (.tmp 34) 28 rfl W0.heap.size 3 i0 (.int .i64 0) 1 8 Try.underlying28 hi hz0 hz1 hz2 rfl (by decide) (.slice O K co) K _ rfl (HO.out.alloc _) ⟨_, 0, none⟩ 1 1 [.int .i64 x] rfl rfl (cell_new_at _ _ _ _ (by simp)) (by simp [Value.oneCell']) (by unfold maxLen; omega) (by omega) (by simp; omega) ?_; intro v' w4 hown' hgrow hnil hloc; obtain ⟨g', cap', rfl⟩ := own_succ hown'; have G1 := Lib.hid (grown_below hgrow); have O1 := Lib.hid hown'; clear hown' hgrow hnil hloc))
          go_roundw
          case rel => exact ⟨k + 1, K + 1, some ⟨g', 0, none⟩, cap', by omega, by go_num, rfl, by rw [E2.out, List.length_append, HK.out]; rfl, by rw [E2.out, List.map_append]; exact O1.out, HB.out.grown G1.out hsz (fun g hg => (own_lt HO.out hg).1)⟩
          case measure => simp [intOf]; omega
        · have E2 : Hid (moreL l but (m.take (k + 1)) = moreL l but (m.take k)) := Lib.hid (by rw [E1.out, if_pos (by simp [hh])])
          have HH := Lib.hid hh
          clear hxb hh
          go_wp2_with (go_at_call 74; refine (has20_val true O K co _ x _ HRK.out HH.out).mono ?_; rintro e w' ⟨rfl, rfl⟩)
          go_roundw
          case rel => exact ⟨k + 1, K, O, co, by omega, by go_num, rfl, by rw [E2.out]; exact HK.out, by rw [E2.out]; exact HO.out, HB.out⟩
          case measure => simp [intOf]; omega
    · have E : Hid (moreL l but m = moreL l but (m.take k)) := Lib.hid (by rw [List.take_of_length_le (by rw [H'.out.len]; omega)])
      go_wp2
      go_ret
      refine ⟨O, co, ?_, ?_, HB.out⟩
      · rw [E.out, HK.out]; rfl
      · rw [E.out, HK.out]; exact HO.out

theorem without_snoc (l : List Int) (x y : Int) : without (l ++ [y]) x = if y = x then without l x else without l x ++ [y] := by
  unfold without; rw [List.filter_append]
  by_cases h : y = x <;> simp [h]

set_option maxRecDepth 100000 in
set_option maxHeartbeats 1000000 in
theorem without_any (W0 : World) (A : Option Addr) (n c : Nat) (l : List Int) (x : Int) (w : World) (h : RI w A n c l) (hb : Below W0.heap.size W0 w) (h1 : n ≤ 1000000) :
    Calls Try.prog 42 #[.slice A n c, .int .i64 x] w fun e w' => OwnR W0 (without l x) e w' ∧ Below w.heap.size w w' := by
  obtain ⟨i0, hi, hz0, hz1, hz2⟩ := info_parts infoInt
  have H := Lib.hid h
  have HB0 := Lib.hid hb
  have hs0 := hb.size
  clear h hb
  have ho0 : Hid ((w.alloc (.cells #[] 3)).ownsRow w.heap.size 3 1 (.slice (some ⟨w.heap.size, 0, none⟩) 0 0) 0 []) := Lib.hid (own_empty w _ _ 3 rfl (Nat.le_refl _))
  have HB1 := Lib.hid ((Below.refl w.heap.size w).alloc (Nat.le_refl _) (.cells #[] 3))
  go_enter Try.func42, Try.ntmps42
  go_wp2
  go_loopw [5, 6] (fun s5 s6 W => ∃ (k K : Nat) (O : Option Addr) (co : Nat), k ≤ n ∧ s6 = .int .i64 k ∧ s5 = .slice O K co ∧ (without (l.take k) x).length = K ∧ W.ownsRow w.heap.size 3 1 (.slice O K co) K ((without (l.take k) x).map (Value.int .i64)) ∧ Below w.heap.size w W) (fun _ i _ => n - (intOf i).toNat)
  case atStart => exact ⟨0, 0, _, 0, Nat.zero_le _, rfl, rfl, rfl, ho0.out, HB1.out⟩
  case round =>
    obtain ⟨k, K, O, co, hk, rfl, rfl, hK, hown, hb⟩ := hrel
    have hKK : K ≤ k := by
      have : (without (l.take k) x).length ≤ (l.take k).length := List.length_filter_le _ _
      rw [hK, List.length_take] at this; omega
    have HK := Lib.hid hK
    have HO := Lib.hid hown
    have HB := Lib.hid hb
    have hsz := hb.size
    clear hK hown hb
    by_cases hlt : k < n
    · have hl : k < l.length := by rw [H.out.len]; exact hlt
      obtain ⟨b, off, rfl, hbl, hc⟩ := (H.out.below HB.out).cells (by omega)
      have hck := hc k hlt
      clear hc
      have E1 : Hid (without (l.take (k + 1)) x = if elt l k = x then without (l.take k) x else without (l.take k) x ++ [elt l k]) := Lib.hid (by rw [take_snoc l k hl, without_snoc])
      clear hl
      generalize elt l k = y at *
      by_cases hy : y = x
      · have z : (y != x) = false := by simpa using hy
        have E2 : Hid (without (l.take (k + 1)) x = without (l.take k) x) := Lib.hid (by rw [E1.out, if_pos hy])
        clear hy
        go_wp2
        go_roundw
        case rel => exact ⟨k + 1, K, O, co, by omega, by go_num, rfl, by rw [E2.out]; exact HK.out, by rw [E2.out]; exact HO.out, HB.out⟩
        case measure => simp [intOf]; omega
      · have z : (y != x) = true := by simpa using hy
        have E2 : Hid (without (l.take (k + 1)) x = without (l.take k) x ++ [y]) := Lib.hid (by rw [E1.out, if_neg hy])
        clear hy
        go_wp2_with (at_builtin; refine wpList_append_own_at _ rfl (.tmp 20) (.tmp 25) 28 rfl w.heap.size 3 i0 (.int .i64 0) 1 8 Try.underlying28 hi hz0 hz1 hz2 rfl (by decide) (.slice O K co) K _ rfl (HO.out.alloc _) ⟨_, 0, none⟩ 1 1 [.int .i64 y] rfl rfl (cell_new_at _ _ _ _ (by simp)) (by simp [Value.oneCell']) (by unfold maxLen; omega) (by omega) (by simp; omega) ?_; intro v' w4 hown' hgrow hnil hloc; obtain ⟨g', cap', rfl⟩ := own_succ hown'; have G1 := Lib.hid (grown_below hgrow); have O1 := Lib.hid hown'; clear hown' hgrow hnil hloc)
        go_roundw
        case rel => exact ⟨k + 1, K + 1, some ⟨g', 0, none⟩, cap', by omega, by go_num, rfl, by rw [E2.out, List.length_append, HK.out]; rfl, by rw [E2.out, List.map_append]; exact O1.out, HB.out.grown G1.out hsz (fun g hg => (own_lt HO.out hg).1)⟩
        case measure => simp [intOf]; omega
    · have E : Hid (without l x = without (l.take k) x) := Lib.hid (by rw [List.take_of_length_le (by rw [H.out.len]; omega)])
      go_wp2
      go_ret
      refine ⟨⟨O, co, ?_, ?_, HB0.out.trans (HB.out.mono HB0.out.size)⟩, HB.out⟩
      · rw [E.out, HK.out]; rfl
      · rw [E.out, HK.out]
        exact own_lower HO.out hs0

set_option maxHeartbeats 1000000 in
theorem last_any (A : Option Addr) (n c : Nat) (ts : List Stp) (x : Int) (ls : List (List Int)) (w : World) (h : RS w A n c ts) (ht : Tr x ls ts) (hn : n ≤ 1000000) :
    Calls Try.prog 39 #[.slice A n c] w fun e w' => e = .returned (.int .i64 (cntD ts)) ∧ w = w' := by
  have H := Lib.hid h
  have HT := Lib.hid ht
  clear h ht
  go_enter Try.func39, Try.ntmps39
  go_wp2
  go_loop [3, 4] (fun s3 s4 => ∃ k : Nat, k ≤ n ∧ s4 = .int .i64 k ∧ s3 = .int .i64 (cntD (ts.take k))) (fun _ i => n - (intOf i).toNat)
  case atStart => exact ⟨0, Nat.zero_le _, rfl, rfl⟩
  case round =>
    obtain ⟨k, hk, rfl, rfl⟩ := hrel
    have hcd : cntD (ts.take k) ≤ k := Nat.le_trans (cntD_le _) (by rw [List.length_take]; omega)
    by_cases hlt : k < n
    · have hl : k < ts.length := by rw [H.out.len]; exact hlt
      obtain ⟨b, off, rfl, hb, hc⟩ := H.out.cells (by omega)
      obtain ⟨-, hc1⟩ := hc k hlt
      clear hc
      have hw := (HT.out.why k hl).1
      have E1 : Hid (cntD (ts.take (k + 1)) = cntD (ts.take k) + (if (stp ts k).why = -1 then 1 else 0)) := Lib.hid (by rw [takes_snoc ts k hl, cntD_snoc])
      clear hl
      generalize (stp ts k).why = y at *
      generalize cntD (ts.take k) = q at *
      by_cases hy : y < 0
      · have E2 : Hid (cntD (ts.take (k + 1)) = q + 1) := Lib.hid (by rw [E1.out, if_pos (by omega)])
        go_wp2
        go_round
        case rel => exact ⟨k + 1, by omega, by go_num, by rw [E2.out]; go_num⟩
        case measure => simp [intOf]; omega
      · have E2 : Hid (cntD (ts.take (k + 1)) = q) := Lib.hid (by rw [E1.out, if_neg (by omega)]; rfl)
        go_wp2
        go_round
        case rel => exact ⟨k + 1, by omega, by go_num, by rw [E2.out]⟩
        case measure => simp [intOf]; omega
    · have E : Hid (cntD ts = cntD (ts.take k)) := Lib.hid (by rw [List.take_of_length_le (by rw [H.out.len]; omega)])
      go_wp2
      go_ret
      exact ⟨by rw [E.out]; rfl, rfl⟩

end Go.Proofs.Ytenpenelikpeeaa

namespace Go.Proofs.Ytenpenelikpeeaa
open Go.RowKit Go.Shelf
set_option linter.unusedVariables false
set_option linter.unusedSimpArgs false

theorem latT_snoc (ts : List Stp) (n : Int) (l : List Int) (y : Int) : latT ts n (l ++ [y]) = if lvlT ts y = n then (if (latT ts n l).2 = 0 ∨ plcI ts (-(latT ts n l).1) < plcI ts (-y) then y else (latT ts n l).1, (latT ts n l).2 + 1) else latT ts n l := latG_snoc ts n y l 0 0
theorem latT_okl {ts : List Stp} {n : Int} {l : List Int} (h : Okl l) : -65536 ≤ (latT ts n l).1 ∧ (latT ts n l).1 ≤ 65536 := by
  rcases Nat.eq_zero_or_pos (hiN ts n l) with h0 | h0
  · have : ∀ (l : List Int), hiN ts n l = 0 → (latG ts n l 0 0).1 = 0 := by
      intro l
      induction l with
      | nil => intro _; rfl
      | cons y l ih =>
        intro hh
        rw [latG]
        unfold hiN at hh ih
        rw [List.filter_cons] at hh
        by_cases hy : lvlT ts y = n
        · rw [if_pos (by simpa using hy)] at hh; simp at hh
        · rw [if_neg (by simpa using hy)] at hh
          rw [if_neg hy]; exact ih hh
    have := this l h0
    unfold latT
    omega
  · have := h _ (latT_max h0).1
    omega

set_option maxRecDepth 100000 in
set_option maxHeartbeats 1000000 in
theorem latest_any (A : Option Addr) (n c : Nat) (ts : List Stp) (A' : Option Addr) (n' c' : Nat) (l : List Int) (lv : Int) (w : World) (h : RS w A n c ts) (hn : n ≤ 1000000) (h' : RI w A' n' c' l) (hz : Okl l) (hd : Under ts ts.length l) (hn' : n' ≤ 2000000) :
    Calls Try.prog 41 #[.slice A n c, .slice A' n' c', .int .i64 lv] w fun e w' => e = .returned (.tuple #[.int .i64 (latT ts lv l).1, .int .i64 (latT ts lv l).2]) ∧ Below w.heap.size w w' := by
  have H := Lib.hid h
  have H' := Lib.hid h'
  have HZ := Lib.hid hz
  have HD := Lib.hid hd
  clear h h' hz hd
  obtain ⟨rx, hrx⟩ : ∃ rx, (latT ts lv l).1 = rx := ⟨_, rfl⟩
  obtain ⟨rm, hrm⟩ : ∃ rm, (latT ts lv l).2 = rm := ⟨_, rfl⟩
  rw [hrx, hrm]
  have HRX := Lib.hid hrx
  have HRM := Lib.hid hrm
  clear hrx hrm
  go_enter Try.func41, Try.ntmps41
  go_wp2
  go_loopw [8, 9, 10] (fun s8 s9 s10 W => ∃ k : Nat, k ≤ n' ∧ s10 = .int .i64 k ∧ s8 = .int .i64 (latT ts lv (l.take k)).1 ∧ s9 = .int .i64 (latT ts lv (l.take k)).2 ∧ Below w.heap.size w W) (fun _ _ i _ => n' - (intOf i).toNat)
  case atStart => exact ⟨0, Nat.zero_le _, rfl, rfl, rfl, Below.refl _ _⟩
  case round =>
    obtain ⟨k, hk, rfl, rfl, rfl, hb⟩ := hrel
    have HB := Lib.hid hb
    clear hb
    by_cases hlt : k < n'
    · have hl : k < l.length := by rw [H'.out.len]; exact hlt
      obtain ⟨b, off, rfl, hbl, hc⟩ := (H'.out.below HB.out).cells (by omega)
      have hck := hc k hlt
      clear hc
      have hx := HZ.out.at hl
      have hdx := HD.out _ (elt_mem hl)
      have E1 : Hid (latT ts lv (l.take (k + 1)) = if lvlT ts (elt l k) = lv then (if (latT ts lv (l.take k)).2 = 0 ∨ plcI ts (-(latT ts lv (l.take k)).1) < plcI ts (-(elt l k)) then elt l k else (latT ts lv (l.take k)).1, (latT ts lv (l.take k)).2 + 1) else latT ts lv (l.take k)) := Lib.hid (by rw [take_snoc l k hl, latT_snoc])
      have ho := latT_okl (ts := ts) (n := lv) (l := l.take k) (fun y hy => HZ.out y (List.mem_of_mem_take hy))
      have hm : (latT ts lv (l.take k)).2 ≤ k := by
        rw [latT_count]; unfold hiN
        refine Nat.le_trans (List.length_filter_le _ _) ?_
        rw [List.length_take]; omega
      clear hl
      generalize elt l k = x at *
      generalize latT ts lv (l.take k) = q at *
      obtain ⟨qx, qm⟩ := q
      dsimp only at *
      obtain ⟨r, hr⟩ : ∃ r, lvlT ts x = r := ⟨_, rfl⟩
      have HR := Lib.hid hr
      rw [hr] at E1
      have hng := lit_neg' hx.2.1 hx.2.2
      have hng2 := lit_neg' ho.1 ho.2
      have hlev := fun W (hS : RS W A n c ts) => level20_val r A n c ts x W hS hn hx.2.1 hx.2.2 hdx HR.out
      clear hr hx hdx
      by_cases hrl : r = lv
      · have hrb : (r != lv) = false := by simpa using hrl
        obtain ⟨px, hpx⟩ : ∃ px, plcI ts (-x) = px := ⟨_, rfl⟩
        obtain ⟨pq, hpq⟩ : ∃ pq, plcI ts (-qx) = pq := ⟨_, rfl⟩
        rw [hpx, hpq] at E1
        have HPX := Lib.hid hpx
        have HPQ := Lib.hid hpq
        have hpl := fun (y r : Int) W (hS : RS W A n c ts) (e : plcI ts y = r) => place_val r A n c ts y W hS hn e
        clear hpx hpq
        by_cases hq0 : qm = 0
        · subst hq0
          have E2 : Hid (latT ts lv (l.take (k + 1)) = (x, 1)) := Lib.hid (by rw [E1.out, if_pos hrl, if_pos (Or.inl rfl)])
          clear hrl
          go_wp2_with (go_at_call 44; refine (hlev _ (H.out.below HB.out)).mono ?_; clear hlev; rintro e w2 ⟨rfl, hb2⟩; have HB2 := Lib.hid (HB.out.trans (hb2.mono HB.out.size)); have hck2 := (hb2.cell (p := ⟨b, off + k, none⟩) hbl).trans hck; clear hb2)
          go_roundw
          case rel => exact ⟨k + 1, by omega, by go_num, by rw [E2.out], by rw [E2.out]; rfl, HB2.out⟩
          case measure => simp [intOf]; omega
        · have hqb : ((qm : Int) == 0) = false := by simp; omega
          by_cases hpp : pq < px
          · have E2 : Hid (latT ts lv (l.take (k + 1)) = (x, qm + 1)) := Lib.hid (by rw [E1.out, if_pos hrl, if_pos (Or.inr hpp)])
            clear hrl
            go_wp2_with (first
              | (go_at_call 44; refine (hlev _ (H.out.below HB.out)).mono ?_; clear hlev; rintro e w2 ⟨rfl, hb2⟩; have HB2 := Lib.hid (HB.out.trans (hb2.mono HB.out.size)); have hck2 := (hb2.cell (p := ⟨b, off + k, none⟩) hbl).trans hck; clear hb2)
              | (go_at_call 43; ((with_reducible refine (hpl (-x) px _ (H.out.below HB2.out) HPX.out).mono ?_)); rintro e w' ⟨rfl, rfl⟩)
              | (go_at_call 43; ((with_reducible refine (hpl (-qx) pq _ (H.out.below HB2.out) HPQ.out).mono ?_)); rintro e w' ⟨rfl, rfl⟩))
            go_roundw
            case rel => exact ⟨k + 1, by omega, by go_num, by rw [E2.out], by rw [E2.out]; go_num, HB2.out⟩
            case measure => simp [intOf]; omega
          · have E2 : Hid (latT ts lv (l.take (k + 1)) = (qx, qm + 1)) := Lib.hid (by rw [E1.out, if_pos hrl, if_neg (by omega)])
            clear hrl
            go_wp2_with (first
              | (go_at_call 44; refine (hlev _ (H.out.below HB.out)).mono ?_; clear hlev; rintro e w2 ⟨rfl, hb2⟩; have HB2 := Lib.hid (HB.out.trans (hb2.mono HB.out.size)); have hck2 := (hb2.cell (p := ⟨b, off + k, none⟩) hbl).trans hck; clear hb2)
              | (go_at_call 43; ((with_reducible refine (hpl (-x) px _ (H.out.below HB2.out) HPX.out).mono ?_)); rintro e w' ⟨rfl, rfl⟩)
              | (go_at_call 43; ((with_reducible refine (hpl (-qx) pq _ (H.out.below HB2.out) HPQ.out).mono ?_)); rintro e w' ⟨rfl, rfl⟩))
            go_roundw
            case rel => exact ⟨k + 1, by omega, by go_num, by rw [E2.out], by rw [E2.out]; go_num, HB2.out⟩
            case measure => simp [intOf]; omega
      · have hrb : (r != lv) = true := by simpa using hrl
        have E2 : Hid (latT ts lv (l.take (k + 1)) = (qx, qm)) := Lib.hid (by rw [E1.out, if_neg hrl])
        clear hrl
        go_wp2_with (go_at_call 44; refine (hlev _ (H.out.below HB.out)).mono ?_; clear hlev; rintro e w2 ⟨rfl, hb2⟩; have HB2 := Lib.hid (HB.out.trans (hb2.mono HB.out.size)); clear hb2)
        go_roundw
        case rel => exact ⟨k + 1, by omega, by go_num, by rw [E2.out], by rw [E2.out], HB2.out⟩
        case measure => simp [intOf]; omega
    · have E : Hid (latT ts lv (l.take k) = (rx, rm)) := Lib.hid (by rw [List.take_of_length_le (by rw [H'.out.len]; omega), ← HRX.out, ← HRM.out])
      rw [E.out]
      go_wp2
      go_ret2
      exact ⟨rfl, HB.out⟩

end Go.Proofs.Ytenpenelikpeeaa
