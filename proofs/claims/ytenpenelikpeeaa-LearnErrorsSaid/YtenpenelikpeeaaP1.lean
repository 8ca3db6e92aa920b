/-
  The derivation of the first-UIP clause in plain words. No program in sight. No condition.
-/
import Derived.Test.YtenpenelikpeeaaB4
namespace Go.Proofs.Ytenpenelikpeeaa
set_option linter.unusedVariables false
set_option linter.unusedSimpArgs false

/-- l, and the elements of m that are not in it, except one -/
def moreL (l : List Int) (but : Int) : List Int → List Int
  | [] => l
  | y :: m => if (y == but || hasB l y) = true then moreL l but m else moreL (l ++ [y]) but m
theorem moreL_snoc : ∀ (m : List Int) (l : List Int) (but y : Int), moreL l but (m ++ [y]) = if (y == but || hasB (moreL l but m) y) = true then moreL l but m else moreL l but m ++ [y]
  | [], l, but, y => by
    have e : moreL l but [] = l := rfl
    have e2 : moreL (l ++ [y]) but [] = l ++ [y] := rfl
    rw [List.nil_append, moreL, moreL, e, e2]
  | z :: m, l, but, y => by
    rw [List.cons_append, moreL, moreL]
    split
    · exact moreL_snoc m l but y
    · exact moreL_snoc m (l ++ [z]) but y
theorem mem_moreL : ∀ (m : List Int) (l : List Int) (but x : Int), x ∈ moreL l but m ↔ x ∈ l ∨ (x ∈ m ∧ x ≠ but)
  | [], l, but, x => by simp [moreL]
  | y :: m, l, but, x => by
    rw [moreL]
    split
    · rename_i h
      rw [mem_moreL m l but x]
      rw [Bool.or_eq_true, beq_iff_eq, hasB_iff] at h
      constructor
      · rintro (h1 | ⟨h1, h2⟩)
        · exact Or.inl h1
        · exact Or.inr ⟨by simp [h1], h2⟩
      · rintro (h1 | ⟨h1, h2⟩)
        · exact Or.inl h1
        · rcases List.mem_cons.1 h1 with e | e
          · subst e
            rcases h with h | h
            · exact absurd h h2
            · exact Or.inl h
          · exact Or.inr ⟨e, h2⟩
    · rename_i h
      rw [mem_moreL m (l ++ [y]) but x]
      have hy : y ≠ but := fun e => h (by simp [e])
      simp only [List.mem_append, List.mem_cons, List.not_mem_nil, or_false]
      constructor
      · rintro ((h1 | h1) | ⟨h1, h2⟩)
        · exact Or.inl h1
        · exact Or.inr ⟨Or.inl h1, by rw [h1]; exact hy⟩
        · exact Or.inr ⟨Or.inr h1, h2⟩
      · rintro (h1 | ⟨h1 | h1, h2⟩)
        · exact Or.inl (Or.inl h1)
        · exact Or.inl (Or.inr h1)
        · exact Or.inr ⟨h1, h2⟩
theorem moreL_nodup : ∀ (m : List Int) (l : List Int) (but : Int), l.Nodup → (moreL l but m).Nodup
  | [], l, but, h => h
  | y :: m, l, but, h => by
    rw [moreL]
    split
    · exact moreL_nodup m l but h
    · rename_i h1
      refine moreL_nodup m (l ++ [y]) but ?_
      rw [List.nodup_append]
      refine ⟨h, by simp, fun a ha b hb e => h1 ?_⟩
      rw [List.mem_singleton.1 hb] at e
      rw [e] at ha
      rw [hasB_iff.2 ha]; simp
theorem moreL_len : ∀ (m : List Int) (l : List Int) (but : Int), (moreL l but m).length ≤ l.length + m.length
  | [], l, but => by simp [moreL]
  | y :: m, l, but => by
    rw [moreL]
    split
    · have := moreL_len m l but; simp; omega
    · have := moreL_len m (l ++ [y]) but; simp at this ⊢; omega

/-- how many literals are at a level -/
def hiN (ts : List Stp) (n : Int) (S : List Int) : Nat := (S.filter fun y => lvlT ts y == n).length
theorem hiN_snoc (ts : List Stp) (n : Int) (S : List Int) (y : Int) : hiN ts n (S ++ [y]) = hiN ts n S + (if lvlT ts y = n then 1 else 0) := by
  unfold hiN; rw [List.filter_append, List.length_append]
  by_cases h : lvlT ts y = n <;> simp [h]
theorem hiN_pos {ts : List Stp} {n : Int} {S : List Int} : 0 < hiN ts n S ↔ ∃ y ∈ S, lvlT ts y = n := by
  unfold hiN
  rw [List.length_pos_iff_exists_mem]
  constructor
  · rintro ⟨y, hy⟩
    rw [List.mem_filter] at hy
    exact ⟨y, hy.1, by simpa using hy.2⟩
  · rintro ⟨y, hy, h⟩
    exact ⟨y, List.mem_filter.2 ⟨hy, by simpa using h⟩⟩

/-- one literal struck -/
def without (S : List Int) (x : Int) : List Int := S.filter fun y => y != x
theorem mem_without {S : List Int} {x y : Int} : y ∈ without S x ↔ y ∈ S ∧ y ≠ x := by unfold without; simp
theorem without_nodup {S : List Int} {x : Int} (h : S.Nodup) : (without S x).Nodup := h.sublist (List.filter_sublist)
theorem without_hi {ts : List Stp} {n : Int} : ∀ {S : List Int} {x : Int}, S.Nodup → x ∈ S → lvlT ts x = n → hiN ts n (without S x) + 1 = hiN ts n S
  | [], x, _, h, _ => by cases h
  | y :: S, x, hn, h, e => by
    have hn' := List.nodup_cons.1 hn
    unfold without hiN
    rw [List.filter_cons]
    rcases List.mem_cons.1 h with h1 | h1
    · subst h1
      have e1 : (S.filter fun z => z != x) = S := List.filter_eq_self.2 fun z hz => by
        have : z ≠ x := fun e2 => hn'.1 (e2 ▸ hz)
        simpa using this
      simp [e1, e]
    · have hyx : y ≠ x := fun e2 => hn'.1 (e2 ▸ h1)
      have ih := without_hi (ts := ts) (n := n) hn'.2 h1 e
      unfold without hiN at ih
      rw [if_pos (by simpa using hyx), List.filter_cons, List.filter_cons]
      by_cases h2 : lvlT ts y = n
      · rw [if_pos (by simpa using h2), if_pos (by simpa using h2), List.length_cons, List.length_cons]; omega
      · rw [if_neg (by simpa using h2), if_neg (by simpa using h2)]; exact ih

/-- the latest literal at a level, and how many there are -/
def latG (ts : List Stp) (n : Int) : List Int → Int → Nat → Int × Nat
  | [], x, m => (x, m)
  | y :: l, x, m => if lvlT ts y = n then latG ts n l (if m = 0 ∨ plcI ts (-x) < plcI ts (-y) then y else x) (m + 1) else latG ts n l x m
def latT (ts : List Stp) (n : Int) (l : List Int) : Int × Nat := latG ts n l 0 0
theorem latG_snoc (ts : List Stp) (n : Int) (y : Int) : ∀ (l : List Int) (x : Int) (m : Nat), latG ts n (l ++ [y]) x m = if lvlT ts y = n then (if (latG ts n l x m).2 = 0 ∨ plcI ts (-(latG ts n l x m).1) < plcI ts (-y) then y else (latG ts n l x m).1, (latG ts n l x m).2 + 1) else latG ts n l x m
  | [], x, m => by
    rw [List.nil_append, latG, latG]
    split <;> rfl
  | z :: l, x, m => by
    rw [List.cons_append, latG, latG]
    split
    · exact latG_snoc ts n y l _ _
    · exact latG_snoc ts n y l _ _
theorem latG_count (ts : List Stp) (n : Int) : ∀ (l : List Int) (x : Int) (m : Nat), (latG ts n l x m).2 = m + hiN ts n l
  | [], x, m => by simp [latG, hiN]
  | y :: l, x, m => by
    rw [latG]
    unfold hiN
    rw [List.filter_cons]
    by_cases h : lvlT ts y = n
    · rw [if_pos h, latG_count ts n l, if_pos (by simpa using h)]; unfold hiN; simp; omega
    · rw [if_neg h, latG_count ts n l, if_neg (by simpa using h)]; rfl
theorem latT_count (ts : List Stp) (n : Int) (l : List Int) : (latT ts n l).2 = hiN ts n l := by unfold latT; rw [latG_count]; omega
theorem latG_max (ts : List Stp) (n : Int) : ∀ (l : List Int) (x : Int) (m : Nat), 0 < m + hiN ts n l →
    ((latG ts n l x m).1 = x ∧ 0 < m ∨ (latG ts n l x m).1 ∈ l ∧ lvlT ts (latG ts n l x m).1 = n) ∧ (∀ y ∈ l, lvlT ts y = n → plcI ts (-y) ≤ plcI ts (-(latG ts n l x m).1)) ∧ (0 < m → plcI ts (-x) ≤ plcI ts (-(latG ts n l x m).1))
  | [], x, m, h => ⟨Or.inl ⟨rfl, by simpa [hiN] using h⟩, fun y hy => (by cases hy), fun _ => Int.le_refl _⟩
  | y :: l, x, m, h => by
    rw [latG]
    by_cases hy : lvlT ts y = n
    · rw [if_pos hy]
      obtain ⟨h1, h2, h3⟩ := latG_max ts n l (if m = 0 ∨ plcI ts (-x) < plcI ts (-y) then y else x) (m + 1) (by omega)
      have h3' := h3 (by omega)
      generalize (latG ts n l (if m = 0 ∨ plcI ts (-x) < plcI ts (-y) then y else x) (m + 1)).1 = z at *
      refine ⟨?_, fun u hu hl => ?_, fun hm => ?_⟩
      · rcases h1 with ⟨h1, _⟩ | ⟨h1, h4⟩
        · split at h1
          · exact Or.inr ⟨by simp [h1], by rw [h1]; exact hy⟩
          · rename_i hc; exact Or.inl ⟨h1, by omega⟩
        · exact Or.inr ⟨by simp [h1], h4⟩
      · rcases List.mem_cons.1 hu with e | e
        · subst e
          split at h3'
          · exact h3'
          · rename_i hc; omega
        · exact h2 u e hl
      · split at h3'
        · rename_i hc; omega
        · exact h3'
    · rw [if_neg hy]
      have h' : 0 < m + hiN ts n l := by
        unfold hiN at h ⊢
        rw [List.filter_cons, if_neg (by simpa using hy)] at h
        exact h
      obtain ⟨h1, h2, h3⟩ := latG_max ts n l x m h'
      refine ⟨h1.imp id fun h => ⟨by simp [h.1], h.2⟩, fun u hu hl => ?_, h3⟩
      rcases List.mem_cons.1 hu with e | e
      · rw [e] at hl; exact absurd hl hy
      · exact h2 u e hl
theorem latT_max {ts : List Stp} {n : Int} {l : List Int} (h : 0 < hiN ts n l) : (latT ts n l).1 ∈ l ∧ lvlT ts (latT ts n l).1 = n ∧ ∀ y ∈ l, lvlT ts y = n → plcI ts (-y) ≤ plcI ts (-(latT ts n l).1) := by
  obtain ⟨h1, h2, _⟩ := latG_max ts n l 0 0 (by omega)
  rcases h1 with ⟨_, h1⟩ | ⟨h1, h3⟩
  · omega
  · exact ⟨h1, h3, h2⟩

/-- one step of the derivation -/
def stepU (ls : List (List Int)) (ts : List Stp) (S : List Int) (x : Int) : List Int := moreL (without S x) (-x) (ell ls (stp ts (plc ts (-x))).why.toNat)
def uipL (ls : List (List Int)) (ts : List Stp) (n : Int) : Nat → List Int → List Int
  | 0, S => S
  | f + 1, S => if (latT ts n S).2 ≤ 1 then S else uipL ls ts n f (stepU ls ts S (latT ts n S).1)

/-- all are false, at places below i -/
def Under (ts : List Stp) (i : Nat) (S : List Int) : Prop := ∀ y ∈ S, plc ts (-y) < i

theorem levAt_mono {ts : List Stp} {j k : Nat} (h : j ≤ k) : levAt ts j ≤ levAt ts k := by
  unfold levAt cntD
  have : (ts.take (j + 1)).Sublist (ts.take (k + 1)) := by
    have e : ts.take (j + 1) = (ts.take (k + 1)).take (j + 1) := by rw [List.take_take]; congr 1; omega
    rw [e]; exact List.take_sublist _ _
  have := (this.filter fun s => s.why == -1).length_le
  omega

theorem Under.step {x : Int} {ls : List (List Int)} {ts : List Stp} (h : Tr x ls ts) {i : Nat} {S : List Int} (hu : Under ts (i + 1) S) (hi : i < ts.length) (hw : 0 ≤ (stp ts i).why) : Under ts i (stepU ls ts S (-(stp ts i).lit)) := by
  intro y hy
  unfold stepU at hy
  rw [Int.neg_neg, h.plc hi, mem_moreL, mem_without] at hy
  rcases hy with ⟨h1, h2⟩ | ⟨h1, h2⟩
  · have h3 := hu y h1
    rcases Nat.lt_or_ge (plc ts (-y)) i with h4 | h4
    · exact h4
    · have h5 : plc ts (-y) = i := by omega
      have h6 := (plc_lt (ts := ts) (x := -y) (by omega)).1
      rw [h5] at h6
      exact absurd (by rw [h6]; omega) h2
  · obtain ⟨j, hj, e⟩ := (h.reason i hi hw).2 y h1 h2
    have := h.plc (k := j) (by omega)
    rw [← e, this]; exact hj
theorem Under.stay {ts : List Stp} {i : Nat} {S : List Int} (hu : Under ts (i + 1) S) (hi : i < ts.length) (hx : hasB S (-(stp ts i).lit) = false) : Under ts i S := by
  intro y hy
  have h3 := hu y hy
  rcases Nat.lt_or_ge (plc ts (-y)) i with h4 | h4
  · exact h4
  · have h5 : plc ts (-y) = i := by omega
    have h6 := (plc_lt (ts := ts) (x := -y) (by omega)).1
    rw [h5] at h6
    rw [hasB_false] at hx
    exact absurd (by rw [h6, Int.neg_neg]; exact hy) hx

/-- the level of a literal that is false -/
theorem lvlT_of {ts : List Stp} {y : Int} (h : plc ts (-y) < ts.length) : lvlT ts y = levAt ts (plc ts (-y)) := by unfold lvlT; rw [if_pos h]
theorem plcI_of {ts : List Stp} {y : Int} (h : plc ts y < ts.length) : plcI ts y = (plc ts y : Int) := by unfold plcI; rw [if_pos h]

/-- at step i, its literal in the set: it is the latest one of the last level -/
theorem latest_is {x : Int} {ls : List (List Int)} {ts : List Stp} (h : Tr x ls ts) {i : Nat} {S : List Int} {n : Int} (hn : n = levAt ts (ts.length - 1)) (hu : Under ts (i + 1) S) (hi : i < ts.length) (hx : hasB S (-(stp ts i).lit) = true) (hp : 0 < hiN ts n S) :
    lvlT ts (-(stp ts i).lit) = n ∧ (latT ts n S).1 = -(stp ts i).lit := by
  have hpl : plc ts (-(-(stp ts i).lit)) = i := by rw [Int.neg_neg]; exact h.plc hi
  have hl1 : lvlT ts (-(stp ts i).lit) = levAt ts i := by rw [lvlT_of (by rw [hpl]; exact hi), hpl]
  have hlev : levAt ts i = n := by
    obtain ⟨y, hy, e⟩ := hiN_pos.1 hp
    have h1 := hu y hy
    rw [lvlT_of (by omega)] at e
    have h2 := levAt_mono (ts := ts) (j := plc ts (-y)) (k := i) (by omega)
    have h3 := levAt_mono (ts := ts) (j := i) (k := ts.length - 1) (by omega)
    omega
  refine ⟨by rw [hl1, hlev], ?_⟩
  obtain ⟨h1, h2, h3⟩ := latT_max hp
  have h4 := h3 _ (hasB_iff.1 hx) (by rw [hl1, hlev])
  have h5 := hu _ h1
  rw [plcI_of (by rw [hpl]; exact hi), plcI_of (by omega), hpl] at h4
  have h6 : plc ts (-(latT ts n S).1) = i := by omega
  have h7 := (plc_lt (ts := ts) (x := -(latT ts n S).1) (by omega)).1
  rw [h6] at h7
  omega

theorem uipL_stop {ls : List (List Int)} {ts : List Stp} {n : Int} {S : List Int} (h : hiN ts n S ≤ 1) : ∀ f, uipL ls ts n f S = S
  | 0 => rfl
  | f + 1 => by rw [uipL, if_pos (by rw [latT_count]; exact h)]

/-- a decision is the first of its level -/
theorem reason_is {x : Int} {ls : List (List Int)} {ts : List Stp} (h : Tr x ls ts) {i : Nat} {S : List Int} {n : Int} (hu : Under ts (i + 1) S) (hnd : S.Nodup) (hi : i < ts.length) (hx : hasB S (-(stp ts i).lit) = true) (hl : lvlT ts (-(stp ts i).lit) = n) (h2 : 2 ≤ hiN ts n S) : 0 ≤ (stp ts i).why := by
  have hw := (h.why i hi).1
  rcases Int.lt_or_le (stp ts i).why 0 with h0 | h0
  · have e : (stp ts i).why = -1 := by omega
    have hpl : plc ts (-(-(stp ts i).lit)) = i := by rw [Int.neg_neg]; exact h.plc hi
    have hl1 : lvlT ts (-(stp ts i).lit) = levAt ts i := by rw [lvlT_of (by rw [hpl]; exact hi), hpl]
    have h3 := without_hi (ts := ts) (n := n) hnd (hasB_iff.1 hx) hl
    have h4 : 0 < hiN ts n (without S (-(stp ts i).lit)) := by omega
    obtain ⟨y, hy, hly⟩ := hiN_pos.1 h4
    rw [mem_without] at hy
    have h5 := hu y hy.1
    have h6 : plc ts (-y) ≠ i := fun e2 => by
      have h7 := (plc_lt (ts := ts) (x := -y) (by omega)).1
      rw [e2] at h7
      exact hy.2 (by rw [h7]; omega)
    rw [lvlT_of (by omega)] at hly
    have h8 := levAt_yes hi e
    have h9 : levAt ts (plc ts (-y)) ≤ (cntD (ts.take i) : Int) := by
      unfold levAt cntD
      have : (ts.take (plc ts (-y) + 1)).Sublist (ts.take i) := by
        have e3 : ts.take (plc ts (-y) + 1) = (ts.take i).take (plc ts (-y) + 1) := by rw [List.take_take]; congr 1; omega
        rw [e3]; exact List.take_sublist _ _
      have := (this.filter fun s => s.why == -1).length_le
      omega
    rw [hl1] at hl
    omega
  · exact h0

/-- fuel beyond the places is idle -/
theorem uipL_fuel {x : Int} {ls : List (List Int)} {ts : List Stp} (h : Tr x ls ts) {n : Int} (hn : n = levAt ts (ts.length - 1)) : ∀ (i f : Nat) (S : List Int), i ≤ ts.length → Under ts i S → S.Nodup → i ≤ f → uipL ls ts n f S = uipL ls ts n i S := by
  intro i
  induction i with
  | zero =>
    intro f S _ hu _ _
    have : hiN ts n S ≤ 1 := by
      rcases Nat.eq_zero_or_pos (hiN ts n S) with h0 | h0
      · omega
      · obtain ⟨y, hy, _⟩ := hiN_pos.1 h0
        have := hu y hy; omega
    rw [uipL_stop this, uipL_stop this]
  | succ i ih =>
    intro f S hi hu hnd hf
    obtain ⟨g, rfl⟩ : ∃ g, f = g + 1 := ⟨f - 1, by omega⟩
    by_cases hc : hiN ts n S ≤ 1
    · rw [uipL_stop hc, uipL_stop hc]
    · cases hx : hasB S (-(stp ts i).lit) with
      | false =>
        have hu' := hu.stay (by omega) hx
        rw [ih (g + 1) S (by omega) hu' hnd (by omega), ih (i + 1) S (by omega) hu' hnd (by omega)]
      | true =>
        obtain ⟨hl, hlat⟩ := latest_is h hn hu (by omega) hx (by omega)
        have hw := reason_is h hu hnd (by omega) hx hl (by omega)
        rw [uipL, uipL, if_neg (by rw [latT_count]; exact hc), if_neg (by rw [latT_count]; exact hc), hlat]
        exact ih g _ (by omega) (hu.step h (by omega) hw) (moreL_nodup _ _ _ (without_nodup hnd)) (by omega)

/-- what the trail backwards has come to: S is on the derivation's road -/
structure Road (ls : List (List Int)) (ts : List Stp) (n : Int) (S0 : List Int) (i : Nat) (S : List Int) : Prop where
  same : uipL ls ts n i S = uipL ls ts n ts.length S0
  under : Under ts i S
  nd : S.Nodup
  pos : 0 < hiN ts n S

theorem Road.stay {x : Int} {ls : List (List Int)} {ts : List Stp} (h : Tr x ls ts) {n : Int} (hn : n = levAt ts (ts.length - 1)) {S0 S : List Int} {i : Nat} (r : Road ls ts n S0 (i + 1) S) (hi : i < ts.length) (hx : hasB S (-(stp ts i).lit) = false) : Road ls ts n S0 i S := by
  have hu := r.under.stay hi hx
  exact ⟨by rw [← r.same, uipL_fuel h hn i (i + 1) S (by omega) hu r.nd (by omega)], hu, r.nd, r.pos⟩
theorem Road.next {x : Int} {ls : List (List Int)} {ts : List Stp} (h : Tr x ls ts) {n : Int} (hn : n = levAt ts (ts.length - 1)) {S0 S : List Int} {i : Nat} (r : Road ls ts n S0 (i + 1) S) (hi : i < ts.length) (hx : hasB S (-(stp ts i).lit) = true) (hc : hiN ts n S ≠ 1) :
    lvlT ts (-(stp ts i).lit) = n ∧ 0 ≤ (stp ts i).why ∧ Road ls ts n S0 i (stepU ls ts S (-(stp ts i).lit)) := by
  have hp := r.pos
  obtain ⟨hl, hlat⟩ := latest_is h hn r.under hi hx hp
  have hw := reason_is h r.under r.nd hi hx hl (by omega)
  have hu := r.under.step h hi hw
  have hnd := moreL_nodup (ell ls (stp ts (plc ts (-(-(stp ts i).lit)))).why.toNat) (without S (-(stp ts i).lit)) (-(-(stp ts i).lit)) (without_nodup r.nd)
  refine ⟨hl, hw, ?_, hu, hnd, ?_⟩
  · rw [← r.same, uipL, if_neg (by rw [latT_count]; omega), hlat]
  · have h3 := without_hi (ts := ts) (n := n) r.nd (hasB_iff.1 hx) hl
    obtain ⟨y, hy, hly⟩ := hiN_pos.1 (show 0 < hiN ts n (without S (-(stp ts i).lit)) by omega)
    exact hiN_pos.2 ⟨y, by unfold stepU; rw [mem_moreL]; exact Or.inl hy, hly⟩
theorem Road.done {x : Int} {ls : List (List Int)} {ts : List Stp} (h : Tr x ls ts) {n : Int} (hn : n = levAt ts (ts.length - 1)) {S0 S : List Int} {i : Nat} (r : Road ls ts n S0 (i + 1) S) (hi : i < ts.length) (hx : hasB S (-(stp ts i).lit) = true) (hc : hiN ts n S = 1) :
    uipL ls ts n ts.length S0 = S ∧ (latT ts n S).1 = -(stp ts i).lit :=
  ⟨by rw [← r.same, uipL_stop (by omega)], (latest_is h hn r.under hi hx r.pos).2⟩
theorem Road.never {ls : List (List Int)} {ts : List Stp} {n : Int} {S0 S : List Int} (r : Road ls ts n S0 0 S) : False := by
  obtain ⟨y, hy, _⟩ := hiN_pos.1 r.pos
  have := r.under y hy; omega

end Go.Proofs.Ytenpenelikpeeaa
