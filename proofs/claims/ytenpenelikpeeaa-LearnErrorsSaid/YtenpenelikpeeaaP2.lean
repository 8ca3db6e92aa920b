/-
  What First answers, in plain words; the reference's loop stays on the derivation's road. No program in sight. No condition.
-/
import Derived.Test.YtenpenelikpeeaaE3
namespace Go.Proofs.Ytenpenelikpeeaa
set_option linter.unusedVariables false
set_option linter.unusedSimpArgs false

def lastT (ts : List Stp) : Int := (cntD ts : Int)
theorem lastT_lev {ts : List Stp} (h : 0 < ts.length) : lastT ts = levAt ts (ts.length - 1) := by
  unfold lastT levAt
  rw [show ts.length - 1 + 1 = ts.length by omega, List.take_length]
def start (ls : List (List Int)) (q : Int) : List Int := moreL [] 0 (ell ls q.toNat)
def firstE (x : Int) (ls : List (List Int)) (ts : List Stp) (q : Int) : Int :=
  if propE x ls ts ≠ 0 then propE x ls ts
  else if q < 0 ∨ (ls.length : Int) ≤ q ∨ deadB ts (ell ls q.toNat) = false then 1
  else if lastT ts = 0 ∨ hiN ts (lastT ts) (start ls q) = 0 then 200 else 0
def roadEnd (ls : List (List Int)) (ts : List Stp) (q : Int) : List Int := uipL ls ts (lastT ts) ts.length (start ls q)
def firstX (ls : List (List Int)) (ts : List Stp) (q : Int) : Int := (latT ts (lastT ts) (roadEnd ls ts q)).1
def highs (ts : List Stp) (S : List Int) : List Int := S.filter fun y => decide (0 < lvlT ts y)
def backG (ts : List Stp) (x : Int) (b : Int) : List Int → Int
  | [] => b
  | y :: l => backG ts x (if y = x then b else max b (lvlT ts y)) l
def backL (ts : List Stp) (x : Int) (S : List Int) : Int := backG ts x 0 S
theorem backG_snoc (ts : List Stp) (x y : Int) : ∀ (l : List Int) (b : Int), backG ts x b (l ++ [y]) = if y = x then backG ts x b l else max (backG ts x b l) (lvlT ts y)
  | [], b => rfl
  | z :: l, b => by rw [List.cons_append, backG, backG, backG_snoc ts x y l]

theorem Under.mono {ts : List Stp} {i j : Nat} {S : List Int} (h : Under ts i S) (hij : i ≤ j) : Under ts j S := fun y hy => Nat.lt_of_lt_of_le (h y hy) hij
theorem dead_under {ts : List Stp} {l : List Int} : deadB ts l = true ↔ Under ts ts.length l := by
  unfold deadB Under
  rw [List.all_eq_true]
  exact ⟨fun h y hy => by simpa using h y hy, fun h y hy => by simpa using h y hy⟩

theorem lvl_le {ts : List Stp} {y : Int} (h : plc ts (-y) < ts.length) : lvlT ts y ≤ lastT ts := by
  rw [lvlT_of h, lastT_lev (by omega)]; exact levAt_mono (by omega)

theorem ref_step {x : Int} {ls : List (List Int)} {ts : List Stp} (h : Tr x ls ts) {S : List Int} (hu : Under ts ts.length S) (hnd : S.Nodup) (h2 : 2 ≤ hiN ts (lastT ts) S) :
    plc ts (-(latT ts (lastT ts) S).1) < ts.length ∧ 0 ≤ (stp ts (plc ts (-(latT ts (lastT ts) S).1))).why ∧ Under ts (plc ts (-(latT ts (lastT ts) S).1)) (stepU ls ts S (latT ts (lastT ts) S).1) ∧
    (stepU ls ts S (latT ts (lastT ts) S).1).Nodup ∧ 0 < hiN ts (lastT ts) (stepU ls ts S (latT ts (lastT ts) S).1) ∧ uipL ls ts (lastT ts) ts.length (stepU ls ts S (latT ts (lastT ts) S).1) = uipL ls ts (lastT ts) ts.length S := by
  obtain ⟨h3, h4, h5⟩ := latT_max (show 0 < hiN ts (lastT ts) S by omega)
  generalize hz : (latT ts (lastT ts) S).1 = z at *
  have hi := hu z h3
  generalize hpi : plc ts (-z) = i at *
  have hlit : (stp ts i).lit = -z := by have := (plc_lt (ts := ts) (x := -z) (by omega)).1; rwa [hpi] at this
  have hze : -(stp ts i).lit = z := by omega
  have hlen : 0 < ts.length := by omega
  have hui : Under ts (i + 1) S := by
    intro y hy
    have h6 := hu y hy
    rcases Nat.lt_or_ge (plc ts (-y)) (i + 1) with h7 | h7
    · exact h7
    · have h8 : lvlT ts y = lastT ts := by
        have h9 := lvl_le h6
        have h10 : levAt ts i ≤ levAt ts (plc ts (-y)) := levAt_mono (by omega)
        rw [lvlT_of h6] at h9 ⊢
        rw [lvlT_of (by omega), hpi] at h4
        omega
      have h11 := h5 y hy h8
      rw [plcI_of h6, plcI_of (by omega), hpi] at h11
      omega
  have hx : hasB S (-(stp ts i).lit) = true := by rw [hze]; exact hasB_iff.2 h3
  have hw := reason_is h hui hnd hi hx (by rw [hze]; exact h4) h2
  have hu' := hui.step h hi hw
  rw [hze] at hu'
  have hnd' : (stepU ls ts S z).Nodup := moreL_nodup _ _ _ (without_nodup hnd)
  refine ⟨hi, hw, hu', hnd', ?_, ?_⟩
  · have h12 := without_hi (ts := ts) (n := lastT ts) hnd h3 h4
    obtain ⟨y, hy, hly⟩ := hiN_pos.1 (show 0 < hiN ts (lastT ts) (without S z) by omega)
    exact hiN_pos.2 ⟨y, by unfold stepU; rw [mem_moreL]; exact Or.inl hy, hly⟩
  · have hn := lastT_lev hlen
    obtain ⟨f, hf⟩ : ∃ f, ts.length = f + 1 := ⟨ts.length - 1, by omega⟩
    rw [uipL_fuel h hn i ts.length _ (by omega) hu' hnd' (by omega)]
    conv => rhs; rw [hf, uipL, if_neg (by rw [latT_count]; omega), hz]
    rw [uipL_fuel h hn i f _ (by omega) hu' hnd' (by omega)]

/-- false literals of a trail: none beside its opposite -/
theorem under_cons {x : Int} {ls : List (List Int)} {ts : List Stp} (h : Tr x ls ts) (hx : x ≤ 65536) {S : List Int} (hu : Under ts ts.length S) : Cons S := by
  have hl : ∀ y ∈ S, (stp ts (plc ts (-y))).lit = -y ∧ plc ts (-y) < ts.length := fun y hy => ⟨(plc_lt (hu y hy)).1, hu y hy⟩
  refine ⟨fun y hy => ?_, fun y hy hn => ?_⟩
  · obtain ⟨h1, h2⟩ := hl y hy
    have := isB_iff.1 (h.lit _ h2)
    rw [h1] at this
    omega
  · obtain ⟨h1, h2⟩ := hl y hy
    obtain ⟨h3, h4⟩ := hl _ hn
    rw [Int.neg_neg] at h3 h4
    rcases Nat.lt_trichotomy (plc ts (-y)) (plc ts y) with h5 | h5 | h5
    · exact (h.apart _ _ h5 h4).2 (by rw [h1, h3])
    · have := isB_iff.1 (h.lit _ h2)
      rw [h5] at h1
      rw [h3] at h1
      rw [h5] at this
      rw [h3] at this
      omega
    · exact (h.apart _ _ h5 h2).2 (by rw [h1, h3, Int.neg_neg])
theorem start_under {ls : List (List Int)} {ts : List Stp} {q : Int} (h : deadB ts (ell ls q.toNat) = true) : Under ts ts.length (start ls q) := by
  intro y hy
  unfold start at hy
  rw [mem_moreL] at hy
  rcases hy with hy | hy
  · cases hy
  · exact dead_under.1 h y hy.1
theorem start_nodup (ls : List (List Int)) (q : Int) : (start ls q).Nodup := moreL_nodup _ _ _ List.nodup_nil

/-- the end of the road: one literal of the last level -/
theorem road_end {x : Int} {ls : List (List Int)} {ts : List Stp} (h : Tr x ls ts) : ∀ (m : Nat) (S : List Int), Under ts ts.length S → S.Nodup → 0 < hiN ts (lastT ts) S → Under ts m S → m ≤ ts.length →
    Under ts ts.length (uipL ls ts (lastT ts) ts.length S) ∧ (uipL ls ts (lastT ts) ts.length S).Nodup ∧ hiN ts (lastT ts) (uipL ls ts (lastT ts) ts.length S) = 1 := by
  intro m
  induction m using Nat.strongRecOn with
  | _ m ih =>
    intro S hu hnd hp hm hml
    by_cases h1 : hiN ts (lastT ts) S ≤ 1
    · rw [uipL_stop h1]; exact ⟨hu, hnd, by omega⟩
    · obtain ⟨h2, h3, h4, h5, h6, h7⟩ := ref_step h hu hnd (by omega)
      rw [← h7]
      obtain ⟨h8, h9, h10⟩ := latT_max (show 0 < hiN ts (lastT ts) S by omega)
      have := hm _ h8
      exact ih _ this _ (h4.mono (by omega)) h5 h6 h4 (by omega)

end Go.Proofs.Ytenpenelikpeeaa
