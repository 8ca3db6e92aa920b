/-
  Back to a level, and one clause more: what unit propagation then finds. No program in sight. No condition.
  A region that draws its order, whose operations make memory: each operation is looked at once, under the facts of those that it waits for. No condition.
-/
import Derived.Test.YtenpenelikpeeaaZC23
import Derived.Test.YtenpenelikpeeaaZC18
import Derived.Orders
import Derived.Below

namespace Go.Proofs.Ytenpenelikpeeaa
set_option linter.unusedVariables false
set_option linter.unusedSimpArgs false

/-- the steps up to a level are the first ones -/
theorem back_take (ts : List Stp) (b : Int) : ∀ n, n ≤ ts.length → ∃ k0, k0 ≤ n ∧ backT ts b n = ts.take k0 ∧ ∀ k, k < n → (levAt ts k ≤ b ↔ k < k0)
  | 0, _ => ⟨0, Nat.le_refl _, rfl, fun k hk => by omega⟩
  | n + 1, hn => by
    obtain ⟨k0, h1, h2, h3⟩ := back_take ts b n (by omega)
    rw [backT_succ]
    by_cases hl : levAt ts n ≤ b
    · have hk0 : k0 = n := by
        rcases Nat.lt_or_ge k0 n with h | h
        · have h4 := levAt_mono (ts := ts) (j := k0) (k := n) (by omega)
          have h5 := (h3 k0 h).1 (by omega)
          omega
        · omega
      subst hk0
      rw [if_pos hl, h2]
      refine ⟨k0 + 1, Nat.le_refl _, by rw [takes_snoc ts k0 (by omega)], fun k hk => ?_⟩
      constructor
      · intro _; exact hk
      · intro _
        have := levAt_mono (ts := ts) (j := k) (k := k0) (by omega)
        omega
    · rw [if_neg hl]
      refine ⟨k0, by omega, h2, fun k hk => ?_⟩
      rcases Nat.lt_or_ge k n with h | h
      · exact h3 k h
      · have : k = n := by omega
        subst this
        constructor
        · intro h4; exact absurd h4 hl
        · intro h4; omega
theorem stp_take {ts : List Stp} {k j : Nat} (h : j < k) : stp (ts.take k) j = stp ts j := by
  unfold stp
  rw [List.getD_eq_getElem?_getD, List.getD_eq_getElem?_getD, List.getElem?_take, if_pos h]
theorem ell_left {ls ms : List (List Int)} {k : Nat} (h : k < ls.length) : ell (ls ++ ms) k = ell ls k := by
  unfold ell
  rw [List.getD_eq_getElem?_getD, List.getD_eq_getElem?_getD, List.getElem?_append_left h]
theorem stepOk_left {x : Int} {ls ms : List (List Int)} {prev : List Int} {s : Stp} (h : stepOk x ls prev s = true) : stepOk x (ls ++ ms) prev s = true := by
  unfold stepOk at *
  simp only [Bool.and_eq_true, decide_eq_true_eq, List.length_append] at h ⊢
  obtain ⟨h1, h2⟩ := h
  by_cases hw : 0 ≤ s.why
  · rw [ell_left (by omega)]
    exact ⟨⟨h1.1, by omega⟩, h2⟩
  · exact ⟨⟨h1.1, by omega⟩, by rw [Bool.or_eq_true]; exact Or.inl (decide_eq_true (by omega))⟩
/-- a trail cut, for a formula grown -/
theorem trail_cut {x : Int} {ls : List (List Int)} {ts : List Stp} (ms : List (List Int)) (k : Nat) (h : trailB x ls ts = true) : trailB x (ls ++ ms) (ts.take k) = true := by
  unfold trailB trailTo at h ⊢
  rw [List.all_eq_true] at h ⊢
  intro j hj
  have hj' := List.mem_range.1 hj
  rw [List.length_take] at hj'
  rw [stp_take (by omega), List.take_take, show min j k = j by omega]
  exact stepOk_left (h j (List.mem_range.2 (by omega)))
theorem check_more {x : Int} {ls : List (List Int)} {l : List Int} (h : checkE x ls = 0) (hl : ∀ y ∈ l, isB y x = true) (hn : ls.length < 65536) : checkE x (ls ++ [l]) = 0 := by
  have hx := checkE_n h
  refine checkE_ok hx ?_ (by rw [List.length_append, List.length_singleton]; omega)
  unfold allB litsB
  rw [List.all_eq_true]
  intro m hm
  rw [List.all_eq_true]
  intro y hy
  rcases List.mem_append.1 hm with h1 | h1
  · exact checkE_isB h h1 hy
  · rw [List.mem_singleton] at h1
    exact hl y (h1 ▸ hy)

/-- the last literal of a level -/
def lastHi (ts : List Stp) (n : Int) (l : List Int) : Int := l.foldl (fun m y => if lvlT ts y = n then y else m) 0
theorem lastHi_snoc (ts : List Stp) (n : Int) (l : List Int) (y : Int) : lastHi ts n (l ++ [y]) = if lvlT ts y = n then y else lastHi ts n l := by
  unfold lastHi; rw [List.foldl_append]; rfl
theorem lastHi_mem (ts : List Stp) (n : Int) (l : List Int) : 0 < hiN ts n l → lastHi ts n l ∈ l ∧ lvlT ts (lastHi ts n l) = n := by
  induction l using snoc_ind with
  | h0 => intro h; simp [hiN] at h
  | h1 l y ih =>
    intro h
    rw [hiN_snoc] at h
    rw [lastHi_snoc]
    by_cases e : lvlT ts y = n
    · rw [if_pos e]; exact ⟨by simp, e⟩
    · rw [if_neg e] at h ⊢
      obtain ⟨h1, h2⟩ := ih (by omega)
      exact ⟨by simp [h1], h2⟩

/-- what stands behind First, for the way back -/
structure Jump (x : Int) (ls : List (List Int)) (ts : List Stp) (L : List Int) (us : List Stp) : Prop where
  prop : propE x (ls ++ [L]) us = 0
  high : ∀ y ∈ L, lvlT ts y = lastT ts → lvlT us y < 0 ∧ lvlT (flipT us) y < 0
  low : ∀ y ∈ L, lvlT ts y ≠ lastT ts → 0 ≤ lvlT us y
  found : (propT x (ls ++ [L]) us).1 = none → 0 ≤ lvlT (flipT (propT x (ls ++ [L]) us).2.ts) (lastHi ts (lastT ts) L)
theorem jump_of {x : Int} {ls : List (List Int)} {ts : List Stp} {q : Int} (h : firstE x ls ts q = 0) (hn : ls.length < 65536) : Jump x ls ts (firstL x ls ts q) (backT ts (firstB x ls ts q) ts.length) := by
  have R := rd_of h
  obtain ⟨a1, a2, a3, a4, a5⟩ := asserting h
  have hpe : propE x ls ts = 0 := by
    unfold firstE at h
    by_cases h0 : propE x ls ts = 0
    · exact h0
    · rw [if_pos h0] at h; exact absurd h h0
  obtain ⟨hc, ht⟩ := propE_zero hpe
  obtain ⟨k0, k1, k2, k3⟩ := back_take ts (firstB x ls ts q) ts.length (Nat.le_refl _)
  obtain ⟨L, hL⟩ : ∃ L, firstL x ls ts q = L := ⟨_, rfl⟩
  have hu := firstL_under h
  have hmost := (mostT_spec ts (lastT ts) (firstL x ls ts q)).2.1
  rw [a2] at hmost
  rw [hL] at a1 hu a5 hmost ⊢
  rw [k2]
  have hlit : ∀ y ∈ L, isB y x = true := fun y hy => by
    have h1 := hu y hy
    have h2 := R.tr.lit _ h1
    rw [(plc_lt h1).1] at h2
    rw [isB_iff] at h2 ⊢
    omega
  have inU : ∀ y ∈ L, hasB (litsOf (ts.take k0)) (-y) = true ↔ plc ts (-y) < k0 := fun y hy => by
    have h1 := hu y hy
    rw [hasB_iff, mem_litsTake k1]
    constructor
    · rintro ⟨j, hj, e⟩
      have := R.tr.plc (k := j) (by omega)
      rw [e] at this
      omega
    · intro h2
      exact ⟨_, h2, (plc_lt h1).1⟩
  have hilo : ∀ y ∈ L, (lvlT ts y = lastT ts ↔ ¬ plc ts (-y) < k0) := fun y hy => by
    have h1 := hu y hy
    have h2 := k3 _ h1
    rw [lvlT_of h1]
    constructor
    · intro e h3
      have := h2.2 h3
      omega
    · intro h3
      rcases Decidable.em (lvlT ts y = lastT ts) with h4 | h4
      · rw [← lvlT_of h1]; exact h4
      · have := hmost y hy h4
        rw [lvlT_of h1] at this
        exact absurd (h2.1 this) h3
  have hprop : propE x (ls ++ [L]) (ts.take k0) = 0 := by
    unfold propE
    rw [if_neg (by simpa using check_more hc hlit hn), if_pos (trail_cut [L] k0 ht)]
  refine ⟨hprop, fun y hy hh => ⟨?_, ?_⟩, fun y hy hh => ?_, fun hnone => ?_⟩
  · rw [lvl_neg]
    cases hb : hasB (litsOf (ts.take k0)) (-y) with
    | false => rfl
    | true => exact absurd ((inU y hy).1 hb) ((hilo y hy).1 hh)
  · rw [lvl_flip, hasB_false, mem_litsTake k1]
    rintro ⟨j, hj, e⟩
    have h1 := hu y hy
    have h2 := trail_apart (y := -y) ht (plc_has.1 h1)
    rw [Int.neg_neg, hasB_false] at h2
    apply h2
    rw [← e]
    exact List.mem_map.2 ⟨_, stp_mem (by omega), rfl⟩
  · rcases Int.lt_or_le (lvlT (ts.take k0) y) 0 with h1 | h1
    · rw [lvl_neg] at h1
      have : plc ts (-y) < k0 := by
        rcases Decidable.em (plc ts (-y) < k0) with h2 | h2
        · exact h2
        · exact absurd ((hilo y hy).2 h2) hh
      rw [(inU y hy).2 this] at h1; cases h1
    · exact h1
  · have hF := prop_fixed hprop
    obtain ⟨m1, m2⟩ := lastHi_mem ts (lastT ts) L (by omega)
    generalize lastHi ts (lastT ts) L = y at *
    have huniq : ∀ z ∈ L, z ≠ y → hasB (litsOf (ts.take k0)) (-z) = true := fun z hz hne => by
      rw [inU z hz]
      rcases Decidable.em (plc ts (-z) < k0) with h2 | h2
      · exact h2
      · have h3 := (hilo z hz).2 h2
        have hnd : L.Nodup := by rw [← hL]; exact asc_nodup (firstL_asc h)
        have h4 := without_hi (ts := ts) hnd m1 m2
        have h5 : 0 < hiN ts (lastT ts) (without L y) := hiN_pos.2 ⟨z, mem_without.2 ⟨hz, hne⟩, h3⟩
        omega
    have hany := fixed_unit hF hnone (l := L) (by simp) huniq
    obtain ⟨z, hz, hzz⟩ := List.any_eq_true.1 hany
    have hzy : z = y := by
      rcases Decidable.em (z = y) with e | e
      · exact e
      · have h1 := huniq z hz e
        have h2 := trail_apart hF.tr hzz
        rw [hasB_false] at h2
        exact absurd (litsOf_sub hF.more _ (hasB_iff.1 h1)) h2
    subst hzy
    rcases Int.lt_or_le (lvlT (flipT (propT x (ls ++ [L]) (ts.take k0)).2.ts) z) 0 with h1 | h1
    · rw [lvl_flip, hzz] at h1; cases h1
    · exact h1

end Go.Proofs.Ytenpenelikpeeaa

namespace Go.Proofs.Ytenpenelikpeeaa
open Go.RowKit
set_option linter.unusedVariables false
set_option linter.unusedSimpArgs false

/-- the slot that an operation writes -/
def dstAt (ops : Array Oper) (j : Nat) : Option Tmp := (ops[j]?).bind fun o : Oper => o.dst

/-- the frame in which the listed operations have left their values, in the text's order -/
def frU (ops : Array Oper) (vals : Nat → Value) (L : Nat → Bool) (a : Act) : Nat → Act
  | 0 => a
  | k + 1 => if L k = true then (frU ops vals L a k).put (dstAt ops k) (vals k) else frU ops vals L a k

def updV (vals : Nat → Value) (i : Nat) (v : Value) : Nat → Value := fun j => if j = i then v else vals j
def updB (L : Nat → Bool) (i : Nat) : Nat → Bool := fun j => if j = i then true else L j

theorem put_comm {a : Act} {d e : Option Tmp} {u v : Value} (h : ∀ s, d = some s → e ≠ some s) : (a.put d u).put e v = (a.put e v).put d u := by
  cases d with
  | none => rfl
  | some d =>
    cases e with
    | none => rfl
    | some e =>
      have hne : d ≠ e := fun x => h d rfl (x ▸ rfl)
      simp only [Act.put]
      rw [Array.setIfInBounds_comm _ _ hne]

section
variable {ops : Array Oper} {vals : Nat → Value} {L : Nat → Bool} {a : Act} {i : Nat} {v : Value}

theorem frU_low : ∀ k, k ≤ i → frU ops (updV vals i v) (updB L i) a k = frU ops vals L a k
  | 0, _ => rfl
  | k + 1, hk => by
    have hne : k ≠ i := by omega
    simp only [frU, frU_low k (by omega)]
    have e1 : updB L i k = L k := by unfold updB; rw [if_neg hne]
    have e2 : updV vals i v k = vals k := by unfold updV; rw [if_neg hne]
    rw [e1, e2]
theorem frU_put (hd : ∀ j, j ≠ i → ∀ s, dstAt ops i = some s → dstAt ops j ≠ some s) (hL : L i = false) : ∀ k, i < k →
    (frU ops vals L a k).put (dstAt ops i) v = frU ops (updV vals i v) (updB L i) a k
  | 0, h => by omega
  | k + 1, h => by
    by_cases e : k = i
    · subst e
      simp only [frU]
      rw [frU_low k (Nat.le_refl _), hL]
      have e1 : updB L k k = true := by unfold updB; rw [if_pos rfl]
      have e2 : updV vals k v k = v := by unfold updV; rw [if_pos rfl]
      rw [e1, e2]
      simp
    · simp only [frU]
      have e1 : updB L i k = L k := by unfold updB; rw [if_neg e]
      have e2 : updV vals i v k = vals k := by unfold updV; rw [if_neg e]
      rw [e1, e2, ← frU_put hd hL k (by omega)]
      by_cases hk : L k = true
      · rw [if_pos hk, if_pos hk]
        exact put_comm fun s h1 h2 => hd k e s h2 h1
      · rw [if_neg hk, if_neg hk]
/-- what the frame shows of an operand -/
theorem put_size (a : Act) (d : Option Tmp) (v : Value) : (a.put d v).tmps.size = a.tmps.size := by
  cases d <;> simp [Act.put]
theorem frU_size : ∀ k, (frU ops vals L a k).tmps.size = a.tmps.size
  | 0 => rfl
  | k + 1 => by
    simp only [frU]
    split
    · rw [put_size, frU_size k]
    · exact frU_size k
theorem eval_put_ne {a : Act} {d : Option Tmp} {v : Value} {x : Operand} (h : ∀ s, d = some s → x ≠ .tmp s) : (a.put d v).eval x = a.eval x := by
  cases d with
  | none => rfl
  | some s =>
    cases x with
    | tmp t =>
      have hne : s ≠ t := fun e => h s rfl (e ▸ rfl)
      simp only [Act.put, Act.eval]
      rw [Array.getD_eq_getD_getElem?, Array.getD_eq_getD_getElem?, Array.getElem?_setIfInBounds_ne hne]
    | const v => rfl
    | global g => rfl
    | func f => rfl
theorem eval_put_eq {a : Act} {s : Tmp} {v : Value} (h : s < a.tmps.size) : (a.put (some s) v).eval (.tmp s) = v := by
  simp only [Act.put, Act.eval]
  rw [Array.getD_eq_getD_getElem?, Array.getElem?_setIfInBounds_self_of_lt h]
  rfl
theorem frU_old {x : Operand} (h : ∀ j s, L j = true → dstAt ops j = some s → x ≠ .tmp s) : ∀ k, (frU ops vals L a k).eval x = a.eval x
  | 0 => rfl
  | k + 1 => by
    simp only [frU]
    by_cases hk : L k = true
    · rw [if_pos hk, eval_put_ne (fun s => h k s hk), frU_old h k]
    · rw [if_neg hk]; exact frU_old h k
theorem frU_new {j : Nat} {s : Tmp} (hj : dstAt ops j = some s) (hs : s < a.tmps.size) (hL : L j = true) (hd : ∀ i, i ≠ j → dstAt ops i ≠ some s) : ∀ k, j < k → (frU ops vals L a k).eval (.tmp s) = vals j
  | 0, h => by omega
  | k + 1, h => by
    by_cases e : k = j
    · subst e
      simp only [frU]
      rw [if_pos hL, hj, eval_put_eq (by rw [frU_size]; exact hs)]
    · simp only [frU]
      split
      · rw [eval_put_ne (fun t ht hx => hd k e (by rw [ht]; injection hx with hx; rw [hx]))]
        exact frU_new hj hs hL hd k (by omega)
      · exact frU_new hj hs hL hd k (by omega)
end

/-- one operation, its operands' values known: it leaves one value and a world that meet the condition -/
def GivesR (P : Program) (post : Value → World → Prop) : Result Next → Prop
  | .ok (.value v) w' => post v w'
  | .ok .skip w' => post undef w'
  | .ok (.enter f args) w' => Calls P f args w' fun e w'' => ∃ v, e = .returned v ∧ post v w''
  | _ => False
def Gives (P : Program) (ρ : Operand → Value) (o : Oper) (w : World) (post : Value → World → Prop) : Prop := GivesR P post ((execOp ρ o).run P w)

theorem Gives.wp {P : Program} {o : Oper} {a : Act} {w : World} {post : Value → World → Prop} {K : Act → World → Prop} {Q : Exit → Act → World → Prop} (h : Gives P a.eval o w post) (hk : ∀ v w', post v w' → K (a.put o.dst v) w') : o.wp P a w K Q := by
  unfold Gives at h
  unfold Oper.wp
  generalize (execOp a.eval o).run P w = r at *
  cases r with
  | ok n w' =>
    cases n <;> simp only [GivesR] at h <;> simp only [Oper.upon]
    case value u => exact hk _ _ h
    case skip => exact hk _ _ h
    case enter f args =>
      refine h.mono fun e w'' ⟨v, he, hp⟩ => ?_
      subst he
      exact hk _ _ hp
  | halt x w' => simp only [GivesR] at h

/-- what the shape of a region must be: plain operations, no guard, each slot written once -/
def dstsOk (ops : Array Oper) : Bool := (List.range ops.size).all fun i => (List.range ops.size).all fun j => j == i || match dstAt ops i with
  | some s => dstAt ops j != some s
  | none => true
def noGuard (ops : Array Oper) : Bool := ops.all fun o => o.guard.isNone
theorem dstsOk_spec {ops : Array Oper} (h : dstsOk ops = true) {i j : Nat} (hne : j ≠ i) {s : Tmp} (hi : dstAt ops i = some s) : dstAt ops j ≠ some s := by
  intro hj
  have hi' : i < ops.size := by
    cases ho : ops[i]? with
    | none => unfold dstAt at hi; rw [ho] at hi; cases hi
    | some o => exact (Array.getElem?_eq_some_iff.1 ho).1
  have hj' : j < ops.size := by
    cases ho : ops[j]? with
    | none => unfold dstAt at hj; rw [ho] at hj; cases hj
    | some o => exact (Array.getElem?_eq_some_iff.1 ho).1
  unfold dstsOk at h
  simp only [List.all_eq_true, List.mem_range] at h
  have h1 := h i hi' j hj'
  rw [hi] at h1
  simp only [Bool.or_eq_true, beq_iff_eq, hne, false_or, bne_iff_ne, ne_eq] at h1
  exact h1 hj

def lstdF (listed : Array Bool) : Nat → Bool := fun j => listed.getD j false
theorem lstdF_set {listed : Array Bool} {i : Nat} (h : i < listed.size) : lstdF (listed.setIfInBounds i true) = updB (lstdF listed) i := by
  funext j
  unfold lstdF updB
  by_cases e : j = i
  · subst e
    rw [if_pos rfl, Array.getD_eq_getD_getElem?, Array.getElem?_setIfInBounds_self_of_lt h]; rfl
  · rw [if_neg e]
    show (listed.setIfInBounds i true).getD j false = listed.getD j false
    rw [Array.getD_eq_getD_getElem?, Array.getD_eq_getD_getElem?, Array.getElem?_setIfInBounds_ne (fun x => e x.symm)]

/-- the facts of what is listed and not yet used up -/
def Facts (G : Nat → Value → World → Prop) (dead : Nat → Option Nat) (L : Nat → Bool) (vals : Nat → Value) (w : World) : Prop :=
  ∀ j, L j = true → (∀ c, dead j = some c → L c = false) → G j (vals j) w

def dstL (ds : List (Option Tmp)) (j : Nat) : Option Tmp := ds.getD j none
/-- what is known of the operations that one waits for -/
def DepsOk (ds : List (Option Tmp)) (G : Nat → Value → World → Prop) (dead : Nat → Option Nat) (i : Nat) (vals : Nat → Value) (w : World) (ρ : Operand → Value) : List Edge → Prop
  | [] => True
  | e :: r => (Region.binds .any e = true → ((dead e.on = none ∨ dead e.on = some i) → G e.on (vals e.on) w) ∧ ∀ s, dstL ds e.on = some s → ρ (.tmp s) = vals e.on) ∧ DepsOk ds G dead i vals w ρ r
/-- operation j waits for operation i -/
def wsL (ws : List (List Nat)) (j i : Nat) : Bool := (ws.getD j []).contains i
/-- slots written ahead of the region -/
def OldOk (ev : Operand → Value) : List (Tmp × Value) → Prop
  | [] => True
  | p :: r => ev (.tmp p.1) = p.2 ∧ OldOk ev r
/-- no operation writes the slot before operation i -/
def oldB (ds : List (Option Tmp)) (ws : List (List Nat)) (i : Nat) (s : Tmp) : Bool := (List.range ds.length).all fun j => dstL ds j != some s || wsL ws j i
def OldAt (ds : List (Option Tmp)) (ws : List (List Nat)) (i : Nat) (ev : Operand → Value) : List (Tmp × Value) → Prop
  | [] => True
  | p :: r => (oldB ds ws i p.1 = true → ev (.tmp p.1) = p.2) ∧ OldAt ds ws i ev r
theorem OldAt.of {ev ev' : Operand → Value} {ds : List (Option Tmp)} {ws : List (List Nat)} {i : Nat} (he : ∀ s, oldB ds ws i s = true → ev' (.tmp s) = ev (.tmp s)) : ∀ {l : List (Tmp × Value)}, OldOk ev l → OldAt ds ws i ev' l
  | [], _ => trivial
  | p :: r, h => ⟨fun hb => (he _ hb).trans h.1, OldAt.of he h.2⟩
theorem oldB_spec {ds : List (Option Tmp)} {ws : List (List Nat)} {i : Nat} {s : Tmp} (h : oldB ds ws i s = true) {j : Nat} (hj : dstL ds j = some s) : wsL ws j i = true := by
  have hlt : j < ds.length := by
    rcases Nat.lt_or_ge j ds.length with h1 | h1
    · exact h1
    · unfold dstL at hj
      rw [List.getD_eq_getElem?_getD, List.getElem?_eq_none h1] at hj; cases hj
  unfold oldB at h
  rw [List.all_eq_true] at h
  have := h j (List.mem_range.2 hlt)
  rw [hj] at this
  simpa using this
/-- what an operand that is no slot says -/
def PlainOk (ev : Operand → Value) : Prop := (∀ v, ev (.const v) = v) ∧ (∀ g, ev (.global g) = .pointer (some ⟨g, 0, none⟩)) ∧ ∀ f, ev (.func f) = .func (.func f) #[] #[]
theorem PlainOk.act (a : Act) : PlainOk a.eval := ⟨fun _ => rfl, fun _ => rfl, fun _ => rfl⟩
/-- .. or for one that waits for it, and so on -/
def reachB (ws : List (List Nat)) : Nat → Nat → Nat → Bool
  | 0, j, i => wsL ws j i
  | n + 1, j, i => wsL ws j i || (ws.getD j []).any fun k => reachB ws n k i
/-- what one operation leaves -/
def StepPost (ws : List (List Nat)) (Base : World → Prop) (G : Nat → Value → World → Prop) (dead : Nat → Option Nat) (i : Nat) (w : World) (v : Value) (w' : World) : Prop :=
  Base w' ∧ G i v w' ∧ ∀ j u, j ≠ i → dead j ≠ some i → reachB ws 8 j i = false → (∀ c, dead j = some c → reachB ws 8 i c = false) → G j u w → G j u w'
theorem StepPost.same {ws : List (List Nat)} {Base : World → Prop} {G : Nat → Value → World → Prop} {dead : Nat → Option Nat} {i : Nat} {w : World} {v : Value} (hB : Base w) (h : G i v w) : StepPost ws Base G dead i w v w := ⟨hB, h, fun _ _ _ _ _ _ h => h⟩
theorem StepPost.more {ws : List (List Nat)} {Base : World → Prop} {G : Nat → Value → World → Prop} {dead : Nat → Option Nat} {i : Nat} {w w' : World} {v : Value} (hm : ∀ j u w w', Below w.heap.size w w' → G j u w → G j u w') (hb : Below w.heap.size w w') (hB : Base w') (h : G i v w') : StepPost ws Base G dead i w v w' := ⟨hB, h, fun j u _ _ _ _ h => hm j u w w' hb h⟩
/-- what is asked of one operation -/
def StepOk (P : Program) (ds : List (Option Tmp)) (ws : List (List Nat)) (old : List (Tmp × Value)) (Base : World → Prop) (G : Nat → Value → World → Prop) (dead : Nat → Option Nat) (i : Nat) (o : Oper) : Prop :=
  ∀ (vals : Nat → Value) (w : World) (ρ : Operand → Value), Base w → DepsOk ds G dead i vals w ρ o.after.toList → OldAt ds ws i ρ old → PlainOk ρ →
    Gives P ρ o w (StepPost ws Base G dead i w)
def StepsOk (P : Program) (ds : List (Option Tmp)) (ws : List (List Nat)) (old : List (Tmp × Value)) (Base : World → Prop) (G : Nat → Value → World → Prop) (dead : Nat → Option Nat) : Nat → List Oper → Prop
  | _, [] => True
  | k, o :: r => StepOk P ds ws old Base G dead k o ∧ StepsOk P ds ws old Base G dead (k + 1) r
theorem StepsOk.at {P : Program} {ds : List (Option Tmp)} {ws : List (List Nat)} {old : List (Tmp × Value)} {Base : World → Prop} {G : Nat → Value → World → Prop} {dead : Nat → Option Nat} : ∀ {l : List Oper} {k i : Nat} {o : Oper}, StepsOk P ds ws old Base G dead k l → l[i]? = some o → StepOk P ds ws old Base G dead (k + i) o
  | [], k, i, o, _, h => by simp at h
  | x :: l, k, 0, o, hs, h => by
    simp only [List.getElem?_cons_zero, Option.some.injEq] at h
    subst h
    exact hs.1
  | x :: l, k, i + 1, o, hs, h => by
    rw [List.getElem?_cons_succ] at h
    have := StepsOk.at hs.2 h
    rwa [show k + 1 + i = k + (i + 1) by omega] at this
theorem DepsOk.of {ds : List (Option Tmp)} {G : Nat → Value → World → Prop} {dead : Nat → Option Nat} {i : Nat} {vals : Nat → Value} {w : World} {ρ : Operand → Value} : ∀ {l : List Edge}, (∀ e ∈ l, Region.binds .any e = true → ((dead e.on = none ∨ dead e.on = some i) → G e.on (vals e.on) w) ∧ ∀ s, dstL ds e.on = some s → ρ (.tmp s) = vals e.on) → DepsOk ds G dead i vals w ρ l
  | [], _ => trivial
  | e :: r, h => ⟨h e (by simp), DepsOk.of fun e' he => h e' (by simp [he])⟩

def dstsIn (ops : Array Oper) (n : Nat) : Bool := ops.all fun o => match o.dst with | some s => decide (s < n) | none => true
theorem dstsIn_spec {ops : Array Oper} {n : Nat} (h : dstsIn ops n = true) {j : Nat} {s : Tmp} (hs : dstAt ops j = some s) : s < n := by
  unfold dstAt at hs
  cases ho : ops[j]? with
  | none => rw [ho] at hs; cases hs
  | some o =>
    rw [ho] at hs
    have hs' : o.dst = some s := hs
    unfold dstsIn at h
    rw [Array.all_eq_true_iff_forall_mem] at h
    have := h o (Array.mem_of_getElem? ho)
    simp only [hs', decide_eq_true_eq] at this
    exact this
theorem mem_ready' {md : Region.Mode} {ops : Array Oper} {listed : Array Bool} {i : Nat} (h : i ∈ Region.ready md ops listed) : i < ops.size ∧ listed.getD i true = false ∧ ∃ o, ops[i]? = some o ∧ ∀ e ∈ o.after, Region.binds md e = true → listed.getD e.on false = true := by
  unfold Region.ready at h
  obtain ⟨h1, h2⟩ := List.mem_filter.1 h
  have h3 := List.mem_range.1 h1
  simp only [Bool.and_eq_true, Bool.not_eq_true'] at h2
  refine ⟨h3, h2.1, ops[i], Array.getElem?_eq_getElem h3, fun e he hb => ?_⟩
  have h4 := h2.2
  rw [Array.getElem?_eq_getElem h3] at h4
  simp only [Option.map_some, Option.getD_some] at h4
  rw [Array.all_eq_true_iff_forall_mem] at h4
  have h5 := h4 e he
  rw [hb] at h5
  simpa using h5

section
variable {ops : Array Oper}

/-- the number of operations not yet listed -/
def openN (ops : Array Oper) (listed : Array Bool) : Nat := ((List.range ops.size).filter fun i => !listed.getD i true).length
theorem openN_set {listed : Array Bool} {i : Nat} (hi : i < ops.size) (h : listed.getD i true = false) : openN ops (listed.setIfInBounds i true) < openN ops listed := by
  unfold openN
  have hsz : i < listed.size := by
    rcases Nat.lt_or_ge i listed.size with h1 | h1
    · exact h1
    · rw [Array.getD_eq_getD_getElem?, Array.getElem?_eq_none h1] at h; cases h
  have e : ((List.range ops.size).filter fun j => !(listed.setIfInBounds i true).getD j true) = ((List.range ops.size).filter fun j => !listed.getD j true).filter fun j => j != i := by
    rw [List.filter_filter]
    refine List.filter_congr fun j _ => ?_
    by_cases e : j = i
    · subst e
      rw [Array.getD_eq_getD_getElem?, Array.getElem?_setIfInBounds_self_of_lt hsz]
      simp
    · rw [Array.getD_eq_getD_getElem?, Array.getElem?_setIfInBounds_ne (fun x => e x.symm), Array.getD_eq_getD_getElem?]
      simp [e]
  rw [e]
  have hm : i ∈ (List.range ops.size).filter fun j => !listed.getD j true := List.mem_filter.2 ⟨List.mem_range.2 hi, by rw [h]; rfl⟩
  generalize ((List.range ops.size).filter fun j => !listed.getD j true) = l at *
  clear e
  rcases Nat.lt_or_ge (l.filter fun j => j != i).length l.length with h1 | h1
  · exact h1
  · have h2 := List.filter_eq_self.1 (List.length_filter_eq_length_iff.1 (Nat.le_antisymm (List.length_filter_le _ _) h1) |> fun h => List.filter_eq_self.2 h)
    have := h2 i hm
    simp at this

end

/-- in a region whose operations wait only for earlier ones something is always ready -/
def earlier (ops : Array Oper) : Bool := (List.range ops.size).all fun i => match ops[i]? with
  | some o => o.after.all fun e => !Region.binds .any e || decide (e.on < i)
  | none => true
theorem ready_nil {ops : Array Oper} (h : earlier ops = true) {listed : Array Bool} (hsz : listed.size = ops.size) (hr : Region.ready .any ops listed = []) : openN ops listed = 0 := by
  have key : ∀ i, i < ops.size → listed.getD i true = true := by
    intro i
    induction i using Nat.strongRecOn with
    | _ i ih =>
      intro hi
      cases hl : listed.getD i true with
      | true => rfl
      | false =>
        exfalso
        have : i ∈ Region.ready .any ops listed := by
          unfold Region.ready
          refine List.mem_filter.2 ⟨List.mem_range.2 hi, ?_⟩
          rw [hl, Array.getElem?_eq_getElem hi]
          simp only [Bool.not_false, Bool.true_and, Option.map_some, Option.getD_some]
          rw [Array.all_eq_true_iff_forall_mem]
          intro e he
          cases hb : Region.binds .any e with
          | false => rfl
          | true =>
            unfold earlier at h
            simp only [List.all_eq_true, List.mem_range] at h
            have h1 := h i hi
            rw [Array.getElem?_eq_getElem hi] at h1
            simp only [] at h1
            rw [Array.all_eq_true_iff_forall_mem] at h1
            have h2 := h1 e he
            rw [hb] at h2
            have h3 : e.on < i := by simpa using h2
            have h4 := ih e.on h3 (by omega)
            have hlt : e.on < listed.size := by omega
            rw [Array.getD_eq_getD_getElem?, Array.getElem?_eq_getElem hlt] at h4 ⊢
            simpa using h4
        rw [hr] at this; cases this
  unfold openN
  rw [List.length_eq_zero_iff, List.filter_eq_nil_iff]
  intro i hi
  rw [key i (List.mem_range.1 hi)]
  simp

theorem dstAt_map (l : List Oper) (j : Nat) : dstAt l.toArray j = dstL (l.map fun o : Oper => o.dst) j := by
  unfold dstAt dstL
  rw [List.getElem?_toArray, List.getD_eq_getElem?_getD, List.getElem?_map]
  cases l[j]? <;> rfl
/-- values put into their slots in turn -/
def putsL : List (Option Tmp) → Nat → (Nat → Value) → Act → Act
  | [], _, _, a => a
  | d :: r, k, vals, a => putsL r (k + 1) vals (a.put d (vals k))
theorem putsL_snoc : ∀ (l : List (Option Tmp)) (d : Option Tmp) (k : Nat) (vals : Nat → Value) (a : Act), putsL (l ++ [d]) k vals a = (putsL l k vals a).put d (vals (k + l.length))
  | [], d, k, vals, a => rfl
  | e :: l, d, k, vals, a => by
    rw [List.cons_append, putsL, putsL_snoc l d, putsL, List.length_cons]
    congr 2
    omega
/-- all but the last listed -/
def butL (n : Nat) : Nat → Bool := fun j => decide (j < n)
theorem frU_puts (l : List Oper) (vals : Nat → Value) (a : Act) (n : Nat) : ∀ k, k ≤ n → k ≤ l.length → frU l.toArray vals (butL n) a k = putsL ((l.map fun o : Oper => o.dst).take k) 0 vals a
  | 0, _, _ => rfl
  | k + 1, hk, hl => by
    have e : (l.map fun o : Oper => o.dst).take (k + 1) = (l.map fun o : Oper => o.dst).take k ++ [dstAt l.toArray k] := by
      rw [List.take_add_one]
      congr 1
      rw [List.getElem?_map, List.getElem?_eq_getElem (by omega)]
      unfold dstAt
      rw [List.getElem?_toArray, List.getElem?_eq_getElem (by omega)]
      rfl
    rw [e, putsL_snoc]
    simp only [frU]
    have hb : butL n k = true := by unfold butL; simp; omega
    rw [if_pos hb, frU_puts l vals a n k (by omega) (by omega), List.length_take, List.length_map]
    congr 2
    omega
/-- the last operation waits for all others -/
def lastWaits (l : List Oper) (n : Nat) : Bool := match l[n]? with
  | some o => (List.range n).all fun j => o.after.any fun e => Region.binds .any e && e.on == j
  | none => false

section
variable {P : Program} {l : List Oper} {Q : Exit → Act → World → Prop} {a : Act} {old : List (Tmp × Value)} {Base : World → Prop} {G : Nat → Value → World → Prop} {dead : Nat → Option Nat}
theorem frU_congr {ops : Array Oper} {vals : Nat → Value} {L L' : Nat → Bool} {a : Act} : ∀ k, (∀ j, j < k → L j = L' j) → frU ops vals L a k = frU ops vals L' a k
  | 0, _ => rfl
  | k + 1, h => by
    simp only [frU]
    rw [frU_congr k (fun j hj => h j (by omega)), h k (by omega)]
theorem open_all {ops : Array Oper} {listed : Array Bool} (hsz : listed.size = ops.size) (h0 : openN ops listed = 0) : ∀ j, j < ops.size → lstdF listed j = true := fun j hj => by
  cases hl : lstdF listed j with
  | true => rfl
  | false =>
    have h1 : j ∈ (List.range ops.size).filter fun i => !listed.getD i true := by
      refine List.mem_filter.2 ⟨List.mem_range.2 hj, ?_⟩
      unfold lstdF at hl
      have hlt : j < listed.size := by omega
      rw [Array.getD_eq_getD_getElem?, Array.getElem?_eq_getElem hlt] at hl ⊢
      simpa using hl
    unfold openN at h0
    rw [List.length_eq_zero_iff] at h0
    rw [h0] at h1; cases h1
/-- one step, wherever it comes up -/
theorem ws_spec {ws : List (List Nat)} (hws : ws = l.map fun o : Oper => (o.after.toList.filter (Region.binds .any)).map (·.on)) {j i : Nat} (h : wsL ws j i = true) : ∃ o, l.toArray[j]? = some o ∧ ∃ e ∈ o.after, Region.binds .any e = true ∧ e.on = i := by
  unfold wsL at h
  rw [hws, List.getD_eq_getElem?_getD, List.getElem?_map] at h
  cases ho : l[j]? with
  | none => rw [ho] at h; simp at h
  | some o =>
    rw [ho] at h
    simp only [Option.map_some, Option.getD_some, List.contains_eq_mem, decide_eq_true_eq] at h
    obtain ⟨e, he, hon⟩ := List.mem_map.1 h
    obtain ⟨he1, he2⟩ := List.mem_filter.1 he
    exact ⟨o, by rw [List.getElem?_toArray]; exact ho, e, Array.mem_toList_iff.1 he1, he2, hon⟩
/-- what is listed has found listed what it waits for -/
def Closed (ws : List (List Nat)) (L : Nat → Bool) : Prop := ∀ j i, L j = true → wsL ws j i = true → L i = true
theorem Closed.reach {ws : List (List Nat)} {L : Nat → Bool} (h : Closed ws L) : ∀ (n j i : Nat), L j = true → reachB ws n j i = true → L i = true
  | 0, j, i, hj, hr => h j i hj hr
  | n + 1, j, i, hj, hr => by
    unfold reachB at hr
    rw [Bool.or_eq_true] at hr
    rcases hr with hr | hr
    · exact h j i hj hr
    · obtain ⟨k, hk, hr2⟩ := List.any_eq_true.1 hr
      exact h.reach n k i (h j k hj (by unfold wsL; simpa using hk)) hr2
theorem step_facts {ds : List (Option Tmp)} {ws : List (List Nat)} (hws : ws = l.map fun o : Oper => (o.after.toList.filter (Region.binds .any)).map (·.on)) (hdm : ds = l.map fun o : Oper => o.dst) (hds : dstsOk l.toArray = true) (hng : noGuard l.toArray = true) (hin : dstsIn l.toArray a.tmps.size = true)
    (hold : OldOk a.eval old)
    {i : Nat} {o : Oper} (ho : l.toArray[i]? = some o) (hstep : StepOk P ds ws old Base G dead i o) {listed : Array Bool} {vals : Nat → Value} {w : World} {K : Act → World → Prop} (hsz : listed.size = l.toArray.size) (hB : Base w) (hF : Facts G dead (lstdF listed) vals w)
    (hi : i ∈ Region.ready .any l.toArray listed) (hC : Closed ws (lstdF listed))
    (hK : ∀ v w', Base w' → Closed ws (lstdF (listed.setIfInBounds i true)) → Facts G dead (lstdF (listed.setIfInBounds i true)) (updV vals i v) w' → K (frU l.toArray (updV vals i v) (lstdF (listed.setIfInBounds i true)) a l.toArray.size) w') :
    wpOp P l.toArray Q i K (frU l.toArray vals (lstdF listed) a l.toArray.size) w := by
  obtain ⟨h1, h2, o', ho', hdeps⟩ := mem_ready' hi
  obtain rfl : o = o' := by rw [ho] at ho'; injection ho'
  have hlt : i < listed.size := by omega
  have hLi : lstdF listed i = false := by
    unfold lstdF
    rw [Array.getD_eq_getD_getElem?, Array.getElem?_eq_getElem hlt] at h2 ⊢
    simpa using h2
  unfold wpOp
  simp only [ho]
  have hg : o.guard = none := by
    unfold noGuard at hng
    rw [Array.all_eq_true_iff_forall_mem] at hng
    have := hng o (Array.mem_of_getElem? ho)
    simpa using this
  have hw : Region.wanted o (yielded l.toArray (frU l.toArray vals (lstdF listed) a l.toArray.size).tmps) = true := by unfold Region.wanted; rw [hg]
  rw [if_pos hw]
  left
  unfold StepOk at hstep
  have hstp := hstep vals w (frU l.toArray vals (lstdF listed) a l.toArray.size).eval hB (DepsOk.of fun e he hb => by
    have hl := hdeps e (Array.mem_toList_iff.1 he) hb
    have hlt2 : e.on < l.toArray.size := by
      rcases Nat.lt_or_ge e.on listed.size with h | h
      · omega
      · rw [Array.getD_eq_getD_getElem?, Array.getElem?_eq_none h] at hl; cases hl
    refine ⟨fun hdd => hF e.on hl fun c hc => ?_, fun s hs => ?_⟩
    · rcases hdd with hdd | hdd
      · rw [hdd] at hc; cases hc
      · rw [hdd] at hc
        injection hc with hc
        rw [← hc]; exact hLi
    · rw [hdm, ← dstAt_map] at hs
      exact frU_new hs (dstsIn_spec hin hs) hl (fun k hk => dstsOk_spec hds hk hs) _ hlt2) (OldAt.of (fun s hs => frU_old (fun j s' hl hj hx => by
      injection hx with hx
      subst hx
      rw [dstAt_map, ← hdm] at hj
      have := hC j i hl (oldB_spec hs hj)
      rw [hLi] at this; cases this) _) hold) (PlainOk.act _)
  refine hstp.wp fun v w' ⟨k1, k2, k3⟩ => ?_
  have hput : (frU l.toArray vals (lstdF listed) a l.toArray.size).put o.dst v = frU l.toArray (updV vals i v) (lstdF (listed.setIfInBounds i true)) a l.toArray.size := by
    rw [lstdF_set hlt]
    have hd0 : dstAt l.toArray i = o.dst := by unfold dstAt; rw [ho]; rfl
    have := frU_put (ops := l.toArray) (vals := vals) (L := lstdF listed) (a := a) (i := i) (v := v) (fun j hj s hs => dstsOk_spec hds hj hs) hLi l.toArray.size h1
    rw [hd0] at this
    exact this
  rw [hput]
  have hC' : Closed ws (lstdF (listed.setIfInBounds i true)) := by
    rw [lstdF_set hlt]
    intro j k hj hjk
    unfold updB at hj ⊢
    by_cases e : k = i
    · rw [if_pos e]
    · rw [if_neg e]
      by_cases e2 : j = i
      · subst e2
        obtain ⟨o2, ho2, ed, hed, hb, hon⟩ := ws_spec hws hjk
        rw [ho] at ho2
        injection ho2 with ho2
        subst ho2
        have := hdeps ed hed hb
        rw [hon] at this
        exact this
      · rw [if_neg e2] at hj
        exact hC j k hj hjk
  refine hK v w' k1 hC' fun j hj hdj => ?_
  rw [lstdF_set hlt] at hj hdj
  by_cases e : j = i
  · subst e
    have e2 : updV vals j v j = v := by unfold updV; rw [if_pos rfl]
    rw [e2]; exact k2
  · have e2 : updV vals i v j = vals j := by unfold updV; rw [if_neg e]
    have e3 : updB (lstdF listed) i j = lstdF listed j := by unfold updB; rw [if_neg e]
    rw [e2]
    rw [e3] at hj
    refine k3 j _ e (fun hd => ?_) ?_ (fun c hc => ?_) (hF j hj fun c hc => ?_)
    · have := hdj i hd
      unfold updB at this
      rw [if_pos rfl] at this; cases this
    · cases hwj : reachB ws 8 j i with
      | false => rfl
      | true =>
        have := hC.reach 8 j i hj hwj
        rw [hLi] at this; cases this
    · cases hwj : reachB ws 8 i c with
      | false => rfl
      | true =>
        have h7 := hdj c hc
        have h9 := hC'.reach 8 i c (by rw [lstdF_set hlt]; unfold updB; rw [if_pos rfl]) hwj
        rw [lstdF_set hlt] at h9
        rw [h9] at h7; cases h7
    · have := hdj c hc
      unfold updB at this
      by_cases e4 : c = i
      · rw [if_pos e4] at this; cases this
      · rw [if_neg e4] at this; exact this

/-- the rule: the first n operations under their facts, and the last one, which waits for all of them -/
theorem wpAny_facts {ds : List (Option Tmp)} {ws : List (List Nat)} (hws : ws = l.map fun o : Oper => (o.after.toList.filter (Region.binds .any)).map (·.on)) (hdm : ds = l.map fun o : Oper => o.dst) (n : Nat) (hlen : l.length = n + 1) (hds : dstsOk l.toArray = true) (hng : noGuard l.toArray = true) (hin : dstsIn l.toArray a.tmps.size = true) (hea : earlier l.toArray = true) (hlw : lastWaits l n = true) (hold : OldOk a.eval old)
    (hstep : StepsOk P ds ws old Base G dead 0 (l.take n))
    (hlast : ∀ o vals w, l[n]? = some o → Base w → (∀ j, j < n → dead j = none → G j (vals j) w) → Gives P (frU l.toArray vals (butL n) a n).eval o w fun v w' => Q .normal ((frU l.toArray vals (butL n) a n).put o.dst v) w') :
    ∀ (fuel : Nat) (listed : Array Bool) (vals : Nat → Value) (w : World), listed.size = l.toArray.size → openN l.toArray listed ≤ fuel → 0 < openN l.toArray listed → lstdF listed n = false → Closed ws (lstdF listed) → Base w → Facts G dead (lstdF listed) vals w →
      wpAny P .any l.toArray Q fuel listed (frU l.toArray vals (lstdF listed) a l.toArray.size) w := by
  intro fuel
  induction fuel with
  | zero => intro listed vals w hsz hfu h0; omega
  | succ fuel ih =>
    intro listed vals w hsz hfu h0 hn hC hB hF
    refine ⟨fun h => by have := ready_nil hea hsz h; omega, fun i hi => ?_⟩
    obtain ⟨h1, h2, o, ho, hdeps⟩ := mem_ready' hi
    have hlt : i < listed.size := by omega
    have hi2 : i < l.length := by simpa using h1
    have ho' : l[i]? = some o := by rw [List.getElem?_toArray] at ho; exact ho
    by_cases hin' : i = n
    · subst hin'
      have hall : ∀ j, j < i → lstdF listed j = true := fun j hj => by
        unfold lastWaits at hlw
        rw [ho'] at hlw
        simp only [List.all_eq_true, List.mem_range] at hlw
        have h3 := hlw j hj
        rw [Array.any_eq_true'] at h3
        obtain ⟨e, he, hb⟩ := h3
        simp only [Bool.and_eq_true, beq_iff_eq] at hb
        have := hdeps e he hb.1
        rw [hb.2] at this
        exact this
      have efr : frU l.toArray vals (lstdF listed) a l.toArray.size = frU l.toArray vals (butL i) a i := by
        have e1 : l.toArray.size = i + 1 := by simp [hlen]
        rw [e1]
        simp only [frU]
        rw [hn]
        simp only [Bool.false_eq_true, if_false]
        exact frU_congr i fun j hj => by rw [hall j hj]; unfold butL; simp [hj]
      rw [efr]
      unfold wpOp
      simp only [ho]
      have hg : o.guard = none := by
        unfold noGuard at hng
        rw [Array.all_eq_true_iff_forall_mem] at hng
        have := hng o (Array.mem_of_getElem? ho)
        simpa using this
      have hw : Region.wanted o (yielded l.toArray (frU l.toArray vals (butL i) a i).tmps) = true := by unfold Region.wanted; rw [hg]
      rw [if_pos hw]
      left
      refine (hlast o vals w ho' hB fun j hj hd => hF j (hall j hj) fun c hc => by rw [hd] at hc; cases hc).wp fun v w' hq => ?_
      refine wpAny_done ?_ hq _
      rcases hrd : Region.ready .any l.toArray (listed.setIfInBounds i true) with _ | ⟨k, r⟩
      · rfl
      · have hk : k ∈ Region.ready .any l.toArray (listed.setIfInBounds i true) := by rw [hrd]; simp
        obtain ⟨h3, h4, _⟩ := mem_ready' hk
        exfalso
        have h5 : k < i + 1 := by simpa [hlen] using h3
        by_cases e : k = i
        · subst e
          rw [Array.getD_eq_getD_getElem?, Array.getElem?_setIfInBounds_self_of_lt hlt] at h4
          cases h4
        · have h6 := hall k (by omega)
          rw [Array.getD_eq_getD_getElem?, Array.getElem?_setIfInBounds_ne (fun x => e x.symm)] at h4
          unfold lstdF at h6
          rw [Array.getD_eq_getD_getElem?] at h6
          have h7 : k < listed.size := by omega
          rw [Array.getElem?_eq_getElem h7] at h4 h6
          simp at h4 h6
          rw [h4] at h6; cases h6
    · have hst : StepOk P ds ws old Base G dead i o := by
        have h3 : (l.take n)[i]? = some o := by rw [List.getElem?_take, if_pos (by omega)]; exact ho'
        have := StepsOk.at hstep h3
        rwa [Nat.zero_add] at this
      refine step_facts hws hdm hds hng hin hold ho hst hsz hB hF hi hC fun v w' k1 kc k2 => ?_
      have hn' : lstdF (listed.setIfInBounds i true) n = false := by
        rw [lstdF_set hlt]; unfold updB; rw [if_neg (fun e => hin' e.symm)]; exact hn
      refine ih _ _ w' (by simp [hsz]) (by have := openN_set (ops := l.toArray) h1 h2; omega) ?_ hn' kc k1 k2
      rcases Nat.eq_zero_or_pos (openN l.toArray (listed.setIfInBounds i true)) with h3 | h3
      · have := open_all (ops := l.toArray) (listed := listed.setIfInBounds i true) (by simp [hsz]) h3 n (by simp [hlen])
        rw [hn'] at this; cases this
      · exact h3
end

/-- the operations of a region of a function's code -/
def regOf : Code → Nat → Option (List Oper)
  | .region id ops _, k => if id = k then some ops.toList else none
  | .seq x y, k => (regOf x k).or (regOf y k)
  | .cond _ x y, k => (regOf x k).or (regOf y k)
  | .block _ x, k => regOf x k
  | .loop x, k => regOf x k
  | .rangeFunc _ _ x y, k => (regOf x k).or (regOf y k)
  | _, _ => none
def regAt (f : Func) (k : Nat) : List Oper := (f.body.bind fun c => regOf c k).getD []

/-- a region by the facts of its operations -/
theorem wp_region_facts {P : Program} {id : Nat} {ops : Array Oper} {Q : Exit → Act → World → Prop} {a : Act} {w : World} (l : List Oper) (n N : Nat) (ds : List (Option Tmp)) (ws : List (List Nat)) (old : List (Tmp × Value)) (Base : World → Prop) (G : Nat → Value → World → Prop) (dead : Nat → Option Nat)
    (hops : ops = l.toArray) (hm : P.follows .mixedOrders = true)
    (hdm : ds = l.map fun o : Oper => o.dst) (hws : ws = l.map fun o : Oper => (o.after.toList.filter (Region.binds .any)).map (·.on)) (hlen : l.length = n + 1) (hds : dstsOk l.toArray = true) (hng : noGuard l.toArray = true) (hea : earlier l.toArray = true) (hlw : lastWaits l n = true) (hin : dstsIn l.toArray N = true)
    (hN : a.tmps.size = N) (hold : OldOk a.eval old) (hB : Base w.drew)
    (hstep : StepsOk P ds ws old Base G dead 0 (l.take n))
    (ol : Oper) (hol : l[n]? = some ol) (hlast : ∀ vals w, Base w → (∀ j, j < n → dead j = none → G j (vals j) w) → ∀ a', putsL (ds.take n) 0 vals a = a' → Gives P a'.eval ol w fun v w' => Q .normal (a'.put ol.dst v) w') : (Code.region id ops true).wp P Q a w := by
  subst hops
  subst hN
  refine wp_region_any hm ?_
  have hlast' : ∀ o vals w, l[n]? = some o → Base w → (∀ j, j < n → dead j = none → G j (vals j) w) → Gives P (frU l.toArray vals (butL n) a n).eval o w fun v w' => Q .normal ((frU l.toArray vals (butL n) a n).put o.dst v) w' := by
    intro o vals w ho hb hg
    rw [hol] at ho
    injection ho with ho
    subst ho
    rw [frU_puts l vals a n n (Nat.le_refl _) (by omega), ← hdm]
    exact hlast vals w hb hg _ rfl
  have hrep : ∀ k, lstdF (Array.replicate l.toArray.size false) k = false := fun k => by
    unfold lstdF
    rw [Array.getD_eq_getD_getElem?, Array.getElem?_replicate]
    split <;> rfl
  have e : a = frU l.toArray (fun _ => undef) (lstdF (Array.replicate l.toArray.size false)) a l.toArray.size := by
    have : ∀ k, frU l.toArray (fun _ => undef) (lstdF (Array.replicate l.toArray.size false)) a k = a := by
      intro k
      induction k with
      | zero => rfl
      | succ k ih =>
        simp only [frU]
        rw [hrep k, ih]; simp
    exact (this _).symm
  have h0 := wpAny_facts (P := P) (Q := Q) (a := a) (Base := Base) (G := G) (dead := dead) hws hdm n hlen hds hng hin hea hlw hold hstep hlast' l.toArray.size (Array.replicate l.toArray.size false) (fun _ => undef) w.drew (by simp)
    (by unfold openN; exact Nat.le_trans (List.length_filter_le _ _) (by simp)) ?_ (hrep n) (fun j i hj => by rw [hrep j] at hj; cases hj) hB (fun j hj => by rw [hrep j] at hj; cases hj)
  · rw [← e] at h0
    exact h0
  · rcases Nat.eq_zero_or_pos (openN l.toArray (Array.replicate l.toArray.size false)) with h3 | h3
    · have := open_all (ops := l.toArray) (listed := Array.replicate l.toArray.size false) (by simp) h3 n (by simp [hlen])
      rw [hrep n] at this; cases this
    · exact h3

end Go.Proofs.Ytenpenelikpeeaa
