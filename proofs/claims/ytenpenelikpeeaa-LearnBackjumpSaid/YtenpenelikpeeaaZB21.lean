/-
  How long a list of watches can grow. No program in sight. No condition.
  The engine of unit propagation: a visit that finds one literal. No condition.
  The engine of unit propagation: any visit; slices.Clone of a trail. No condition.
  What the walk of Prop needs of the plain propagation: bounds at each place. No program in sight. No condition.
-/
import Derived.Test.YtenpenelikpeeaaZB20
import Derived.Deep.RegionLaw
import Derived.StillTailTactics

namespace Go.Proofs.Ytenpenelikpeeaa
set_option linter.unusedVariables false
set_option linter.unusedSimpArgs false

theorem pass_snoc {ls : List (List Int)} : ∀ (l r : List Nat) (s s1 : PS), passT ls l s = (none, s1) → passT ls (l ++ r) s = passT ls r s1
  | [], r, s, s1, h => by
    simp only [passT, Prod.mk.injEq, true_and] at h
    subst h; rfl
  | i :: l, r, s, s1, h => by
    rw [passT] at h
    rw [List.cons_append, passT]
    by_cases hv : (visT ls i s).1 = true
    · rw [if_pos hv] at h ⊢
      exact pass_snoc l r _ _ h
    · rw [if_neg hv] at h
      simp at h
theorem pass_take {ls : List (List Int)} {l : List Nat} {k : Nat} {s s1 : PS} (h : passT ls (l.take k) s = (none, s1)) : passT ls l s = passT ls (l.drop k) s1 := by
  have := pass_snoc (l.take k) (l.drop k) s s1 h
  rwa [List.take_append_drop] at this
theorem pass_go {ls : List (List Int)} {l : List Nat} {k i : Nat} {s s1 : PS} (h : passT ls (l.take k) s = (none, s1)) (hk : l[k]? = some i) (hv : (visT ls i s1).1 = true) : passT ls (l.take (k + 1)) s = (none, (visT ls i s1).2) := by
  rw [List.take_add_one, hk]
  show passT ls (l.take k ++ [i]) s = _
  rw [pass_snoc _ _ _ _ h, passT, if_pos hv, passT]
theorem pass_stop {ls : List (List Int)} {l : List Nat} {k i : Nat} {s s1 : PS} (h : passT ls (l.take k) s = (none, s1)) (hk : l[k]? = some i) (hv : (visT ls i s1).1 = false) : passT ls l s = (some i, s1) := by
  rw [pass_take h]
  have hlt : k < l.length := (List.getElem?_eq_some_iff.1 hk).1
  rw [List.drop_eq_getElem_cons hlt]
  have e : l[k] = i := (List.getElem?_eq_some_iff.1 hk).2
  rw [e, passT, if_neg (by rw [hv]; simp)]

theorem addW_count (wt : Int → List Int) (k i z j : Int) : (addW wt k i z).count j = (wt z).count j + (if z = k ∧ j = i then 1 else 0) := by
  unfold addW setW
  by_cases e : z = k
  · subst e
    by_cases e2 : j = i
    · subst e2; simp
    · simp [List.count_append, List.count_cons, e2, Ne.symm e2]
  · simp [e]
theorem vis_cnt (ls : List (List Int)) (i : Nat) (s : PS) (z j : Int) : ((visT ls i s).2.wt z).count j ≤ (s.wt z).count j + (if j = (i : Int) then 1 else 0) := by
  unfold visT
  split
  · exact Nat.le_add_right _ _
  · split
    · exact Nat.le_add_right _ _
    · exact Nat.le_add_right _ _
    · rename_i a b r hop
      have hn : a ≠ b := by
        have := opn_nodup (S := litsOf s.ts) (l := ell ls i)
        rw [hop] at this
        intro e
        exact (List.nodup_cons.1 this).1 (by simp [e])
      show (addW (addW s.wt (-a) i) (-b) i z).count j ≤ _
      rw [addW_count, addW_count]
      by_cases e1 : z = -a
      · have e2 : ¬ z = -b := by omega
        simp [e1, e2, show ¬ (-a = -b) by omega]
      · simp only [e1, false_and, if_false, Nat.add_zero]
        by_cases e2 : z = -b
        · simp [e2]
        · simp [e2]
theorem vis_key {ls : List (List Int)} {i : Nat} {s : PS} (h : ∀ z j, j ∈ s.wt z → hasB (ell ls j.toNat) (-z) = true) : ∀ z j, j ∈ (visT ls i s).2.wt z → hasB (ell ls j.toNat) (-z) = true := by
  intro z j
  unfold visT
  split
  · exact h z j
  · split
    · exact h z j
    · exact h z j
    · rename_i a b r hop
      have h1 := (opn_mem (S := litsOf s.ts) (l := ell ls i) a (by rw [hop]; simp)).1
      have h2 := (opn_mem (S := litsOf s.ts) (l := ell ls i) b (by rw [hop]; simp)).1
      intro hj
      have hj : j ∈ addW (addW s.wt (-a) i) (-b) i z := hj
      unfold addW setW at hj
      by_cases e2 : z = -b
      · subst e2
        rw [if_pos rfl, List.mem_append, List.mem_singleton] at hj
        rcases hj with hj | rfl
        · by_cases e1 : -b = -a
          · rw [if_pos e1, List.mem_append, List.mem_singleton] at hj
            rcases hj with hj | rfl
            · rw [e1]; exact h _ j hj
            · rw [Int.toNat_natCast, hasB_iff, Int.neg_neg]; exact h2
          · rw [if_neg e1] at hj; exact h _ j hj
        · rw [Int.toNat_natCast, hasB_iff, Int.neg_neg]; exact h2
      · rw [if_neg e2] at hj
        by_cases e1 : z = -a
        · subst e1
          rw [if_pos rfl, List.mem_append, List.mem_singleton] at hj
          rcases hj with hj | rfl
          · exact h _ j hj
          · rw [Int.toNat_natCast, hasB_iff, Int.neg_neg]; exact h1
        · rw [if_neg e1] at hj; exact h z j hj

/-- what a pass does to the counts -/
theorem pass_cnt (ls : List (List Int)) : ∀ (l : List Nat) (s : PS) (z : Int) (j : Nat), ((passT ls l s).2.wt z).count (j : Int) ≤ (s.wt z).count (j : Int) + l.count j
  | [], s, z, j => by simp [passT]
  | i :: r, s, z, j => by
    rw [passT]
    split
    · have h1 := pass_cnt ls r (visT ls i s).2 z j
      have h2 := vis_cnt ls i s z j
      rw [List.count_cons]
      by_cases e : (i == j) = true
      · have e' : i = j := by simpa using e
        subst e'
        simp at h2 ⊢
        omega
      · have e' : ¬ (j : Int) = i := by intro h; apply e; simp; omega
        rw [if_neg e'] at h2
        rw [if_neg e]
        omega
    · exact Nat.le_add_right _ _
theorem pass_key {ls : List (List Int)} : ∀ (l : List Nat) (s : PS), (∀ z j, j ∈ s.wt z → hasB (ell ls j.toNat) (-z) = true) → ∀ z j, j ∈ (passT ls l s).2.wt z → hasB (ell ls j.toNat) (-z) = true
  | [], s, h => h
  | i :: r, s, h => by
    rw [passT]
    split
    · exact pass_key r _ (vis_key h)
    · exact h

/-- the steps behind the head whose negation lies in a clause -/
def ddT (ls : List (List Int)) (ts : List Stp) (hd i : Nat) : Nat := ((ts.take hd).filter fun s => hasB (ell ls i) (-s.lit)).length
theorem dd_more {ls : List (List Int)} {ts m : List Stp} {hd i : Nat} (h : hd ≤ ts.length) : ddT ls (ts ++ m) hd i = ddT ls ts hd i := by unfold ddT; rw [List.take_append_of_le_length h]
theorem dd_succ {ls : List (List Int)} {ts : List Stp} {hd i : Nat} (h : hd < ts.length) : ddT ls ts (hd + 1) i = ddT ls ts hd i + (if hasB (ell ls i) (-(stp ts hd).lit) = true then 1 else 0) := by
  unfold ddT; rw [takes_snoc ts hd h, List.filter_append, List.length_append]
  congr 1
  by_cases e : hasB (ell ls i) (-(stp ts hd).lit) = true
  · rw [if_pos e]; simp [List.filter_cons, e]
  · rw [if_neg e]; simp [List.filter_cons, e]
theorem trail_nodup {x : Int} {ls : List (List Int)} {ts : List Stp} (h : trailB x ls ts = true) : (ts.map fun s => -s.lit).Nodup := by
  have T := trail_tr h
  have e : (ts.map fun s => -s.lit) = (List.range ts.length).map fun k => -(stp ts k).lit := by
    apply List.ext_getElem (by simp)
    intro i h1 h2
    simp at h1
    simp [stp_lt h1]
  rw [e]
  refine List.pairwise_map.2 ?_
  refine (List.pairwise_lt_range (n := ts.length)).imp_of_mem ?_
  intro a b ha hb hab e
  exact (T.apart a b hab (List.mem_range.1 hb)).1 (by omega)
theorem dd_len {x : Int} {ls : List (List Int)} {ts : List Stp} (h : trailB x ls ts = true) (hd i : Nat) : ddT ls ts hd i ≤ (ell ls i).length := by
  have h1 : (((ts.take hd).filter fun s => hasB (ell ls i) (-s.lit)).map fun s => -s.lit).Nodup :=
    (trail_nodup h).sublist ((List.filter_sublist.trans (List.take_sublist _ _)).map _)
  have := nodup_len _ (ell ls i) h1 (fun y hy => by
    obtain ⟨s, hs, rfl⟩ := List.mem_map.1 hy
    exact hasB_iff.1 (List.mem_filter.1 hs).2)
  simpa [ddT] using this

structure Cnt (ls : List (List Int)) (hd : Nat) (s : PS) : Prop where
  key : ∀ z j, j ∈ s.wt z → hasB (ell ls j.toNat) (-z) = true
  cnt : ∀ z (i : Nat), (s.wt z).count (i : Int) ≤ 2 ^ ddT ls s.ts hd i

theorem cnt_first {ls : List (List Int)} {ts : List Stp} {k hd : Nat} {r : Option Nat} {s1 : PS} (h : passT ls ((List.range ls.length).take k) ⟨ts, fun _ => []⟩ = (r, s1)) : Cnt ls hd s1 := by
  refine ⟨?_, fun z i => ?_⟩
  · have := pass_key (ls := ls) ((List.range ls.length).take k) ⟨ts, fun _ => []⟩ (fun z j hj => by cases hj)
    rw [h] at this; exact this
  · have := pass_cnt ls ((List.range ls.length).take k) ⟨ts, fun _ => []⟩ z i
    rw [h] at this
    have h2 : ((List.range ls.length).take k).count i ≤ 1 := by
      refine Nat.le_trans (List.Sublist.count_le _ (List.take_sublist _ _)) ?_
      exact List.nodup_iff_count.1 List.nodup_range i
    have h3 : 1 ≤ 2 ^ ddT ls s1.ts hd i := Nat.one_le_two_pow
    simp only [List.count_nil] at this
    omega
theorem count_toNat : ∀ (l : List Int) (j : Nat), (∀ y ∈ l, 0 ≤ y) → (l.map Int.toNat).count j = l.count (j : Int)
  | [], j, _ => rfl
  | y :: l, j, h => by
    have hy := h y (by simp)
    rw [List.map_cons, List.count_cons, List.count_cons, count_toNat l j (fun z hz => h z (by simp [hz]))]
    congr 1
    by_cases e : y = (j : Int)
    · subst e; simp
    · have : ¬ y.toNat = j := by omega
      simp [e, this]
theorem cnt_step {x : Int} {ls : List (List Int)} {hd k : Nat} {s s1 : PS} {r : Option Nat} (h : Cnt ls hd s) (hw : WV ls s.wt) (hlt : hd < s.ts.length) (hm : ∃ more, s1.ts = s.ts ++ more)
    (hp : passT ls (((s.wt (stp s.ts hd).lit).map Int.toNat).take k) ⟨s.ts, setW s.wt (stp s.ts hd).lit []⟩ = (r, s1)) : Cnt ls (hd + 1) s1 := by
  obtain ⟨lit, hlit⟩ : ∃ lit, (stp s.ts hd).lit = lit := ⟨_, rfl⟩
  have hkey0 : ∀ z j, j ∈ setW s.wt lit [] z → hasB (ell ls j.toNat) (-z) = true := fun z j hj => by
    unfold setW at hj
    by_cases e : z = lit
    · rw [if_pos e] at hj; cases hj
    · rw [if_neg e] at hj; exact h.key z j hj
  refine ⟨?_, fun z i => ?_⟩
  · have := pass_key (ls := ls) (((s.wt (stp s.ts hd).lit).map Int.toNat).take k) ⟨s.ts, setW s.wt (stp s.ts hd).lit []⟩ (by rw [hlit]; exact hkey0)
    rw [hp] at this; exact this
  · have h1 := pass_cnt ls (((s.wt (stp s.ts hd).lit).map Int.toNat).take k) ⟨s.ts, setW s.wt (stp s.ts hd).lit []⟩ z i
    rw [hp] at h1
    obtain ⟨more, hm⟩ := hm
    rw [hm, dd_more (by omega), dd_succ hlt]
    rw [hlit] at h1 ⊢
    have h2 : (((s.wt lit).map Int.toNat).take k).count i ≤ (s.wt lit).count (i : Int) := by
      refine Nat.le_trans (List.Sublist.count_le _ (List.take_sublist _ _)) ?_
      rw [count_toNat _ _ (fun y hy => (hw lit y hy).1)]
      exact Nat.le_refl _
    have h3 := h.cnt lit i
    have h4 : (setW s.wt lit [] z).count (i : Int) ≤ 2 ^ ddT ls s.ts hd i := by
      unfold setW
      by_cases e : z = lit
      · rw [if_pos e]; simp
      · rw [if_neg e]; exact h.cnt z i
    have h1' : (s1.wt z).count (i : Int) ≤ (setW s.wt lit [] z).count (i : Int) + (((s.wt lit).map Int.toNat).take k).count i := h1
    by_cases hb : hasB (ell ls i) (-lit) = true
    · rw [if_pos hb, Nat.pow_succ]; omega
    · rw [if_neg hb]
      have h0 : (s.wt lit).count (i : Int) = 0 := by
        rw [List.count_eq_zero]
        intro hi
        apply hb
        have := h.key lit i hi
        rwa [Int.toNat_natCast] at this
      rw [Nat.add_zero]
      omega

theorem len_count : ∀ (n C : Nat) (l : List Int), (∀ y ∈ l, 0 ≤ y ∧ y < (n : Int)) → (∀ i : Nat, l.count (i : Int) ≤ C) → l.length ≤ n * C
  | 0, C, l, h, _ => by
    rcases l with _ | ⟨y, l⟩
    · simp
    · have := h y (by simp); omega
  | n + 1, C, l, h, hc => by
    have h1 := len_count n C (l.filter fun y => y != (n : Int)) (fun y hy => by
      have h2 := List.mem_filter.1 hy
      have h3 := h y h2.1
      have h4 : y ≠ n := by simpa using h2.2
      omega) (fun i => Nat.le_trans (List.Sublist.count_le _ List.filter_sublist) (hc i))
    have h2 : l.length = l.count (n : Int) + (l.filter fun y => y != (n : Int)).length := by
      rw [List.count_eq_countP, List.countP_eq_length_filter]
      have := List.length_eq_countP_add_countP (p := fun y => y == (n : Int)) (l := l)
      rw [List.countP_eq_length_filter, List.countP_eq_length_filter] at this
      rw [this]
      congr 2
      apply List.filter_congr
      intro y _
      by_cases e : y = (n : Int) <;> simp [bne, e]
    have h3 := hc n
    rw [Nat.succ_mul]
    omega
theorem watch_len {x : Int} {ls : List (List Int)} {hd : Nat} {s : PS} (h : Cnt ls hd s) (hw : WV ls s.wt) (ht : trailB x ls s.ts = true) (hl : ∀ l ∈ ls, l.length ≤ 30) (hn : ls.length ≤ 1000) (z : Int) : (s.wt z).length ≤ 1099511627776 := by
  have h1 := len_count ls.length (2 ^ 30) (s.wt z) (hw z) (fun i => by
    by_cases hi : i < ls.length
    · refine Nat.le_trans (h.cnt z i) (Nat.pow_le_pow_right (by omega) ?_)
      exact Nat.le_trans (dd_len ht hd i) (hl _ (ell_mem hi))
    · have : (s.wt z).count (i : Int) = 0 := by
        rw [List.count_eq_zero]
        intro hx
        have := hw z _ hx
        omega
      omega)
  have h2 : ls.length * 2 ^ 30 ≤ 1000 * 2 ^ 30 := Nat.mul_le_mul_right _ hn
  omega

end Go.Proofs.Ytenpenelikpeeaa

namespace Go.Proofs.Ytenpenelikpeeaa
open Go.RowKit Go.Shelf
set_option linter.unusedVariables false
set_option linter.unusedSimpArgs false

theorem step_append_stg {w : World} {ops : Array Oper} {o : Oper} {a : Act} {K : Act → World → Prop} {Q : Exit → Act → World → Prop} {E : Prop} (hgd : o.guard = none) (s x : Operand)
    (ho : o.op = .call { callee := .builtin .append, args := #[s, x], argTypes := #[25, 25] }) (base : Nat) (hb : base ≤ w.heap.size) (v : Value) (n : Nat) (xs : List Stp) (hs : a.eval s = v) (hown : w.ownsRow base 41 2 v n (flatS xs))
    (A : Option Addr) (m c : Nat) (zs : List Stp) (hx : a.eval x = .slice A m c) (hr : RS w A m c zs) (hbytes : (n + m) * 16 ≤ 140737488355328) (k : Nat) (hk : n + m = k)
    (h : ∀ A' c' w', w'.ownsRow base 41 2 (.slice A' k c') k (flatS (xs ++ zs)) → w.grownBy w' v.ownBlock → K (a.put o.dst (.slice A' k c')) w') :
    if Region.wanted o (yielded ops a.tmps) = true then Oper.wp Try.prog o a w K Q else E := by
  have hw : Region.wanted o (yielded ops a.tmps) = true := by simp [Region.wanted, hgd]
  rw [if_pos hw]
  subst hk
  obtain ⟨v', w', h1, h2, h3⟩ := run_append_st w o.type base v n xs hown A m c zs hr hbytes hb
  unfold Oper.wp
  simp only [execOp, ho, resolve, invoke, builtin, Sem.run_bind, Sem.run_pure, Result.andThen_ok, List.map_toArray, List.map_cons, List.map_nil, hs, hx, h1]
  obtain ⟨A', c', rfl⟩ := own_form h2
  exact h A' c' w' h2 h3
theorem Keeps.turned {w W W' : World} {G bt bw : Nat} {A : Option Addr} {n c : Nat} {ls : List (List Int)} {nt nw : Nat} {f f2 : Int → Option Hdr} {S : List Int} {s : PS} {O : Option Addr} {no co : Nat} {hd : Int}
    (h : EngS w W G bt bw A n c ls nt nw f S s O no co hd) (ht : W.drew.mapTurned W' bt) : Keeps w.heap.size W.drew W' f2 f2 := .grown ht.grown fun hh zs ho => own_ne_map ho (h.grow ((Below.refl _ _).drew)).tmap
theorem Keeps.outs {w W W9 : World} {G bt bw : Nat} {A : Option Addr} {n c : Nat} {ls : List (List Int)} {nt nw : Nat} {f f2 : Int → Option Hdr} {S : List Int} {s : PS} {O : Option Addr} {no co : Nat} {hd : Int}
    (h : EngS w W G bt bw A n c ls nt nw f S s O no co hd) (hg : W.grownBy W9 (Value.slice O no co).ownBlock) (v : Value) : Keeps w.heap.size W (W9.setCell ⟨G, 3, none⟩ v) f2 f2 := by
  refine Keeps.trans (.grown hg fun hh zs ho => own_ne_own ho h.out (by decide)) (.grown (grown_setCell W9 ⟨G, 3, none⟩ v) fun hh zs ho => own_ne_box ho ((hg.block G h.box.lt (some_ne (own_ne_box h.out (show W.heap[G]? = _ from h.box) (by decide)))).trans h.box) (by decide))
theorem box_past {w W W9 : World} {G bt bw : Nat} {A : Option Addr} {n c : Nat} {ls : List (List Int)} {nt nw : Nat} {f : Int → Option Hdr} {S : List Int} {s : PS} {O : Option Addr} {no co : Nat} {hd : Int}
    (h : EngS w W G bt bw A n c ls nt nw f S s O no co hd) (hg : W.grownBy W9 (Value.slice O no co).ownBlock) : BoxE W9 G bt A n c bw O no co hd :=
  (hg.block G h.box.lt (some_ne (own_ne_box h.out (show W.heap[G]? = _ from h.box) (by decide)))).trans h.box

set_option maxRecDepth 100000 in
set_option maxHeartbeats 2000000 in
theorem visit_one (w W : World) (G bt bw : Nat) (A : Option Addr) (n c : Nat) (ls : List (List Int)) (nt nw : Nat) (f : Int → Option Hdr) (s : PS) (O : Option Addr) (no co : Nat) (hd : Int) (i : Nat) (x : Int)
    (h : Eng w W G bt bw A n c ls nt nw f s O no co hd) (hi : i < n) (hok : Okl (ell ls i)) (ha : (ell ls i).any (hasB (litsOf s.ts)) = false) (h2 : opnT (litsOf s.ts) (ell ls i) = [x]) (hn : nt < maxLen) (ho0 : -65536 ≤ x) (ho1 : x ≤ 65536) (hno : no ≤ 1000000) :
    Calls Try.prog 64 #[.pointer (some ⟨G, 0, none⟩), .int .i64 i] W (Visd w W f G bt bw A n c ls nt nw i s no hd) := by
  have E := Lib.hid h
  have hcall := look_any G bt A n c bw O no co hd ls nt (litsOf s.ts) i W h.box (h.cls.below h.below) h.set hi hok
  have HV := Lib.hid (vis_one ha h2)
  have HA := Lib.hid ha
  have H2 := Lib.hid h2
  clear h ha h2 hok
  go_enter Try.func64, Try.ntmps64
  go_upto_region 11 with (go_at_call 81; refine hcall.mono ?_; clear hcall; rintro e W1 ⟨A1, n1, c1, rfl, hro, hb1⟩; rw [HA.out]; obtain ⟨hl, hri, -⟩ := hro HA.out; rw [H2.out] at hl hri; obtain rfl : n1 = 1 := hl.symm; have E1 := Lib.hid (E.out.grow hb1); have KP1 : Hid (Keeps w.heap.size W W1 f f) := Lib.hid (.below hb1); have HRI := Lib.hid hri; clear hb1 hro hri hl)
  obtain ⟨b1, o1, rfl, hb1l, hc1⟩ := HRI.out.cells (by omega)
  have e1 := hc1 0 (by omega)
  rw [Nat.add_zero] at e1
  have e1 : W1.cell? ⟨b1, o1, none⟩ = some (.int .i64 x) := e1
  have g0 := E1.out.box.c0
  clear hc1
  go_still_tail 7, (by kernel_rfl)
  go_upto_region 12 with (go_at_call 56; refine (step56_any bt nt (litsOf s.ts) x _ (E1.out.grow ((Below.refl _ _).drew)).set hn (wfI_lit ho0 ho1)).mono ?_; rintro e W2 ⟨rfl, hs2, ht2⟩; have E2 := Lib.hid ((E1.out.grow ((Below.refl _ _).drew)).turn hs2 ht2); have HR2 := Lib.hid ((HRI.out.below ((Below.refl _ _).drew)).turned ht2); have KP2 : Hid (Keeps w.heap.size W W2 f f) := Lib.hid ((KP1.out.trans (.below ((Below.refl _ _).drew))).trans (.turned E1.out ht2)); clear hs2 ht2)
  clear g0 e1
  obtain ⟨b2, o2, hb2e, hb2l, hc2⟩ := HR2.out.cells (by omega)
  have e2 := hc2 0 (by omega)
  rw [Nat.add_zero] at e2
  simp only [Option.some.injEq, Addr.mk.injEq, and_true] at hb2e
  obtain ⟨rfl, rfl⟩ := hb2e
  have e2 : W2.cell? ⟨b1, o1, none⟩ = some (.int .i64 x) := e2
  have g3 := E2.out.box.c3
  have hG := E2.out.box.lt
  clear hc2
  go_region_law (refine step_append_stg rfl (.tmp 60) (.tmp 66) rfl w.heap.size (by have := E2.out.below.size; simp; omega) (.slice O no co) no s.ts rfl (E2.out.out.alloc _) (some ⟨W2.heap.size, 0, none⟩) 1 1 [⟨x, i⟩] rfl (RS.lit W2.drew [⟨x, i⟩] 1 _ rfl rfl (by omega)) (by omega) (no + 1) rfl ?_; intro A9 c9 w9 ho9 hg9; have EO := Lib.hid (EngS.outs (E2.out.grow (((Below.refl _ _).drew).alloc (Nat.le_refl _) _)) hg9 ho9); have q3 := (box_past (E2.out.grow (((Below.refl _ _).drew).alloc (Nat.le_refl _) _)) hg9).c3; have q4 := (box_past (E2.out.grow (((Below.refl _ _).drew).alloc (Nat.le_refl _) _)) hg9).f 3; have KP3 : Hid (∀ v, Keeps w.heap.size W (w9.setCell ⟨G, 3, none⟩ v) f f) := Lib.hid (fun v => (KP2.out.trans (.below (((Below.refl _ _).drew).alloc (Nat.le_refl _) _))).trans (.outs (E2.out.grow (((Below.refl _ _).drew).alloc (Nat.le_refl _) _)) hg9 v)); clear ho9 hg9)
  all_goals go_wp2
  all_goals go_ret
  all_goals
    refine ⟨nt + 1, nw, f, A9, no + 1, c9, by rw [HV.out]; rfl, ?_, by omega, by omega, by omega, KP3.out _⟩
    rw [HV.out]
    show EngS w _ G bt bw A n c ls (nt + 1) nw f (litsOf (s.ts ++ [⟨x, i⟩])) ⟨s.ts ++ [⟨x, i⟩], s.wt⟩ A9 (no + 1) c9 hd
    rw [litsOf_snoc]
    exact EO.out

end Go.Proofs.Ytenpenelikpeeaa

namespace Go.Proofs.Ytenpenelikpeeaa
open Go.RowKit Go.Shelf
set_option linter.unusedVariables false
set_option linter.unusedSimpArgs false

theorem visit_any (w W : World) (G bt bw : Nat) (A : Option Addr) (n c : Nat) (ls : List (List Int)) (nt nw : Nat) (f : Int → Option Hdr) (s : PS) (O : Option Addr) (no co : Nat) (hd : Int) (i : Nat)
    (h : Eng w W G bt bw A n c ls nt nw f s O no co hd) (hi : i < n) (hok : Okl (ell ls i)) (hnt : nt < maxLen) (hn : nw + 2 < maxLen) (hno : no ≤ 1000000) (hi0 : i ≤ 1000000) (hwl : ∀ z, (s.wt z).length ≤ 1099511627776) :
    Calls Try.prog 64 #[.pointer (some ⟨G, 0, none⟩), .int .i64 i] W (Visd w W f G bt bw A n c ls nt nw i s no hd) := by
  cases ha : (ell ls i).any (hasB (litsOf s.ts)) with
  | true => exact visit_still w W G bt bw A n c ls nt nw f s O no co hd i h hi hok (.inl ha)
  | false =>
    have hm : ∀ y ∈ opnT (litsOf s.ts) (ell ls i), y ≠ 0 ∧ -65536 ≤ y ∧ y ≤ 65536 := fun y hy => hok y (opn_mem y hy).1
    rcases len_cases (opnT_len (litsOf s.ts) (ell ls i)) with e | ⟨x, e⟩ | ⟨x, y, e⟩
    · exact visit_still w W G bt bw A n c ls nt nw f s O no co hd i h hi hok (.inr e)
    · have hx := hm x (by rw [e]; simp)
      exact visit_one w W G bt bw A n c ls nt nw f s O no co hd i x h hi hok ha e hnt hx.2.1 hx.2.2 hno
    · exact visit_two w W G bt bw A n c ls nt nw f s O no co hd i [x, y] h hi hok ha e rfl (by rw [vis_two ha e]; rfl) hn (fun z hz => hm z (by rw [e]; exact hz)) hi0 hwl

/-- what Clone leaves: a row of the call's own -/
def ClonedS (n : Nat) (ts : List Stp) (w : World) (e : Ending) (w' : World) : Prop :=
  ∃ O c', e = .returned (.slice O n c') ∧ w'.ownsRow w.heap.size 41 2 (.slice O n c') n (flatS ts) ∧ Below w.heap.size w w'

set_option maxRecDepth 4000 in
set_option maxHeartbeats 1000000 in
theorem cloneS_any (A : Option Addr) (n c : Nat) (ts : List Stp) (w : World) (h : RS w A n c ts) :
    Calls Try.prog 63 #[.slice A n c] w (ClonedS n ts w) := by
  have q22 : ∀ (w : World) (a : Option Addr) (n c n' c' : Nat), (binOp .eql 25 (.slice a n c) (.slice none n' c')).run Try.prog w = .ok (.bool a.isNone) w := fun w a n c n' c' => Lib.run_eql_slice_nil w _ _ a n c n' c' Try.underlying25
  have hbig := h.big
  have HL := Lib.hid h.len
  have H := Lib.hid h
  clear h
  cases A with
  | none =>
    have hn : n = 0 := by
      rcases Nat.eq_zero_or_pos n with h0 | h0
      · exact h0
      · obtain ⟨b, off, he, _⟩ := H.out.cells h0; cases he
    subst hn
    have hzs : ts = [] := List.eq_nil_of_length_eq_zero HL.out
    subst hzs
    go_enter Try.func63, Try.ntmps63
    go_wp2
    go_ret
    exact ⟨none, 0, rfl, World.ownsRow_nil _ _ _ _, Below.refl _ _⟩
  | some a =>
    go_enter Try.func63, Try.ntmps63
    go_wp2_with (at_builtin; refine wpList_append_st (wr := w) rfl _ _ rfl ((Below.refl _ _).alloc (Nat.le_refl _) _) (.slice (some ⟨w.heap.size, 0, none⟩) 0 0) 0 [] rfl (World.ownsRow_made w #[] 0 (Nat.le_refl _) (Nat.zero_le _) rfl) (some a) n c ts rfl (H.out.below ((Below.refl _ _).alloc (Nat.le_refl _) _)) (by omega) n (Nat.zero_add n) ts (List.nil_append ts) ?_; intro A9 c9 w9 ho9 hb9; have HO9 := Lib.hid ho9; have HB9 := Lib.hid hb9; clear ho9 hb9)
    go_ret
    exact ⟨A9, c9, rfl, HO9.out, HB9.out⟩

end Go.Proofs.Ytenpenelikpeeaa

namespace Go.Proofs.Ytenpenelikpeeaa
set_option linter.unusedVariables false
set_option linter.unusedSimpArgs false

/-- the state is good, and what it takes is bounded -/
structure Fit (x : Int) (ls : List (List Int)) (hd : Nat) (s : PS) : Prop where
  tr : trailB x ls s.ts = true
  wv : WV ls s.wt
  cnt : Cnt ls hd s
  len : s.ts.length ≤ 65536
  lenx : s.ts.length ≤ x.toNat
  wl : ∀ z, (s.wt z).length ≤ 1099511627776
theorem Fit.of {x : Int} {ls : List (List Int)} {hd : Nat} {s : PS} (hc : checkE x ls = 0) (hl : ∀ l ∈ ls, l.length ≤ 30) (hn : ls.length ≤ 1000) (ht : trailB x ls s.ts = true) (hw : WV ls s.wt) (h : Cnt ls hd s) : Fit x ls hd s := by
  have h1 := checkE_n hc
  have h2 := trail_len h1.1 ht
  exact ⟨ht, hw, h, by omega, h2, watch_len h hw ht hl hn⟩

section
variable {x : Int} {ls : List (List Int)} {ts : List Stp}
theorem fit_first (hE : propE x ls ts = 0) (hl : ∀ l ∈ ls, l.length ≤ 30) (hn : ls.length ≤ 1000) {k hd : Nat} {r : Option Nat} {s1 : PS} (h : passT ls ((List.range ls.length).take k) ⟨ts, fun _ => []⟩ = (r, s1)) : Fit x ls hd s1 := by
  obtain ⟨hc, ht⟩ := propE_zero hE
  obtain ⟨p, -, -⟩ := pass_any hc ((List.range ls.length).take k) ⟨ts, fun _ => []⟩ (fun i hi => List.mem_range.1 (List.mem_of_mem_take hi)) ht (fun k j hj => by cases hj)
  rw [h] at p
  exact .of hc hl hn p.tr p.wv (cnt_first h)
theorem inv_first (hE : propE x ls ts = 0) {s1 : PS} (h : passT ls (List.range ls.length) ⟨ts, fun _ => []⟩ = (none, s1)) : Inv x ls ts.length s1 := by
  obtain ⟨hc, ht⟩ := propE_zero hE
  obtain ⟨p, q, c⟩ := pass_any hc (List.range ls.length) ⟨ts, fun _ => []⟩ (fun i hi => List.mem_range.1 hi) ht (fun k j hj => by cases hj)
  rw [h] at p q c
  obtain ⟨m, hm⟩ := p.more
  have hm' : s1.ts = ts ++ m := hm
  exact ⟨p.tr, p.wv, by rw [hm', List.length_append]; omega, fun i hi => by
    have := q rfl i (List.mem_range.2 hi) (Beh ts ts.length) Beh.sub
    refine this.behind fun y hy => ?_
    rw [hm', Beh.more (Nat.le_refl _)] at hy
    exact hy⟩
theorem prop_first {s1 : PS} (h : passT ls (List.range ls.length) ⟨ts, fun _ => []⟩ = (none, s1)) : propT x ls ts = drainT ls (x.toNat + 1) ts.length s1 := by
  unfold propT; rw [h]; simp
theorem prop_clash {i : Nat} {s1 : PS} (h : passT ls (List.range ls.length) ⟨ts, fun _ => []⟩ = (some i, s1)) : propT x ls ts = (some i, s1) := by
  unfold propT; rw [h]; simp
end

section
variable {x : Int} {ls : List (List Int)} {hd : Nat} {s : PS}
/-- the clauses that the literal at the head wakes -/
def wakeL (s : PS) (hd : Nat) : List Nat := (s.wt (stp s.ts hd).lit).map Int.toNat
def cutS (s : PS) (hd : Nat) : PS := ⟨s.ts, setW s.wt (stp s.ts hd).lit []⟩
theorem fit_step (hc : checkE x ls = 0) (hl : ∀ l ∈ ls, l.length ≤ 30) (hn : ls.length ≤ 1000) (h : Inv x ls hd s) (hcn : Cnt ls hd s) (hlt : hd < s.ts.length) {k : Nat} {r : Option Nat} {s1 : PS} (hp : passT ls ((wakeL s hd).take k) (cutS s hd) = (r, s1)) : Fit x ls (hd + 1) s1 := by
  obtain ⟨p, -, -⟩ := pass_any hc ((wakeL s hd).take k) (cutS s hd) (fun i hi => by
    obtain ⟨j, hj, e⟩ := List.mem_map.1 (List.mem_of_mem_take hi)
    have := h.wv _ j hj
    omega) h.tr (h.wv.set _)
  rw [hp] at p
  exact .of hc hl hn p.tr p.wv (cnt_step (x := x) (k := k) hcn h.wv hlt p.more hp)
theorem wake_lt (h : Inv x ls hd s) {k i : Nat} (hk : (wakeL s hd)[k]? = some i) : i < ls.length := by
  obtain ⟨j, hj, e⟩ := List.mem_map.1 (List.mem_of_getElem? hk)
  have := h.wv _ j hj
  omega
theorem drain_go (hlt : hd < s.ts.length) {g : Nat} {s1 : PS} (hp : passT ls (wakeL s hd) (cutS s hd) = (none, s1)) : drainT ls (g + 1) hd s = drainT ls g (hd + 1) s1 := by
  rw [drainT, if_pos hlt]
  unfold wakeL cutS at hp
  rw [hp]; simp
theorem drain_clash (hlt : hd < s.ts.length) {g i : Nat} {s1 : PS} (hp : passT ls (wakeL s hd) (cutS s hd) = (some i, s1)) : drainT ls (g + 1) hd s = (some i, s1) := by
  rw [drainT, if_pos hlt]
  unfold wakeL cutS at hp
  rw [hp]; simp
theorem drain_end (hge : ¬ hd < s.ts.length) (g : Nat) : drainT ls g hd s = (none, s) := by
  cases g with
  | zero => rfl
  | succ g => rw [drainT, if_neg hge]
theorem cut_nil (h : s.wt (stp s.ts hd).lit = []) : cutS s hd = s := by
  unfold cutS setW
  have : (fun y => if y = (stp s.ts hd).lit then [] else s.wt y) = s.wt := by
    funext y
    by_cases e : y = (stp s.ts hd).lit
    · rw [if_pos e, e, h]
    · rw [if_neg e]
  rw [this]
theorem wake_nil (h : s.wt (stp s.ts hd).lit = []) : passT ls (wakeL s hd) (cutS s hd) = (none, s) := by
  rw [cut_nil h]; unfold wakeL; rw [h]; rfl
end

end Go.Proofs.Ytenpenelikpeeaa
