/-
  The engine of unit propagation: a visit that finds one literal. No condition.
  The engine of unit propagation: any visit; slices.Clone of a trail. No condition.
  What the walk of Prop needs of the plain propagation: bounds at each place. No program in sight. No condition.
-/
import Derived.Test.YtenpenelikpeeaaZC20
import Derived.Deep.RegionLaw
import Derived.StillTailTactics

namespace Go.Proofs.Ytenpenelikpeeaa
open Go.RowKit Go.Shelf
set_option linter.unusedVariables false
set_option linter.unusedSimpArgs false

theorem step_append_stg {w : World} {ops : Array Oper} {o : Oper} {a : Act} {K : Act → World → Prop} {Q : Exit → Act → World → Prop} {E : Prop} (hgd : o.guard = none) (s x : Operand)
    (ho : o.op = .call { callee := .builtin .append, args := #[s, x], argTypes := #[25, 25] }) (base : Nat) (hb : base ≤ w.heap.size) (v : Value) (n : Nat) (xs : List Stp) (hs : a.eval s = v) (hown : w.ownsRow base 41 2 v n (flatS xs))
    (A : Option Addr) (m c : Nat) (zs : List Stp) (hx : a.eval x = .slice A m c) (hr : RS w A m c zs) (hbytes : (n + m) * 16 ≤ 140737488355328) (k : Nat) (hk : n + m = k)
    (h : ∀ A' c' w', w'.ownsRow base 41 2 (.slice A' k c') k (flatS (xs ++ zs)) → w.grownBy w' v.ownBlock → K (a.put o.dst (.slice A' k c')) w') :
    if Region.wanted o (yielded ops a.tmps) = true then Oper.wp Try.prog o a w K Q else E := by
  have hw : Region.wanted o (yielded ops a.tmps) = true := by simp [Region.wanted, hgd]
  rw [if_pos hw]
  subst hk
  obtain ⟨v', w', h1, h2, h3⟩ := run_append_st w o.type base v n xs hown A m c zs hr hbytes hb
  unfold Oper.wp
  simp only [execOp, ho, resolve, invoke, builtin, Sem.run_bind, Sem.run_pure, Result.andThen_ok, List.map_toArray, List.map_cons, List.map_nil, hs, hx, h1]
  obtain ⟨A', c', rfl⟩ := own_form h2
  exact h A' c' w' h2 h3
theorem Keeps.turned {w W W' : World} {G bt bw : Nat} {A : Option Addr} {n c : Nat} {ls : List (List Int)} {nt nw : Nat} {f f2 : Int → Option Hdr} {S : List Int} {s : PS} {O : Option Addr} {no co : Nat} {hd : Int}
    (h : EngS w W G bt bw A n c ls nt nw f S s O no co hd) (ht : W.drew.mapTurned W' bt) : Keeps w.heap.size W.drew W' f2 f2 := .grown ht.grown fun hh zs ho => own_ne_map ho (h.grow ((Below.refl _ _).drew)).tmap
theorem Keeps.outs {w W W9 : World} {G bt bw : Nat} {A : Option Addr} {n c : Nat} {ls : List (List Int)} {nt nw : Nat} {f f2 : Int → Option Hdr} {S : List Int} {s : PS} {O : Option Addr} {no co : Nat} {hd : Int}
    (h : EngS w W G bt bw A n c ls nt nw f S s O no co hd) (hg : W.grownBy W9 (Value.slice O no co).ownBlock) (v : Value) : Keeps w.heap.size W (W9.setCell ⟨G, 3, none⟩ v) f2 f2 := by
  refine Keeps.trans (.grown hg fun hh zs ho => own_ne_own ho h.out (by decide)) (.grown (grown_setCell W9 ⟨G, 3, none⟩ v) fun hh zs ho => own_ne_box ho ((hg.block G h.box.lt (some_ne (own_ne_box h.out (show W.heap[G]? = _ from h.box) (by decide)))).trans h.box) (by decide))
theorem box_past {w W W9 : World} {G bt bw : Nat} {A : Option Addr} {n c : Nat} {ls : List (List Int)} {nt nw : Nat} {f : Int → Option Hdr} {S : List Int} {s : PS} {O : Option Addr} {no co : Nat} {hd : Int}
    (h : EngS w W G bt bw A n c ls nt nw f S s O no co hd) (hg : W.grownBy W9 (Value.slice O no co).ownBlock) : BoxE W9 G bt A n c bw O no co hd :=
  (hg.block G h.box.lt (some_ne (own_ne_box h.out (show W.heap[G]? = _ from h.box) (by decide)))).trans h.box

set_option maxRecDepth 100000 in
set_option maxHeartbeats 2000000 in
theorem visit_one (w W : World) (G bt bw : Nat) (A : Option Addr) (n c : Nat) (ls : List (List Int)) (nt nw : Nat) (f : Int → Option Hdr) (s : PS) (O : Option Addr) (no co : Nat) (hd : Int) (i : Nat) (x : Int)
    (h : Eng w W G bt bw A n c ls nt nw f s O no co hd) (hi : i < n) (hok : Okl (ell ls i)) (ha : (ell ls i).any (hasB (litsOf s.ts)) = false) (h2 : opnT (litsOf s.ts) (ell ls i) = [x]) (hn : nt < maxLen) (ho0 : -65536 ≤ x) (ho1 : x ≤ 65536) (hno : no ≤ 1000000) :
    Calls Try.prog 64 #[.pointer (some ⟨G, 0, none⟩), .int .i64 i] W (Visd w W f G bt bw A n c ls nt nw i s no hd) := by
  have E := Lib.hid h
  have hcall := look_any G bt A n c bw O no co hd ls nt (litsOf s.ts) i W h.box (h.cls.below h.below) h.set hi hok
  have HV := Lib.hid (vis_one ha h2)
  have HA := Lib.hid ha
  have H2 := Lib.hid h2
  clear h ha h2 hok
  go_enter Try.func64, Try.ntmps64
  go_upto_region 11 with (go_at_call 81; refine hcall.mono ?_; clear hcall; rintro e W1 ⟨A1, n1, c1, rfl, hro, hb1⟩; rw [HA.out]; obtain ⟨hl, hri, -⟩ := hro HA.out; rw [H2.out] at hl hri; obtain rfl : n1 = 1 := hl.symm; have E1 := Lib.hid (E.out.grow hb1); have KP1 : Hid (Keeps w.heap.size W W1 f f) := Lib.hid (.below hb1); have HRI := Lib.hid hri; clear hb1 hro hri hl)
  obtain ⟨b1, o1, rfl, hb1l, hc1⟩ := HRI.out.cells (by omega)
  have e1 := hc1 0 (by omega)
  rw [Nat.add_zero] at e1
  have e1 : W1.cell? ⟨b1, o1, none⟩ = some (.int .i64 x) := e1
  have g0 := E1.out.box.c0
  clear hc1
  go_still_tail 7, (by kernel_rfl)
  go_upto_region 12 with (go_at_call 56; refine (step56_any bt nt (litsOf s.ts) x _ (E1.out.grow ((Below.refl _ _).drew)).set hn (wfI_lit ho0 ho1)).mono ?_; rintro e W2 ⟨rfl, hs2, ht2⟩; have E2 := Lib.hid ((E1.out.grow ((Below.refl _ _).drew)).turn hs2 ht2); have HR2 := Lib.hid ((HRI.out.below ((Below.refl _ _).drew)).turned ht2); have KP2 : Hid (Keeps w.heap.size W W2 f f) := Lib.hid ((KP1.out.trans (.below ((Below.refl _ _).drew))).trans (.turned E1.out ht2)); clear hs2 ht2)
  clear g0 e1
  obtain ⟨b2, o2, hb2e, hb2l, hc2⟩ := HR2.out.cells (by omega)
  have e2 := hc2 0 (by omega)
  rw [Nat.add_zero] at e2
  simp only [Option.some.injEq, Addr.mk.injEq, and_true] at hb2e
  obtain ⟨rfl, rfl⟩ := hb2e
  have e2 : W2.cell? ⟨b1, o1, none⟩ = some (.int .i64 x) := e2
  have g3 := E2.out.box.c3
  have hG := E2.out.box.lt
  clear hc2
  go_region_law (refine step_append_stg rfl (.tmp 60) (.tmp 66) rfl w.heap.size (by have := E2.out.below.size; simp; omega) (.slice O no co) no s.ts rfl (E2.out.out.alloc _) (some ⟨W2.heap.size, 0, none⟩) 1 1 [⟨x, i⟩] rfl (RS.lit W2.drew [⟨x, i⟩] 1 _ rfl rfl (by omega)) (by omega) (no + 1) rfl ?_; intro A9 c9 w9 ho9 hg9; have EO := Lib.hid (EngS.outs (E2.out.grow (((Below.refl _ _).drew).alloc (Nat.le_refl _) _)) hg9 ho9); have q3 := (box_past (E2.out.grow (((Below.refl _ _).drew).alloc (Nat.le_refl _) _)) hg9).c3; have q4 := (box_past (E2.out.grow (((Below.refl _ _).drew).alloc (Nat.le_refl _) _)) hg9).f 3; have KP3 : Hid (∀ v, Keeps w.heap.size W (w9.setCell ⟨G, 3, none⟩ v) f f) := Lib.hid (fun v => (KP2.out.trans (.below (((Below.refl _ _).drew).alloc (Nat.le_refl _) _))).trans (.outs (E2.out.grow (((Below.refl _ _).drew).alloc (Nat.le_refl _) _)) hg9 v)); clear ho9 hg9)
  all_goals go_wp2
  all_goals go_ret
  all_goals
    refine ⟨nt + 1, nw, f, A9, no + 1, c9, by rw [HV.out]; rfl, ?_, by omega, by omega, by omega, KP3.out _⟩
    rw [HV.out]
    show EngS w _ G bt bw A n c ls (nt + 1) nw f (litsOf (s.ts ++ [⟨x, i⟩])) ⟨s.ts ++ [⟨x, i⟩], s.wt⟩ A9 (no + 1) c9 hd
    rw [litsOf_snoc]
    exact EO.out

end Go.Proofs.Ytenpenelikpeeaa

namespace Go.Proofs.Ytenpenelikpeeaa
open Go.RowKit Go.Shelf
set_option linter.unusedVariables false
set_option linter.unusedSimpArgs false

theorem visit_any (w W : World) (G bt bw : Nat) (A : Option Addr) (n c : Nat) (ls : List (List Int)) (nt nw : Nat) (f : Int → Option Hdr) (s : PS) (O : Option Addr) (no co : Nat) (hd : Int) (i : Nat)
    (h : Eng w W G bt bw A n c ls nt nw f s O no co hd) (hi : i < n) (hok : Okl (ell ls i)) (hnt : nt < maxLen) (hn : nw + 2 < maxLen) (hno : no ≤ 1000000) (hi0 : i ≤ 1000000) (hwl : ∀ z, (s.wt z).length ≤ 1099511627776) :
    Calls Try.prog 64 #[.pointer (some ⟨G, 0, none⟩), .int .i64 i] W (Visd w W f G bt bw A n c ls nt nw i s no hd) := by
  cases ha : (ell ls i).any (hasB (litsOf s.ts)) with
  | true => exact visit_still w W G bt bw A n c ls nt nw f s O no co hd i h hi hok (.inl ha)
  | false =>
    have hm : ∀ y ∈ opnT (litsOf s.ts) (ell ls i), y ≠ 0 ∧ -65536 ≤ y ∧ y ≤ 65536 := fun y hy => hok y (opn_mem y hy).1
    rcases len_cases (opnT_len (litsOf s.ts) (ell ls i)) with e | ⟨x, e⟩ | ⟨x, y, e⟩
    · exact visit_still w W G bt bw A n c ls nt nw f s O no co hd i h hi hok (.inr e)
    · have hx := hm x (by rw [e]; simp)
      exact visit_one w W G bt bw A n c ls nt nw f s O no co hd i x h hi hok ha e hnt hx.2.1 hx.2.2 hno
    · exact visit_two w W G bt bw A n c ls nt nw f s O no co hd i [x, y] h hi hok ha e rfl (by rw [vis_two ha e]; rfl) hn (fun z hz => hm z (by rw [e]; exact hz)) hi0 hwl

/-- what Clone leaves: a row of the call's own -/
def ClonedS (n : Nat) (ts : List Stp) (w : World) (e : Ending) (w' : World) : Prop :=
  ∃ O c', e = .returned (.slice O n c') ∧ w'.ownsRow w.heap.size 41 2 (.slice O n c') n (flatS ts) ∧ Below w.heap.size w w'

set_option maxRecDepth 4000 in
set_option maxHeartbeats 1000000 in
theorem cloneS_any (A : Option Addr) (n c : Nat) (ts : List Stp) (w : World) (h : RS w A n c ts) :
    Calls Try.prog 63 #[.slice A n c] w (ClonedS n ts w) := by
  have q22 : ∀ (w : World) (a : Option Addr) (n c n' c' : Nat), (binOp .eql 25 (.slice a n c) (.slice none n' c')).run Try.prog w = .ok (.bool a.isNone) w := fun w a n c n' c' => Lib.run_eql_slice_nil w _ _ a n c n' c' Try.underlying25
  have hbig := h.big
  have HL := Lib.hid h.len
  have H := Lib.hid h
  clear h
  cases A with
  | none =>
    have hn : n = 0 := by
      rcases Nat.eq_zero_or_pos n with h0 | h0
      · exact h0
      · obtain ⟨b, off, he, _⟩ := H.out.cells h0; cases he
    subst hn
    have hzs : ts = [] := List.eq_nil_of_length_eq_zero HL.out
    subst hzs
    go_enter Try.func63, Try.ntmps63
    go_wp2
    go_ret
    exact ⟨none, 0, rfl, World.ownsRow_nil _ _ _ _, Below.refl _ _⟩
  | some a =>
    go_enter Try.func63, Try.ntmps63
    go_wp2_with (at_builtin; refine wpList_append_st (wr := w) rfl _ _ rfl ((Below.refl _ _).alloc (Nat.le_refl _) _) (.slice (some ⟨w.heap.size, 0, none⟩) 0 0) 0 [] rfl (World.ownsRow_made w #[] 0 (Nat.le_refl _) (Nat.zero_le _) rfl) (some a) n c ts rfl (H.out.below ((Below.refl _ _).alloc (Nat.le_refl _) _)) (by omega) n (Nat.zero_add n) ts (List.nil_append ts) ?_; intro A9 c9 w9 ho9 hb9; have HO9 := Lib.hid ho9; have HB9 := Lib.hid hb9; clear ho9 hb9)
    go_ret
    exact ⟨A9, c9, rfl, HO9.out, HB9.out⟩

end Go.Proofs.Ytenpenelikpeeaa

namespace Go.Proofs.Ytenpenelikpeeaa
set_option linter.unusedVariables false
set_option linter.unusedSimpArgs false

/-- the state is good, and what it takes is bounded -/
structure Fit (x : Int) (ls : List (List Int)) (hd : Nat) (s : PS) : Prop where
  tr : trailB x ls s.ts = true
  wv : WV ls s.wt
  cnt : Cnt ls hd s
  len : s.ts.length ≤ 65536
  lenx : s.ts.length ≤ x.toNat
  wl : ∀ z, (s.wt z).length ≤ 1099511627776
theorem Fit.of {x : Int} {ls : List (List Int)} {hd : Nat} {s : PS} (hc : checkE x ls = 0) (hl : ∀ l ∈ ls, l.length ≤ 30) (hn : ls.length ≤ 1000) (ht : trailB x ls s.ts = true) (hw : WV ls s.wt) (h : Cnt ls hd s) : Fit x ls hd s := by
  have h1 := checkE_n hc
  have h2 := trail_len h1.1 ht
  exact ⟨ht, hw, h, by omega, h2, watch_len h hw ht hl hn⟩

section
variable {x : Int} {ls : List (List Int)} {ts : List Stp}
theorem fit_first (hE : propE x ls ts = 0) (hl : ∀ l ∈ ls, l.length ≤ 30) (hn : ls.length ≤ 1000) {k hd : Nat} {r : Option Nat} {s1 : PS} (h : passT ls ((List.range ls.length).take k) ⟨ts, fun _ => []⟩ = (r, s1)) : Fit x ls hd s1 := by
  obtain ⟨hc, ht⟩ := propE_zero hE
  obtain ⟨p, -, -⟩ := pass_any hc ((List.range ls.length).take k) ⟨ts, fun _ => []⟩ (fun i hi => List.mem_range.1 (List.mem_of_mem_take hi)) ht (fun k j hj => by cases hj)
  rw [h] at p
  exact .of hc hl hn p.tr p.wv (cnt_first h)
theorem inv_first (hE : propE x ls ts = 0) {s1 : PS} (h : passT ls (List.range ls.length) ⟨ts, fun _ => []⟩ = (none, s1)) : Inv x ls ts.length s1 := by
  obtain ⟨hc, ht⟩ := propE_zero hE
  obtain ⟨p, q, c⟩ := pass_any hc (List.range ls.length) ⟨ts, fun _ => []⟩ (fun i hi => List.mem_range.1 hi) ht (fun k j hj => by cases hj)
  rw [h] at p q c
  obtain ⟨m, hm⟩ := p.more
  have hm' : s1.ts = ts ++ m := hm
  exact ⟨p.tr, p.wv, by rw [hm', List.length_append]; omega, fun i hi => by
    have := q rfl i (List.mem_range.2 hi) (Beh ts ts.length) Beh.sub
    refine this.behind fun y hy => ?_
    rw [hm', Beh.more (Nat.le_refl _)] at hy
    exact hy⟩
theorem prop_first {s1 : PS} (h : passT ls (List.range ls.length) ⟨ts, fun _ => []⟩ = (none, s1)) : propT x ls ts = drainT ls (x.toNat + 1) ts.length s1 := by
  unfold propT; rw [h]; simp
theorem prop_clash {i : Nat} {s1 : PS} (h : passT ls (List.range ls.length) ⟨ts, fun _ => []⟩ = (some i, s1)) : propT x ls ts = (some i, s1) := by
  unfold propT; rw [h]; simp
end

section
variable {x : Int} {ls : List (List Int)} {hd : Nat} {s : PS}
/-- the clauses that the literal at the head wakes -/
def wakeL (s : PS) (hd : Nat) : List Nat := (s.wt (stp s.ts hd).lit).map Int.toNat
def cutS (s : PS) (hd : Nat) : PS := ⟨s.ts, setW s.wt (stp s.ts hd).lit []⟩
theorem fit_step (hc : checkE x ls = 0) (hl : ∀ l ∈ ls, l.length ≤ 30) (hn : ls.length ≤ 1000) (h : Inv x ls hd s) (hcn : Cnt ls hd s) (hlt : hd < s.ts.length) {k : Nat} {r : Option Nat} {s1 : PS} (hp : passT ls ((wakeL s hd).take k) (cutS s hd) = (r, s1)) : Fit x ls (hd + 1) s1 := by
  obtain ⟨p, -, -⟩ := pass_any hc ((wakeL s hd).take k) (cutS s hd) (fun i hi => by
    obtain ⟨j, hj, e⟩ := List.mem_map.1 (List.mem_of_mem_take hi)
    have := h.wv _ j hj
    omega) h.tr (h.wv.set _)
  rw [hp] at p
  exact .of hc hl hn p.tr p.wv (cnt_step (x := x) (k := k) hcn h.wv hlt p.more hp)
theorem wake_lt (h : Inv x ls hd s) {k i : Nat} (hk : (wakeL s hd)[k]? = some i) : i < ls.length := by
  obtain ⟨j, hj, e⟩ := List.mem_map.1 (List.mem_of_getElem? hk)
  have := h.wv _ j hj
  omega
theorem drain_go (hlt : hd < s.ts.length) {g : Nat} {s1 : PS} (hp : passT ls (wakeL s hd) (cutS s hd) = (none, s1)) : drainT ls (g + 1) hd s = drainT ls g (hd + 1) s1 := by
  rw [drainT, if_pos hlt]
  unfold wakeL cutS at hp
  rw [hp]; simp
theorem drain_clash (hlt : hd < s.ts.length) {g i : Nat} {s1 : PS} (hp : passT ls (wakeL s hd) (cutS s hd) = (some i, s1)) : drainT ls (g + 1) hd s = (some i, s1) := by
  rw [drainT, if_pos hlt]
  unfold wakeL cutS at hp
  rw [hp]; simp
theorem drain_end (hge : ¬ hd < s.ts.length) (g : Nat) : drainT ls g hd s = (none, s) := by
  cases g with
  | zero => rfl
  | succ g => rw [drainT, if_neg hge]
theorem cut_nil (h : s.wt (stp s.ts hd).lit = []) : cutS s hd = s := by
  unfold cutS setW
  have : (fun y => if y = (stp s.ts hd).lit then [] else s.wt y) = s.wt := by
    funext y
    by_cases e : y = (stp s.ts hd).lit
    · rw [if_pos e, e, h]
    · rw [if_neg e]
  rw [this]
theorem wake_nil (h : s.wt (stp s.ts hd).lit = []) : passT ls (wakeL s hd) (cutS s hd) = (none, s) := by
  rw [cut_nil h]; unfold wakeL; rw [h]; rfl
end

end Go.Proofs.Ytenpenelikpeeaa
