/-
  A visit of a clause that is satisfied or has one literal open. Turned from this repo's texts of chapter 20. No condition.
  A visit of a clause with two literals open. Turned from this repo's texts of chapter 20. No condition.
-/
import Derived.Test.YtalcnkoidmoibaaZA20

namespace Go.Proofs.Ytalcnkoidmoibaa
open Go.RowKit Go.Shelf
set_option linter.unusedVariables false
set_option linter.unusedSimpArgs false

theorem HM.below {w w' : World} {b n : Nat} {f : Int → Option Hdr} (h : HM w b n f) (hb : Below w.heap.size w w') : HM w' b n f := by
  have hlt := h.lt
  obtain ⟨D, ⟨es, clock, h1, h3⟩, h2⟩ := h; exact ⟨D, ⟨es, clock, (hb.block b hlt).trans h1, h3⟩, h2⟩

theorem Wat.below {w w' : World} {base bw nw : Nat} {f : Int → Option Hdr} {wt : Int → List Int} (h : Wat w base bw nw f wt) (hb : Below w.heap.size w w') : Wat w' base bw nw f wt :=
  ⟨h.map.below hb, fun x hx => own_below (h.row x hx) hb, h.sep⟩

/-- the engine as it lies in memory -/
structure EngS (w W : World) (G bt bw : Nat) (A : Option Addr) (n c : Nat) (ls : List (List Int)) (nt nw : Nat) (f : Int → Option Hdr) (S : List Int) (s : PS) (O : Option Addr) (no co : Nat) (hd : Int) : Prop where
  box : BoxE W G bt A n c bw O no co hd
  cls : RL w A n c ls
  set : SetM W bt nt S
  wat : Wat W w.heap.size bw nw f s.wt
  out : W.ownsRow w.heap.size 52 2 (.slice O no co) no (flatS s.ts)
  below : Below w.heap.size w W
  loG : w.heap.size ≤ G
  lot : w.heap.size ≤ bt
  low : w.heap.size ≤ bw
  ne : bt ≠ bw

abbrev Eng (w W : World) (G bt bw : Nat) (A : Option Addr) (n c : Nat) (ls : List (List Int)) (nt nw : Nat) (f : Int → Option Hdr) (s : PS) (O : Option Addr) (no co : Nat) (hd : Int) : Prop := EngS w W G bt bw A n c ls nt nw f (slitsOf s.ts) s O no co hd

section

variable {w W W' : World} {G bt bw : Nat} {A : Option Addr} {n c : Nat} {ls : List (List Int)} {nt nw : Nat} {f : Int → Option Hdr} {S S' : List Int} {s : PS} {O : Option Addr} {no co nt' : Nat} {hd : Int}

theorem EngS.grow (h : EngS w W G bt bw A n c ls nt nw f S s O no co hd) (hb : Below W.heap.size W W') : EngS w W' G bt bw A n c ls nt nw f S s O no co hd :=
  ⟨h.box.below hb, h.cls, MF.below h.set hb h.set.lt, h.wat.below hb, own_below h.out hb, h.below.trans (hb.mono h.below.size), h.loG, h.lot, h.low, h.ne⟩

theorem EngS.apart (h : EngS w W G bt bw A n c ls nt nw f S s O no co hd) : G ≠ bt ∧ G ≠ bw := by
  constructor
  · rintro rfl
    obtain ⟨D, ⟨es, clock, h1, _⟩, _⟩ := h.set
    rw [show W.heap[G]? = _ from h.box] at h1; cases h1
  · rintro rfl
    obtain ⟨es, clock, h1⟩ := h.wat.map.block
    rw [show W.heap[G]? = _ from h.box] at h1; cases h1

theorem own_ne_map {w : World} {base b size : Nat} {e : TypeId} {v : Value} {n : Nat} {xs : List Value} (h : w.ownsRow base e size v n xs) (hb : ∃ es clock, w.heap[b]? = some (.map es clock)) : v.ownBlock = none ∨ v.ownBlock ≠ some b := by
  obtain ⟨es, clock, h1⟩ := hb
  rcases h.2 with ⟨rfl, _⟩ | ⟨g, cap, cur, rfl, _, h5, _⟩
  · exact Or.inl rfl
  · right
    simp only [Value.ownBlock, ne_eq, Option.some.injEq]
    rintro rfl
    rw [h1] at h5; cases h5

theorem EngS.tmap (h : EngS w W G bt bw A n c ls nt nw f S s O no co hd) : ∃ es clock, W.heap[bt]? = some (.map es clock) := by
  obtain ⟨D, ⟨es, clock, h1, _⟩, _⟩ := h.set; exact ⟨es, clock, h1⟩

/-- the truths turned -/
theorem EngS.turn (h : EngS w W G bt bw A n c ls nt nw f S s O no co hd) (hs : SetM W' bt nt' S') (ht : W.mapTurned W' bt) : EngS w W' G bt bw A n c ls nt' nw f S' s O no co hd := by
  have hg := ht.grown
  refine ⟨(hg.block G h.box.lt (by simpa using h.apart.1)).trans h.box, h.cls, hs, h.wat.kept hg (by simpa using fun e => h.ne e.symm) (fun x g hx hgx => ?_), h.out.kept hg (own_ne_map h.out h.tmap), h.below.grown hg h.below.size (fun g hgg => ?_), h.loG, h.lot, h.low, h.ne⟩
  · have h1 := own_ne_map (h.wat.row x hx) h.tmap
    rw [hdrV_own, hgx] at h1
    rcases h1 with h1 | h1
    · cases h1
    · exact h1
  · obtain rfl : bt = g := by simpa using hgg
    exact h.lot

end

/-- the out row made longer, the engine's field written -/
theorem BoxE.set3 {w : World} {G bt : Nat} {A : Option Addr} {n c bw : Nat} {O : Option Addr} {no co : Nat} {hd : Int} (h : BoxE w G bt A n c bw O no co hd) (O' : Option Addr) (no' co' : Nat) : BoxE (w.setCell ⟨G, 3, none⟩ (.slice O' no' co')) G bt A n c bw O' no' co' hd := by
  unfold BoxE at *
  obtain ⟨hlt, hk⟩ := Array.getElem?_eq_some_iff.1 h
  show (w.heap.modify G _)[G]? = _
  rw [Array.getElem?_eq_getElem (by rw [Array.size_modify]; exact hlt), Array.getElem_modify_self, hk]
  rfl

theorem grown_setCell (w : World) (a : Addr) (v : Value) : w.grownBy (w.setCell a v) (some a.block) :=
  ⟨rfl, rfl, rfl, by show _ ≤ (w.heap.modify _ _).size; rw [Array.size_modify]; exact Nat.le_refl _, fun k hk hne => by
    have hne' : k ≠ a.block := by simpa using hne
    show (w.heap.modify a.block _)[k]? = _
    rw [Array.getElem?_modify, if_neg (fun e => hne' e.symm)]⟩

theorem own_ne_box {w : World} {base size : Nat} {e : TypeId} {v : Value} {n : Nat} {xs : List Value} (h : w.ownsRow base e size v n xs) {g : Nat} {cs : Array Value} {t : TypeId} {z : Nat × Nat} (hb : w.heap[g]? = some (.cells cs t z)) (ht : t ≠ e) : v.ownBlock = none ∨ v.ownBlock ≠ some g := by
  rcases h.2 with ⟨rfl, _⟩ | ⟨g', cap, cur, rfl, _, h5, _⟩
  · exact Or.inl rfl
  · right
    simp only [Value.ownBlock, ne_eq, Option.some.injEq]
    rintro rfl
    rw [hb] at h5
    simp only [Option.some.injEq, Obj.cells.injEq] at h5
    exact ht h5.2.1

theorem own_ne_own {w : World} {b1 b2 s1 s2 : Nat} {e1 e2 : TypeId} {v1 v2 : Value} {n1 n2 : Nat} {xs1 xs2 : List Value} (h1 : w.ownsRow b1 e1 s1 v1 n1 xs1) (h2 : w.ownsRow b2 e2 s2 v2 n2 xs2) (he : e2 ≠ e1) : v1.ownBlock = none ∨ v1.ownBlock ≠ v2.ownBlock := by
  rcases h2.2 with ⟨rfl, _⟩ | ⟨g', cap, cur, rfl, _, h5, _⟩
  · rcases h : v1.ownBlock with _ | g
    · exact Or.inl rfl
    · exact Or.inr (by simp [Value.ownBlock])
  · exact own_ne_box h1 h5 he

theorem some_ne {o : Option Nat} {g : Nat} (h : o = none ∨ o ≠ some g) : some g ≠ o := by
  rcases h with rfl | h
  · simp
  · exact fun e => h e.symm

theorem EngS.outs {w W W9 : World} {G bt bw : Nat} {A : Option Addr} {n c : Nat} {ls : List (List Int)} {nt nw : Nat} {f : Int → Option Hdr} {S : List Int} {s : PS} {O O' : Option Addr} {no co k co' : Nat} {hd : Int} {ts' : List Stp}
    (h : EngS w W G bt bw A n c ls nt nw f S s O no co hd) (hg : W.grownBy W9 (Value.slice O no co).ownBlock) (ho : W9.ownsRow w.heap.size 52 2 (.slice O' k co') k (flatS ts')) :
    EngS w (W9.setCell ⟨G, 3, none⟩ (.slice O' k co')) G bt bw A n c ls nt nw f S ⟨ts', s.wt⟩ O' k co' hd := by
  have nG := own_ne_box h.out (show W.heap[G]? = _ from h.box) (by decide)
  have hb9 : BoxE W9 G bt A n c bw O no co hd := (hg.block G h.box.lt (some_ne nG)).trans h.box
  have hgs := grown_setCell W9 ⟨G, 3, none⟩ (.slice O' k co')
  have hB9 : Below w.heap.size w W9 := h.below.grown hg h.below.size (fun g hgg => (own_lt h.out hgg).1)
  have hm9 : MF 4 edB W9 bt nt (setF S) := MF.kept h.set hg (some_ne (own_ne_map h.out h.tmap))
  have hw9 : Wat W9 w.heap.size bw nw f s.wt := h.wat.kept hg (some_ne (own_ne_map h.out h.wat.map.block)) (fun x g hx hgx => by
    have h1 := own_ne_own (h.wat.row x hx) h.out (by decide)
    rw [hdrV_own, hgx] at h1
    rcases h1 with h1 | h1
    · cases h1
    · exact h1)
  refine ⟨hb9.set3 _ _ _, h.cls, MF.kept hm9 hgs (by simpa using fun e => h.apart.1 e.symm), hw9.kept hgs (by simpa using fun e => h.apart.2 e.symm) (fun x g hx hgx => ?_), ho.kept hgs (own_ne_box ho (show W9.heap[G]? = _ from hb9) (by decide)), hB9.grown hgs hB9.size (fun g hgg => ?_), h.loG, h.lot, h.low, h.ne⟩
  · have h1 := own_ne_box (hw9.row x hx) (show W9.heap[G]? = _ from hb9) (by decide)
    rw [hdrV_own, hgx] at h1
    rcases h1 with h1 | h1
    · cases h1
    · exact h1
  · obtain rfl : G = g := by simpa using hgg
    exact h.loG

theorem vis_holds {ls : List (List Int)} {i : Nat} {s : PS} (h : (ell ls i).any (hasB (slitsOf s.ts)) = true) : visT ls i s = (true, s) := by unfold visT; rw [if_pos h]

theorem vis_none {ls : List (List Int)} {i : Nat} {s : PS} (h : (ell ls i).any (hasB (slitsOf s.ts)) = false) (h2 : opnT (slitsOf s.ts) (ell ls i) = []) : visT ls i s = (false, s) := by unfold visT; rw [if_neg (by simp [h]), h2]

theorem vis_one {ls : List (List Int)} {i : Nat} {s : PS} {x : Int} (h : (ell ls i).any (hasB (slitsOf s.ts)) = false) (h2 : opnT (slitsOf s.ts) (ell ls i) = [x]) : visT ls i s = (true, ⟨s.ts ++ [⟨x, i⟩], s.wt⟩) := by unfold visT; rw [if_neg (by simp [h]), h2]

theorem vis_two {ls : List (List Int)} {i : Nat} {s : PS} {x y : Int} (h : (ell ls i).any (hasB (slitsOf s.ts)) = false) (h2 : opnT (slitsOf s.ts) (ell ls i) = [x, y]) : visT ls i s = (true, ⟨s.ts, addW (addW s.wt (-x) i) (-y) i⟩) := by unfold visT; rw [if_neg (by simp [h]), h2]

/-- a row of the call's own that is no key's row stays, and stays no key's row -/
def Keeps (base : Nat) (W W' : World) (f f' : Int → Option Hdr) : Prop :=
  ∀ (hh : Hdr) (zs : List Value), W.ownsRow base 3 1 (hdrV hh) hh.n zs → (∀ z g, wfI z = true → hh.g = some g → (hat f z).g ≠ some g) → W'.ownsRow base 3 1 (hdrV hh) hh.n zs ∧ ∀ z g, wfI z = true → hh.g = some g → (hat f' z).g ≠ some g

theorem Keeps.trans {base : Nat} {W W1 W2 : World} {f f1 f2 : Int → Option Hdr} (h : Keeps base W W1 f f1) (h2 : Keeps base W1 W2 f1 f2) : Keeps base W W2 f f2 := fun hh zs ho hn => by
  obtain ⟨a, b⟩ := h hh zs ho hn
  exact h2 hh zs a b

theorem Keeps.below {base : Nat} {W W' : World} {f : Int → Option Hdr} (h : Below W.heap.size W W') : Keeps base W W' f f := fun hh zs ho hn => ⟨own_below ho h, hn⟩

theorem Keeps.refl {base : Nat} {W : World} {f : Int → Option Hdr} : Keeps base W W f f := fun hh zs ho hn => ⟨ho, hn⟩

theorem Keeps.grown {base : Nat} {W W' : World} {f : Int → Option Hdr} {row : Option Nat} (hg : W.grownBy W' row) (h : ∀ (hh : Hdr) (zs : List Value), W.ownsRow base 3 1 (hdrV hh) hh.n zs → (hdrV hh).ownBlock = none ∨ (hdrV hh).ownBlock ≠ row) : Keeps base W W' f f := fun hh zs ho hn => ⟨ho.kept hg (h hh zs ho), hn⟩

/-- what a visit leaves -/
def Visd (w : World) (W : World) (f : Int → Option Hdr) (G bt bw : Nat) (A : Option Addr) (n c : Nat) (ls : List (List Int)) (nt nw : Nat) (i : Nat) (s : PS) (no : Nat) (hd : Int) (e : Ending) (W' : World) : Prop :=
  ∃ (nt' nw' : Nat) (f' : Int → Option Hdr) (O' : Option Addr) (no' co' : Nat), e = .returned (.bool (visT ls i s).1) ∧ Eng w W' G bt bw A n c ls nt' nw' f' (visT ls i s).2 O' no' co' hd ∧ nt' ≤ nt + 1 ∧ nw' ≤ nw + 2 ∧ no' ≤ no + 1 ∧ Keeps w.heap.size W W' f f'

theorem len_cases {l : List Int} (h : l.length ≤ 2) : l = [] ∨ (∃ x, l = [x]) ∨ ∃ x y, l = [x, y] := by
  match l, h with
  | [], _ => exact Or.inl rfl
  | [x], _ => exact Or.inr (Or.inl ⟨x, rfl⟩)
  | [x, y], _ => exact Or.inr (Or.inr ⟨x, y, rfl⟩)
  | x :: y :: z :: r, h => simp at h

set_option maxRecDepth 100000 in
set_option maxHeartbeats 2000000 in
theorem visit_still (w W : World) (G bt bw : Nat) (A : Option Addr) (n c : Nat) (ls : List (List Int)) (nt nw : Nat) (f : Int → Option Hdr) (s : PS) (O : Option Addr) (no co : Nat) (hd : Int) (i : Nat)
    (h : Eng w W G bt bw A n c ls nt nw f s O no co hd) (hi : i < n) (hok : Okl (ell ls i)) (hs : (ell ls i).any (hasB (slitsOf s.ts)) = true ∨ opnT (slitsOf s.ts) (ell ls i) = []) :
    Calls Try.prog 63 #[.pointer (some ⟨G, 0, none⟩), .int .i64 i] W (Visd w W f G bt bw A n c ls nt nw i s no hd) := by
  have E := Lib.hid h
  have hcall := look_any G bt A n c bw O no co hd ls nt (slitsOf s.ts) i W h.box (h.cls.below h.below) h.set hi hok
  clear h
  cases ha : (ell ls i).any (hasB (slitsOf s.ts)) with
  | true =>
    have HV := Lib.hid (vis_holds ha)
    have HA := Lib.hid ha
    clear hs ha
    go_enter Try.func63, Try.ntmps63
    go_wp2_with (go_at_call 81; refine hcall.mono ?_; clear hcall; rintro e W1 ⟨A1, n1, c1, rfl, _, hb1⟩; rw [HA.out]; have HB := Lib.hid hb1; clear hb1)
    go_ret
    exact ⟨nt, nw, f, O, no, co, by rw [HV.out]; rfl, by rw [HV.out]; exact E.out.grow HB.out, by omega, by omega, by omega, .below HB.out⟩
  | false =>
    have h2 : opnT (slitsOf s.ts) (ell ls i) = [] := by
      rcases hs with h | h
      · rw [ha] at h; cases h
      · exact h
    have HV := Lib.hid (vis_none ha h2)
    have HA := Lib.hid ha
    have H2 := Lib.hid h2
    clear hs ha h2
    go_enter Try.func63, Try.ntmps63
    go_wp2_with (go_at_call 81; refine hcall.mono ?_; clear hcall; rintro e W1 ⟨A1, n1, c1, rfl, hro, hb1⟩; rw [HA.out]; obtain ⟨hl, _⟩ := hro HA.out; rw [H2.out] at hl; obtain rfl : n1 = 0 := hl.symm; have HB := Lib.hid hb1; clear hb1 hro)
    go_ret
    exact ⟨nt, nw, f, O, no, co, by rw [HV.out]; rfl, by rw [HV.out]; exact E.out.grow HB.out, by omega, by omega, by omega, .below HB.out⟩

theorem step_append_stg {w : World} {ops : Array Oper} {o : Oper} {a : Act} {K : Act → World → Prop} {Q : Exit → Act → World → Prop} {E : Prop} (hgd : o.guard = none) (s x : Operand)
    (ho : o.op = .call { callee := .builtin .append, args := #[s, x], argTypes := #[50, 50] }) (base : Nat) (hb : base ≤ w.heap.size) (v : Value) (n : Nat) (xs : List Stp) (hs : a.eval s = v) (hown : w.ownsRow base 52 2 v n (flatS xs))
    (A : Option Addr) (m c : Nat) (zs : List Stp) (hx : a.eval x = .slice A m c) (hr : RS w A m c zs) (hbytes : (n + m) * 16 ≤ 140737488355328) (k : Nat) (hk : n + m = k)
    (h : ∀ A' c' w', w'.ownsRow base 52 2 (.slice A' k c') k (flatS (xs ++ zs)) → w.grownBy w' v.ownBlock → K (a.put o.dst (.slice A' k c')) w') :
    if Region.wanted o (yielded ops a.tmps) = true then Oper.wp Try.prog o a w K Q else E := by
  have hw : Region.wanted o (yielded ops a.tmps) = true := by simp [Region.wanted, hgd]
  rw [if_pos hw]
  subst hk
  obtain ⟨v', w', h1, h2, h3⟩ := run_append_st w o.type base v n xs hown A m c zs hr hbytes hb
  unfold Oper.wp
  simp only [execOp, ho, resolve, invoke, builtin, Sem.run_bind, Sem.run_pure, Result.andThen_ok, List.map_toArray, List.map_cons, List.map_nil, hs, hx, h1]
  obtain ⟨A', c', rfl⟩ := own_form h2
  exact h A' c' w' h2 h3

theorem Keeps.turned {w W W' : World} {G bt bw : Nat} {A : Option Addr} {n c : Nat} {ls : List (List Int)} {nt nw : Nat} {f f2 : Int → Option Hdr} {S : List Int} {s : PS} {O : Option Addr} {no co : Nat} {hd : Int}
    (h : EngS w W G bt bw A n c ls nt nw f S s O no co hd) (ht : W.drew.mapTurned W' bt) : Keeps w.heap.size W.drew W' f2 f2 := .grown ht.grown fun hh zs ho => own_ne_map ho (h.grow ((Below.refl _ _).drew)).tmap

theorem Keeps.outs {w W W9 : World} {G bt bw : Nat} {A : Option Addr} {n c : Nat} {ls : List (List Int)} {nt nw : Nat} {f f2 : Int → Option Hdr} {S : List Int} {s : PS} {O : Option Addr} {no co : Nat} {hd : Int}
    (h : EngS w W G bt bw A n c ls nt nw f S s O no co hd) (hg : W.grownBy W9 (Value.slice O no co).ownBlock) (v : Value) : Keeps w.heap.size W (W9.setCell ⟨G, 3, none⟩ v) f2 f2 := by
  refine Keeps.trans (.grown hg fun hh zs ho => own_ne_own ho h.out (by decide)) (.grown (grown_setCell W9 ⟨G, 3, none⟩ v) fun hh zs ho => own_ne_box ho ((hg.block G h.box.lt (some_ne (own_ne_box h.out (show W.heap[G]? = _ from h.box) (by decide)))).trans h.box) (by decide))

theorem box_past {w W W9 : World} {G bt bw : Nat} {A : Option Addr} {n c : Nat} {ls : List (List Int)} {nt nw : Nat} {f : Int → Option Hdr} {S : List Int} {s : PS} {O : Option Addr} {no co : Nat} {hd : Int}
    (h : EngS w W G bt bw A n c ls nt nw f S s O no co hd) (hg : W.grownBy W9 (Value.slice O no co).ownBlock) : BoxE W9 G bt A n c bw O no co hd :=
  (hg.block G h.box.lt (some_ne (own_ne_box h.out (show W.heap[G]? = _ from h.box) (by decide)))).trans h.box

set_option maxRecDepth 100000 in
set_option maxHeartbeats 2000000 in
theorem visit_one (w W : World) (G bt bw : Nat) (A : Option Addr) (n c : Nat) (ls : List (List Int)) (nt nw : Nat) (f : Int → Option Hdr) (s : PS) (O : Option Addr) (no co : Nat) (hd : Int) (i : Nat) (x : Int)
    (h : Eng w W G bt bw A n c ls nt nw f s O no co hd) (hi : i < n) (hok : Okl (ell ls i)) (ha : (ell ls i).any (hasB (slitsOf s.ts)) = false) (h2 : opnT (slitsOf s.ts) (ell ls i) = [x]) (hn : nt < maxLen) (ho0 : -65536 ≤ x) (ho1 : x ≤ 65536) (hno : no ≤ 1000000) :
    Calls Try.prog 63 #[.pointer (some ⟨G, 0, none⟩), .int .i64 i] W (Visd w W f G bt bw A n c ls nt nw i s no hd) := by
  have E := Lib.hid h
  have hcall := look_any G bt A n c bw O no co hd ls nt (slitsOf s.ts) i W h.box (h.cls.below h.below) h.set hi hok
  have HV := Lib.hid (vis_one ha h2)
  have HA := Lib.hid ha
  have H2 := Lib.hid h2
  clear h ha h2 hok
  go_enter Try.func63, Try.ntmps63
  go_upto_region 11 with (go_at_call 81; refine hcall.mono ?_; clear hcall; rintro e W1 ⟨A1, n1, c1, rfl, hro, hb1⟩; rw [HA.out]; obtain ⟨hl, hri, -⟩ := hro HA.out; rw [H2.out] at hl hri; obtain rfl : n1 = 1 := hl.symm; have E1 := Lib.hid (E.out.grow hb1); have KP1 : Hid (Keeps w.heap.size W W1 f f) := Lib.hid (.below hb1); have HRI := Lib.hid hri; clear hb1 hro hri hl)
  obtain ⟨b1, o1, rfl, hb1l, hc1⟩ := HRI.out.cells (by omega)
  have e1 := hc1 0 (by omega)
  rw [Nat.add_zero] at e1
  have e1 : W1.cell? ⟨b1, o1, none⟩ = some (.int .i64 x) := e1
  have g0 := E1.out.box.c0
  clear hc1
  go_still_tail 7, (by kernel_rfl)
  go_upto_region 12 with (go_at_call 62; refine (step56_any bt nt (slitsOf s.ts) x _ (E1.out.grow ((Below.refl _ _).drew)).set hn (wfI_lit ho0 ho1)).mono ?_; rintro e W2 ⟨rfl, hs2, ht2⟩; have E2 := Lib.hid ((E1.out.grow ((Below.refl _ _).drew)).turn hs2 ht2); have HR2 := Lib.hid ((HRI.out.below ((Below.refl _ _).drew)).turned ht2); have KP2 : Hid (Keeps w.heap.size W W2 f f) := Lib.hid ((KP1.out.trans (.below ((Below.refl _ _).drew))).trans (.turned E1.out ht2)); clear hs2 ht2)
  clear g0 e1
  obtain ⟨b2, o2, hb2e, hb2l, hc2⟩ := HR2.out.cells (by omega)
  have e2 := hc2 0 (by omega)
  rw [Nat.add_zero] at e2
  simp only [Option.some.injEq, Addr.mk.injEq, and_true] at hb2e
  obtain ⟨rfl, rfl⟩ := hb2e
  have e2 : W2.cell? ⟨b1, o1, none⟩ = some (.int .i64 x) := e2
  have g3 := E2.out.box.c3
  have hG := E2.out.box.lt
  clear hc2
  go_region_law (refine step_append_stg rfl (.tmp 60) (.tmp 66) rfl w.heap.size (by have := E2.out.below.size; simp; omega) (.slice O no co) no s.ts rfl (E2.out.out.alloc _) (some ⟨W2.heap.size, 0, none⟩) 1 1 [⟨x, i⟩] rfl (RS.lit W2.drew [⟨x, i⟩] 1 _ rfl rfl (by omega)) (by omega) (no + 1) rfl ?_; intro A9 c9 w9 ho9 hg9; have EO := Lib.hid (EngS.outs (E2.out.grow (((Below.refl _ _).drew).alloc (Nat.le_refl _) _)) hg9 ho9); have q3 := (box_past (E2.out.grow (((Below.refl _ _).drew).alloc (Nat.le_refl _) _)) hg9).c3; have q4 := (box_past (E2.out.grow (((Below.refl _ _).drew).alloc (Nat.le_refl _) _)) hg9).f 3; have KP3 : Hid (∀ v, Keeps w.heap.size W (w9.setCell ⟨G, 3, none⟩ v) f f) := Lib.hid (fun v => (KP2.out.trans (.below (((Below.refl _ _).drew).alloc (Nat.le_refl _) _))).trans (.outs (E2.out.grow (((Below.refl _ _).drew).alloc (Nat.le_refl _) _)) hg9 v)); clear ho9 hg9)
  all_goals go_wp2
  all_goals go_ret
  all_goals
    refine ⟨nt + 1, nw, f, A9, no + 1, c9, by rw [HV.out]; rfl, ?_, by omega, by omega, by omega, KP3.out _⟩
    rw [HV.out]
    show EngS w _ G bt bw A n c ls (nt + 1) nw f (slitsOf (s.ts ++ [⟨x, i⟩])) ⟨s.ts ++ [⟨x, i⟩], s.wt⟩ A9 (no + 1) c9 hd
    rw [litsOf_snoc]
    exact EO.out

theorem EngS.watched {w W W9 : World} {G bt bw : Nat} {A : Option Addr} {n c : Nat} {ls : List (List Int)} {nt nw : Nat} {f : Int → Option Hdr} {S : List Int} {s : PS} {O : Option Addr} {no co : Nat} {hd : Int}
    (h : EngS w W G bt bw A n c ls nt nw f S s O no co hd) {k : Int} (hk : wfI k = true) (hn : nw < maxLen) (i : Int) {g' m cap' : Nat} (hg : W.grownBy W9 (hdrV (hat f k)).ownBlock)
    (ho : W9.ownsRow w.heap.size 3 1 (.slice (some ⟨g', 0, none⟩) m cap') m ((s.wt k ++ [i]).map (Value.int .i64))) (hnew : (hat f k).g = some g' ∨ W.heap.size ≤ g') :
    ∃ W', (Instr.mapUpdate 80 (.map (some bw)) (.int .i64 k) (.slice (some ⟨g', 0, none⟩) m cap')).run Try.prog W9 = .ok () W' ∧ EngS w W' G bt bw A n c ls nt (nw + 1) (putF f k ⟨some g', m, cap'⟩) S ⟨s.ts, addW s.wt k i⟩ O no co hd ∧ W9.mapTurned W' bw := by
  have hr := h.wat.row k hk
  have hb9 : BoxE W9 G bt A n c bw O no co hd := (hg.block G h.box.lt (some_ne (own_ne_box hr (show W.heap[G]? = _ from h.box) (by decide)))).trans h.box
  have hm9 : MF 4 edB W9 bt nt (setF S) := MF.kept h.set hg (some_ne (own_ne_map hr h.tmap))
  have hM9 : HM W9 bw nw f := h.wat.map.kept hg (some_ne (own_ne_map hr h.wat.map.block))
  have hB9 : Below w.heap.size w W9 := h.below.grown hg h.below.size (fun g hgg => (own_lt hr hgg).1)
  have hO9 : W9.ownsRow w.heap.size 52 2 (.slice O no co) no (flatS s.ts) := h.out.kept hg (own_ne_own h.out hr (by decide))
  have hrow9 : ∀ y, y ≠ k → wfI y = true → W9.ownsRow w.heap.size 3 1 (hdrV (hat f y)) (hat f y).n ((s.wt y).map (Value.int .i64)) := fun y hy hwy => by
    refine (h.wat.row y hwy).kept hg ?_
    rw [hdrV_own, hdrV_own]
    cases hgy : (hat f y).g with
    | none => exact Or.inl rfl
    | some g => exact Or.inr (fun e => h.wat.sep y k g hy hwy hk hgy e.symm)
  obtain ⟨W', h1, h2, h3⟩ := Wat.put Try.underlying80 hM9 hrow9 h.wat.sep hn hk ⟨some g', m, cap'⟩ (s.wt k ++ [i]) ho (fun y g hy hwy hgy e => by
    have e' : g' = g := by simpa using e
    subst e'
    rcases hnew with h4 | h4
    · exact h.wat.sep y k g' hy hwy hk hgy h4
    · have := (own_lt (h.wat.row y hwy) (g := g') (by rw [hdrV_own]; exact hgy)).2
      omega)
  have ht := h3.grown
  have hmap9 : ∃ es clock, W9.heap[bw]? = some (.map es clock) := hM9.block
  refine ⟨W', h1, ⟨(ht.block G hb9.lt (by simpa using h.apart.2)).trans hb9, h.cls, MF.kept hm9 ht (by simpa using h.ne), h2, hO9.kept ht (own_ne_map hO9 hmap9), hB9.grown ht hB9.size (fun g hgg => ?_), h.loG, h.lot, h.low, h.ne⟩, h3⟩
  obtain rfl : bw = g := by simpa using hgg
  exact h.low

end Go.Proofs.Ytalcnkoidmoibaa

namespace Go.Proofs.Ytalcnkoidmoibaa
open Go.RowKit Go.Shelf
set_option linter.unusedVariables false
set_option linter.unusedSimpArgs false

def watL (wt : Int → List Int) (i : Int) (l : List Int) : Int → List Int := l.foldl (fun wt y => addW wt (-y) i) wt

theorem EngS.box9 {w W W9 : World} {G bt bw : Nat} {A : Option Addr} {n c : Nat} {ls : List (List Int)} {nt nw : Nat} {f : Int → Option Hdr} {S : List Int} {s : PS} {O : Option Addr} {no co : Nat} {hd : Int}
    (h : EngS w W G bt bw A n c ls nt nw f S s O no co hd) {k : Int} (hk : wfI k = true) (hg : W.grownBy W9 (hdrV (hat f k)).ownBlock) : BoxE W9 G bt A n c bw O no co hd :=
  (hg.block G h.box.lt (some_ne (own_ne_box (h.wat.row k hk) (show W.heap[G]? = _ from h.box) (by decide)))).trans h.box

theorem EngS.map9 {w W W9 : World} {G bt bw : Nat} {A : Option Addr} {n c : Nat} {ls : List (List Int)} {nt nw : Nat} {f : Int → Option Hdr} {S : List Int} {s : PS} {O : Option Addr} {no co : Nat} {hd : Int}
    (h : EngS w W G bt bw A n c ls nt nw f S s O no co hd) {k : Int} (hk : wfI k = true) (hg : W.grownBy W9 (hdrV (hat f k)).ownBlock) : ∃ es clock, W9.heap[bw]? = some (.map es clock) :=
  (h.wat.map.kept hg (some_ne (own_ne_map (h.wat.row k hk) h.wat.map.block))).block

theorem Keeps.watched {base : Nat} {W W9 W' : World} {f : Int → Option Hdr} {k : Int} {hh : Hdr} {g' m cap' N bw : Nat} (hH : hat f k = hh) (hk : wfI k = true) (hg : W.grownBy W9 (hdrV hh).ownBlock)
    (hs : (Value.slice (some ⟨g', 0, none⟩) m cap').ownBlock = (hdrV hh).ownBlock ∨ (Value.slice (some ⟨g', 0, none⟩) m cap').ownBlock = some N) (hN : W.heap.size ≤ N) (ht : W9.mapTurned W' bw) (hb : ∃ es clock, W9.heap[bw]? = some (.map es clock)) :
    Keeps base W W' f (putF f k ⟨some g', m, cap'⟩) := by
  intro h2 zs ho hn
  have h9 : W9.ownsRow base 3 1 (hdrV h2) h2.n zs := ho.kept hg (by
    rw [hdrV_own, hdrV_own]
    cases e : h2.g with
    | none => exact Or.inl rfl
    | some g => exact Or.inr (fun e2 => hn k g hk e (by rw [hH]; exact e2.symm)))
  refine ⟨h9.kept ht.grown (own_ne_map h9 hb), fun z g hz e e2 => ?_⟩
  rw [hat_put] at e2
  by_cases e1 : z = k
  · rw [if_pos e1] at e2
    have e3 : g' = g := by simpa using e2
    subst e3
    rcases hs with hs | hs
    · rw [hdrV_own] at hs
      exact hn k g' hk e (by rw [hH]; exact hs.symm)
    · have e4 : g' = N := by simpa [Value.ownBlock] using hs
      have := (own_lt ho (g := g') (by rw [hdrV_own]; exact e)).2
      omega
  · rw [if_neg e1] at e2
    exact hn z g hz e e2

theorem addW_len (wt : Int → List Int) (k i z : Int) : (addW wt k i z).length ≤ (wt z).length + 1 := by
  unfold addW setW; by_cases e : z = k
  · rw [if_pos e, e]; simp
  · rw [if_neg e]; omega

theorem watL_snoc (wt : Int → List Int) (i : Int) (l : List Int) (y : Int) : watL wt i (l ++ [y]) = addW (watL wt i l) (-y) i := by unfold watL; rw [List.foldl_append]; rfl

theorem watL_len (wt : Int → List Int) (i : Int) (l : List Int) (z : Int) : (watL wt i l z).length ≤ (wt z).length + l.length := by
  induction l using snoc_ind with
  | h0 => simp [watL]
  | h1 l y ih => rw [watL_snoc]; have := addW_len (watL wt i l) (-y) i z; simp; omega

theorem watk_ne {f' : Int → Option Hdr} {k : Int} {hh : Hdr} {g' m cap' N b1 o1 : Nat} (hne : ∀ z g b off, wfI z = true → (hat f' z).g = some g → some (⟨b1, o1, none⟩ : Addr) = some ⟨b, off, none⟩ → g ≠ b) (hH : hat f' k = hh) (hk : wfI k = true)
    (hs : (Value.slice (some ⟨g', 0, none⟩) m cap').ownBlock = (hdrV hh).ownBlock ∨ (Value.slice (some ⟨g', 0, none⟩) m cap').ownBlock = some N) (hN : b1 < N) :
    ∀ z g b off, wfI z = true → (hat (putF f' k ⟨some g', m, cap'⟩) z).g = some g → some (⟨b1, o1, none⟩ : Addr) = some ⟨b, off, none⟩ → g ≠ b := by
  intro z g b off hz hg e
  rw [hat_put] at hg
  by_cases e1 : z = k
  · rw [if_pos e1] at hg
    have e2 : g' = g := by simpa using hg
    subst e2
    rw [hdrV_own] at hs
    rcases hs with hs | hs
    · exact hne k g' b off hk (by rw [hH]; exact hs.symm) e
    · have e3 : g' = N := by simpa [Value.ownBlock] using hs
      simp only [Option.some.injEq, Addr.mk.injEq, and_true] at e
      omega
  · rw [if_neg e1] at hg
    exact hne z g b off hz hg e

theorem watk_row {f' : Int → Option Hdr} {k : Int} {hh : Hdr} {b1 o1 : Nat} (hne : ∀ z g b off, wfI z = true → (hat f' z).g = some g → some (⟨b1, o1, none⟩ : Addr) = some ⟨b, off, none⟩ → g ≠ b) (hH : hat f' k = hh) (hk : wfI k = true) :
    ∀ b off, some (⟨b1, o1, none⟩ : Addr) = some ⟨b, off, none⟩ → some b ≠ (hdrV hh).ownBlock := by
  intro b off e h
  rw [hdrV_own] at h
  exact hne k b b off hk (by rw [hH]; exact h.symm) e rfl

set_option maxRecDepth 100000 in
set_option maxHeartbeats 2000000 in
theorem visit_two (w W : World) (G bt bw : Nat) (A : Option Addr) (n c : Nat) (ls : List (List Int)) (nt nw : Nat) (f : Int → Option Hdr) (s : PS) (O : Option Addr) (no co : Nat) (hd : Int) (i : Nat) (l : List Int)
    (h : Eng w W G bt bw A n c ls nt nw f s O no co hd) (hi : i < n) (hok : Okl (ell ls i)) (ha : (ell ls i).any (hasB (slitsOf s.ts)) = false) (h2 : opnT (slitsOf s.ts) (ell ls i) = l) (hl2 : l.length = 2) (hv : visT ls i s = (true, ⟨s.ts, watL s.wt i l⟩)) (hn : nw + 2 < maxLen) (hol : Okl l) (hi0 : i ≤ 1000000) (hwl : ∀ z, (s.wt z).length ≤ 8796093022208) :
    Calls Try.prog 63 #[.pointer (some ⟨G, 0, none⟩), .int .i64 i] W (Visd w W f G bt bw A n c ls nt nw i s no hd) := by
  have E := Lib.hid h
  have hcall := look_any G bt A n c bw O no co hd ls nt (slitsOf s.ts) i W h.box (h.cls.below h.below) h.set hi hok
  have HV := Lib.hid hv
  have HA := Lib.hid ha
  have H2 := Lib.hid h2
  have HL := Lib.hid hl2
  have HO := Lib.hid hol
  clear h ha h2 hok hv hl2 hol
  go_enter Try.func63, Try.ntmps63
  go_wp2_with (go_at_call 81; refine hcall.mono ?_; clear hcall; rintro e W1 ⟨A1, n1, c1, rfl, hro, hb1⟩; rw [HA.out]; obtain ⟨hl, hri, hnew⟩ := hro HA.out; rw [H2.out] at hl hri; obtain rfl : n1 = 2 := (hl.symm.trans HL.out); have E1 := Lib.hid (E.out.grow hb1); have HRI := Lib.hid hri; have HNW := Lib.hid hnew; have HB1 := Lib.hid hb1; have KP1 : Hid (Keeps w.heap.size W W1 f f) := Lib.hid (.below hb1); clear hb1 hro hri hl hnew)
  have hsz1 := HB1.out.size
  go_loopw [17] (fun s17 W2 => ∃ (k : Nat) (f' : Int → Option Hdr), k ≤ 2 ∧ s17 = .int .i64 k ∧ EngS w W2 G bt bw A n c ls nt (nw + k) f' (slitsOf s.ts) ⟨s.ts, watL s.wt i (l.take k)⟩ O no co hd ∧ RI W2 A1 2 c1 l ∧ (∀ z g b off, wfI z = true → (hat f' z).g = some g → A1 = some ⟨b, off, none⟩ → g ≠ b) ∧ Keeps w.heap.size W W2 f f') (fun i _ => 2 - (intOf i).toNat)
  case atStart => exact ⟨0, f, Nat.zero_le _, rfl, E1.out, HRI.out, fun z g b off hz hgz hA e => by
    have h1 := HNW.out b off hA
    have h2 := (own_lt (E.out.wat.row z hz) (g := g) (by rw [hdrV_own]; exact hgz)).2
    omega, KP1.out⟩
  case round =>
    obtain ⟨k, f', hk, rfl, he, hri, hne, hkp⟩ := hrel
    by_cases hlt : k < 2
    · have hll : k < l.length := by rw [HL.out]; exact hlt
      obtain ⟨W6, hW6, eW⟩ : ∃ W6, (EngS w W6 G bt bw A n c ls nt (nw + k) f' (slitsOf s.ts) ⟨s.ts, watL s.wt i (l.take k)⟩ O no co hd ∧ RI W6 A1 2 c1 l ∧ Keeps w.heap.size W W6 f f') ∧ W6 = _ := ⟨_, ⟨he, hri, hkp⟩, rfl⟩
      subst eW
      have KP6 := Lib.hid hW6.2.2
      have EE := Lib.hid hW6.1
      have HNE := Lib.hid hne
      obtain ⟨b1, o1, rfl, hb1l, hc1⟩ := hW6.2.1.cells (by omega)
      have hri6 := hW6.2.1
      have e1 := hc1 k hlt
      obtain ⟨z, hz⟩ : ∃ z, elt l k = z := ⟨_, rfl⟩
      rw [hz] at e1
      obtain ⟨z0, z1, z2⟩ := HO.out z (by rw [← hz]; exact elt_mem hll)
      have hkw : wfI (-z) = true := wfI_lit (by omega) (by omega)
      obtain ⟨hh, hhe⟩ : ∃ hh, hat f' (-z) = hh := ⟨_, rfl⟩
      have lk := HM.look Try.underlying80 (EE.out.grow ((Below.refl _ _).drew)).wat.map hkw
      have hrow := (EE.out.grow ((Below.refl _ _).drew)).wat.row (-z) hkw
      have lk' : (Instr.lookup 80 (.map (some bw)) (.int .i64 (-z)) false).run Try.prog W6.drew = .ok (.slice hh.A hh.n hh.c) W6.drew := by rw [← hhe]; exact lk
      have lk2 : (Instr.lookup 80 (.map (some bw)) (.int .i64 (-z)) false).run Try.prog (W6.alloc (.cells #[.int .i64 (i : Int)] 3)).drew = .ok (.slice hh.A hh.n hh.c) (W6.alloc (.cells #[.int .i64 (i : Int)] 3)).drew := by
        rw [← hhe]; exact HM.look Try.underlying80 (EE.out.grow (((Below.refl _ _).alloc (Nat.le_refl _) _).drew)).wat.map hkw
      rw [hhe] at hrow
      have HRW := Lib.hid hrow
      have HH := Lib.hid hhe
      have NX := Lib.hid (show watL s.wt i (l.take (k + 1)) = addW (watL s.wt i (l.take k)) (-z) i by rw [take_snoc l k hll, watL_snoc, hz])
      have hneg2 : IntKind.i64.wrap (-z) = -z := IntWalk.i64_in _ (by omega)
      have g2 := EE.out.box.c2
      have hG := EE.out.box.lt
      have hbw := EE.out.wat.map.lt
      clear hW6 he hri hne hkp hc1 hz lk hrow hhe
      go_upto_region 5 with fail
      have hm : hh.n ≤ 8796093022210 := by
        have h1 := HRW.out.1
        have h2 := watL_len s.wt i (l.take k) (-z)
        have h3 := hwl (-z)
        simp only [List.length_map, List.length_take] at h1 h2
        omega
      have hsb := EE.out.below.size
      have HR6 := Lib.hid hri6
      clear hri6
      go_region_law (refine step_append_ri rfl (.tmp 33) (.tmp 35) rfl w.heap.size (hdrV hh) hh.n _ rfl (HRW.out.alloc _) (some ⟨W6.heap.size, 0, none⟩) 1 1 [(i : Int)] rfl (RI.lit W6.drew [(i : Int)] 1 _ rfl rfl (by omega)) (by omega) (by simp; omega) ?_; intro v3 w3 hap; obtain ⟨ho3, hg3, hs3⟩ := hap; obtain ⟨g', cap', rfl⟩ := own_succ ho3; obtain ⟨W', hrun, hE'⟩ := EngS.watched (EE.out.grow (((Below.refl _ _).drew).alloc (Nat.le_refl _) _)) hkw (by omega) i (by rw [HH.out]; exact hg3) ho3 (by rw [HH.out]; rw [hdrV_own] at hs3; rcases hs3 with e | e; exact Or.inl (e.symm.trans rfl); exact Or.inr (by have e2 : g' = _ := Option.some.inj e; rw [e2]; exact Nat.le_refl _)); have HE := Lib.hid hE'; have q9 := (EngS.box9 (EE.out.grow (((Below.refl _ _).drew).alloc (Nat.le_refl _) _)) hkw (by rw [HH.out]; exact hg3)).c2; have HG3 := Lib.hid hg3; have HM3 := Lib.hid (EngS.map9 (EE.out.grow (((Below.refl _ _).drew).alloc (Nat.le_refl _) _)) hkw (by rw [HH.out]; exact hg3)); have HS3 := Lib.hid hs3; clear ho3 hg3 hs3 hE')
      all_goals go_wp2
      all_goals
        go_roundw
        case rel => exact ⟨k + 1, putF f' (-z) ⟨some g', hh.n + 1, cap'⟩, by omega, by go_num, by rw [NX.out]; exact HE.out.1, (((HR6.out.below (((Below.refl _ _).drew).alloc (Nat.le_refl _) _)).grown HG3.out (fun _ => watk_row HNE.out HH.out hkw)).turned HE.out.2), watk_ne HNE.out HH.out hkw HS3.out (by simp; omega), (KP6.out.trans (.below (((Below.refl _ _).drew).alloc (Nat.le_refl _) _))).trans (.watched HH.out hkw HG3.out HS3.out (by simp) HE.out.2 HM3.out)⟩
        case measure => simp [intOf]; omega
    · obtain rfl : k = 2 := by omega
      have EE := Lib.hid he
      have HT : Hid (l.take 2 = l) := Lib.hid (List.take_of_length_le (by rw [HL.out]; omega))
      have KPE := Lib.hid hkp
      clear he hri hne hkp
      go_wp2
      go_ret
      refine ⟨nt, nw + 2, f', O, no, co, by rw [HV.out]; rfl, ?_, by omega, by omega, by omega, KPE.out⟩
      rw [HV.out]
      have := EE.out
      rw [HT.out] at this
      exact this

theorem visit_any (w W : World) (G bt bw : Nat) (A : Option Addr) (n c : Nat) (ls : List (List Int)) (nt nw : Nat) (f : Int → Option Hdr) (s : PS) (O : Option Addr) (no co : Nat) (hd : Int) (i : Nat)
    (h : Eng w W G bt bw A n c ls nt nw f s O no co hd) (hi : i < n) (hok : Okl (ell ls i)) (hnt : nt < maxLen) (hn : nw + 2 < maxLen) (hno : no ≤ 1000000) (hi0 : i ≤ 1000000) (hwl : ∀ z, (s.wt z).length ≤ 8796093022208) :
    Calls Try.prog 63 #[.pointer (some ⟨G, 0, none⟩), .int .i64 i] W (Visd w W f G bt bw A n c ls nt nw i s no hd) := by
  cases ha : (ell ls i).any (hasB (slitsOf s.ts)) with
  | true => exact visit_still w W G bt bw A n c ls nt nw f s O no co hd i h hi hok (.inl ha)
  | false =>
    have hm : ∀ y ∈ opnT (slitsOf s.ts) (ell ls i), y ≠ 0 ∧ -65536 ≤ y ∧ y ≤ 65536 := fun y hy => hok y (opn_mem y hy).1
    rcases len_cases (opnT_len (slitsOf s.ts) (ell ls i)) with e | ⟨x, e⟩ | ⟨x, y, e⟩
    · exact visit_still w W G bt bw A n c ls nt nw f s O no co hd i h hi hok (.inr e)
    · have hx := hm x (by rw [e]; simp)
      exact visit_one w W G bt bw A n c ls nt nw f s O no co hd i x h hi hok ha e hnt hx.2.1 hx.2.2 hno
    · exact visit_two w W G bt bw A n c ls nt nw f s O no co hd i [x, y] h hi hok ha e rfl (by rw [vis_two ha e]; rfl) hn (fun z hz => hm z (by rw [e]; exact hz)) hi0 hwl

/-- what Clone leaves: a row of the call's own -/
def ClonedS (n : Nat) (ts : List Stp) (w : World) (e : Ending) (w' : World) : Prop :=
  ∃ O c', e = .returned (.slice O n c') ∧ w'.ownsRow w.heap.size 52 2 (.slice O n c') n (flatS ts) ∧ Below w.heap.size w w'

set_option maxRecDepth 4000 in
set_option maxHeartbeats 1000000 in
theorem cloneS_any (A : Option Addr) (n c : Nat) (ts : List Stp) (w : World) (h : RS w A n c ts) :
    Calls Try.prog 61 #[.slice A n c] w (ClonedS n ts w) := by
  have q22 : ∀ (w : World) (a : Option Addr) (n c n' c' : Nat), (binOp .eql 50 (.slice a n c) (.slice none n' c')).run Try.prog w = .ok (.bool a.isNone) w := fun w a n c n' c' => Lib.run_eql_slice_nil w _ _ a n c n' c' Try.underlying50
  have hbig := h.big
  have HL := Lib.hid h.len
  have H := Lib.hid h
  clear h
  cases A with
  | none =>
    have hn : n = 0 := by
      rcases Nat.eq_zero_or_pos n with h0 | h0
      · exact h0
      · obtain ⟨b, off, he, _⟩ := H.out.cells h0; cases he
    subst hn
    have hzs : ts = [] := List.eq_nil_of_length_eq_zero HL.out
    subst hzs
    go_enter Try.func61, Try.ntmps61
    go_wp2
    go_ret
    exact ⟨none, 0, rfl, World.ownsRow_nil _ _ _ _, Below.refl _ _⟩
  | some a =>
    go_enter Try.func61, Try.ntmps61
    go_wp2_with (at_builtin; refine wpList_append_st (wr := w) rfl _ _ rfl ((Below.refl _ _).alloc (Nat.le_refl _) _) (.slice (some ⟨w.heap.size, 0, none⟩) 0 0) 0 [] rfl (World.ownsRow_made w #[] 0 (Nat.le_refl _) (Nat.zero_le _) rfl) (some a) n c ts rfl (H.out.below ((Below.refl _ _).alloc (Nat.le_refl _) _)) (by omega) n (Nat.zero_add n) ts (List.nil_append ts) ?_; intro A9 c9 w9 ho9 hb9; have HO9 := Lib.hid ho9; have HB9 := Lib.hid hb9; clear ho9 hb9)
    go_ret
    exact ⟨A9, c9, rfl, HO9.out, HB9.out⟩

end Go.Proofs.Ytalcnkoidmoibaa
