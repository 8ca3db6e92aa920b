/-
  The closure implied of Less, which calls itself and keeps what it has found. No condition.
-/
import Derived.Test.YtenpenelikpeeaaZC11
import Derived.Test.YtenpenelikpeeaaZC10
import Derived.Laws.EntriesVeiled

namespace Go.Proofs.Ytenpenelikpeeaa
open Go.RowKit Go.Shelf
set_option linter.unusedVariables false
set_option linter.unusedSimpArgs false

/- ContainsFunc with a predicate that may write -/
set_option maxHeartbeats 400000 in
theorem indexJ_any (g : Nat) (lb : Array Value) (p : Int → Bool) (eg : ∀ args w, (callFunc g args).run Try.prog w = .ok (.enter g args) w) (A : Option Addr) (n c : Nat) (zs : List Int) (J : World → Prop) (hJ : ∀ W, J W → RI W A n c zs) (w : World) (h : J w)
    (hp : ∀ x ∈ zs, ∀ W, J W → Calls Try.prog g (#[.int .i64 x] ++ lb) W fun e w' => e = .returned (.bool (p x)) ∧ J w') :
    Calls Try.prog 77 #[.slice A n c, .func (.func g) #[] lb] w fun e w' => ∃ r : Int, e = .returned (.int .i64 r) ∧ (decide (0 ≤ r) = zs.any p) ∧ J w' := by
  have hn := (hJ w h).small
  have hlen := (hJ w h).len
  have HLN := Lib.hid hlen
  have HJ := Lib.hid hJ
  have H := Lib.hid h
  have HP := Lib.hid hp
  clear hp h hJ hlen
  go_enter Try.func77, Try.ntmps77
  go_wp2
  go_loopw [8] (fun i W => ∃ k : Nat, k ≤ n ∧ i = .int .i64 k ∧ (zs.take k).any p = false ∧ J W) (fun i _ => n - (intOf i).toNat)
  case atStart => exact ⟨0, Nat.zero_le _, rfl, rfl, H.out⟩
  case round =>
    obtain ⟨k, hk, rfl, hno, hj⟩ := hrel
    have HN := Lib.hid hno
    have HJW := Lib.hid hj
    clear hno hj
    by_cases hlt : k < n
    · obtain ⟨b, off, rfl, hb, hc⟩ := (HJ.out _ HJW.out).cells (by omega)
      have hck := hc k hlt
      clear hc
      have hl : k < zs.length := by rw [HLN.out]; exact hlt
      have hcall := HP.out (elt zs k) (elt_mem hl) wr HJW.out
      generalize ho : p (elt zs k) = o at hcall
      have HO := Lib.hid ho
      clear ho
      cases o
      · go_wp2_with (go_at_fn g; refine hcall.mono ?_; clear hcall; rintro e w' ⟨rfl, hj'⟩; have HJ' := Lib.hid hj'; clear hj')
        go_roundw
        case rel => exact ⟨k + 1, by omega, by go_num, any_step hl HO.out HN.out, HJ'.out⟩
        case measure => simp [intOf]; omega
      · go_wp2_with (go_at_fn g; refine hcall.mono ?_; clear hcall; rintro e w' ⟨rfl, hj'⟩; have HJ' := Lib.hid hj'; clear hj')
        go_ret
        exact ⟨k, rfl, by rw [any_at hl HO.out]; simp, HJ'.out⟩
    · go_wp2
      go_ret
      exact ⟨-1, rfl, by rw [any_full HLN.out hlt HN.out]; rfl, HJW.out⟩

set_option maxHeartbeats 400000 in
theorem containsJ_any (g : Nat) (lb : Array Value) (p : Int → Bool) (eg : ∀ args w, (callFunc g args).run Try.prog w = .ok (.enter g args) w) (A : Option Addr) (n c : Nat) (zs : List Int) (J : World → Prop) (hJ : ∀ W, J W → RI W A n c zs) (w : World) (h : J w)
    (hp : ∀ x ∈ zs, ∀ W, J W → Calls Try.prog g (#[.int .i64 x] ++ lb) W fun e w' => e = .returned (.bool (p x)) ∧ J w') (r : Bool) (hr : zs.any p = r) :
    Calls Try.prog 49 #[.slice A n c, .func (.func g) #[] lb] w fun e w' => e = .returned (.bool r) ∧ J w' := by
  have hI := indexJ_any g lb p eg A n c zs J hJ w h hp
  rw [hr] at hI
  clear h hp hJ hr
  go_enter Try.func49, Try.ntmps49
  go_wp2_with (go_at_call 77; refine hI.mono ?_; clear hI; rintro e w' ⟨r', rfl, hr', hj'⟩; have HJ' := Lib.hid (And.intro hr' hj'); clear hr' hj')
  all_goals
    go_ret
    exact ⟨ret_bool (by rw [← HJ'.out.1]), HJ'.out.2⟩

/-- what Less has made -/
structure Lx where
  x : Int
  A : Option Addr
  n : Nat
  c : Nat
  A' : Option Addr
  n' : Nat
  c' : Nat
  ts : List Stp
  ls : List (List Int)
  l : List Int
  A2 : Option Addr
  c2 : Nat
  bi : Nat
  Bk : Nat
  Bt : Nat
  B3 : Nat
  Bin : Nat
  bin : Nat
  mi : Nat
  Bkn : Nat
  bkn : Nat
  Bfn : Nat
abbrev impV (F : Lx) : Value := .func (.func 47) #[] #[.pointer (some ⟨F.Bkn, 0, none⟩), .pointer (some ⟨F.Bk, 0, none⟩), .pointer (some ⟨F.Bt, 0, none⟩), .pointer (some ⟨F.B3, 0, none⟩), .pointer (some ⟨F.Bin, 0, none⟩), .pointer (some ⟨F.Bfn, 0, none⟩)]
structure LS (w W : World) (F : Lx) (f : Int → Option Bool) (m : Nat) : Prop where
  two : Two W F.B3 (.int .i64 F.x) (.slice F.A F.n F.c)
  bt : Boxed W F.Bt 25 (.slice F.A' F.n' F.c')
  box : BoxK W F.Bk F.x F.A F.n F.c F.A' F.n' F.c' F.A2 F.n' F.c2 (some F.bi)
  lev : RI W F.A2 F.n' F.c2 (levL F.ts)
  map : IntM W F.bi F.n' (atF F.ts)
  bin : Boxed W F.Bin 61 (.map (some F.bin))
  inn : SetM W F.bin F.mi F.l
  bkn : Boxed W F.Bkn 61 (.map (some F.bkn))
  kn : MF 4 edB W F.bkn m f
  bfn : Boxed W F.Bfn 75 (impV F)
  ne1 : F.bkn ≠ F.bin
  ne2 : F.bkn ≠ F.bi
  lo : w.heap.size ≤ F.bkn
  below : Below w.heap.size w W
theorem LS.grow {w W W' : World} {F : Lx} {f : Int → Option Bool} {m : Nat} (h : LS w W F f m) (hb : Below W.heap.size W W') : LS w W' F f m where
  two := h.two.below hb
  bt := boxed_below h.bt hb
  box := h.box.below hb
  lev := h.lev.below hb
  map := h.map.below hb h.map.lt
  bin := boxed_below h.bin hb
  inn := h.inn.below hb h.inn.lt
  bkn := boxed_below h.bkn hb
  kn := h.kn.below hb h.kn.lt
  bfn := boxed_below h.bfn hb
  ne1 := h.ne1
  ne2 := h.ne2
  lo := h.lo
  below := h.below.trans (hb.mono h.below.size)
theorem LS.turn {w W W' : World} {F : Lx} {f f' : Int → Option Bool} {m m' : Nat} (h : LS w W F f m) (hs : MF 4 edB W' F.bkn m' f') (ht : W.mapTurned W' F.bkn) : LS w W' F f' m' where
  two := h.two.kept ht.grown (fun e => by
    have e1 : F.B3 = F.bkn := by injection e
    obtain ⟨es, clock, h1⟩ := map_block h.kn
    have h2 : W.heap[F.B3]? = _ := h.two
    rw [e1, h1] at h2; cases h2)
  bt := h.bt.kept ht.grown (fun e => boxed_ne_map h.kn h.bt (by injection e))
  box := h.box.kept ht.grown (fun e => boxk_ne_map h.kn h.box (by injection e))
  lev := h.lev.turned ht
  map := h.map.kept ht.grown (fun e => h.ne2 (by injection e with e; exact e.symm))
  bin := h.bin.kept ht.grown (fun e => boxed_ne_map h.kn h.bin (by injection e))
  inn := h.inn.kept ht.grown (fun e => h.ne1 (by injection e with e; exact e.symm))
  bkn := h.bkn.kept ht.grown (fun e => boxed_ne_map h.kn h.bkn (by injection e))
  kn := hs
  bfn := h.bfn.kept ht.grown (fun e => boxed_ne_map h.kn h.bfn (by injection e))
  ne1 := h.ne1
  ne2 := h.ne2
  lo := h.lo
  below := h.below.grown ht.grown h.below.size (fun g e => by cases e; exact h.lo)

/-- places not yet found -/
def unk (ts : List Stp) (f : Int → Option Bool) : Nat := ((List.range ts.length).filter fun q => (f (-(stp ts q).lit)).isNone).length
theorem filter_ltN {l : List Nat} {p q : Nat → Bool} (h : ∀ x, q x = true → p x = true) {x : Nat} (hx : x ∈ l) (hp : p x = true) (hq : q x = false) : (l.filter q).length < (l.filter p).length := by
  induction l with
  | nil => cases hx
  | cons y l ih =>
    have mono : (l.filter q).length ≤ (l.filter p).length := by
      clear ih hx
      induction l with
      | nil => simp
      | cons z l ih2 =>
        rw [List.filter_cons, List.filter_cons]
        cases hqz : q z with
        | true => rw [h z hqz]; simpa using ih2
        | false => cases p z <;> simp <;> omega
    rw [List.filter_cons, List.filter_cons]
    rcases List.mem_cons.1 hx with e | e
    · subst e; rw [hp, hq]; simp; omega
    · cases hqy : q y with
      | true => rw [h y hqy]; simpa using ih e
      | false => have := ih e; cases p y <;> simp <;> omega
theorem unk_put {ts : List Stp} {f : Int → Option Bool} {y : Int} {v : Bool} (hp : plc ts (-y) < ts.length) (hf : f y = none) : unk ts (putF f y v) + 1 ≤ unk ts f := by
  have e : -(stp ts (plc ts (-y))).lit = y := by rw [(plc_lt hp).1]; omega
  refine filter_ltN (x := plc ts (-y)) (fun q hq => ?_) (List.mem_range.2 hp) ?_ ?_
  · unfold putF at hq
    by_cases e2 : -(stp ts q).lit = y
    · rw [if_pos e2] at hq; cases hq
    · rw [if_neg e2] at hq; exact hq
  · rw [e, hf]; rfl
  · rw [e]; unfold putF; rw [if_pos rfl]; rfl
theorem unk_le (ts : List Stp) (f : Int → Option Bool) : unk ts f ≤ ts.length := by
  unfold unk; exact Nat.le_trans (List.length_filter_le _ _) (by simp)

/-- what the map of the found ones says is true -/
structure Stt (w W : World) (F : Lx) (f : Int → Option Bool) : Prop where
  st : ∃ m, LS w W F f m ∧ m + unk F.ts f ≤ F.ts.length
  good : ∀ y v, f y = some v → plc F.ts (-y) < F.ts.length → v = redB F.ls F.ts F.l (plc F.ts (-y))
theorem Stt.grow {w W W' : World} {F : Lx} {f : Int → Option Bool} (h : Stt w W F f) (hb : Below W.heap.size W W') : Stt w W' F f := by
  obtain ⟨m, h1, h2⟩ := h.st
  exact ⟨⟨m, h1.grow hb, h2⟩, h.good⟩
theorem Stt.put {w W W' : World} {F : Lx} {f : Int → Option Bool} {m : Nat} {y : Int} (h1 : LS w W F f m) (h2 : m + unk F.ts f ≤ F.ts.length) (hg : ∀ y v, f y = some v → plc F.ts (-y) < F.ts.length → v = redB F.ls F.ts F.l (plc F.ts (-y))) (hp : plc F.ts (-y) < F.ts.length) (hf : f y = none)
    (hs : MF 4 edB W' F.bkn (m + 1) (putF f y (redB F.ls F.ts F.l (plc F.ts (-y))))) (ht : W.mapTurned W' F.bkn) : Stt w W' F (putF f y (redB F.ls F.ts F.l (plc F.ts (-y)))) := by
  refine ⟨⟨m + 1, h1.turn hs ht, by have := unk_put (v := redB F.ls F.ts F.l (plc F.ts (-y))) hp hf; omega⟩, fun z v hz hpz => ?_⟩
  unfold putF at hz
  by_cases e : z = y
  · subst e; rw [if_pos rfl] at hz; injection hz with hz; exact hz.symm
  · rw [if_neg e] at hz; exact hg z v hz hpz

/-- what a call of implied hands back -/
def ImpP (w W : World) (F : Lx) (f : Int → Option Bool) (p : Nat) (e : Ending) (W' : World) : Prop :=
  e = .returned (.bool (redB F.ls F.ts F.l p)) ∧ ∃ f', Stt w W' F f' ∧ (∀ z, p < plc F.ts (-z) → f' z = f z) ∧ Kept2 W W' F.bkn F.bkn

theorem enters50 : ∀ args w, (callFunc 50 args).run Try.prog w = .ok (.enter 50 args) w := enters_of Try.func50 (by kernel_rfl) rfl

/-- what the predicate within implied keeps -/
def JJ (w W1 : World) (F : Lx) (f : Int → Option Bool) (p : Nat) (V : World) : Prop := ∃ f', Stt w V F f' ∧ (∀ z, p ≤ plc F.ts (-z) → f' z = f z) ∧ Kept2 W1 V F.bkn F.bkn
def nokR (F : Lx) (lt y : Int) : Bool := (y != lt) && (!(hasB F.l y) && !(redB F.ls F.ts F.l (plc F.ts (-y))))
theorem any_nok (F : Lx) (lt : Int) (zs : List Int) : zs.any (nokR F lt) = !(zs.all (okR F.ls F.ts F.l lt)) := by
  rw [List.not_all_eq_any_not]
  congr 1
  funext y
  unfold nokR okR
  cases h1 : (y == lt) <;> cases hasB F.l y <;> cases redB F.ls F.ts F.l (plc F.ts (-y)) <;> simp [h1, bne]

/-- the induction's word -/
def Rec (w : World) (F : Lx) (p : Nat) : Prop := ∀ (q : Nat) (z : Int) (U : World) (g : Int → Option Bool), q < p → plc F.ts (-z) = q → -65536 ≤ z → z ≤ 65536 → Stt w U F g →
  Calls Try.prog 47 #[.int .i64 z, .pointer (some ⟨F.Bkn, 0, none⟩), .pointer (some ⟨F.Bk, 0, none⟩), .pointer (some ⟨F.Bt, 0, none⟩), .pointer (some ⟨F.B3, 0, none⟩), .pointer (some ⟨F.Bin, 0, none⟩), .pointer (some ⟨F.Bfn, 0, none⟩)] U (ImpP w U F g q)

set_option maxRecDepth 100000 in
set_option maxHeartbeats 2000000 in
theorem inner_any (w W1 V : World) (F : Lx) (f : Int → Option Bool) (p Bs : Nat) (s : Stp) (y : Int) (hJ : JJ w W1 F f p V) (hbs : BoxS W1 Bs s) (hbk : Bs ≠ F.bkn) (h0 : y ≠ 0 ∧ -65536 ≤ y ∧ y ≤ 65536) (hy : y ≠ s.lit → plc F.ts (-y) < p) (hrec : Rec w F p) :
    Calls Try.prog 50 #[.int .i64 y, .pointer (some ⟨Bs, 0, none⟩), .pointer (some ⟨F.Bin, 0, none⟩), .pointer (some ⟨F.Bfn, 0, none⟩)] V fun e V' => e = .returned (.bool (nokR F s.lit y)) ∧ JJ w W1 F f p V' := by
  have HJJ := Lib.hid hJ
  obtain ⟨f', hst, hfz, hk⟩ := hJ
  obtain ⟨m, hls, hfew⟩ := hst.st
  have hbv : BoxS V Bs s := (hk.same Bs hbs.lt hbk hbk).trans hbs
  have c0 := hbv.c0
  have c1 := hls.bin.cell
  have c2 := hls.bfn.cell
  unfold impV at c2
  have hlk := hls.inn.look Try.underlying61 (x := y) (wfI_lit h0.2.1 h0.2.2)
  have HST := Lib.hid hst
  have HFZ := Lib.hid hfz
  have HK := Lib.hid hk
  have HREC := Lib.hid hrec
  clear hst hfz hk hls hfew hbv hbs hrec
  obtain ⟨lt, hlt⟩ : ∃ lt, s.lit = lt := ⟨_, rfl⟩
  rw [hlt] at c0 hy
  rw [hlt]
  clear hlt
  by_cases hyl : y = lt
  · have hyl' : (y != lt) = false := by simpa using hyl
    have E : Hid (nokR F lt y = false) := Lib.hid (by unfold nokR; rw [hyl']; rfl)
    clear hyl hy
    go_enter Try.func50, Try.ntmps50
    go_wp2_with fail
    go_ret
    exact ⟨ret_bool E.out.symm, HJJ.out⟩
  · have hyl' : (y != lt) = true := by simpa using hyl
    have hpy := hy hyl
    cases hin : hasB F.l y with
    | true =>
      rw [hin] at hlk
      have E : Hid (nokR F lt y = false) := Lib.hid (by unfold nokR; rw [hin]; simp)
      clear hyl hy hin
      go_enter Try.func50, Try.ntmps50
      go_wp2_with fail
      go_ret
      exact ⟨ret_bool E.out.symm, HJJ.out⟩
    | false =>
      rw [hin] at hlk
      have hcall := HREC.out _ y V f' hpy rfl h0.2.1 h0.2.2 HST.out
      have E : Hid (nokR F lt y = !(redB F.ls F.ts F.l (plc F.ts (-y)))) := Lib.hid (by unfold nokR; rw [hin, hyl']; simp)
      unfold ImpP at hcall
      generalize redB F.ls F.ts F.l (plc F.ts (-y)) = rb at hcall E
      have HPY := Lib.hid hpy
      clear hyl hy hin hpy
      cases rb with
      | true =>
        go_enter Try.func50, Try.ntmps50
        go_wp2_with (go_at_call 47; refine hcall.mono ?_; clear hcall; rintro e V' ⟨rfl, hpost⟩; have HP := Lib.hid hpost; clear hpost)
        go_ret
        obtain ⟨f2, h1, h2, h3⟩ := HP.out
        exact ⟨ret_bool (by rw [E.out]; rfl), f2, h1, fun z hz => (h2 z (by have := HPY.out; omega)).trans (HFZ.out z hz), HK.out.trans h3⟩
      | false =>
        go_enter Try.func50, Try.ntmps50
        go_wp2_with (go_at_call 47; refine hcall.mono ?_; clear hcall; rintro e V' ⟨rfl, hpost⟩; have HP := Lib.hid hpost; clear hpost)
        go_ret
        obtain ⟨f2, h1, h2, h3⟩ := HP.out
        exact ⟨ret_bool (by rw [E.out]; rfl), f2, h1, fun z hz => (h2 z (by have := HPY.out; omega)).trans (HFZ.out z hz), HK.out.trans h3⟩

theorem imp_memo {w U : World} {F : Lx} {g : Int → Option Bool} {q : Nat} (h : Stt w U F g) : ∃ f', Stt w U F f' ∧ (∀ z, q < plc F.ts (-z) → f' z = g z) ∧ Kept2 U U F.bkn F.bkn := ⟨g, h, fun _ _ => rfl, Kept2.refl _ _ _⟩

set_option maxRecDepth 100000 in
set_option maxHeartbeats 8000000 in
theorem implied_step (w : World) (F : Lx) (hT : Tr F.x F.ls F.ts) (hok : ∀ q ∈ F.ls, Okl q) (hRL : RL w F.A F.n F.c F.ls) (hRS : RS w F.A' F.n' F.c' F.ts) (hn' : F.n' ≤ 1000) (p : Nat) (hp : p < F.ts.length) (hrec : Rec w F p) (y : Int) (U : World) (g : Int → Option Bool) (hpy : plc F.ts (-y) = p) (h0 : -65536 ≤ y) (h1 : y ≤ 65536) (hst : Stt w U F g) :
    Calls Try.prog 47 #[.int .i64 y, .pointer (some ⟨F.Bkn, 0, none⟩), .pointer (some ⟨F.Bk, 0, none⟩), .pointer (some ⟨F.Bt, 0, none⟩), .pointer (some ⟨F.B3, 0, none⟩), .pointer (some ⟨F.Bin, 0, none⟩), .pointer (some ⟨F.Bfn, 0, none⟩)] U (ImpP w U F g p) := by
  obtain ⟨m, hls, hfew⟩ := hst.st
  have hlo := MF.lookOk ekB Try.underlying61 hls.kn (x := y) (wfI_lit h0 h1)
  have k1 := hls.bkn.cell
  have HST := Lib.hid hst
  have HLS := Lib.hid hls
  have HPY := Lib.hid hpy
  have HREC := Lib.hid hrec
  have HT := Lib.hid hT
  have HOK := Lib.hid hok
  have HRL := Lib.hid hRL
  have HRS := Lib.hid hRS
  have HP := Lib.hid hp
  have HFEW := Lib.hid hfew
  have HTS := Lib.hid hRS.len
  have HLN := Lib.hid hRL.len
  have hcn := hRL.small
  clear hls hrec hT hok hRL hRS hfew hst hp hpy
  unfold ImpP
  have hre := redB_eq HT.out F.l HP.out
  have hwy := HT.out.why p HP.out
  have hlv0 : 0 ≤ levAt F.ts p := by unfold levAt; omega
  have hpn : p < F.n' := by rw [← HTS.out]; exact HP.out
  cases hg : g y with
  | some v =>
    rw [hg] at hlo
    have E : Hid (v = redB F.ls F.ts F.l p) := Lib.hid (by have := HST.out.good y v hg (by rw [HPY.out]; exact HP.out); rw [HPY.out] at this; exact this)
    clear hg hre
    simp only [Option.getD_some, Option.isSome_some] at hlo
    go_enter Try.func47, Try.ntmps47
    go_wp2_with fail
    go_ret
    exact ⟨ret_bool E.out, imp_memo HST.out⟩
  | none =>
    rw [hg] at hlo
    simp only [Option.getD_none, Option.isSome_none] at hlo
    have HG := Lib.hid hg
    clear hg
    obtain ⟨bl, ol, eA2, hbl, hcl⟩ := HLS.out.lev.cells (by omega)
    obtain ⟨bt, ot, eA', hbt, hct⟩ := HRS.out.cells (by omega)
    have c0 := HLS.out.box.c0
    have c1 := HLS.out.box.c1
    have c2 := HLS.out.box.c2
    have c3 := HLS.out.box.c3
    have c4 := HLS.out.box.c4
    rw [eA2] at c3
    have his : isT F.ts y = true := by unfold isT; rw [HPY.out]; simpa using HP.out
    have hwh : whereT F.ts y = (p : Int) := by unfold whereT; rw [HPY.out, if_pos HP.out]
    have hstep := lstep_any F.x F.A F.n F.c F.A' F.n' F.c' (some ⟨bl, ol, none⟩) F.n' F.c2 F.bi F.n' F.ts y U HLS.out.map h0 h1 true (p : Int) his hwh
    have HCL := Lib.hid (hcl p hpn)
    have HCT := Lib.hid (hct p hpn)
    have HA2 := Lib.hid eA2
    have HA' := Lib.hid eA'
    have hd1 : (p : Int) < (F.n' : Int) := by omega
    clear hcl hct his hwh eA2 eA'
    go_enter Try.func47, Try.ntmps47
    go_upto_region 6 with (go_at_call 48; refine hstep.mono ?_; clear hstep; rintro e U1 ⟨rfl, hb1⟩; have HL1 := Lib.hid (HLS.out.grow hb1); have HB1 := Lib.hid hb1; have k3 := HL1.out.bt.cell; rw [HA'.out] at k3; have k4 := (HL1.out.below.cell (p := ⟨bt, ot + p * 2, none⟩) hbt).trans HCT.out.1; have k5 := (HL1.out.below.cell (p := ⟨bt, ot + p * 2 + 1, none⟩) hbt).trans HCT.out.2; clear hb1 c0 c1 c2 c3 c4)
    have hal : Below U1.heap.size U1 (U1.alloc (.cells #[.int .i64 (stp F.ts p).lit, .int .i64 (stp F.ts p).why] 41)) := (Below.refl _ _).alloc (Nat.le_refl _) _
    have HL2 := Lib.hid (HL1.out.grow hal)
    have hbs := BoxS.new U1 (stp F.ts p).lit (stp F.ts p).why
    have HKP := Lib.hid ((Kept2.below F.bkn F.bkn HB1.out).trans (Kept2.below F.bkn F.bkn hal))
    have hbk : U1.heap.size ≠ F.bkn := by have := HL1.out.kn.lt; omega
    have hcv := (hal.cell (p := ⟨bl, ol + p, none⟩) (Nat.lt_of_lt_of_le hbl HB1.out.size)).trans ((HB1.out.cell (p := ⟨bl, ol + p, none⟩) hbl).trans HCL.out)
    rw [levL_at HP.out] at hcv
    obtain ⟨lt, hlt⟩ : ∃ lt, (stp F.ts p).lit = lt := ⟨_, rfl⟩
    obtain ⟨wy, hwyy⟩ : ∃ wy, (stp F.ts p).why = wy := ⟨_, rfl⟩
    obtain ⟨lv, hlv⟩ : ∃ lv, levAt F.ts p = lv := ⟨_, rfl⟩
    have hrs := HT.out.reason p HP.out
    rw [hlt, hwyy] at hbs HL2 HKP hcv hre hrs
    rw [hlv] at hcv hre hlv0
    rw [hwyy] at hwy
    rw [hlt, hwyy]
    generalize hU2 : U1.alloc (.cells #[.int .i64 lt, .int .i64 wy] 41) = U2 at *
    obtain ⟨Bs, hBs⟩ : ∃ Bs, U1.heap.size = Bs := ⟨_, rfl⟩
    rw [hBs] at hbs hbk
    rw [hBs]
    have HRE := Lib.hid hre
    have HRSN := Lib.hid hrs
    have HBS := Lib.hid hbs
    have c1 := hbs.c1
    have c3 := HL2.out.box.c2
    have c4 := HL2.out.box.c3
    rw [HA2.out] at c4
    have k1 := HL2.out.bkn.cell
    clear hU2 hBs hre hlt hwyy hlv k3 k4 k5 hal hbs hrs c3
    have hput := fun (v : Bool) => MF.put ekB Try.underlying61 HL2.out.kn (by have h2 := HFEW.out; have h3 := unk_le F.ts g; have h4 := HTS.out; unfold maxLen; omega) (x := y) (wfI_lit h0 h1) (v := v) trivial
    by_cases hl0 : lv = 0
    · have E : Hid (true = redB F.ls F.ts F.l p) := Lib.hid (by rw [HRE.out, hl0]; rfl)
      have hl0' : (lv == 0) = true := by simpa using hl0
      have hl1 : ¬ 0 < lv := by omega
      have hl2 : decide (0 < lv) = false := by simpa using hl1
      obtain ⟨U4, hrun, hm4, ht4⟩ := hput true
      rw [E.out] at hm4
      have HM4 := Lib.hid hm4
      have HT4 := Lib.hid ht4
      clear hl0 hput hm4 ht4
      by_cases hw0 : 0 ≤ wy
      · have hl3 : decide (0 ≤ wy) = true := by simpa using hw0
        go_wp2_with fail
        go_ret
        refine ⟨ret_bool E.out, putF g y (redB F.ls F.ts F.l p), ?_, fun z hz => ?_, HKP.out.trans (Kept2.grown HT4.out.grown (Or.inl rfl))⟩
        · have := Stt.put HL2.out HFEW.out HST.out.good (by rw [HPY.out]; exact HP.out) HG.out (by rw [HPY.out]; exact HM4.out) HT4.out
          rw [HPY.out] at this; exact this
        · unfold putF; rw [if_neg (fun e => by rw [e, HPY.out] at hz; omega)]
      · have hl3 : decide (0 ≤ wy) = false := by simpa using hw0
        go_wp2_with fail
        go_ret
        refine ⟨ret_bool E.out, putF g y (redB F.ls F.ts F.l p), ?_, fun z hz => ?_, HKP.out.trans (Kept2.grown HT4.out.grown (Or.inl rfl))⟩
        · have := Stt.put HL2.out HFEW.out HST.out.good (by rw [HPY.out]; exact HP.out) HG.out (by rw [HPY.out]; exact HM4.out) HT4.out
          rw [HPY.out] at this; exact this
        · unfold putF; rw [if_neg (fun e => by rw [e, HPY.out] at hz; omega)]
    · have hl1 : 0 < lv := by omega
      have hl0' : (lv == 0) = false := by simpa using hl0
      have hl2 : decide (0 < lv) = true := by simpa using hl1
      by_cases hw0 : 0 ≤ wy
      · have hl3 : decide (0 ≤ wy) = true := by simpa using hw0
        obtain ⟨jj, rfl⟩ : ∃ jj : Nat, wy = jj := ⟨wy.toNat, by omega⟩
        have hjj : jj < F.n := by have := HLN.out; omega
        obtain ⟨ba, oa, eA, hba, hca⟩ := HRL.out.cells (by omega)
        obtain ⟨a4, n4, c4', hc4, hr4⟩ := hca jj hjj
        have c5 := HL2.out.two.c1
        rw [eA] at c5
        have k6 := (HL2.out.below.cell (p := ⟨ba, oa + jj, none⟩) hba).trans hc4
        have hok4 := HOK.out _ (ell_mem (ls := F.ls) (k := jj) (by have := HLN.out; omega))
        have hrs2 := HRSN.out hw0
        rw [Int.toNat_natCast] at hrs2
        obtain ⟨rb, hrb⟩ : ∃ rb, redB F.ls F.ts F.l p = rb := ⟨_, rfl⟩
        have hrd : rb = (ell F.ls jj).all (okR F.ls F.ts F.l lt) := by
          rw [← hrb, HRE.out, Int.toNat_natCast]
          have h1 : decide (lv = 0) = false := by simpa using hl0
          have h2 : decide ((0 : Int) ≤ (jj : Int)) = true := by simp
          rw [h1, h2, Bool.false_or, Bool.true_and]
          rfl
        have HRBT := Lib.hid hrb.symm
        have hcon := containsJ_any 50 #[.pointer (some ⟨Bs, 0, none⟩), .pointer (some ⟨F.Bin, 0, none⟩), .pointer (some ⟨F.Bfn, 0, none⟩)] (nokR F lt) enters50 a4 n4 c4' (ell F.ls jj) (JJ w U2 F g p)
          (fun W hW => by obtain ⟨f', hst, _, _⟩ := hW; obtain ⟨m', hls, _⟩ := hst.st; exact hr4.below hls.below) U2 ⟨g, ⟨⟨m, HL2.out, HFEW.out⟩, HST.out.good⟩, fun _ _ => rfl, Kept2.refl _ _ _⟩
          (fun y' hy' W hW => inner_any w U2 W F g p Bs ⟨lt, (jj : Int)⟩ y' hW HBS.out hbk (hok4 y' hy') (fun hne => by
            obtain ⟨q, hq1, hq2⟩ := hrs2.2 y' hy' hne
            have := HT.out.plc (k := q) (by have := HP.out; omega)
            rw [hq2] at this
            rw [this]; exact hq1) HREC.out) (!rb) (by rw [any_nok, ← hrd])
        clear hca hr4 hc4 hok4 hrs2 hrb hrd hput hl0 hw0
        cases rb with
        | true =>
          go_upto_region 9 with (go_at_call 49; refine hcon.mono ?_; clear hcon; rintro e V ⟨rfl, hjv⟩; have HJV := Lib.hid hjv; clear hjv)
          obtain ⟨f2, hs2, hz2, hk2⟩ := HJV.out
          obtain ⟨m2, hL3, hfew3⟩ := hs2.st
          have hf2 : f2 y = none := by rw [hz2 y (by rw [HPY.out]; exact Nat.le_refl _)]; exact HG.out
          have k1' := hL3.bkn.cell
          obtain ⟨U4, hrun, hm4, ht4⟩ := MF.put ekB Try.underlying61 hL3.kn (by have h3 := unk_le F.ts f2; have h4 := HTS.out; unfold maxLen; omega) (x := y) (wfI_lit h0 h1) (v := true) trivial
          have HL3 := Lib.hid hL3
          have HS2 := Lib.hid (And.intro hfew3 (And.intro hs2.good (And.intro hz2 (And.intro hk2 hf2))))
          rw [HRBT.out] at hm4
          have HM4 := Lib.hid hm4
          have HT4 := Lib.hid ht4
          clear hs2 hz2 hk2 hL3 hfew3 hf2 hm4 ht4 k1 c1 c4 hcv c5 k6
          go_wp2_with fail
          go_ret
          obtain ⟨q1, q2, q3, q4, q5⟩ := HS2.out
          refine ⟨ret_bool HRBT.out, putF f2 y (redB F.ls F.ts F.l p), ?_, fun z hz => ?_, (HKP.out.trans q4).trans (Kept2.grown HT4.out.grown (Or.inl rfl))⟩
          · have := Stt.put HL3.out q1 q2 (by rw [HPY.out]; exact HP.out) q5 (by rw [HPY.out]; exact HM4.out) HT4.out
            rw [HPY.out] at this; exact this
          · unfold putF; rw [if_neg (fun e => by rw [e, HPY.out] at hz; omega)]; exact q3 z (by omega)
        | false =>
          go_upto_region 9 with (go_at_call 49; refine hcon.mono ?_; clear hcon; rintro e V ⟨rfl, hjv⟩; have HJV := Lib.hid hjv; clear hjv)
          obtain ⟨f2, hs2, hz2, hk2⟩ := HJV.out
          obtain ⟨m2, hL3, hfew3⟩ := hs2.st
          have hf2 : f2 y = none := by rw [hz2 y (by rw [HPY.out]; exact Nat.le_refl _)]; exact HG.out
          have k1' := hL3.bkn.cell
          obtain ⟨U4, hrun, hm4, ht4⟩ := MF.put ekB Try.underlying61 hL3.kn (by have h3 := unk_le F.ts f2; have h4 := HTS.out; unfold maxLen; omega) (x := y) (wfI_lit h0 h1) (v := false) trivial
          have HL3 := Lib.hid hL3
          have HS2 := Lib.hid (And.intro hfew3 (And.intro hs2.good (And.intro hz2 (And.intro hk2 hf2))))
          rw [HRBT.out] at hm4
          have HM4 := Lib.hid hm4
          have HT4 := Lib.hid ht4
          clear hs2 hz2 hk2 hL3 hfew3 hf2 hm4 ht4 k1 c1 c4 hcv c5 k6
          go_wp2_with fail
          go_ret
          obtain ⟨q1, q2, q3, q4, q5⟩ := HS2.out
          refine ⟨ret_bool HRBT.out, putF f2 y (redB F.ls F.ts F.l p), ?_, fun z hz => ?_, (HKP.out.trans q4).trans (Kept2.grown HT4.out.grown (Or.inl rfl))⟩
          · have := Stt.put HL3.out q1 q2 (by rw [HPY.out]; exact HP.out) q5 (by rw [HPY.out]; exact HM4.out) HT4.out
            rw [HPY.out] at this; exact this
          · unfold putF; rw [if_neg (fun e => by rw [e, HPY.out] at hz; omega)]; exact q3 z (by omega)
      · have hl3 : decide (0 ≤ wy) = false := by simpa using hw0
        have E : Hid (false = redB F.ls F.ts F.l p) := Lib.hid (by rw [HRE.out]; simp [hl0, hw0])
        obtain ⟨U4, hrun, hm4, ht4⟩ := hput false
        rw [E.out] at hm4
        have HM4 := Lib.hid hm4
        have HT4 := Lib.hid ht4
        clear hl0 hput hm4 ht4
        go_wp2_with fail
        go_ret
        refine ⟨ret_bool E.out, putF g y (redB F.ls F.ts F.l p), ?_, fun z hz => ?_, HKP.out.trans (Kept2.grown HT4.out.grown (Or.inl rfl))⟩
        · have := Stt.put HL2.out HFEW.out HST.out.good (by rw [HPY.out]; exact HP.out) HG.out (by rw [HPY.out]; exact HM4.out) HT4.out
          rw [HPY.out] at this; exact this
        · unfold putF; rw [if_neg (fun e => by rw [e, HPY.out] at hz; omega)]

theorem implied_rec (w : World) (F : Lx) (hT : Tr F.x F.ls F.ts) (hok : ∀ q ∈ F.ls, Okl q) (hRL : RL w F.A F.n F.c F.ls) (hRS : RS w F.A' F.n' F.c' F.ts) (hn' : F.n' ≤ 1000) : ∀ p, p ≤ F.ts.length → Rec w F p
  | 0, _ => fun q z U g hq => absurd hq (by omega)
  | p + 1, hp => fun q z U g hq hz h0 h1 hst => by
    rcases Nat.lt_or_ge q p with h2 | h2
    · exact implied_rec w F hT hok hRL hRS hn' p (by omega) q z U g h2 hz h0 h1 hst
    · obtain rfl : q = p := by omega
      exact implied_step w F hT hok hRL hRS hn' q (by omega) (implied_rec w F hT hok hRL hRS hn' q (by omega)) z U g hz h0 h1 hst
theorem implied_any (w : World) (F : Lx) (hT : Tr F.x F.ls F.ts) (hok : ∀ q ∈ F.ls, Okl q) (hRL : RL w F.A F.n F.c F.ls) (hRS : RS w F.A' F.n' F.c' F.ts) (hn' : F.n' ≤ 1000) (y : Int) (U : World) (g : Int → Option Bool) (hy : plc F.ts (-y) < F.ts.length) (h0 : -65536 ≤ y) (h1 : y ≤ 65536) (hst : Stt w U F g) (r : Bool) (hr : redB F.ls F.ts F.l (plc F.ts (-y)) = r) :
    Calls Try.prog 47 #[.int .i64 y, .pointer (some ⟨F.Bkn, 0, none⟩), .pointer (some ⟨F.Bk, 0, none⟩), .pointer (some ⟨F.Bt, 0, none⟩), .pointer (some ⟨F.B3, 0, none⟩), .pointer (some ⟨F.Bin, 0, none⟩), .pointer (some ⟨F.Bfn, 0, none⟩)] U fun e U' => e = .returned (.bool r) ∧ (∃ g', Stt w U' F g') ∧ Kept2 U U' F.bkn F.bkn := by
  refine (implied_rec w F hT hok hRL hRS hn' F.ts.length (Nat.le_refl _) _ y U g hy rfl h0 h1 hst).mono ?_
  rintro e U' ⟨he, f', h1, h2, h3⟩
  exact ⟨by rw [he, hr], ⟨f', h1⟩, h3⟩

end Go.Proofs.Ytenpenelikpeeaa
