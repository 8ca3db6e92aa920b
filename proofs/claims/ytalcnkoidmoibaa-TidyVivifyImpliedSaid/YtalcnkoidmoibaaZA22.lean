/-
  prop.Prop: unit propagation with watches. Turned from this repo's texts of chapter 20. No condition.
-/
import Derived.Test.YtalcnkoidmoibaaZA21
import Derived.Deep.LoopGhost
import Derived.Deep.QuietTactic
import Derived.BigQuiet

namespace Go.Proofs.Ytalcnkoidmoibaa
open Go.RowKit Go.Shelf
set_option linter.unusedVariables false
set_option linter.unusedSimpArgs false

/-- an empty map as it lies -/
def Raw (w : World) (b : Nat) : Prop := w.heap[b]? = some (.map #[] 0)

theorem Raw.new (w : World) : Raw (w.alloc (.map #[] 0)) w.heap.size := heap_alloc_new w _

theorem Raw.lt {w : World} {b : Nat} (h : Raw w b) : b < w.heap.size := (Array.getElem?_eq_some_iff.1 h).1

theorem Raw.below {w w' : World} {b : Nat} (h : Raw w b) (hb : Below w.heap.size w w') : Raw w' b := (hb.block b h.lt).trans h

theorem Raw.alloc {w : World} {b : Nat} (h : Raw w b) (o : Obj) : Raw (w.alloc o) b := h.below ((Below.refl _ _).alloc (Nat.le_refl _) _)

theorem Raw.set {w : World} {b : Nat} (h : Raw w b) : SetM w b 0 [] :=
  ⟨_, ⟨#[], 0, h, ⟨by simp, Go.MapKept.stamped_empty 0, by simp⟩, Nat.le_refl _, rfl⟩, fun x _ => rfl, fun x v _ h => by cases h⟩

theorem Raw.hm {w : World} {b : Nat} (h : Raw w b) : HM w b 0 emptyF :=
  ⟨_, ⟨#[], 0, h, ⟨by simp, Go.MapKept.stamped_empty 0, by simp⟩, Nat.le_refl _, rfl⟩, fun x _ => rfl, fun x v _ h => by cases h⟩

/-- the engine's beginning -/
def MadeE (w : World) (A : Option Addr) (n c : Nat) (ls : List (List Int)) (nt : Nat) (ts : List Stp) (s : Value) (W : World) : Prop :=
  ∃ G bt bw O co, s = .pointer (some ⟨G, 0, none⟩) ∧ EngS w W G bt bw A n c ls 0 0 emptyF [] ⟨ts, fun _ => []⟩ O nt co nt

theorem madeE_of {w W : World} {A : Option Addr} {n c : Nat} {ls : List (List Int)} {nt : Nat} {ts : List Stp} {bt bw : Nat} {O : Option Addr} {co S : Nat} (hcls : RL w A n c ls) (hs : Raw W bt) (hw : Raw W bw) (hne : bt ≠ bw) (ho : W.ownsRow w.heap.size 52 2 (.slice O nt co) nt (flatS ts)) (hb : Below w.heap.size w W) (h1 : w.heap.size ≤ bt) (h2 : w.heap.size ≤ bw) (hS : S = W.heap.size) :
    MadeE w A n c ls nt ts (.pointer (some ⟨S, 0, none⟩)) (W.alloc (.cells #[.map (some bt), .slice A n c, .map (some bw), .slice O nt co, .int .i64 nt] 83)) := by
  subst hS
  refine ⟨W.heap.size, bt, bw, O, co, rfl, ⟨heap_alloc_new W _, hcls, (hs.alloc _).set, ⟨(hw.alloc _).hm, fun x hx => World.ownsRow_nil _ _ _ _, fun x y g _ _ _ h => by cases h⟩, ?_, hb.alloc hb.size _, hb.size, h1, h2, hne⟩⟩
  exact own_below ho ((Below.refl _ _).alloc (Nat.le_refl _) _)

theorem raw_l (w : World) : Raw ((w.alloc (.map #[] 0)).alloc (.map #[] 0)) w.heap.size := (Raw.new w).alloc _

theorem raw_r (w : World) : Raw ((w.alloc (.map #[] 0)).alloc (.map #[] 0)) (w.heap.size + 1) := by
  have := Raw.new (w.alloc (.map #[] 0))
  simpa using this

theorem own_mono {w : World} {b b' : Nat} {e : TypeId} {size : Nat} {v : Value} {n : Nat} {xs : List Value} (h : w.ownsRow b e size v n xs) (hb : b' ≤ b) : w.ownsRow b' e size v n xs := by
  obtain ⟨h1, h2⟩ := h
  refine ⟨h1, ?_⟩
  rcases h2 with h2 | ⟨g, cap, cur, e1, e2, r⟩
  · exact .inl h2
  · exact .inr ⟨g, cap, cur, e1, Nat.le_trans hb e2, r⟩

theorem own_alloc {w : World} {b : Nat} {e : TypeId} {size : Nat} {v : Value} {n : Nat} {xs : List Value} (h : w.ownsRow b e size v n xs) (o : Obj) : (w.alloc o).ownsRow b e size v n xs := own_below h ((Below.refl _ _).alloc (Nat.le_refl _) _)

section

variable {w w1 w2 : World} {A : Option Addr} {n c : Nat} {ls : List (List Int)} {nt : Nat} {ts : List Stp} {O : Option Addr} {co S : Nat}

theorem made_c {bt bw : Nat} (hcls : RL w A n c ls) (hb : Below w.heap.size w w2) (ho : w2.ownsRow w.heap.size 52 2 (.slice O nt co) nt (flatS ts)) (hp : (bt = w2.heap.size ∧ bw = w2.heap.size + 1) ∨ (bt = w2.heap.size + 1 ∧ bw = w2.heap.size)) (hS : S = w2.heap.size + 1 + 1) :
    MadeE w A n c ls nt ts (.pointer (some ⟨S, 0, none⟩)) (((w2.alloc (.map #[] 0)).alloc (.map #[] 0)).alloc (.cells #[.map (some bt), .slice A n c, .map (some bw), .slice O nt co, .int .i64 nt] 83)) := by
  have hz := hb.size
  rcases hp with ⟨rfl, rfl⟩ | ⟨rfl, rfl⟩
  · exact madeE_of hcls (raw_l _) (raw_r _) (by omega) (own_alloc (own_alloc ho _) _) ((hb.alloc hb.size _).alloc (by simp; omega) _) hz (by omega) (by rw [hS]; simp)
  · exact madeE_of hcls (raw_r _) (raw_l _) (by omega) (own_alloc (own_alloc ho _) _) ((hb.alloc hb.size _).alloc (by simp; omega) _) (by omega) hz (by rw [hS]; simp)

theorem made_m {bt bw : Nat} (hcls : RL w A n c ls) (hb1 : Below w.heap.size w w1) (hb : Below w.heap.size w w2) (hr : Raw w2 w1.heap.size) (ho : w2.ownsRow w.heap.size 52 2 (.slice O nt co) nt (flatS ts)) (hp : (bt = w1.heap.size ∧ bw = w2.heap.size) ∨ (bt = w2.heap.size ∧ bw = w1.heap.size)) (hS : S = w2.heap.size + 1) :
    MadeE w A n c ls nt ts (.pointer (some ⟨S, 0, none⟩)) ((w2.alloc (.map #[] 0)).alloc (.cells #[.map (some bt), .slice A n c, .map (some bw), .slice O nt co, .int .i64 nt] 83)) := by
  have hz := hb.size
  have hz1 := hb1.size
  have hl := hr.lt
  rcases hp with ⟨rfl, rfl⟩ | ⟨rfl, rfl⟩
  · exact madeE_of hcls (hr.alloc _) (Raw.new _) (by omega) (own_alloc ho _) (hb.alloc hb.size _) hz1 (by omega) (by rw [hS]; simp)
  · exact madeE_of hcls (Raw.new _) (hr.alloc _) (by omega) (own_alloc ho _) (hb.alloc hb.size _) (by omega) hz1 (by rw [hS]; simp)

theorem made_mm {bt bw : Nat} (hcls : RL w A n c ls) (hb1 : Below w.heap.size w w1) (hb : Below w.heap.size w w2) (hr : Raw w2 w1.heap.size) (hr2 : Raw w2 (w1.heap.size + 1)) (ho : w2.ownsRow w.heap.size 52 2 (.slice O nt co) nt (flatS ts)) (hp : (bt = w1.heap.size ∧ bw = w1.heap.size + 1) ∨ (bt = w1.heap.size + 1 ∧ bw = w1.heap.size)) (hS : S = w2.heap.size) :
    MadeE w A n c ls nt ts (.pointer (some ⟨S, 0, none⟩)) (w2.alloc (.cells #[.map (some bt), .slice A n c, .map (some bw), .slice O nt co, .int .i64 nt] 83)) := by
  have hz1 := hb1.size
  rcases hp with ⟨rfl, rfl⟩ | ⟨rfl, rfl⟩
  · exact madeE_of hcls hr hr2 (by omega) ho hb hz1 (by omega) hS
  · exact madeE_of hcls hr2 hr (by omega) ho hb (by omega) hz1 hS

end

def cfl : Option Nat → Int
  | none => -1
  | some i => i

/-- what Prop hands back of a valid trail -/
def PropD (x : Int) (ls : List (List Int)) (ts : List Stp) (w : World) (e : Ending) (w' : World) : Prop :=
  ∃ A' c', e = .returned (.tuple #[.slice A' (propT x ls ts).2.ts.length c', .int .i64 (cfl (propT x ls ts).1), .int .i64 0]) ∧ RS w' A' (propT x ls ts).2.ts.length c' (propT x ls ts).2.ts ∧ Below w.heap.size w w'

/-- a visit, its answer named -/
def VisdR (w W : World) (f : Int → Option Hdr) (G bt bw : Nat) (A : Option Addr) (n c : Nat) (ls : List (List Int)) (nt nw : Nat) (r : Bool) (s2 : PS) (hd : Int) (e : Ending) (W' : World) : Prop :=
  ∃ (nt' nw' : Nat) (f' : Int → Option Hdr) (O' : Option Addr) (no' co' : Nat), e = .returned (.bool r) ∧ Eng w W' G bt bw A n c ls nt' nw' f' s2 O' no' co' hd ∧ nt' ≤ nt + 1 ∧ nw' ≤ nw + 2 ∧ Keeps w.heap.size W W' f f'

theorem EngS.no {w W : World} {G bt bw : Nat} {A : Option Addr} {n c : Nat} {ls : List (List Int)} {nt nw : Nat} {f : Int → Option Hdr} {S : List Int} {s : PS} {O : Option Addr} {no co : Nat} {hd : Int} (h : EngS w W G bt bw A n c ls nt nw f S s O no co hd) : no = s.ts.length := by
  have := h.out.1
  rw [flatS_len] at this
  omega

theorem visit_r (r : Bool) (s2 : PS) (w W : World) (G bt bw : Nat) (A : Option Addr) (n c : Nat) (ls : List (List Int)) (nt nw : Nat) (f : Int → Option Hdr) (s : PS) (O : Option Addr) (no co : Nat) (hd : Int) (i : Nat)
    (h : Eng w W G bt bw A n c ls nt nw f s O no co hd) (hi : i < n) (hok : Okl (ell ls i)) (hnt : nt < maxLen) (hn : nw + 2 < maxLen) (hno : s.ts.length ≤ 1000000) (hi0 : i ≤ 1000000) (hwl : ∀ z, (s.wt z).length ≤ 8796093022208) (hv : visT ls i s = (r, s2)) :
    Calls Try.prog 63 #[.pointer (some ⟨G, 0, none⟩), .int .i64 i] W (VisdR w W f G bt bw A n c ls nt nw r s2 hd) := by
  refine (visit_any w W G bt bw A n c ls nt nw f s O no co hd i h hi hok hnt hn (by rw [h.no]; exact hno) hi0 hwl).mono ?_
  rintro e W' ⟨nt', nw', f', O', no', co', h1, h2, h3, h4, h5, h6⟩
  rw [hv] at h1 h2
  exact ⟨nt', nw', f', O', no', co', h1, h2, h3, h4, h6⟩

/-- the head written -/
theorem EngS.head {w W : World} {G bt bw : Nat} {A : Option Addr} {n c : Nat} {ls : List (List Int)} {nt nw : Nat} {f : Int → Option Hdr} {S : List Int} {s : PS} {O : Option Addr} {no co : Nat} {hd : Int} (h : EngS w W G bt bw A n c ls nt nw f S s O no co hd) (hd' : Int) :
    EngS w (W.setCell ⟨G, 4, none⟩ (.int .i64 hd')) G bt bw A n c ls nt nw f S s O no co hd' := by
  have hgs := grown_setCell W ⟨G, 4, none⟩ (.int .i64 hd')
  have hbx := h.box
  refine ⟨?_, h.cls, MF.kept h.set hgs (by simpa using fun e => h.apart.1 e.symm), h.wat.kept hgs (by simpa using fun e => h.apart.2 e.symm) (fun x g hx hgx => ?_), h.out.kept hgs (own_ne_box h.out (show W.heap[G]? = _ from hbx) (by decide)), h.below.grown hgs h.below.size (fun g hgg => ?_), h.loG, h.lot, h.low, h.ne⟩
  · unfold BoxE at *
    obtain ⟨hlt, hk⟩ := Array.getElem?_eq_some_iff.1 hbx
    show (W.heap.modify G _)[G]? = _
    rw [Array.getElem?_eq_getElem (by rw [Array.size_modify]; exact hlt), Array.getElem_modify_self, hk]
    rfl
  · have h1 := own_ne_box (h.wat.row x hx) (show W.heap[G]? = _ from hbx) (by decide)
    rw [hdrV_own, hgx] at h1
    rcases h1 with h1 | h1
    · cases h1
    · exact h1
  · obtain rfl : G = g := by simpa using hgg
    exact h.loG

/-- a row that is no key's -/
def Lone (base : Nat) (W : World) (f : Int → Option Hdr) (hh : Hdr) (zs : List Int) : Prop :=
  W.ownsRow base 3 1 (hdrV hh) hh.n (zs.map (Value.int .i64)) ∧ ∀ z g, wfI z = true → hh.g = some g → (hat f z).g ≠ some g

/-- a key emptied: its row is no key's any more -/
theorem EngS.emptied {w W : World} {G bt bw : Nat} {A : Option Addr} {n c : Nat} {ls : List (List Int)} {nt nw : Nat} {f : Int → Option Hdr} {S : List Int} {s : PS} {O : Option Addr} {no co : Nat} {hd : Int}
    (h : EngS w W G bt bw A n c ls nt nw f S s O no co hd) {k : Int} (hk : wfI k = true) (hn : nw < maxLen) :
    ∃ W', (Instr.mapUpdate 80 (.map (some bw)) (.int .i64 k) (.slice none 0 0)).run Try.prog W = .ok () W' ∧ EngS w W' G bt bw A n c ls nt (nw + 1) (putF f k hd0) S ⟨s.ts, setW s.wt k []⟩ O no co hd ∧ Lone w.heap.size W' (putF f k hd0) (hat f k) (s.wt k) := by
  obtain ⟨W', h1, h2, h3⟩ := Wat.put Try.underlying80 h.wat.map (fun y _ hy => h.wat.row y hy) h.wat.sep hn hk hd0 [] (World.ownsRow_nil _ _ _ _) (fun y g _ _ _ e => by cases e)
  have ht := h3.grown
  have hbx := h.box
  refine ⟨W', h1, ⟨(ht.block G h.box.lt (by simpa using h.apart.2)).trans hbx, h.cls, MF.kept h.set ht (by simpa using h.ne), h2, h.out.kept ht (own_ne_map h.out h.wat.map.block), h.below.grown ht h.below.size (fun g hgg => ?_), h.loG, h.lot, h.low, h.ne⟩, (h.wat.row k hk).kept ht (own_ne_map (h.wat.row k hk) h.wat.map.block), fun z g hz e e2 => ?_⟩
  · obtain rfl : bw = g := by simpa using hgg
    exact h.low
  · rw [hat_put] at e2
    by_cases e1 : z = k
    · rw [if_pos e1] at e2; cases e2
    · rw [if_neg e1] at e2
      exact h.wat.sep k z g (fun e => e1 e.symm) hk hz e e2

theorem step_done {h0 : Nat} {x : Int} {ls : List (List Int)} {hd : Nat} {s s1 : PS} (hc : checkE x ls = 0) (hn : ls.length ≤ 60) (h : Inv x ls hd s) (hcn : Cnt h0 ls hd s) (hlt : hd < s.ts.length) (hp : wpassT ls (wakeL s hd) (cutS s hd) = (none, s1)) (g : Nat) :
    Inv x ls (hd + 1) s1 ∧ Cnt h0 ls (hd + 1) s1 ∧ drainT ls (g + 1) hd s = drainT ls g (hd + 1) s1 :=
  ⟨(inv_step hc h hlt hp).1, (fit_step (k := (wakeL s hd).length) hc hn h hcn hlt (by rw [List.take_length]; exact hp)).cnt, drain_go hlt hp⟩

theorem wake_at {s : PS} {hd i : Nat} {lit : Int} {zs : List Int} (h1 : (stp s.ts hd).lit = lit) (h2 : s.wt lit = zs) (hi : i < zs.length) : (wakeL s hd)[i]? = some (elt zs i).toNat := by
  unfold wakeL
  rw [h1, h2, List.getElem?_map, List.getElem?_eq_getElem hi, ← elt_lt hi]; rfl

theorem hdr_some {w : World} {base : Nat} {hh : Hdr} {zs : List Value} (h : w.ownsRow base 3 1 (hdrV hh) hh.n zs) (hn : hh.n ≠ 0) : ∃ g, hh.A = some ⟨g, 0, none⟩ := by
  rcases h.2 with ⟨_, h0⟩ | ⟨g, cap, cur, hv, _⟩
  · exact absurd h0 hn
  · simp only [hdrV, Value.slice.injEq] at hv
    exact ⟨g, hv.1⟩

def LpT (x : Int) (ls : List (List Int)) (ts : List Stp) (w : World) (G bt bw : Nat) (A : Option Addr) (n c : Nat) (g : Nat) (W : World) : Prop :=
  ∃ (hd : Nat) (s : PS) (nt nw : Nat) (f : Int → Option Hdr) (O : Option Addr) (no co : Nat), g + hd = x.toNat + 1 + ts.length ∧ Inv x ls hd s ∧ Cnt ts.length ls hd s ∧ propT x ls ts = drainT ls g hd s ∧ Eng w W G bt bw A n c ls nt nw f s O no co hd ∧ nt ≤ 17592186044416 * (hd + 1) ∧ nw ≤ 35184372088832 * (hd + 1)

theorem prop_d {x : Int} {ls : List (List Int)} {ts : List Stp} {w W : World} {r : Option Nat} {s : PS} {O : Option Addr} {no co : Nat} (h : propT x ls ts = (r, s)) (ho : W.ownsRow w.heap.size 52 2 (.slice O no co) no (flatS s.ts)) (hl : s.ts.length ≤ 65536) (hb : Below w.heap.size w W) :
    PropD x ls ts w (.returned (.tuple #[.slice O no co, .int .i64 (cfl r), .int .i64 0])) W := by
  have hn : no = s.ts.length := by have := ho.1; rw [flatS_len] at this; omega
  subst hn
  unfold PropD
  rw [h]
  exact ⟨O, co, rfl, RS.of_own ho (show s.ts.length * 16 ≤ _ by omega), hb⟩

theorem okl_of {x : Int} {ls : List (List Int)} (h : checkE x ls = 0) {i : Nat} (hi : i < ls.length) : Okl (ell ls i) := fun y hy => by
  have h1 := checkE_n h
  have h2 := isB_iff.1 (checkE_isB h (ell_mem hi) hy)
  omega

set_option maxRecDepth 100000 in
set_option maxHeartbeats 8000000 in
theorem prop_ok (x : Int) (A : Option Addr) (n c : Nat) (ls : List (List Int)) (At : Option Addr) (nt ct : Nat) (ts : List Stp) (w : World) (h : RL w A n c ls) (h' : RS w At nt ct ts) (hE : propE x ls ts = 0) (hn : n ≤ 60) (hnt : nt ≤ 70000) :
    Calls Try.prog 29 #[.agg #[.int .i64 x, .slice A n c], .slice At nt ct] w (PropD x ls ts w) := by
  have hmm := @run_makeMap Try.prog
  obtain ⟨hce, htr⟩ := propE_zero hE
  have BX := Lib.hid (Two.new w (.int .i64 x) (.slice A n c))
  have HB0 := Lib.hid ((Below.refl w.heap.size w).alloc (Nat.le_refl _) (.cells #[.int .i64 x, .slice A n c] 29))
  have HRL := Lib.hid h
  have HRS := Lib.hid h'
  have HE := Lib.hid hE
  have HCE := Lib.hid hce
  have HTR := Lib.hid htr
  have hsm := h.small
  have hsm' := h'.small
  clear h h' hE hce htr
  go_enter Try.func29, Try.ntmps29
  go_wp2_with fail
  go_step3
  go_upto_region 4 with (go_at_call 60; refine (pcheck_val 0 x A n c ls At nt ct ts _ (HRL.out.below HB0.out) (HRS.out.below HB0.out) (by omega) HE.out).mono ?_; rintro e w1 ⟨rfl, hb1⟩; have HB1 := Lib.hid (HB0.out.trans (hb1.mono HB0.out.size)); have BX1 := Lib.hid (BX.out.below hb1); clear hb1)
  have D0 : Hid (Below w.heap.size w w1.drew) := Lib.hid (HB1.out.drew)
  have D1 : Hid (∀ o, Below w.heap.size w (w1.drew.alloc o)) := Lib.hid (fun o => D0.out.alloc D0.out.size o)
  have D2 : Hid (∀ o o', Below w.heap.size w ((w1.drew.alloc o).alloc o')) := Lib.hid (fun o o' => (D1.out o).alloc (D1.out o).size o')
  have F0 : Hid (Below w1.heap.size w1 w1.drew) := Lib.hid ((Below.refl _ _).drew)
  have F1 : Hid (∀ o, Below w1.heap.size w1 (w1.drew.alloc o)) := Lib.hid (fun o => F0.out.alloc F0.out.size o)
  have F2 : Hid (∀ o o', Below w1.heap.size w1 ((w1.drew.alloc o).alloc o')) := Lib.hid (fun o o' => (F1.out o).alloc (F1.out o).size o')
  have q1 := BX1.out.c1
  have hxl := BX1.out.lt
  have hz1 := HB1.out.size
  go_cut [8] (fun s W => MadeE w A n c ls nt ts s W)
  case first =>
    go_region_held3 (fun w' => w'.cell? ⟨w.heap.size, 1, none⟩ = some (.slice A n c)) (go_keep) (first
      | (go_at_call 61; refine (cloneS_any At nt ct ts w1.drew (HRS.out.below D0.out)).mono ?_; rintro e w2 ⟨O2, c2, rfl, ho2, hb2⟩; have HO2 := Lib.hid (own_mono ho2 D0.out.size); have HB2 := Lib.hid (D0.out.trans (hb2.mono D0.out.size)); have q1' := (BX1.out.below (F0.out.trans (hb2.mono F0.out.size))).c1; have hl2 := (BX1.out.below (F0.out.trans (hb2.mono F0.out.size))).lt; clear ho2 hb2)
      | (go_at_call 61; refine (cloneS_any At nt ct ts (w1.drew.alloc (.map #[] 0)) (HRS.out.below (D1.out _))).mono ?_; rintro e w2 ⟨O2, c2, rfl, ho2, hb2⟩; have HO2 := Lib.hid (own_mono ho2 (D1.out _).size); have HB2 := Lib.hid ((D1.out _).trans (hb2.mono (D1.out _).size)); have HR2 : Hid (Raw w2 w1.heap.size) := Lib.hid ((Raw.new w1.drew).below hb2); have q1' := (BX1.out.below ((F1.out _).trans (hb2.mono (F1.out _).size))).c1; have hl2 := (BX1.out.below ((F1.out _).trans (hb2.mono (F1.out _).size))).lt; clear ho2 hb2)
      | (go_at_call 61; refine (cloneS_any At nt ct ts ((w1.drew.alloc (.map #[] 0)).alloc (.map #[] 0)) (HRS.out.below (D2.out _ _))).mono ?_; rintro e w2 ⟨O2, c2, rfl, ho2, hb2⟩; have HO2 := Lib.hid (own_mono ho2 (D2.out _ _).size); have HB2 := Lib.hid ((D2.out _ _).trans (hb2.mono (D2.out _ _).size)); have HR2 : Hid (Raw w2 w1.heap.size) := Lib.hid ((raw_l w1.drew).below hb2); have HR3 : Hid (Raw w2 (w1.heap.size + 1)) := Lib.hid ((raw_r w1.drew).below hb2); have q1' := (BX1.out.below ((F2.out _ _).trans (hb2.mono (F2.out _ _).size))).c1; have hl2 := (BX1.out.below ((F2.out _ _).trans (hb2.mono (F2.out _ _).size))).lt; clear ho2 hb2))
    all_goals go_wp2_with fail
    all_goals go_meet
    all_goals with_reducible first
      | exact made_c HRL.out HB2.out HO2.out (Or.inl ⟨rfl, rfl⟩) rfl
      | exact made_c HRL.out HB2.out HO2.out (Or.inr ⟨rfl, rfl⟩) rfl
      | exact made_m HRL.out HB1.out HB2.out HR2.out HO2.out (Or.inl ⟨rfl, rfl⟩) rfl
      | exact made_m HRL.out HB1.out HB2.out HR2.out HO2.out (Or.inr ⟨rfl, rfl⟩) rfl
      | exact made_mm HRL.out HB1.out HB2.out HR2.out HR3.out HO2.out (Or.inl ⟨rfl, rfl⟩) rfl
      | exact made_mm HRL.out HB1.out HB2.out HR2.out HR3.out HO2.out (Or.inr ⟨rfl, rfl⟩) rfl
  case rest =>
    obtain ⟨G, bt, bw, O, co, rfl, hE0⟩ := hcut
    rename_i W3
    have EE := Lib.hid hE0
    have hG := hE0.box.lt
    have hBW := Lib.hid hE0.below
    clear hE0
    go_wp2_with fail
    go_loopw [34] (fun s34 W => ∃ k : Nat, k ≤ nt ∧ s34 = .int .i64 k ∧ EngS w W G bt bw A n c ls k 0 emptyF (slitsOf (ts.take k)) ⟨ts, fun _ => []⟩ O nt co nt) (fun i _ => nt - (intOf i).toNat)
    case atStart => exact ⟨0, Nat.zero_le _, rfl, EE.out⟩
    case round =>
      obtain ⟨k, hk, rfl, he⟩ := hrel
      obtain ⟨W6, hW6, eW⟩ : ∃ W6, EngS w W6 G bt bw A n c ls k 0 emptyF (slitsOf (ts.take k)) ⟨ts, fun _ => []⟩ O nt co nt ∧ W6 = _ := ⟨_, he, rfl⟩
      subst eW
      have E6 := Lib.hid hW6
      have hsw := hW6.below.size
      clear he hW6
      by_cases hlt : k < nt
      · have hkl : k < ts.length := by rw [HRS.out.len]; exact hlt
        obtain ⟨b1, o1, rfl, hb1l, hc1⟩ := (HRS.out.below E6.out.below).cells (by omega)
        obtain ⟨e1, e2⟩ := hc1 k hlt
        obtain ⟨st, hst⟩ : ∃ st, stp ts k = st := ⟨_, rfl⟩
        rw [hst] at e1 e2
        have hbd := isB_iff.1 ((trail_tr HTR.out).lit k hkl)
        have hx6 := (checkE_n HCE.out).2
        rw [hst] at hbd
        have hkw : wfI st.lit = true := wfI_lit (by omega) (by omega)
        have NX := Lib.hid (show slitsOf (ts.take (k + 1)) = slitsOf (ts.take k) ++ [st.lit] by rw [takes_snoc ts k hkl, litsOf_snoc, hst])
        have g0 := E6.out.box.c0
        have hG6 := E6.out.box.lt
        clear hc1 hst hbd
        go_upto_region 8 with fail
        have BS : BoxS (W6.alloc (.cells #[.int .i64 st.lit, .int .i64 st.why] 52)) W6.heap.size st := heap_alloc_new W6 _
        have HA := Lib.hid (E6.out.grow ((Below.refl _ _).alloc (Nat.le_refl _) (.cells #[.int .i64 st.lit, .int .i64 st.why] 52)))
        obtain ⟨W7, hW7⟩ : ∃ W7, W6.alloc (.cells #[.int .i64 st.lit, .int .i64 st.why] 52) = W7 := ⟨_, rfl⟩
        rw [hW7] at BS HA
        rw [hW7]
        have p0 : W7.cell? ⟨W6.heap.size, 0, none⟩ = some (.int .i64 st.lit) := by simp [World.cell?, show W7.heap[W6.heap.size]? = _ from BS]
        have HBS := Lib.hid BS
        clear BS hW7 g0 e1 e2
        have g0 := HA.out.box.c0
        go_still_tail 6, (by kernel_rfl)
        go_wp2_with (go_at_call 62; refine (step56_any bt k (slitsOf (ts.take k)) st.lit _ (HA.out.grow ((Below.refl _ _).drew)).set (by unfold maxLen; omega) hkw).mono ?_; rintro e W2 ⟨rfl, hs2, ht2⟩; have E2 := Lib.hid ((HA.out.grow ((Below.refl _ _).drew)).turn hs2 ht2); clear hs2 ht2)
        go_roundw
        case rel => exact ⟨k + 1, by omega, by go_num, by rw [NX.out]; exact E2.out⟩
        case measure => simp [intOf]; omega
      · obtain rfl : k = nt := by omega
        have HT : Hid (ts.take k = ts) := Lib.hid (List.take_of_length_le (by rw [HRS.out.len]; omega))
        have EX : Hid (Eng w W6 G bt bw A n c ls k 0 emptyF ⟨ts, fun _ => []⟩ O k co k) := Lib.hid (by have := E6.out; rw [HT.out] at this; exact this)
        have g1 := E6.out.box.c1
        clear HT
        go_wp2_with fail
        clear g1
        go_loopw [51, 11] (fun s51 s11 W => ∃ (j : Nat) (s1 : PS) (nt1 nw1 : Nat) (f1 : Int → Option Hdr) (O1 : Option Addr) (no1 co1 : Nat), j ≤ n ∧ s51 = .int .i64 j ∧ wpassT ls ((List.range ls.length).take j) ⟨ts, fun _ => []⟩ = (none, s1) ∧ Eng w W G bt bw A n c ls nt1 nw1 f1 s1 O1 no1 co1 k ∧ nt1 ≤ k + j ∧ nw1 ≤ 2 * j) (fun i _ _ => n - (intOf i).toNat)
        case atStart => exact ⟨0, ⟨ts, fun _ => []⟩, k, 0, emptyF, O, k, co, Nat.zero_le _, rfl, rfl, EX.out, by omega, by omega⟩
        case round =>
          obtain ⟨j, s1, nt1, nw1, f1, O1, no1, co1, hj, rfl, hp, he, hb1, hb2⟩ := hrel
          obtain ⟨W8, hW8, eW⟩ : ∃ W8, Eng w W8 G bt bw A n c ls nt1 nw1 f1 s1 O1 no1 co1 k ∧ W8 = _ := ⟨_, he, rfl⟩
          subst eW
          have E8 := Lib.hid hW8
          have FT := Lib.hid (fit_first HE.out (by rw [HRL.out.len]; exact hn) hp)
          have HP := Lib.hid hp
          have hG8 := hW8.box.lt
          clear he hp hW8
          by_cases hlt : j < n
          · have hjl : (List.range ls.length)[j]? = some j := by rw [List.getElem?_range (by rw [HRL.out.len]; exact hlt)]
            have HOK := Lib.hid (okl_of HCE.out (show j < ls.length by rw [HRL.out.len]; exact hlt))
            have HJ := Lib.hid hjl
            clear hjl
            obtain ⟨r, s2, hv⟩ : ∃ r s2, visT ls j s1 = (r, s2) := ⟨_, _, rfl⟩
            have HV := Lib.hid hv
            clear hv
            cases r with
            | true =>
              go_wp2_with (go_at_call 63; refine (visit_r true s2 w _ G bt bw A n c ls nt1 nw1 f1 s1 O1 no1 co1 k j E8.out hlt HOK.out (by unfold maxLen; omega) (by unfold maxLen; omega) (by have := FT.out.len; omega) (by omega) FT.out.wl HV.out).mono ?_; rintro e W9 ⟨nt2, nw2, f2, O2, no2, co2, rfl, he2, h1, h2, -⟩; have E9 := Lib.hid he2; clear he2)
              go_roundw
              case rel => exact ⟨j + 1, s2, nt2, nw2, f2, O2, no2, co2, by omega, by go_num, by have := pass_go HP.out HJ.out (by rw [HV.out]); rw [HV.out] at this; exact this, E9.out, by omega, by omega⟩
              case measure => simp [intOf]; omega
            | false =>
              go_wp2_with (go_at_call 63; refine (visit_r false s2 w _ G bt bw A n c ls nt1 nw1 f1 s1 O1 no1 co1 k j E8.out hlt HOK.out (by unfold maxLen; omega) (by unfold maxLen; omega) (by have := FT.out.len; omega) (by omega) FT.out.wl HV.out).mono ?_; rintro e W9 ⟨nt2, nw2, f2, O2, no2, co2, rfl, he2, h1, h2, -⟩; have E9 := Lib.hid he2; have g3 := he2.box.c3; have hG9 := he2.box.lt; clear he2)
              try rw [Exit.noGoto_ret]
              go_ret3
              have e2 : s2 = s1 := (vis_false HV.out).1
              subst e2
              have h9 := pass_stop HP.out HJ.out (by rw [HV.out])
              exact prop_d (prop_clash h9) E9.out.out FT.out.len E9.out.below
          · obtain rfl : j = n := by omega
            have HP2 : Hid (wpassT ls (List.range ls.length) ⟨ts, fun _ => []⟩ = (none, s1)) := Lib.hid (by have := HP.out; rw [← HRL.out.len, List.take_of_length_le (by simp)] at this; exact this)
            have hx0 := checkE_n HCE.out
            have INV := Lib.hid (inv_first HE.out HP2.out)
            have LP0 : Hid (LpT x ls ts w G bt bw A j c (x.toNat + 1) W8) := Lib.hid ⟨ts.length, s1, nt1, nw1, f1, O1, no1, co1, rfl, INV.out, FT.out.cnt, prop_first HP2.out, by have := E8.out; rw [← HRS.out.len] at this; exact this, by omega, by omega⟩
            clear hb1 hb2
            go_wp2_with fail
            go_step3
            go_wp2_with fail
            go_loopg [12] (x.toNat + 1) (fun g s12 W => LpT x ls ts w G bt bw A j c g W)
            case atStart => exact LP0.out
            case round =>
              obtain ⟨hd, s, nt3, nw3, f3, O3, no3, co3, hg3, hI, hC, hD, hE3, hb3, hb4⟩ := hrel
              obtain ⟨W9, hW9, eW⟩ : ∃ W9, Eng w W9 G bt bw A j c ls nt3 nw3 f3 s O3 no3 co3 hd ∧ W9 = _ := ⟨_, hE3, rfl⟩
              subst eW
              have E9 := Lib.hid hW9
              have FT3 := Lib.hid (Fit.of HCE.out (by rw [HRL.out.len]; exact hn) hI.tr hI.wv hC hI.le)
              have HI := Lib.hid hI
              have HC := Lib.hid hC
              have HD := Lib.hid hD
              have HG3 := Lib.hid hg3
              have HNO := Lib.hid hW9.no
              have hle : hd ≤ no3 := by rw [HNO.out]; exact hI.le
              have hno6 : no3 ≤ 65536 := by rw [HNO.out]; exact FT3.out.len
              have hgd : gk + hd ≤ 200000 := by have := FT3.out.lenx; have := checkE_n HCE.out; have := HRS.out.len; omega
              obtain ⟨g1, hgk⟩ : ∃ g1, gk = g1 + 1 ∨ ¬ hd < s.ts.length := by
                by_cases h0 : hd < s.ts.length
                · exact ⟨gk - 1, Or.inl (by have := FT3.out.lenx; omega)⟩
                · exact ⟨0, Or.inr h0⟩
              have g3 := hW9.box.c3
              have g4 := hW9.box.c4
              have hG9 := hW9.box.lt
              clear hE3 hI hC hD hg3 hW9
              by_cases hlt : hd < no3
              · have hlts : hd < s.ts.length := by rw [← HNO.out]; exact hlt
                obtain rfl : gk = g1 + 1 := hgk.resolve_right (fun h0 => h0 hlts)
                clear hgk
                obtain ⟨b1, o1, rfl, hb1l, hc1⟩ := (RS.of_own E9.out.out (by omega)).cells (by omega)
                obtain ⟨e1, -⟩ := hc1 hd hlt
                obtain ⟨lit, hlit⟩ : ∃ lit, (stp s.ts hd).lit = lit := ⟨_, rfl⟩
                have hbd := isB_iff.1 ((trail_tr FT3.out.tr).lit hd hlts)
                have hx6 := (checkE_n HCE.out).2
                rw [hlit] at e1 hbd
                have hkw : wfI lit = true := wfI_lit (by omega) (by omega)
                have HLIT := Lib.hid hlit
                clear hc1 hlit hbd
                have gf := E9.out.box.f 4
                go_wp2_with fail
                go_quiet (fail)
                obtain ⟨q1, rfl⟩ : ∃ q1, q1 = nq := ⟨_, rfl⟩
                go_wp2_with fail
                go_quiet (fail)
                obtain ⟨q2, rfl⟩ : ∃ q2, q2 = nq := ⟨_, rfl⟩
                go_upto_region 19 with fail
                obtain ⟨WA, hWA⟩ : ∃ WA, (W9.drewN (q1 + q2)).setCell ⟨G, 4, none⟩ (.int .i64 ((hd : Int) + 1)) = WA := ⟨_, rfl⟩
                have EA : Hid (Eng w WA G bt bw A j c ls nt3 nw3 f3 s (some ⟨b1, o1, none⟩) no3 co3 ((hd : Int) + 1)) := Lib.hid (by rw [← hWA]; exact (E9.out.grow (drewN_below _ _)).head _)
                rw [hWA]
                clear hWA g3 g4 gf e1
                have g2 := EA.out.box.c2
                have hGA := EA.out.box.lt
                have lk : (Instr.lookup 80 (.map (some bw)) (.int .i64 lit) false).run Try.prog WA = .ok (.slice (hat f3 lit).A (hat f3 lit).n (hat f3 lit).c) WA := HM.look Try.underlying80 EA.out.wat.map hkw
                obtain ⟨hh, hhe⟩ : ∃ hh, hat f3 lit = hh := ⟨_, rfl⟩
                obtain ⟨zs, hzs⟩ : ∃ zs, s.wt lit = zs := ⟨_, rfl⟩
                have HROW := Lib.hid (EA.out.wat.row lit hkw)
                rw [hhe, hzs] at HROW
                rw [hhe] at lk
                have HHE := Lib.hid hhe
                have HZS := Lib.hid hzs
                have hmz : hh.n = zs.length := by have := HROW.out.1; simpa using this.symm
                have hml : hh.n ≤ 8796093022208 := by rw [hmz, ← hzs]; exact FT3.out.wl lit
                have HMZ := Lib.hid hmz
                clear hhe hzs hmz
                by_cases hm0 : hh.n = 0
                · have dm : ((hh.n : Int) == 0) = true := by rw [hm0]; rfl
                  have hz0 : s.wt (stp s.ts hd).lit = [] := by rw [HLIT.out, HZS.out]; exact List.eq_nil_of_length_eq_zero (by rw [← HMZ.out]; exact hm0)
                  have HZ0 := Lib.hid hz0
                  clear hm0 hz0
                  have SD := Lib.hid (step_done HCE.out (by rw [HRL.out.len]; exact hn) HI.out HC.out hlts (wake_nil HZ0.out) g1)
                  go_wp2_with fail
                  go_roundg g1
                  case rel => exact ⟨hd + 1, s, nt3, nw3, f3, _, no3, co3, by have := HG3.out; omega, SD.out.1, SD.out.2.1, HD.out.trans SD.out.2.2, EA.out, by omega, by omega⟩
                  case measure => omega
                · have dm : ((hh.n : Int) == 0) = false := by rw [beq_eq_false_iff_ne]; omega
                  obtain ⟨gz, hgz⟩ := hdr_some HROW.out hm0
                  obtain ⟨mz, hmz⟩ : ∃ mz, hh.n = mz := ⟨_, rfl⟩
                  obtain ⟨cz, hcz⟩ : ∃ cz, hh.c = cz := ⟨_, rfl⟩
                  rw [hgz, hmz, hcz] at lk
                  rw [hmz] at dm hml hm0
                  have HGZ := Lib.hid hgz
                  have HMM := Lib.hid hmz
                  have HCZ := Lib.hid hcz
                  clear hgz hmz hcz
                  obtain ⟨WB, hrun, hEB, hLB⟩ := EngS.emptied EA.out hkw (by unfold maxLen; omega)
                  rw [HHE.out, HZS.out] at hLB
                  have EB : Hid (Eng w WB G bt bw A j c ls nt3 (nw3 + 1) (putF f3 lit hd0) (cutS s hd) (some ⟨b1, o1, none⟩) no3 co3 ((hd : Int) + 1)) := Lib.hid (by unfold cutS; rw [HLIT.out]; exact hEB)
                  have LB := Lib.hid hLB
                  clear hEB hLB
                  go_wp2_with fail
                  clear lk hrun g2
                  obtain ⟨wo, rfl⟩ : ∃ wo : World, wo = WB := ⟨_, rfl⟩
                  go_loopw [108, 15] (fun s108 s15 W => ∃ (i : Nat) (s4 : PS) (nt4 nw4 : Nat) (f4 : Int → Option Hdr) (O4 : Option Addr) (no4 co4 : Nat), i ≤ mz ∧ s108 = .int .i64 i ∧ wpassT ls ((wakeL s hd).take i) (cutS s hd) = (none, s4) ∧ Eng w W G bt bw A j c ls nt4 nw4 f4 s4 O4 no4 co4 ((hd : Int) + 1) ∧ nt4 ≤ nt3 + i ∧ nw4 ≤ nw3 + 1 + 2 * i ∧ Lone w.heap.size W f4 hh zs) (fun i _ _ => mz - (intOf i).toNat)
                  case atStart => exact ⟨0, cutS s hd, nt3, nw3 + 1, _, _, no3, co3, Nat.zero_le _, rfl, rfl, EB.out, by omega, by omega, LB.out⟩
                  case round =>
                    obtain ⟨i, s4, nt4, nw4, f4, O4, no4, co4, hi, rfl, hp4, he4, hb5, hb6, hl4⟩ := hrel
                    obtain ⟨WC, hWC, eW⟩ : ∃ WC, (Eng w WC G bt bw A j c ls nt4 nw4 f4 s4 O4 no4 co4 ((hd : Int) + 1) ∧ Lone w.heap.size WC f4 hh zs) ∧ WC = _ := ⟨_, ⟨he4, hl4⟩, rfl⟩
                    subst eW
                    have EC := Lib.hid hWC.1
                    have LC := Lib.hid hWC.2
                    have HP4 := Lib.hid hp4
                    have FT4 := Lib.hid (fit_step HCE.out (by rw [HRL.out.len]; exact hn) HI.out HC.out hlts hp4)
                    have hGC := hWC.1.box.lt
                    clear he4 hl4 hp4 hWC
                    by_cases hlt2 : i < mz
                    · have hiz : i < zs.length := by rw [← HMZ.out, HMM.out]; exact hlt2
                      have hre : RI WC hh.A hh.n hh.c zs := RI.of_own LC.out.1 (by rw [HMM.out]; omega)
                      rw [HGZ.out, HMM.out, HCZ.out] at hre
                      obtain ⟨b2, o2, hAe, hb2l, hc2⟩ := hre.cells (by omega)
                      simp only [Option.some.injEq, Addr.mk.injEq, and_true] at hAe
                      obtain ⟨rfl, rfl⟩ := hAe
                      have e1 := hc2 i hlt2
                      have hwk := wake_at HLIT.out HZS.out hiz
                      have hy0 : 0 ≤ elt zs i := (HI.out.wv lit (elt zs i) (by rw [HZS.out]; exact elt_mem hiz)).1
                      obtain ⟨i1, hi1⟩ : ∃ i1 : Nat, elt zs i = i1 := ⟨(elt zs i).toNat, by omega⟩
                      rw [hi1] at e1 hwk
                      rw [Nat.zero_add] at e1
                      rw [Int.toNat_natCast] at hwk
                      have HWK := Lib.hid hwk
                      have hi1l := wake_lt HI.out hwk
                      have hi1n : i1 < j := by rw [HRL.out.len] at hi1l; exact hi1l
                      have HOK := Lib.hid (okl_of HCE.out hi1l)
                      obtain ⟨r, s5, hv⟩ : ∃ r s5, visT ls i1 s4 = (r, s5) := ⟨_, _, rfl⟩
                      have HV := Lib.hid hv
                      clear hv hwk hi1 hc2 hre hy0
                      cases r with
                      | true =>
                        go_wp2_with (go_at_call 63; refine (visit_r true s5 w _ G bt bw A j c ls nt4 nw4 f4 s4 O4 no4 co4 _ i1 EC.out hi1n HOK.out (by unfold maxLen; omega) (by unfold maxLen; omega) (by have := FT4.out.len; omega) (by omega) FT4.out.wl HV.out).mono ?_; rintro e WD ⟨nt5, nw5, f5, O5, no5, co5, rfl, he5, h7, h8, hk5⟩; have ED := Lib.hid he5; have LD : Hid (Lone w.heap.size WD f5 hh zs) := Lib.hid (hk5 hh _ LC.out.1 LC.out.2); clear he5 hk5)
                        go_roundw
                        case rel => exact ⟨i + 1, s5, nt5, nw5, f5, O5, no5, co5, by omega, by go_num, by have := pass_go HP4.out HWK.out (by rw [HV.out]); rw [HV.out] at this; exact this, ED.out, by omega, by omega, LD.out⟩
                        case measure => simp [intOf]; omega
                      | false =>
                        go_wp2_with (go_at_call 63; refine (visit_r false s5 w _ G bt bw A j c ls nt4 nw4 f4 s4 O4 no4 co4 _ i1 EC.out hi1n HOK.out (by unfold maxLen; omega) (by unfold maxLen; omega) (by have := FT4.out.len; omega) (by omega) FT4.out.wl HV.out).mono ?_; rintro e WD ⟨nt5, nw5, f5, O5, no5, co5, rfl, he5, h7, h8, -⟩; have ED := Lib.hid he5; have g3 := he5.box.c3; have hGD := he5.box.lt; clear he5)
                        try rw [Exit.noGoto_ret]
                        go_ret3
                        have e2 : s5 = s4 := (vis_false HV.out).1
                        subst e2
                        have h9 := pass_stop HP4.out HWK.out (by rw [HV.out])
                        exact prop_d (HD.out.trans (drain_clash hlts h9)) ED.out.out FT4.out.len ED.out.below
                    · obtain rfl : i = mz := by omega
                      have hpd : wpassT ls (wakeL s hd) (cutS s hd) = (none, s4) := by
                        have := HP4.out
                        rwa [List.take_of_length_le (by unfold wakeL; rw [List.length_map, HLIT.out, HZS.out, ← HMZ.out, HMM.out]; exact Nat.le_refl _)] at this
                      have SD := Lib.hid (step_done HCE.out (by rw [HRL.out.len]; exact hn) HI.out HC.out hlts hpd g1)
                      clear hpd
                      go_wp2_with fail
                      go_roundg g1
                      case rel => exact ⟨hd + 1, s4, nt4, nw4, f4, O4, no4, co4, by have := HG3.out; omega, SD.out.1, SD.out.2.1, HD.out.trans SD.out.2.2, EC.out, by omega, by omega⟩
                      case measure => omega
              · have hge : ¬ hd < s.ts.length := by rw [← HNO.out]; exact hlt
                have HDE : Hid (propT x ls ts = (none, s)) := Lib.hid (by rw [HD.out]; exact drain_end hge _)
                clear hge hgk
                go_wp2_with fail
                go_quiet (fail)
                go_wp2_with fail
                try rw [Exit.noGoto_ret]
                go_ret3
                exact prop_d HDE.out (own_below E9.out.out (drewN_below _ _)) FT3.out.len (E9.out.below.trans ((drewN_below _ _).mono E9.out.below.size))

theorem PropD.named {x : Int} {ls : List (List Int)} {ts : List Stp} {w : World} {e : Ending} {w' : World} {rp : Option Nat × PS} {r1 : Option Nat} {xs : List Stp} {kx : Nat} (h : PropD x ls ts w e w') (h1 : propT x ls ts = rp ∧ rp.1 = r1 ∧ rp.2.ts = xs ∧ xs.length = kx) :
    ∃ A' c', e = .returned (.tuple #[.slice A' kx c', .int .i64 (cfl r1), .int .i64 0]) ∧ RS w' A' kx c' xs ∧ Below w.heap.size w w' := by
  obtain ⟨rfl, rfl, rfl, rfl⟩ := h1
  exact h

end Go.Proofs.Ytalcnkoidmoibaa
