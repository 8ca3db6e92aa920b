/-
  tidy.Subsume. No condition.
  tidy.Reduce's order of two places. No condition.
-/
import Derived.Test.YtalcnkoidmoibaaZA6
import Derived.Deep.RegionLaw
import Derived.Deep.RegionHeld3
import Derived.Deep.CutBlock
import Derived.Deep.DeepCutAuto
import Derived.StillTailTactics

namespace Go.Proofs.Ytalcnkoidmoibaa
open Go.RowKit Go.Shelf
set_option linter.unusedVariables false
set_option linter.unusedSimpArgs false

theorem infoRow : (Try.prog.info? 31).map (fun i => (i.zero, i.size, i.bytes)) = some (some (.slice none 0 0), 1, 24) := by kernel_rfl

def rowV (r : Row) : Value := .slice r.A r.n r.c
/-- rows that the call has made itself -/
def Inner (w : World) (rs : List Row) : Prop := ∀ r ∈ rs, r.zs.length = r.n ∧ r.n * 8 ≤ 140737488355328 ∧ ∃ base, w.ownsRow base 3 1 (rowV r) r.n (r.zs.map (Value.int .i64))
theorem Inner.below {w w' : World} {rs : List Row} (h : Inner w rs) (hb : Below w.heap.size w w') : Inner w' rs := fun r hr => by
  obtain ⟨h1, h2, b, h3⟩ := h r hr
  exact ⟨h1, h2, b, own_below h3 hb⟩
theorem own_block_ne {w : World} {base base' : Nat} {e e' : TypeId} {s s' : Nat} {v v' : Value} {n n' : Nat} {xs xs' : List Value} (hne : e ≠ e') (h : w.ownsRow base e s v n xs) (h' : w.ownsRow base' e' s' v' n' xs') : v.ownBlock = none ∨ v.ownBlock ≠ v'.ownBlock := by
  rcases h.2 with ⟨rfl, _⟩ | ⟨g, cap, cur, rfl, _, hg, _⟩
  · left; rfl
  · right
    intro heq
    rcases h'.2 with ⟨rfl, _⟩ | ⟨g', cap', cur', rfl, _, hg', _⟩
    · simp [Value.ownBlock] at heq
    · simp [Value.ownBlock] at heq
      subst heq
      rw [hg] at hg'
      simp at hg'
      exact hne hg'.2
theorem Inner.grown {w w' : World} {rs : List Row} {base : Nat} {v : Value} {n : Nat} {xs : List Value} (h : Inner w rs) (ho : w.ownsRow base 31 1 v n xs) (hg : w.grownBy w' v.ownBlock) : Inner w' rs := fun r hr => by
  obtain ⟨h1, h2, b, h3⟩ := h r hr
  exact ⟨h1, h2, b, h3.kept hg (own_block_ne (by decide) h3 ho)⟩
theorem Inner.ri {w : World} {rs : List Row} (h : Inner w rs) {r : Row} (hr : r ∈ rs) : RI w r.A r.n r.c r.zs := by
  obtain ⟨h1, h2, b, h3⟩ := h r hr
  exact RI.of_own h3 h2
theorem RL.of_rows {w : World} {base : Nat} {A : Option Addr} {n c : Nat} {rs : List Row} (h : w.ownsRow base 31 1 (.slice A n c) n (rs.map rowV)) (hi : Inner w rs) (hbig : n * 24 ≤ 140737488355328) : RL w A n c (rs.map (·.zs)) := by
  obtain ⟨h1, h2⟩ := h
  have hl : rs.length = n := by simpa using h1
  rcases h2 with ⟨hv, hn⟩ | ⟨g, cap, cur, hv, hg, hh, hnc, hcm, hcs, htk⟩
  · simp only [Value.slice.injEq] at hv
    obtain ⟨rfl, _, rfl⟩ := hv
    subst hn
    exact ⟨by simpa using hl, Nat.le_refl _, hbig, Nat.zero_le _, fun h => absurd h (by omega)⟩
  · simp only [Value.slice.injEq] at hv
    obtain ⟨rfl, _, rfl⟩ := hv
    refine ⟨by simpa using hl, hnc, hbig, hcm, fun hn => ⟨g, 0, rfl, ?_, fun j hj => ?_⟩⟩
    · rcases Nat.lt_or_ge g w.heap.size with hlt | hge
      · exact hlt
      · rw [Array.getElem?_eq_none hge] at hh; cases hh
    · have hj' : j < rs.length := by omega
      have e : cur[j]? = some (rowV rs[j]) := by
        have h3 : (cur.toList.take (n * 1))[j]? = (rs.map rowV)[j]? := by rw [htk]
        rw [List.getElem?_take_of_lt (by omega), List.getElem?_map, List.getElem?_eq_getElem hj'] at h3
        rw [← Array.getElem?_toList, h3]
        rfl
      refine ⟨rs[j].A, rs[j].n, rs[j].c, by simp [World.cell?, hh, e]; rfl, ?_⟩
      have := hi.ri (List.getElem_mem hj')
      rw [ell_lt (by simpa using hj')]
      simpa using this

/-- what remains -/
def outTo (ls : List (List Int)) (k : Nat) : List (List Int) := ((List.range k).filter fun i => !(goesB ls i)).map (ell ls)
def subL (ls : List (List Int)) : List (List Int) := outTo ls ls.length
theorem outTo_succ (ls : List (List Int)) (k : Nat) : outTo ls (k + 1) = if goesB ls k = true then outTo ls k else outTo ls k ++ [ell ls k] := by
  unfold outTo
  rw [List.range_succ, List.filter_append, List.map_append]
  cases h : goesB ls k <;> simp [h]
theorem outTo_len (ls : List (List Int)) (k : Nat) : (outTo ls k).length ≤ k := by
  unfold outTo
  rw [List.length_map]
  exact Nat.le_trans (List.length_filter_le _ _) (by simp)

/-- what Subsume hands back -/
def Subd (x : Int) (ls : List (List Int)) (e' : Int) (w : World) (e : Ending) (w' : World) : Prop :=
  ∃ A c, e = .returned (.tuple #[.agg #[.int .i64 x, .slice A ls.length c], .int .i64 e']) ∧ RL w' A ls.length c ls ∧ Below w.heap.size w w'

/-- a block of two cells -/
def Two (w : World) (B : Nat) (u v : Value) : Prop := w.heap[B]? = some (.cells #[u, v] 29 (0, 0))
theorem Two.lt {w : World} {B : Nat} {u v : Value} (h : Two w B u v) : B < w.heap.size := (Array.getElem?_eq_some_iff.1 h).1
theorem Two.c0 {w : World} {B : Nat} {u v : Value} (h : Two w B u v) : w.cell? ⟨B, 0, none⟩ = some u := by simp [World.cell?, show w.heap[B]? = _ from h]
theorem Two.c1 {w : World} {B : Nat} {u v : Value} (h : Two w B u v) : w.cell? ⟨B, 1, none⟩ = some v := by simp [World.cell?, show w.heap[B]? = _ from h]
theorem Two.f {w : World} {B : Nat} {u v : Value} (h : Two w B u v) (k : Nat) : w.frozen? ⟨B, k, none⟩ = false := by simp [World.frozen?, show w.heap[B]? = _ from h]
theorem Two.below {w w' : World} {B : Nat} {u v : Value} (h : Two w B u v) (hb : Below w.heap.size w w') : Two w' B u v := (hb.block B h.lt).trans h
theorem Two.kept {w w' : World} {B : Nat} {u v : Value} {row : Option Nat} (h : Two w B u v) (hg : w.grownBy w' row) (hne : some B ≠ row) : Two w' B u v := (hg.block B h.lt hne).trans h
theorem Two.new (w : World) (u v : Value) : Two (w.alloc (.cells #[u, v] 29)) w.heap.size u v := World.alloc_heap_new w _
theorem Two.set1 {w : World} {B : Nat} {u v : Value} (h : Two w B u v) (v' : Value) : Two (w.setCell ⟨B, 1, none⟩ v') B u v' := by
  obtain ⟨hlt, hk⟩ := Array.getElem?_eq_some_iff.1 h
  show (w.heap.modify B _)[B]? = _
  rw [Array.getElem?_eq_getElem (by rw [Array.size_modify]; exact hlt), Array.getElem_modify_self, hk]
  rfl

theorem Two.set0 {w : World} {B : Nat} {u v : Value} (h : Two w B u v) (u' : Value) : Two (w.setCell ⟨B, 0, none⟩ u') B u' v := by
  obtain ⟨hlt, hk⟩ := Array.getElem?_eq_some_iff.1 h
  show (w.heap.modify B _)[B]? = _
  rw [Array.getElem?_eq_getElem (by rw [Array.size_modify]; exact hlt), Array.getElem_modify_self, hk]
  rfl
theorem sub_results {tmps : Array Value} {W : World} {B : Nat} {x : Int} {A : Option Addr} {n c : Nat} {r : Value} (h2 : tmps.getD 2 undef = .pointer (some ⟨B, 0, none⟩)) (h3 : tmps.getD 3 undef = r)
    (h : Two W B (.int .i64 x) (.slice A n c)) : (results Try.f19 tmps).run Try.prog W = .ok (.tuple #[.agg #[.int .i64 x, .slice A n c], r]) W := by
  have c0 := h.c0
  have c1 := h.c1
  rw [Array.getD_eq_getD_getElem?] at h2 h3
  simp [results, Try.results19, go_sem, h2, h3, c0, c1]
theorem grown_set {w : World} {B k : Nat} (v : Value) : w.grownBy (w.setCell ⟨B, k, none⟩ v) (some B) :=
  ⟨rfl, rfl, rfl, (KeepsWalks.setCell w _ v).size, fun j _ hj => Below.heap_setCell _ _ _ j (fun e => hj (by rw [e]))⟩

set_option maxHeartbeats 1000000 in
theorem subsume_bad (x : Int) (A : Option Addr) (n c : Nat) (ls : List (List Int)) (w : World) (h : RL w A n c ls) (he : checkE x ls ≠ 0) :
    Calls Try.prog 19 #[.agg #[.int .i64 x, .slice A n c]] w (Subd 0 [] (checkE x ls) w) := by
  have hcall := check_any x A n c ls ((w.alloc (.cells #[.int .i64 x, .slice A n c] 29)).alloc (.cells #[.int .i64 0, .slice none 0 0] 29)) ((h.alloc _).alloc _)
  generalize checkE x ls = r at hcall he ⊢
  have hr : (r != 0) = true := by simpa using he
  clear he h
  go_enter Try.func19, Try.ntmps19
  go_wp2_with (go_at_call 25; refine hcall.mono ?_; clear hcall; rintro e w1 ⟨rfl, hb⟩; have tw := (Two.new (w.alloc (.cells #[.int .i64 x, .slice A n c] 29)) (.int .i64 0) (.slice none 0 0)).below hb; rw [World.size_alloc] at tw; have t0 := tw.c0; have t1 := tw.c1; have f0 := tw.f 0; have f1 := tw.f 1)
  refine bodyPost_ret (sub_results rfl rfl ((tw.set0 _).set1 _)) rfl ?_
  have hb' : Below w.heap.size w w1 := (((Below.refl _ w).alloc (Nat.le_refl _) _).alloc (by simp) _).trans (hb.mono (by simp; omega))
  exact ⟨none, 0, rfl, RL.nil _ _ _ (Nat.zero_le _), (hb'.setCell (p := ⟨w.heap.size + 1, 0, none⟩) (by simp) _).setCell (p := ⟨w.heap.size + 1, 1, none⟩) (by simp) _⟩


theorem own_two {w : World} {B k base : Nat} {e : TypeId} {v p q : Value} {n : Nat} {xs : List Value} (h : w.ownsRow base e 1 v n xs) (he : e ≠ 29) (t : Two w B p q) (u : Value) : (w.setCell ⟨B, k, none⟩ u).ownsRow base e 1 v n xs := by
  refine h.kept (grown_set u) ?_
  rcases h.2 with ⟨rfl, _⟩ | ⟨g, cap, cur, rfl, _, hg, _⟩
  · exact .inl rfl
  · refine .inr fun e' => ?_
    obtain rfl : g = B := by simpa [Value.ownBlock] using e'
    rw [show w.heap[g]? = _ from t] at hg
    simp at hg
    exact he hg.2.symm
theorem Inner.two {w : World} {rs : List Row} {B k : Nat} {p q : Value} (h : Inner w rs) (t : Two w B p q) (u : Value) : Inner (w.setCell ⟨B, k, none⟩ u) rs := fun r hr => by
  obtain ⟨h1, h2, b, h3⟩ := h r hr
  exact ⟨h1, h2, b, own_two h3 (by decide) t u⟩

theorem step_append_row {w : World} {ops : Array Oper} {o : Oper} {a : Act} {K : Act → World → Prop} {Q : Exit → Act → World → Prop} {E : Prop} (hgd : o.guard = none) (s x : Operand)
    (ho : o.op = .call { callee := .builtin .append, args := #[s, x], argTypes := #[27, 27] }) (base : Nat) (v : Value) (n : Nat) (xs : List Value) (hs : a.eval s = v) (hown : w.ownsRow base 31 1 v n xs)
    (ad : Addr) (u : Value) (hx : a.eval x = .slice (some ad) 1 1) (hu : u.oneCell' = true) (hc : w.cell? ad = some u) (hn : n ≤ 1000000) (hbase : base ≤ w.heap.size)
    (h : ∀ v' w', w'.ownsRow base 31 1 v' (n + 1) (xs ++ [u]) → w.grownBy w' v.ownBlock → K (a.put o.dst v') w') :
    if Region.wanted o (yielded ops a.tmps) = true then Oper.wp Try.prog o a w K Q else E := by
  obtain ⟨i0, hi, hz0, hz1, hz2⟩ := info_parts infoRow
  have hw : Region.wanted o (yielded ops a.tmps) = true := by simp [Region.wanted, hgd]
  rw [if_pos hw]
  have hnews : ∀ j u', [u][j]? = some u' → w.cell? (ad.add j) = some u' := by
    intro j u' hj
    match j, hj with
    | 0, hj =>
      simp at hj
      subst hj
      simpa [Addr.add] using hc
  obtain ⟨v', w', h1, h2, h3, _, h5⟩ := run_append_own_at (P := Try.prog) w base 27 o.type 31 i0 (.slice none 0 0) 1 24 Try.underlying27 hi hz0 hz1 hz2 rfl (by decide) v n _ hown ad 1 1 [u] rfl hnews (by intro u' hu'; rw [List.mem_singleton.1 hu']; exact hu) (by unfold maxLen; omega) (by omega) hbase
  unfold Oper.wp
  simp only [execOp, ho, resolve, invoke, builtin, Sem.run_bind, Sem.run_pure, Result.andThen_ok, List.map_toArray, List.map_cons, List.map_nil, hs, hx, h1]
  exact h v' w' h2 h3

/-- the loop of Subsume: the box of out at Bo -/
structure Sb (w W0 wr : World) (x : Int) (ls : List (List Int)) (k : Nat) (rs : List Row) (L : Nat) (O : Option Addr) (co : Nat) : Prop where
  rows : rs.map (·.zs) = outTo ls k
  len : rs.length = L
  out : Two wr W0.heap.size (.int .i64 x) (.slice O L co)
  own : wr.ownsRow (W0.heap.size + 1) 31 1 (.slice O L co) L (rs.map rowV)
  inner : Inner wr rs
  below : Below W0.heap.size W0 wr
theorem Sb.later {w W0 wr wr' : World} {x : Int} {ls : List (List Int)} {k : Nat} {rs : List Row} {L : Nat} {O : Option Addr} {co : Nat} (h : Sb w W0 wr x ls k rs L O co) (hb : Below wr.heap.size wr wr') : Sb w W0 wr' x ls k rs L O co :=
  ⟨h.rows, h.len, h.out.below hb, own_below h.own hb, h.inner.below hb, h.below.trans (hb.mono h.below.size)⟩

theorem Sb.next {w W0 w3 : World} {x : Int} {ls : List (List Int)} {k : Nat} {rs : List Row} {L : Nat} {O : Option Addr} {co : Nat} (h : Sb w W0 w3 x ls k rs L O co) {r : Row} {base3 : Nat} (hr : w3.ownsRow base3 3 1 (rowV r) r.n (r.zs.map (Value.int .i64)))
    (hl : r.zs.length = r.n) (hb : r.n * 8 ≤ 140737488355328) (o : Obj) {w5 : World} {g' cap' : Nat} (ho : w5.ownsRow (W0.heap.size + 1) 31 1 (.slice (some ⟨g', 0, none⟩) (L + 1) cap') (L + 1) (rs.map rowV ++ [rowV r])) (hg : (w3.alloc o).grownBy w5 (Value.slice O L co).ownBlock)
    (he : outTo ls (k + 1) = outTo ls k ++ [r.zs]) : Two w5 W0.heap.size (.int .i64 x) (.slice O L co) ∧ Sb w W0 (w5.setCell ⟨W0.heap.size, 1, none⟩ (.slice (some ⟨g', 0, none⟩) (L + 1) cap')) x ls (k + 1) (rs ++ [r]) (L + 1) (some ⟨g', 0, none⟩) cap' := by
  have hba : Below w3.heap.size w3 (w3.alloc o) := (Below.refl _ _).alloc (Nat.le_refl _) _
  have h1 := h.later hba
  have t5 : Two w5 W0.heap.size (.int .i64 x) (.slice O L co) := h1.out.kept hg (fun e => by have := (own_lt h1.own e.symm).1; omega)
  have i5 : Inner w5 rs := h1.inner.grown h1.own hg
  have r5 := (own_below hr hba).kept hg (own_block_ne (by decide) (own_below hr hba) h1.own)
  refine ⟨t5, ⟨by rw [List.map_append, he, h.rows]; rfl, by rw [List.length_append, h.len]; rfl, t5.set1 _, ?_, ?_, ?_⟩⟩
  · rw [List.map_append]; exact own_two ho (by decide) t5 _
  · intro r' hr'
    rcases List.mem_append.1 hr' with hr' | hr'
    · exact (i5.two t5 _) r' hr'
    · rw [List.mem_singleton.1 hr']; exact ⟨hl, hb, _, own_two r5 (by decide) t5 _⟩
  · exact (h1.below.grown hg h1.below.size (fun g e => by have := (own_lt h1.own e).1; omega)).setCell (p := ⟨W0.heap.size, 1, none⟩) (Nat.le_refl _) _

set_option maxRecDepth 100000 in
set_option maxHeartbeats 4000000 in
theorem subsume_ok (x : Int) (A : Option Addr) (n c : Nat) (ls : List (List Int)) (w : World) (h : RL w A n c ls) (h0 : checkE x ls = 0) (hn : n ≤ 1000000) :
    Calls Try.prog 19 #[.agg #[.int .i64 x, .slice A n c]] w (Subd x (subL ls) 0 w) := by
  obtain ⟨i0, hi, hz0, hz1, hz2⟩ := info_parts infoRow
  have hcall := check_any x A n c ls ((w.alloc (.cells #[.int .i64 x, .slice A n c] 29)).alloc (.cells #[.int .i64 0, .slice none 0 0] 29)) ((h.alloc _).alloc _)
  rw [h0] at hcall
  have HK := Lib.hid (fun l hl => (fun y hy => wf_lit ((checkE_lits h0) l hl y hy).2.1 ((checkE_lits h0) l hl y hy).2.2 : Wfl l) : ∀ l ∈ ls, Wfl l)
  have H := Lib.hid h
  clear h h0
  go_enter Try.func19, Try.ntmps19
  go_wp2_with (go_at_call 25; refine hcall.mono ?_; clear hcall; rintro e W0 ⟨rfl, hb⟩; have tw := (Two.new (w.alloc (.cells #[.int .i64 x, .slice A n c] 29)) (.int .i64 0) (.slice none 0 0)).below hb; rw [World.size_alloc] at tw; have bx := ((Two.new w (.int .i64 x) (.slice A n c)).below (((Below.refl _ _).alloc (Nat.le_refl _) (.cells #[.int .i64 0, .slice none 0 0] 29)))).below hb; have TW := Lib.hid tw; have BX := Lib.hid bx; have p0 := bx.c0; have p1 := bx.c1; have p2 : ∀ o, (W0.alloc o).cell? ⟨w.heap.size, 1, none⟩ = some (.slice A n c) := (fun o => (bx.below ((Below.refl _ _).alloc (Nat.le_refl _) o)).c1); have HB := Lib.hid ((((Below.refl _ w).alloc (Nat.le_refl _) _).alloc (by simp) _).trans (hb.mono (by simp; omega)) : Below w.heap.size w W0); clear hb tw bx)
  go_loopw [22] (fun i wr => ∃ (k : Nat) (rs : List Row) (L : Nat) (O : Option Addr) (co : Nat), k ≤ n ∧ i = .int .i64 k ∧ Sb w W0 wr x ls k rs L O co) (fun i _ => n - (intOf i).toNat)
  case atStart => exact ⟨0, [], 0, none, 0, Nat.zero_le _, rfl, rfl, rfl, Two.new _ _ _, World.ownsRow_nil _ _ _ _, fun r h => (by cases h), (Below.refl _ _).alloc (Nat.le_refl _) _⟩
  case round =>
    obtain ⟨k, rs, L, O, co, hk, rfl, hsb⟩ := hrel
    have HS := Lib.hid hsb
    clear hsb
    have hbw : Below w.heap.size w wr := HB.out.trans (HS.out.below.mono HB.out.size)
    have b0 : Two wr w.heap.size (.int .i64 x) (.slice A n c) := BX.out.below HS.out.below
    have b1 : Two wr (w.heap.size + 1) (.int .i64 0) (.slice none 0 0) := TW.out.below HS.out.below
    have r1 := b0.c1
    by_cases hlt : k < n
    · obtain ⟨b, off, rfl, hbl, hc⟩ := H.out.cells (by omega)
      obtain ⟨a1, n1, c1, hck, hr1⟩ := hc k hlt
      clear hc
      have hck2 := (hbw.cell (p := ⟨b, off + k, none⟩) hbl).trans hck
      have HR1 := Lib.hid hr1
      clear hr1 hck
      have hcon := containsL_any (wr.heap.size + 1 + 1) wr.heap.size (wr.heap.size + 1) k (some ⟨b, off, none⟩) n c ls a1 n1 c1 wr (((wr.alloc (.cells #[.int .i64 k] 3)).alloc (.cells #[.slice a1 n1 c1] 31)).alloc (.cells #[.int .i64 (-1)] 3))
        (by have := Boxed.new ((wr.alloc (.cells #[.int .i64 k] 3)).alloc (.cells #[.slice a1 n1 c1] 31)) 3 (.int .i64 (-1)); simpa using this)
        ((((Boxed.new wr 3 (.int .i64 k)).alloc _).alloc _).cell)
        (by have := ((Boxed.new (wr.alloc (.cells #[.int .i64 k] 3)) 31 (.slice a1 n1 c1)).alloc (.cells #[.int .i64 (-1)] 3)).cell; simpa using this)
        (by simp; omega) (by simp) (by omega) (by omega) ((((Below.refl _ wr).alloc (Nat.le_refl _) _).alloc (by simp) _).alloc (by simp; omega) _) (by omega) (H.out.below hbw) (HR1.out.below hbw) HK.out hlt hn
      have hll : (((wr.alloc (.cells #[.int .i64 k] 3)).alloc (.cells #[.slice a1 n1 c1] 31)).alloc (.cells #[.int .i64 (-1)] 3)).cell? ⟨wr.heap.size + 1, 0, none⟩ = some (.slice a1 n1 c1) := by
        have := ((Boxed.new (wr.alloc (.cells #[.int .i64 k] 3)) 31 (.slice a1 n1 c1)).alloc (.cells #[.int .i64 (-1)] 3)).cell; simpa using this
      have hba : Below wr.heap.size wr (((wr.alloc (.cells #[.int .i64 k] 3)).alloc (.cells #[.slice a1 n1 c1] 31)).alloc (.cells #[.int .i64 (-1)] 3)) := (((Below.refl _ wr).alloc (Nat.le_refl _) _).alloc (by simp) _).alloc (by simp; omega) _
      have hst : ∀ Wb : World, (((wr.alloc (.cells #[.int .i64 k] 3)).alloc (.cells #[.slice a1 n1 c1] 31)).alloc (.cells #[.int .i64 (-1)] 3)).grownBy Wb (some (wr.heap.size + 1 + 1)) → Below wr.heap.size wr Wb ∧ Wb.cell? ⟨wr.heap.size + 1, 0, none⟩ = some (.slice a1 n1 c1) := fun Wb hg =>
        ⟨hba.grown hg hba.size (fun g e => by cases e; omega), (grow_cell hg (p := ⟨wr.heap.size + 1, 0, none⟩) (by simp) (by simp)).trans hll⟩
      have HST := Lib.hid hst
      have HBW := Lib.hid hbw
      have hb0 := b0.lt
      clear hst hba hll b1 hbw
      have r2 : ∀ o o' o'', (((wr.alloc o).alloc o').alloc o'').cell? ⟨w.heap.size, 1, none⟩ = some (.slice (some ⟨b, off, none⟩) n c) := fun o o' o'' => (b0.below ((((Below.refl _ wr).alloc (Nat.le_refl _) o).alloc (by simp) o').alloc (by simp; omega) o'')).c1
      clear b0
      cases hgo : goesB ls k with
      | true =>
        rw [hgo] at hcon
        have E : Hid (outTo ls (k + 1) = outTo ls k) := Lib.hid (by rw [outTo_succ, if_pos hgo])
        clear hgo
        go_wp2_with (go_at_call 43; refine hcon.mono ?_; clear hcon; rintro e Wb ⟨rfl, hg⟩; have HG := Lib.hid (HST.out Wb hg); clear hg)
        go_roundw
        case rel =>
          have h1 := HS.out.later HG.out.1
          exact ⟨k + 1, rs, L, O, co, by omega, by go_num, ⟨by rw [E.out]; exact h1.rows, h1.len, h1.out, h1.own, h1.inner, h1.below⟩⟩
        case measure => simp [intOf]; omega
      | false =>
        rw [hgo] at hcon
        have E : Hid (outTo ls (k + 1) = outTo ls k ++ [ell ls k]) := Lib.hid (by rw [outTo_succ, if_neg (by rw [hgo]; simp)])
        clear hgo
        go_wp2_with (go_at_call 43; refine hcon.mono ?_; clear hcon; rintro e Wb ⟨rfl, hg⟩; have HG := Lib.hid (HST.out Wb hg); clear hg)
        have h1 := HS.out.later HG.out.1
        have cl := HG.out.2
        have o1 := h1.out.c1
        have HS1 := Lib.hid h1
        clear h1 r2
        have hri := (HR1.out.below HBW.out).below HG.out.1
        have hbig := hri.big
        have hl1 := hri.len
        have hLn : L ≤ n := by have := outTo_len ls k; rw [← HS.out.rows, List.length_map, HS.out.len] at this; omega
        have hcl := fun V (hr : RI V a1 n1 c1 (ell ls k)) => clone_any a1 n1 c1 (ell ls k) V hr
        unfold Cloned at hcl
        generalize ell ls k = l at hri hl1 hcl E
        rw [hl1] at hcl
        have hcn := hcl _ hri.drew
        have HSD : Hid (Sb w W0 Wb.drew x ls k rs L O co) := Lib.hid (HS1.out.later (Below.refl _ _).drew)
        have hlt1 : wr.heap.size + 1 < Wb.heap.size := by
          rcases Nat.lt_or_ge (wr.heap.size + 1) Wb.heap.size with h | h
          · exact h
          · simp [World.cell?, Array.getElem?_eq_none h] at cl
        have hsW := HS1.out.out.lt
        clear hcl hri HST HG hb0 r1
        go_region_law (first
            | (go_simp; go_at_call 45; refine hcn.mono ?_; rintro e w3 ⟨A3, c3, rfl, ho3, hb3⟩; have HS3 := Lib.hid (HSD.out.later hb3); have q1 := HS3.out.out.c1; have q2 : ∀ o, (w3.alloc o).cell? ⟨W0.heap.size, 1, none⟩ = some (.slice O L co) := (fun o => (HS3.out.out.below ((Below.refl _ _).alloc (Nat.le_refl _) o)).c1); have HO3 := Lib.hid ho3; have HB3 := Lib.hid hb3; clear ho3 hb3)
            | (refine step_append_row rfl (.tmp 34) (.tmp 37) rfl (W0.heap.size + 1) (.slice O L co) L (rs.map rowV) rfl (HS3.out.own.alloc _) ⟨w3.heap.size, 0, none⟩ (.slice A3 n1 c3) rfl rfl ?_ ?_ ?_ ?_; simp; omega; (have := HS3.out.out.lt; simp; omega); intro v' w5 ho5 hg5; obtain ⟨g', cap', rfl⟩ := own_succ ho5; have h5 := HS3.out.next (r := ⟨A3, n1, c3, l⟩) HO3.out hl1 hbig _ ho5 hg5 E.out; have t1 := h5.1.c1; have f1 := h5.1.f 1; have H5 := Lib.hid h5.2; clear ho5 hg5 h5))
        all_goals go_wp2_with fail
        all_goals go_roundw
        all_goals first
          | exact ⟨k + 1, _, _, _, _, by omega, by go_num, H5.out⟩
          | (simp [intOf]; omega)
    · have t0 := b1.c0
      have t1 := b1.c1
      have f0 := b1.f 0
      have f1 := b1.f 1
      have o0 := HS.out.out.c0
      have o1 := HS.out.out.c1
      have HBW := Lib.hid hbw
      have B1 := Lib.hid b1
      clear b0 b1 hbw
      go_wp2
      have hkn : k = ls.length := by rw [H.out.len]; omega
      have hs := HS.out.rows
      rw [hkn] at hs
      have hlen : (subL ls).length = L := by rw [← HS.out.len]; unfold subL; rw [← hs]; simp
      refine bodyPost_ret (sub_results rfl rfl ((B1.out.set0 _).set1 _)) rfl ?_
      have g1 := grown_set (w := wr) (B := w.heap.size + 1) (k := 0) (.int .i64 x)
      have g2 := grown_set (w := wr.setCell ⟨w.heap.size + 1, 0, none⟩ (.int .i64 x)) (B := w.heap.size + 1) (k := 1) (.slice O L co)
      refine ⟨O, co, by rw [hlen]; rfl, ?_, (HBW.out.setCell (p := ⟨w.heap.size + 1, 0, none⟩) (by simp) _).setCell (p := ⟨w.heap.size + 1, 1, none⟩) (by simp) _⟩
      have e1 : subL ls = rs.map (·.zs) := hs.symm
      have hLn : L ≤ n := by have := outTo_len ls ls.length; rw [← hs, List.length_map, HS.out.len, H.out.len] at this; exact this
      rw [hlen, e1]
      exact RL.of_rows (own_two (own_two HS.out.own (by decide) B1.out _) (by decide) (B1.out.set0 _) _) ((HS.out.inner.two B1.out _).two (B1.out.set0 _) _) (by omega)


theorem subsume_any (x : Int) (A : Option Addr) (n c : Nat) (ls : List (List Int)) (w : World) (h : RL w A n c ls) (hn : n ≤ 1000000) :
    Calls Try.prog 19 #[.agg #[.int .i64 x, .slice A n c]] w (Subd (if checkE x ls = 0 then x else 0) (if checkE x ls = 0 then subL ls else []) (checkE x ls) w) := by
  by_cases h0 : checkE x ls = 0
  · rw [if_pos h0, if_pos h0, h0]; exact subsume_ok x A n c ls w h h0 hn
  · rw [if_neg h0, if_neg h0]; exact subsume_bad x A n c ls w h h0

end Go.Proofs.Ytalcnkoidmoibaa

namespace Go.Proofs.Ytalcnkoidmoibaa
open Go.RowKit Go.Shelf Go.Sort Go.Lib
set_option linter.unusedVariables false
set_option linter.unusedSimpArgs false

/-- a learnt clause: its list, its levels, its activity -/
structure Lrn where
  r : Row
  lv : Int
  act : Int
instance : Inhabited Lrn := ⟨⟨⟨none, 0, 0, []⟩, 0, 0⟩⟩
def lrn (es : List Lrn) (k : Nat) : Lrn := es.getD k default
theorem lrn_lt {es : List Lrn} {k : Nat} (h : k < es.length) : lrn es k = es[k] := by simp [lrn, List.getD_eq_getElem?_getD, List.getElem?_eq_getElem h]

/-- a slice of learnt clauses that reads as a list in a world -/
structure RE (w : World) (A : Option Addr) (n c : Nat) (es : List Lrn) : Prop where
  len : es.length = n
  cap : n ≤ c
  big : n * 40 ≤ 140737488355328
  cmax : c ≤ maxLen
  cells : 0 < n → ∃ b off, A = some ⟨b, off, none⟩ ∧ b < w.heap.size ∧ ∀ j, j < n → w.cell? ⟨b, off + j * 3, none⟩ = some (rowV (lrn es j).r) ∧ w.cell? ⟨b, off + j * 3 + 1, none⟩ = some (.int .i64 (lrn es j).lv) ∧ w.cell? ⟨b, off + j * 3 + 2, none⟩ = some (.int .i64 (lrn es j).act) ∧ RI w (lrn es j).r.A (lrn es j).r.n (lrn es j).r.c (lrn es j).r.zs
theorem RE.below {w w' : World} {A : Option Addr} {n c : Nat} {es : List Lrn} (h : RE w A n c es) (hb : Below w.heap.size w w') : RE w' A n c es :=
  ⟨h.len, h.cap, h.big, h.cmax, fun hn => by
    obtain ⟨b, off, rfl, hlt, hc⟩ := h.cells hn
    refine ⟨b, off, rfl, Nat.lt_of_lt_of_le hlt hb.size, fun j hj => ?_⟩
    obtain ⟨h1, h2, h3, h4⟩ := hc j hj
    exact ⟨(hb.cell (p := ⟨b, _, none⟩) hlt).trans h1, (hb.cell (p := ⟨b, _, none⟩) hlt).trans h2, (hb.cell (p := ⟨b, _, none⟩) hlt).trans h3, h4.below hb⟩⟩
theorem RE.small {w : World} {A : Option Addr} {n c : Nat} {es : List Lrn} (h : RE w A n c es) : n ≤ 3518437208883 := by have := h.big; omega

set_option maxHeartbeats 800000 in
theorem or3_any (g : Nat) (x y z : Int) (w : World) (h0 : w.cell? ⟨g, 0, none⟩ = some (.int .i64 x)) (h1 : w.cell? ⟨g, 1, none⟩ = some (.int .i64 y)) (h2 : w.cell? ⟨g, 2, none⟩ = some (.int .i64 z)) :
    Calls Try.prog 33 #[.slice (some ⟨g, 0, none⟩) 3 3] w fun e w' => e = .returned (.int .i64 (orI x (orI y z))) ∧ w = w' := by
  by_cases hx : x = 0
  · have hx1 : (x != 0) = false := by simp [hx]
    have HX := Lib.hid hx
    clear hx
    by_cases hy : y = 0
    · have hy1 : (y != 0) = false := by simp [hy]
      have HY := Lib.hid hy
      clear hy
      by_cases hz : z = 0
      · have hz1 : (z != 0) = false := by simp [hz]
        have HZ := Lib.hid hz
        clear hz
        go_enter Try.func33, Try.ntmps33
        go_wp2
        refine wp_loop_rounds 4 ?_
        rw [rounds_succ]
        go_wp2
        rw [rounds_succ]
        go_wp2
        rw [rounds_succ]
        go_wp2
        rw [rounds_succ]
        go_wp2
        go_ret
        exact ⟨ret_int (by rw [orI, if_pos HX.out, orI, if_pos HY.out, HZ.out]), rfl⟩
      · have hz1 : (z != 0) = true := by simpa using hz
        clear hz
        go_enter Try.func33, Try.ntmps33
        go_wp2
        refine wp_loop_rounds 3 ?_
        rw [rounds_succ]
        go_wp2
        rw [rounds_succ]
        go_wp2
        rw [rounds_succ]
        go_wp2
        go_ret
        exact ⟨ret_int (by rw [orI, if_pos HX.out, orI, if_pos HY.out]), rfl⟩
    · have hy1 : (y != 0) = true := by simpa using hy
      have HY := Lib.hid hy
      clear hy
      go_enter Try.func33, Try.ntmps33
      go_wp2
      refine wp_loop_rounds 2 ?_
      rw [rounds_succ]
      go_wp2
      rw [rounds_succ]
      go_wp2
      go_ret
      exact ⟨ret_int (by rw [orI, if_pos HX.out, orI, if_neg HY.out]), rfl⟩
  · have hx1 : (x != 0) = true := by simpa using hx
    have HX := Lib.hid hx
    clear hx
    go_enter Try.func33, Try.ntmps33
    go_wp2
    refine wp_loop_rounds 1 ?_
    rw [rounds_succ]
    go_wp2
    go_ret
    exact ⟨ret_int (by rw [orI, if_neg HX.out]), rfl⟩

theorem compare_still (x y : Int) (w : World) : Calls Try.prog 34 #[.int .i64 x, .int .i64 y] w fun e w' => e = .returned (.int .i64 (cmpI x y)) ∧ w' = w := (compare_any x y w).mono fun _ _ ⟨h1, h2⟩ => ⟨h1, h2.symm⟩
/-- how two places are ordered -/
def ordI (es : List Lrn) (i k : Nat) : Int := orI (cmpI (lrn es k).act (lrn es i).act) (orI (cmpI (lrn es i).lv (lrn es k).lv) (cmpI k i))

set_option maxRecDepth 100000 in
set_option maxHeartbeats 2000000 in
theorem red1_any (B i k : Nat) (A : Option Addr) (n c : Nat) (es : List Lrn) (w : World) (hB : w.cell? ⟨B, 0, none⟩ = some (.slice A n c)) (h : RE w A n c es) (hi : i < n) (hk : k < n) :
    Calls Try.prog 32 #[.int .i64 i, .int .i64 k, .pointer (some ⟨B, 0, none⟩)] w fun e w' => e = .returned (.int .i64 (ordI es i k)) ∧ ∃ q os', w' = grow (w.drewN q) os' := by
  have hn := h.small
  obtain ⟨b, off, rfl, hbl, hc⟩ := h.cells (by omega)
  obtain ⟨i0, i1, i2, _⟩ := hc i hi
  obtain ⟨k0, k1, k2, _⟩ := hc k hk
  clear hc
  have hi' : (i : Int) < (n : Int) := by omega
  have hk' : (k : Int) < (n : Int) := by omega
  go_enter Try.func32, Try.ntmps32
  go_wp2
  refine wp_region_still_tail 25 (by kernel_rfl) (by kernel_rfl) ?_
  simp only [List.take_succ_cons, List.take_zero, List.drop_succ_cons, List.drop_zero]
  repeat (first | still_step | still_call (compare_still _ _ _))
  refine wpStill_nil ?_
  change wpList _ _ _ _ _ w.drew
  have hal : ∀ o, w.drew.alloc o = grow (w.drewN 1) #[o] := fun o => by rw [alloc_eq_grow]; rfl
  generalize w.drew = w2 at hal ⊢
  have HAL := Lib.hid hal
  clear hal
  go_wp2_with (go_at_call 33; refine (or3_any w2.heap.size (cmpI (lrn es k).act (lrn es i).act) (cmpI (lrn es i).lv (lrn es k).lv) (cmpI k i) _ (by go_simp) (by go_simp) (by go_simp)).mono ?_; rintro e w' ⟨rfl, rfl⟩)
  go_ret
  exact ⟨rfl, 1, #[_], HAL.out _⟩

theorem enters32 : ∀ args w, (callFunc 32 args).run Try.prog w = .ok (.enter 32 args) w := enters_of Try.func32 (by kernel_rfl) rfl

theorem ordI_neg {es : List Lrn} {i k : Nat} : ordI es i k < 0 ↔ ((lrn es k).act < (lrn es i).act ∨ ((lrn es k).act = (lrn es i).act ∧ ((lrn es i).lv < (lrn es k).lv ∨ ((lrn es i).lv = (lrn es k).lv ∧ k < i)))) := by
  unfold ordI orI cmpI; (repeat' split) <;> omega

/-- a place -/
abbrev Pl (n : Nat) := { i : Nat // i < n }
def encP {n : Nat} (i : Pl n) : Value := .int .i64 (i.1 : Int)
def cfP (es : List Lrn) {n : Nat} (i k : Pl n) : Int := ordI es i.1 k.1
theorem oneP {n : Nat} : OneCell (encP (n := n)) := fun _ => rfl
theorem swoP (es : List Lrn) {n : Nat} : SWO (ltOf (cfP es (n := n))) where
  irrefl x := by unfold ltOf cfP; rw [decide_eq_false_iff_not, ordI_neg]; omega
  trans x y z h1 h2 := by
    unfold ltOf cfP at *
    rw [decide_eq_true_eq, ordI_neg] at *
    omega
  ntrans x y z h1 h2 := by
    unfold ltOf cfP at *
    rw [decide_eq_false_iff_not, ordI_neg] at *
    omega
theorem totP (es : List Lrn) {n : Nat} (x y : Pl n) (h1 : ltOf (cfP es) x y = false) (h2 : ltOf (cfP es) y x = false) : x = y := by
  unfold ltOf cfP at *
  rw [decide_eq_false_iff_not, ordI_neg] at *
  apply Subtype.ext
  omega

theorem map_encP {n : Nat} (l : List (Pl n)) : l.map encP = (l.map (fun i => (i.1 : Int))).map (Value.int .i64) := by rw [List.map_map]; rfl

theorem sortWorld_below {n : Nat} [Inhabited (Pl n)] (w : World) (base g q : Nat) (dk : Array (Pl n)) (os : Array Obj) (hb : base ≤ g) (hs : base ≤ w.heap.size) : Below base w (sortWorld encP w g 0 q dk os) := by
  have hbp := below_putRow (enc := encP (n := n)) (q := q) (d := dk) (Below.refl base w) hb
  exact below_grow hbp (by simp [putRow, mapBlock, Sort.ahead]; omega) os

set_option maxRecDepth 4000 in
theorem sort_red (w0 w : World) (B n c : Nat) (A : Option Addr) (es : List Lrn) (base g m cap : Nat) (ps : List (Pl n)) (hn : 0 < n) (h : Own w base g m cap (ps.map (fun i => (i.1 : Int)))) (hb : base ≤ g) (hm : m * 8 ≤ 140737488355328)
    (hB : w0.cell? ⟨B, 0, none⟩ = some (.slice A n c)) (hBl : B < w0.heap.size) (hR : RE w0 A n c es) (hbl : Below w0.heap.size w0 w) (hbs : w0.heap.size ≤ base) :
    Calls Try.prog 31 #[.slice (some ⟨g, 0, none⟩) m cap, .func (.func 32) #[] #[.pointer (some ⟨B, 0, none⟩)]] w fun e w' =>
      e = .returned (.tuple #[]) ∧ Own w' base g m cap ((ps.mergeSort fun x y => !(ltOf (cfP es)) y x).map (fun i => (i.1 : Int))) ∧ Below base w w' := by
  haveI : Inhabited (Pl n) := ⟨⟨0, hn⟩⟩
  have h' : w.ownsRow base 3 1 (.slice (some ⟨g, 0, none⟩) m cap) m (ps.map encP) := by rw [map_encP]; exact h
  obtain ⟨g', cap', he, h1, h2, h3, h4, h5, h6⟩ := holds_of_ownsRow h' (by intro e; cases e)
  cases he
  have hm' : m < 4611686018427387904 := by omega
  have hcmp : CmpLays1 Try.prog 32 #[.pointer (some ⟨B, 0, none⟩)] (encP (n := n)) (cfP es) g 0 ps.toArray.size w := by
    intro q os dk hs x y
    have hW := hbl.trans ((sortWorld_below w base g q dk os hb (by omega)).mono hbs)
    exact red1_any B x.1 y.1 A n c es _ ((hW.cell (p := ⟨B, 0, none⟩) hBl).trans hB) (hR.below hW) x.2 y.2
  have hc := Try.slices_SortFunc_total encP oneP (cfP es) (swoP es) 32 #[.pointer (some ⟨B, 0, none⟩)] g 0 cap ps.toArray w enters32 hcmp h6 h2 (by simpa [h5] using hm') (totP es)
  have hs : ps.toArray.size = m := by simp [h5]
  rw [hs] at hc
  refine hc.mono ?_
  rintro e w' ⟨rfl, q, os, rfl⟩
  have hown := ownsRow_putRow (q := q) (k := m) (ys := ps.mergeSort fun x y => !(ltOf (cfP es)) y x) h' (by simp [h5]) (Nat.le_refl _)
  rw [List.take_of_length_le (by simp [h5]), map_encP] at hown
  refine ⟨rfl, ?_, sortWorld_below w base g q _ os hb (by omega)⟩
  have := ownsRow_grow hown 0 os
  exact this

end Go.Proofs.Ytalcnkoidmoibaa
