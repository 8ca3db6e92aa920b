/-
  The law's 'with': a formula in which one clause is replaced. No condition.
-/
import Derived.Test.YtalcnkoidmoibaaZA9
import Derived.Deep.CutBlock
import Derived.Deep.DeepCutAuto

namespace Go.Proofs.Ytalcnkoidmoibaa
open Go.RowKit Go.Shelf
set_option linter.unusedVariables false
set_option linter.unusedSimpArgs false

theorem own_set {w : World} {base : Nat} {e : TypeId} {g n cap k : Nat} {xs : List Value} (h : w.ownsRow base e 1 (.slice (some ⟨g, 0, none⟩) n cap) n xs) (u : Value) :
    (w.setCell ⟨g, k, none⟩ u).ownsRow base e 1 (.slice (some ⟨g, 0, none⟩) n cap) n (xs.set k u) := by
  obtain ⟨h1, h2⟩ := h
  rcases h2 with ⟨hv, _⟩ | ⟨g', cap', cur, hv, hb, hh, hnc, hcm, hcs, htk⟩
  · cases hv
  · cases hv
    refine ⟨by rw [List.length_set]; exact h1, .inr ⟨g, cap, cur.setIfInBounds k u, rfl, hb, ?_, hnc, hcm, by rw [Array.size_setIfInBounds]; exact hcs, ?_⟩⟩
    · obtain ⟨hlt, hk⟩ := Array.getElem?_eq_some_iff.1 hh
      show (w.heap.modify g _)[g]? = _
      rw [Array.getElem?_eq_getElem (by rw [Array.size_modify]; exact hlt), Array.getElem_modify_self, hk]
      rfl
    · rw [Array.toList_setIfInBounds, List.take_set, htk]

theorem step_append_rr {w : World} {ops : Array Oper} {o : Oper} {a : Act} {K : Act → World → Prop} {Q : Exit → Act → World → Prop} {E : Prop} (hgd : o.guard = none) (s x : Operand)
    (ho : o.op = .call { callee := .builtin .append, args := #[s, x], argTypes := #[27, 27] }) (base : Nat) (v : Value) (n : Nat) (xs : List Row) (hs : a.eval s = v) (hown : w.ownsRow base 31 1 v n (xs.map rowV))
    (A : Option Addr) (m c : Nat) (rs : List Row) (hx : a.eval x = .slice A m c) (hr : RR w A m c rs) (hbytes : (n + m) * 24 ≤ 140737488355328) (hbase : base ≤ w.heap.size)
    (h : ∀ v' w', Appd w base 31 v (n + m) ((xs ++ rs).map rowV) v' w' → K (a.put o.dst v') w') :
    if Region.wanted o (yielded ops a.tmps) = true then Oper.wp Try.prog o a w K Q else E := by
  have hw : Region.wanted o (yielded ops a.tmps) = true := by simp [Region.wanted, hgd]
  rw [if_pos hw]
  obtain ⟨v', w', h1, h2⟩ := run_append_rr w o.type base v n xs hown A m c rs hr hbytes hbase
  unfold Oper.wp
  simp only [execOp, ho, resolve, invoke, builtin, Sem.run_bind, Sem.run_pure, Result.andThen_ok, List.map_toArray, List.map_cons, List.map_nil, hs, hx, h1]
  exact h v' w' h2

theorem appd_rows {Wb V : World} {s n1 : Nat} {rs : List Row} {v3 : Value} {w3 : World} (h : Appd V Wb.heap.size 31 (.slice (some ⟨s, 0, none⟩) 0 0) (0 + n1) (([] ++ rs).map rowV) v3 w3) (hV : Below Wb.heap.size Wb V) (hs : Wb.heap.size ≤ s) :
    ∃ A3 c3, v3 = .slice A3 n1 c3 ∧ w3.ownsRow Wb.heap.size 31 1 (.slice A3 n1 c3) n1 (rs.map rowV) ∧ Below Wb.heap.size Wb w3 ∧ ∀ B p q, Two V B p q → B ≠ s → Two w3 B p q := by
  obtain ⟨h1, h2, h3⟩ := h
  rw [Nat.zero_add, List.nil_append] at h1
  obtain ⟨A3, c3, rfl⟩ := own_form h1
  exact ⟨A3, c3, rfl, h1, hV.grown h2 hV.size (fun g hg => by simp [Value.ownBlock] at hg; omega), fun B p q t hne => t.kept h2 (fun e => hne (by simpa [Value.ownBlock] using e))⟩

/-- a row of rows reads as a list of lists -/
theorem RL.of_own {w : World} {base : Nat} {A : Option Addr} {n c : Nat} {rs : List Row} (h : w.ownsRow base 31 1 (.slice A n c) n (rs.map rowV)) (hi : ∀ r ∈ rs, RI w r.A r.n r.c r.zs) (hbig : n * 24 ≤ 140737488355328) : RL w A n c (rs.map (·.zs)) := by
  obtain ⟨h1, h2⟩ := h
  have hl : rs.length = n := by simpa using h1
  rcases h2 with ⟨hv, hn⟩ | ⟨g, cap, cur, hv, hg, hh, hnc, hcm, hcs, htk⟩
  · simp only [Value.slice.injEq] at hv
    obtain ⟨rfl, _, rfl⟩ := hv
    subst hn
    exact ⟨by simpa using hl, Nat.le_refl _, hbig, Nat.zero_le _, fun h => absurd h (by omega)⟩
  · simp only [Value.slice.injEq] at hv
    obtain ⟨rfl, _, rfl⟩ := hv
    refine ⟨by simpa using hl, hnc, hbig, hcm, fun hn => ⟨g, 0, rfl, ?_, fun j hj => ?_⟩⟩
    · rcases Nat.lt_or_ge g w.heap.size with hlt | hge
      · exact hlt
      · rw [Array.getElem?_eq_none hge] at hh; cases hh
    · have hj' : j < rs.length := by omega
      have e : cur[j]? = some (rowV rs[j]) := by
        have h3 : (cur.toList.take (n * 1))[j]? = (rs.map rowV)[j]? := by rw [htk]
        rw [List.getElem?_take_of_lt (by omega), List.getElem?_map, List.getElem?_eq_getElem hj'] at h3
        rw [← Array.getElem?_toList, h3]
        rfl
      refine ⟨rs[j].A, rs[j].n, rs[j].c, by simp [World.cell?, hh, e]; rfl, ?_⟩
      have := hi _ (List.getElem_mem hj')
      rw [ell_lt (by simpa using hj')]
      simpa using this

/-- what 'with' hands back -/
def Withd (x : Int) (ls : List (List Int)) (n : Nat) (w : World) (e : Ending) (w' : World) : Prop :=
  ∃ A c, e = .returned (.agg #[.int .i64 x, .slice A n c]) ∧ RL w' A n c ls ∧ Below w.heap.size w w'
theorem with_results {tmps : Array Value} {W : World} {B : Nat} {x : Int} {A : Option Addr} {n c : Nat} (h2 : tmps.getD 6 undef = .pointer (some ⟨B, 0, none⟩))
    (h : Two W B (.int .i64 x) (.slice A n c)) : (results Try.f22 tmps).run Try.prog W = .ok (.agg #[.int .i64 x, .slice A n c]) W := by
  have c0 := h.c0
  have c1 := h.c1
  rw [Array.getD_eq_getD_getElem?] at h2
  simp [results, Try.results22, go_sem, h2, c0, c1]

/-- the copy is made, its box stands -/
structure Wd (w Wb W : World) (x : Int) (rs : List Row) (B n g c3 : Nat) : Prop where
  box : Two W B (.int .i64 x) (.slice (some ⟨g, 0, none⟩) n c3)
  own : W.ownsRow Wb.heap.size 31 1 (.slice (some ⟨g, 0, none⟩) n c3) n (rs.map rowV)
  res : Two W (w.heap.size + 1) (.int .i64 0) (.slice none 0 0)
  below : Below Wb.heap.size Wb W
theorem two_ne {W : World} {B base g n c : Nat} {p q : Value} {xs : List Value} (t : Two W B p q) (h : W.ownsRow base 31 1 (.slice (some ⟨g, 0, none⟩) n c) n xs) : some B ≠ some g := by
  intro e
  injection e with e
  subst e
  rcases h.2 with ⟨hv, _⟩ | ⟨g', cap, cur, hv, _, hg, _⟩
  · cases hv
  · cases hv
    rw [show W.heap[B]? = _ from t] at hg
    simp at hg
theorem Wd.facts {w Wb W : World} {x : Int} {rs : List Row} {B n g c3 k : Nat} (h : Wd w Wb W x rs B n g c3) (hk : k < n) (u : Value) :
    (∃ v, W.cell? ⟨g, k, none⟩ = some v) ∧ W.frozen? ⟨g, k, none⟩ = false ∧ Two (W.setCell ⟨g, k, none⟩ u) B (.int .i64 x) (.slice (some ⟨g, 0, none⟩) n c3) ∧ Two (W.setCell ⟨g, k, none⟩ u) (w.heap.size + 1) (.int .i64 0) (.slice none 0 0) := by
  refine ⟨?_, ?_, h.box.kept (grown_set u) (two_ne h.box h.own), h.res.kept (grown_set u) (two_ne h.res h.own)⟩
  · have hl : k < (rs.map rowV).length := by have := h.own.1; omega
    have := h.own.cells (g := g) rfl k _ (List.getElem?_eq_getElem hl)
    exact ⟨_, by rw [Addr.add_lit, Nat.zero_add] at this; exact this⟩
  · rcases h.own.2 with ⟨hv, _⟩ | ⟨g', cap, cur, hv, _, hg, _⟩
    · cases hv
    · cases hv
      simp [World.frozen?, hg]
theorem Wd.done {w Wb W : World} {x : Int} {rs : List Row} {B n g c3 k : Nat} {A' : Option Addr} {n' c' : Nat} {zs : List Int} (h : Wd w Wb W x rs B n g c3) (hk : k < n) (hr : ∀ r ∈ rs, RI w r.A r.n r.c r.zs) (hz : RI w A' n' c' zs) (hw : Below w.heap.size w Wb) (hn : n ≤ 1000000) :
    ∃ A c, Ending.returned (.agg #[.int .i64 x, .slice (some ⟨g, 0, none⟩) n c3]) = .returned (.agg #[.int .i64 x, .slice A n c]) ∧
      RL (((W.setCell ⟨g, k, none⟩ (.slice A' n' c')).setCell ⟨w.heap.size + 1, 0, none⟩ (.int .i64 x)).setCell ⟨w.heap.size + 1, 1, none⟩ (.slice (some ⟨g, 0, none⟩) n c3)) A n c ((rs.map (·.zs)).set k zs) ∧
      Below w.heap.size w (((W.setCell ⟨g, k, none⟩ (.slice A' n' c')).setCell ⟨w.heap.size + 1, 0, none⟩ (.int .i64 x)).setCell ⟨w.heap.size + 1, 1, none⟩ (.slice (some ⟨g, 0, none⟩) n c3)) := by
  have hg := (own_lt h.own (g := g) rfl).1
  have hbw := hw.size
  have b1 : Below Wb.heap.size Wb (W.setCell ⟨g, k, none⟩ (.slice A' n' c')) := h.below.setCell (p := ⟨g, k, none⟩) hg _
  have b2 : Below w.heap.size w (((W.setCell ⟨g, k, none⟩ (.slice A' n' c')).setCell ⟨w.heap.size + 1, 0, none⟩ (.int .i64 x)).setCell ⟨w.heap.size + 1, 1, none⟩ (.slice (some ⟨g, 0, none⟩) n c3)) :=
    ((hw.trans (b1.mono hbw)).setCell (p := ⟨w.heap.size + 1, 0, none⟩) (by simp) _).setCell (p := ⟨w.heap.size + 1, 1, none⟩) (by simp) _
  obtain ⟨_, _, _, t2⟩ := h.facts hk (.slice A' n' c')
  have o1 := own_set (k := k) h.own (.slice A' n' c')
  have e1 : (rs.map rowV).set k (.slice A' n' c') = (rs.set k ⟨A', n', c', zs⟩).map rowV := by rw [List.map_set]; rfl
  rw [e1] at o1
  have o2 := own_two (own_two o1 (by decide) t2 (k := 0) (.int .i64 x)) (by decide) (t2.set0 _) (k := 1) (.slice (some ⟨g, 0, none⟩) n c3)
  refine ⟨_, _, rfl, ?_, b2⟩
  have e2 : (rs.map (·.zs)).set k zs = (rs.set k ⟨A', n', c', zs⟩).map (·.zs) := by rw [List.map_set]
  rw [e2]
  refine RL.of_own o2 (fun r hr' => ?_) (by omega)
  rcases List.mem_or_eq_of_mem_set hr' with h1 | h1
  · exact (hr r h1).below b2
  · rw [h1]; exact hz.below b2

set_option maxRecDepth 100000 in
set_option maxHeartbeats 4000000 in
theorem with_any (x : Int) (A : Option Addr) (n c : Nat) (ls : List (List Int)) (k : Nat) (A' : Option Addr) (n' c' : Nat) (zs : List Int) (w : World) (h : RL w A n c ls) (hk : k < n) (h' : RI w A' n' c' zs) (hn : n ≤ 1000000) :
    Calls Try.prog 22 #[.agg #[.int .i64 x, .slice A n c], .int .i64 k, .slice A' n' c'] w (Withd x (ls.set k zs) n w) := by
  obtain ⟨rs, rfl, hrr⟩ := h.rr
  have T1 := Lib.hid ((Two.new w (.int .i64 x) (.slice A n c)).below ((Below.refl _ _).alloc (Nat.le_refl _) (.cells #[.int .i64 0, .slice none 0 0] 29)))
  have T2 := Lib.hid (Two.new (w.alloc (.cells #[.int .i64 x, .slice A n c] 29)) (.int .i64 0) (.slice none 0 0))
  have HB0 := Lib.hid (((Below.refl w.heap.size w).alloc (Nat.le_refl _) (.cells #[.int .i64 x, .slice A n c] 29)).alloc (by simp) (.cells #[.int .i64 0, .slice none 0 0] 29))
  have hsz : ((w.alloc (.cells #[.int .i64 x, .slice A n c] 29)).alloc (.cells #[.int .i64 0, .slice none 0 0] 29)).heap.size = w.heap.size + 1 + 1 := by simp
  go_enter Try.func22, Try.ntmps22
  go_upto_region 1 with fail
  generalize (w.alloc (.cells #[.int .i64 x, .slice A n c] 29)).alloc (.cells #[.int .i64 0, .slice none 0 0] 29) = Wb at *
  have HR := Lib.hid (hrr.below HB0.out)
  have HZ := Lib.hid h'
  have HRW := Lib.hid hrr.rows
  have hbw := HB0.out.size
  have q0 := T1.out.c0
  have q1 := T1.out.c1
  have hs1 := T1.out.lt
  have HSZ := Lib.hid hsz
  clear hsz h h' hrr
  go_cut [7] (fun s W => ∃ B g c3 : Nat, s = .pointer (some ⟨B, 0, none⟩) ∧ Wd w Wb W x rs B n g c3)
  case first =>
    have hVa : Below Wb.heap.size Wb (Wb.drew.alloc (.cells #[] 31)) := ((Below.refl _ _).drew).alloc (Nat.le_refl _) _
    have hVb : ∀ o, Below Wb.heap.size Wb ((Wb.drew.alloc (.cells #[] 31)).alloc o) := fun o => hVa.alloc (by simp) _
    have hVc : ∀ o, Below Wb.heap.size Wb ((Wb.drew.alloc o).alloc (.cells #[] 31)) := fun o => (((Below.refl _ _).drew).alloc (Nat.le_refl _) _).alloc (by simp) _
    have VA := Lib.hid hVa
    have VB := Lib.hid hVb
    have VC := Lib.hid hVc
    clear hVa hVb hVc
    go_region_law (first
      | (refine step_append_rr rfl (.tmp 10) (.tmp 12) rfl Wb.heap.size (.slice (some ⟨Wb.heap.size, 0, none⟩) 0 0) 0 [] rfl (own_empty Wb.drew _ _ 31 rfl (Nat.le_refl _)) A n c rs rfl (HR.out.below VA.out) (by omega) (by simp) ?_; intro v3 w3 hap; obtain ⟨A3, c3, rfl, ho3, hb3, -⟩ := appd_rows hap VA.out (Nat.le_refl _); have HO3 := Lib.hid ho3; have HB3 := Lib.hid hb3; have q2 := (T1.out.below hb3).c0; have q3 := (T1.out.below hb3).c1; have l3 := (T1.out.below hb3).lt; clear ho3 hb3 hap)
      | (refine step_append_rr rfl (.tmp 10) (.tmp 12) rfl Wb.heap.size (.slice (some ⟨Wb.heap.size, 0, none⟩) 0 0) 0 [] rfl ((own_empty Wb.drew _ _ 31 rfl (Nat.le_refl _)).alloc (.cells #[.int .i64 0, .slice none 0 0] 29)) A n c rs rfl (HR.out.below (VB.out (.cells #[.int .i64 0, .slice none 0 0] 29))) (by omega) (by simp <;> omega) ?_; intro v3 w3 (hap : Appd ((Wb.drew.alloc (.cells #[] 31)).alloc (.cells #[.int .i64 0, .slice none 0 0] 29)) _ _ _ _ _ _ _); obtain ⟨A3, c3, rfl, ho3, hb3, hk3⟩ := appd_rows hap (VB.out (.cells #[.int .i64 0, .slice none 0 0] 29)) (Nat.le_refl _); have T3 : Hid (Two w3 (Wb.heap.size + 1) (.int .i64 0) (.slice none 0 0)) := Lib.hid (hk3 _ _ _ (by have := Two.new (Wb.drew.alloc (.cells #[] 31)) (.int .i64 0) (.slice none 0 0); simpa using this) (by omega)); have HO3 := Lib.hid ho3; have HB3 := Lib.hid hb3; have q2 := (T1.out.below hb3).c0; have q3 := (T1.out.below hb3).c1; have l3 := (T1.out.below hb3).lt; have t0 := T3.out.c0; have t1 := T3.out.c1; have f0 := T3.out.f 0; have f1 := T3.out.f 1; clear ho3 hb3 hap hk3)
      | (refine step_append_rr rfl (.tmp 10) (.tmp 12) rfl Wb.heap.size (.slice (some ⟨Wb.heap.size + 1, 0, none⟩) 0 0) 0 [] rfl (own_empty (Wb.drew.alloc (.cells #[.int .i64 0, .slice none 0 0] 29)) _ _ 31 (by simp) (by simp)) A n c rs rfl (HR.out.below (VC.out (.cells #[.int .i64 0, .slice none 0 0] 29))) (by omega) (by simp <;> omega) ?_; intro v3 w3 (hap : Appd ((Wb.drew.alloc (.cells #[.int .i64 0, .slice none 0 0] 29)).alloc (.cells #[] 31)) _ _ _ _ _ _ _); obtain ⟨A3, c3, rfl, ho3, hb3, hk3⟩ := appd_rows hap (VC.out (.cells #[.int .i64 0, .slice none 0 0] 29)) (by omega); have T3 : Hid (Two w3 Wb.heap.size (.int .i64 0) (.slice none 0 0)) := Lib.hid (hk3 _ _ _ ((Two.new Wb.drew (.int .i64 0) (.slice none 0 0)).below ((Below.refl _ _).alloc (Nat.le_refl _) _)) (by omega)); have HO3 := Lib.hid ho3; have HB3 := Lib.hid hb3; have q2 := (T1.out.below hb3).c0; have q3 := (T1.out.below hb3).c1; have l3 := (T1.out.below hb3).lt; have t0 := T3.out.c0; have t1 := T3.out.c1; have f0 := T3.out.f 0; have f1 := T3.out.f 1; clear ho3 hb3 hap hk3))
    all_goals
      obtain ⟨g, rfl⟩ : ∃ g, A3 = some ⟨g, 0, none⟩ := by
        rcases HO3.out.2 with ⟨_, h0⟩ | ⟨g, cap, cur, hv, _⟩
        · omega
        · cases hv; exact ⟨g, rfl⟩
      have R3 := Lib.hid ((show Two Wb (w.heap.size + 1) (.int .i64 0) (.slice none 0 0) by have := T2.out; simpa using this).below HB3.out)
      first
        | (have HD := Lib.hid (⟨(T3.out.set0 (.int .i64 x)).set1 (.slice (some ⟨g, 0, none⟩) n c3), own_two (own_two HO3.out (by decide) T3.out _) (by decide) (T3.out.set0 _) _, (R3.out.kept (grown_set _) (by have := R3.out.lt; have := HSZ.out; simp; omega)).kept (grown_set _) (by have := HSZ.out; simp; omega), (HB3.out.setCell (by simp) _).setCell (by simp) _⟩ : Wd w Wb _ x rs _ n g c3))
        | (have HD := Lib.hid (⟨Two.new w3 (.int .i64 x) (.slice (some ⟨g, 0, none⟩) n c3), HO3.out.alloc _, R3.out.below ((Below.refl _ _).alloc (Nat.le_refl _) _), HB3.out.alloc HB3.out.size _⟩ : Wd w Wb _ x rs _ n g c3))
      clear q0 q1 q2 q3
      go_wp2_with fail
      go_meet
      exact ⟨_, _, _, rfl, HD.out⟩
  case rest =>
    obtain ⟨B, g, c3, rfl, hd⟩ := hcut
    have HD := Lib.hid hd
    clear hd
    obtain ⟨⟨v5, hc5⟩, hf5, hB5, hR5⟩ := HD.out.facts hk (.slice A' n' c')
    have b0 := HD.out.box.c0
    have b1 := HD.out.box.c1
    have b2 := hB5.c0
    have b3 := hB5.c1
    have r0 := hR5.c0
    have r1 := hR5.c1
    have s0 := hR5.f 0
    have s1 := hR5.f 1
    have RR5 := Lib.hid hR5
    clear hB5 hR5
    have hk' : (k : Int) < (n : Int) := by omega
    go_wp2
    refine bodyPost_ret (with_results rfl ((RR5.out.set0 _).set1 _)) rfl ?_
    exact HD.out.done hk HRW.out HZ.out HB0.out hn

end Go.Proofs.Ytalcnkoidmoibaa
