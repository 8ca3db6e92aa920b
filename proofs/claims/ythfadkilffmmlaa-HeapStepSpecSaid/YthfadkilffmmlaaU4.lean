/-
  The reference's scaled, where it rescales. No condition.
-/
import Derived.Test.YthfadkilffmmlaaU3
import Derived.Deep.RegionLaw
namespace Go.Proofs.Ythfadkilffmmlaa
open Go.RowKit
set_option linter.unusedVariables false
set_option linter.unusedSimpArgs false

theorem step_append_ri {w : World} {ops : Array Oper} {o : Oper} {a : Act} {K : Act → World → Prop} {Q : Exit → Act → World → Prop} {E : Prop} (hgd : o.guard = none) (s x : Operand)
    (ho : o.op = .call { callee := .builtin .append, args := #[s, x], argTypes := #[22, 22] }) (base : Nat) (v : Value) (n : Nat) (xs : List Int) (hs : a.eval s = v) (hown : w.ownsRow base 3 1 v n (xs.map (Value.int .i64)))
    (A : Option Addr) (m c : Nat) (zs : List Int) (hx : a.eval x = .slice A m c) (hr : RI w A m c zs) (hbytes : (n + m) * 8 ≤ 140737488355328) (hbase : base ≤ w.heap.size)
    (h : ∀ v' w', w'.ownsRow base 3 1 v' (n + m) ((xs ++ zs).map (Value.int .i64)) → w.grownBy w' v.ownBlock → (v'.ownBlock = v.ownBlock ∨ v'.ownBlock = some w.heap.size) → K (a.put o.dst v') w') :
    if Region.wanted o (yielded ops a.tmps) = true then Oper.wp Try.prog o a w K Q else E := by
  obtain ⟨i0, hi, hz0, hz1, hz2⟩ := info_parts infoInt
  have hw : Region.wanted o (yielded ops a.tmps) = true := by simp [Region.wanted, hgd]
  rw [if_pos hw]
  have hrun : ∃ v' w', (Builtin.append_ #[22, 22] o.type #[v, .slice A m c]).run Try.prog w = .ok v' w' ∧ w'.ownsRow base 3 1 v' (n + m) ((xs ++ zs).map (Value.int .i64)) ∧ w.grownBy w' v.ownBlock ∧ (v'.ownBlock = v.ownBlock ∨ v'.ownBlock = some w.heap.size) := by
    cases A with
    | none =>
      have hm : m = 0 := by
        rcases Nat.eq_zero_or_pos m with h0 | h0
        · exact h0
        · obtain ⟨b, off, he, _⟩ := hr.cells h0; cases he
      subst hm
      have hz : zs = [] := List.eq_nil_of_length_eq_zero hr.len
      subst hz
      exact ⟨v, w, run_append_nil w base o.type i0 hi v n _ hown c, by simpa using hown, World.grownBy.refl w _, .inl rfl⟩
    | some ad =>
      have hnews : ∀ j u, (zs.map (Value.int .i64))[j]? = some u → w.cell? (ad.add j) = some u := by
        intro j u hj
        have hjn : j < m := by have := (List.getElem?_eq_some_iff.1 hj).1; simpa [hr.len] using this
        obtain ⟨b, off, he, _⟩ := hr.cells (by omega)
        injection he with he
        subst he
        exact hr.news j u hj
      obtain ⟨v', w', h1, h2, h3, _, h5⟩ := run_append_own_at (P := Try.prog) w base 22 o.type 3 i0 (.int .i64 0) 1 8 Try.underlying22 hi hz0 hz1 hz2 rfl (by decide) v n _ hown ad m c (zs.map (Value.int .i64)) (by simp [hr.len]) hnews (by intro u hu; obtain ⟨x, _, rfl⟩ := List.mem_map.1 hu; rfl) (by unfold maxLen; omega) hbytes hbase
      exact ⟨v', w', h1, by rw [List.map_append]; exact h2, h3, h5⟩
  obtain ⟨v', w', h1, h2, h3, h4⟩ := hrun
  unfold Oper.wp
  simp only [execOp, ho, resolve, invoke, builtin, Sem.run_bind, Sem.run_pure, Result.andThen_ok, List.map_toArray, List.map_cons, List.map_nil, hs, hx, h1]
  exact h v' w' h2 h3 h4

theorem RI.one (w : World) (x : Int) : RI (w.alloc (.cells #[.int .i64 x] 3)) (some ⟨w.heap.size, 0, none⟩) 1 1 [x] := by
  refine ⟨rfl, Nat.le_refl _, by omega, by unfold maxLen; omega, fun _ => ⟨_, _, rfl, by simp, fun j hj => ?_⟩⟩
  have : j = 0 := by omega
  subst this
  exact cell_one_new w (.int .i64 x) 3 0 _ rfl
theorem RI.drewn {w : World} {A : Option Addr} {n c : Nat} {zs : List Int} (h : RI w A n c zs) : RI w.drew A n c zs := h.drew

theorem grown_below_drew {w w1 : World} {o : Obj} {row : Option Nat} (hg : ((w.alloc o).drew).grownBy w1 row) : w.grownBy w1 row := grown_below (w := w) (o := o) ⟨hg.os, hg.tape, hg.output, hg.size, hg.block⟩

/-- what scaled leaves where it rescales -/
def RScV (act l : List Int) (y : Int) (w : World) (e : Ending) (w' : World) : Prop :=
  ∃ (A : Option Addr) (c : Nat) (A' : Option Addr) (c' : Nat) (l' : List Int), e = .returned (.agg #[.slice A act.length c, .slice A' l.length c', .int .i64 y]) ∧ RI w' A act.length c act ∧ RI w' A' l.length c' l' ∧ l'.Perm l ∧ SortedSeg act 0 l.length l' ∧ Fr w A ∧ Fr w A' ∧ Below w.heap.size w w'

theorem down_take (act : List Int) (k : Nat) (h : k < act.length) : (down act).take (k + 1) = (down act).take k ++ [elt act k / 1024] := by
  rw [take_snoc _ _ (by rw [down_len]; exact h), elt_down _ _ h]

set_option maxRecDepth 100000 in
set_option maxHeartbeats 8000000 in
theorem rscaled_big (A : Option Addr) (n c : Nat) (act : List Int) (A' : Option Addr) (n' c' : Nat) (l : List Int) (y : Int) (w : World) (h : RI w A n c act) (h' : RI w A' n' c' l) (h0 : 0 < n) (hb : bigB act y = true) (hm : Mid act) (hy0 : 0 ≤ y) (hy1 : y ≤ 4398046511104) (hd : Dom n l) (hn' : n' ≤ 1000000) (hna : n ≤ 1000000) :
    Calls Try.prog 39 #[.agg #[.slice A n c, .slice A' n' c', .int .i64 y]] w (RScV (down act) l (max 1 (y / 1024)) w) := by
  obtain ⟨i0, hi, hz0, hz1, hz2⟩ := info_parts infoInt
  obtain rfl : act.length = n := h.len
  obtain rfl : l.length = n' := h'.len
  have hn := h.small
  obtain ⟨b, off, rfl, hbl, hc⟩ := h.cells h0
  have HC := Lib.hid hc
  have H := Lib.hid h
  have H' := Lib.hid h'
  have HD := Lib.hid hd
  have HG : Hid (grB act y act.length = true) := by show _ = _; rw [grB_full h0]; exact hb
  have HM := Lib.hid hm
  clear hc h h' hb hd hm
  go_enter Try.func39, Try.ntmps39
  go_wp2_with fail
  go_loop [3, 4] (fun s3 s4 => ∃ k : Nat, k ≤ act.length ∧ s3 = .bool (grB act y k) ∧ s4 = .int .i64 k) (fun _ i => act.length - (intOf i).toNat)
  case atStart => exact ⟨0, Nat.zero_le _, by simp [grB], rfl⟩
  case round =>
    obtain ⟨k, hk, rfl, rfl⟩ := hrel
    by_cases hlt : k < act.length
    · have hck := HC.out k hlt
      have HS := Lib.hid (grB_succ (y := y) hlt)
      generalize hg : grB act y k = g
      have HGK := Lib.hid hg
      clear hg
      cases g
      · by_cases hx : 1099511627776 < elt act k
        · go_wp2_with fail
          go_round
          case rel => exact ⟨k + 1, by omega, by rw [HS.out, HGK.out]; simp [hx], by go_num⟩
          case measure => simp [intOf]; omega
        · go_wp2_with fail
          go_round
          case rel => exact ⟨k + 1, by omega, by rw [HS.out, HGK.out, decide_eq_false hx]; rfl, by go_num⟩
          case measure => simp [intOf]; omega
      · go_wp2_with fail
        go_round
        case rel => exact ⟨k + 1, by omega, by rw [HS.out, HGK.out]; rfl, by go_num⟩
        case measure => simp [intOf]; omega
    · have hkn : k = act.length := by omega
      subst hkn
      rw [HG.out]
      go_wp2_with fail
      go_loopw [6] (fun s6 wr => ∃ (k : Nat) (O : Option Addr) (co : Nat), k ≤ act.length ∧ s6 = .int .i64 k ∧ Box wr (w.heap.size + 1 + 1) (.slice O k co) (.slice A' l.length c') (.int .i64 (max 1 (y / 1024))) ∧
          wr.ownsRow (w.heap.size + 3) 3 1 (.slice O k co) k (((down act).take k).map (Value.int .i64)) ∧ Box wr w.heap.size (.slice (some ⟨b, off, none⟩) act.length c) (.slice A' l.length c') (.int .i64 y) ∧
          Box wr (w.heap.size + 1) (.slice none 0 0) (.slice none 0 0) (.int .i64 0) ∧ Below w.heap.size w wr) (fun i _ => act.length - (intOf i).toNat)
      case atStart =>
        refine ⟨0, none, 0, Nat.zero_le _, rfl, ?_, World.ownsRow_nil _ _ _ _, ?_, ?_, ?_⟩
        · have e := Box.new ((w.alloc (.cells #[.slice (some ⟨b, off, none⟩) act.length c, .slice A' l.length c', .int .i64 y] 24)).alloc (.cells #[.slice none 0 0, .slice none 0 0, .int .i64 0] 24)) (.slice none 0 0) (.slice A' l.length c') (.int .i64 (max 1 (y / 1024)))
          simpa using e
        · exact (Below.heap_alloc _ _ _ (by simp; omega)).trans ((Below.heap_alloc _ _ _ (by simp)).trans (heap_alloc_new _ _))
        · have e := heap_alloc_new (w.alloc (.cells #[.slice (some ⟨b, off, none⟩) act.length c, .slice A' l.length c', .int .i64 y] 24)) (.cells #[.slice none 0 0, .slice none 0 0, .int .i64 0] 24)
          exact (Below.heap_alloc _ _ _ (by simp)).trans (by simpa using e)
        · exact (((Below.refl _ _).alloc (Nat.le_refl _) _).alloc (by simp) _).alloc (by simp; omega) _
      case round =>
        obtain ⟨k, O, co, hk, rfl, bX, hO, bH, bR, hbl2⟩ := hrel
        have BX := Lib.hid bX
        have HO := Lib.hid hO
        have BH := Lib.hid bH
        have BR := Lib.hid bR
        have HB := Lib.hid hbl2
        have hsz : w.heap.size + 1 + 1 < wr.heap.size := lt_of_block bX
        clear bX hO bH bR hbl2
        have p0 := BH.out.c0; have p1 := BH.out.c1; have p2 := BH.out.c2
        have q0 := BX.out.c0; have q1 := BX.out.c1; have q2 := BX.out.c2
        by_cases hlt : k < act.length
        · have hck := (HB.out.cell (p := ⟨b, off + k, none⟩) hbl).trans (HC.out k hlt)
          have hrk := HM.out k hlt
          have lk : (k : Int) < (act.length : Int) := by omega
          have f0 := BX.out.f 0
          have DT := Lib.hid (down_take act k hlt)
          have hown := HO.out
          have hdv : IntKind.i64.wrap ((elt act k).tdiv 1024) = elt act k / 1024 := by rw [Int.tdiv_eq_ediv_of_nonneg hrk.1, IntKind.wrap_i64]; omega
          go_wp2_with fail
          go_region_law ((refine step_append_ri rfl (.tmp 44) (.tmp 51) rfl (w.heap.size + 3) (.slice O k co) k ((down act).take k) rfl (hown.alloc _) (some ⟨wr.heap.size, 0, none⟩) 1 1 [elt act k / 1024] rfl (RI.drewn (RI.one wr (elt act k / 1024))) (by omega) (by show w.heap.size + 3 ≤ (wr.alloc _).heap.size; simp; omega) ?_; intro v1 w1 o1 g1 l1; have G1 := grown_below_drew g1; obtain ⟨O1, co1, rfl⟩ := own_form o1; have HO1 := Lib.hid o1; have BX1 := Lib.hid (BX.out.grown G1 (own_box HO.out BX.out)); have BH1 := Lib.hid (BH.out.grown G1 (own_box HO.out BH.out)); have BR1 := Lib.hid (BR.out.grown G1 (own_box HO.out BR.out)); have HB1 := Lib.hid (HB.out.grown G1 HB.out.size (fun g hg => Nat.le_trans (Nat.le_add_right _ _) (own_lt HO.out hg).1)); have r0 := BX1.out.c0; have r1 := BX1.out.f 0; clear o1 g1 l1 G1))
          all_goals
            clear hdv
            go_wp2_with fail
            go_roundw
            case rel =>
              have GS := set_grown w1 ⟨w.heap.size + 1 + 1, 0, none⟩ (.slice O1 (k + 1) co1)
              refine ⟨k + 1, O1, co1, by omega, by go_num, box_set0 BX1.out, ?_, BH1.out.grown GS (by first | (simp; done) | (simp; omega)), BR1.out.grown GS (by first | (simp; done) | (simp; omega)), HB1.out.setCell (by first | (simp; done) | (simp; omega)) _⟩
              rw [DT.out]
              exact own_grown HO1.out GS (fun g hg e => own_box HO1.out BX1.out (hg.trans e.symm))
            case measure => simp [intOf]; omega
        · have hkn : k = act.length := by omega
          subst hkn
          have ho := HO.out
          rw [List.take_of_length_le (by rw [down_len]; omega)] at ho
          have RO : Hid (RI wr O act.length co (down act)) := RI.of_own ho (by omega)
          have FO : Hid (∀ b off, O = some ⟨b, off, none⟩ → w.heap.size + 3 ≤ b) := fun b off e => (own_lt HO.out (g := b) (by rw [e]; rfl)).1
          have dl : (down act).length = act.length := down_len act
          have DL := Lib.hid dl
          clear ho dl hlt
          go_wp2_with fail
          refine (ordered_any O act.length co (down act) A' _ c' l _ _ RO.out (H'.out.below HB.out) HD.out hn').mono ?_
          rintro e w2 ⟨E', d', l2, rfl, r2, hp2, hs2, hfr2, hb2⟩
          have R2 := Lib.hid r2
          have P2 := Lib.hid hp2
          have S2 := Lib.hid hs2
          have RO2 := Lib.hid (RO.out.below hb2)
          have BR2 := Lib.hid (BR.out.below hb2)
          have HB2 := Lib.hid (HB.out.trans (hb2.mono HB.out.size))
          have FR : Hid (∀ b off, E' = some ⟨b, off, none⟩ → w.heap.size + 3 ≤ b) := fun b off e => by have := hfr2 b off e; omega
          clear r2 hp2 hs2 hb2 hfr2 q0 q1 q2 p0 p1 p2
          have hsm : bigB (down act) (max 1 (y / 1024)) = false := by
            refine big_of (by omega) (by rw [DL.out]; exact h0) fun j hj => ?_
            rw [DL.out] at hj
            have := HM.out j hj
            rw [elt_down _ _ hj]; omega
          go_wp2_with fail
          refine (rscaled_small O act.length co (down act) E' _ d' _ _ RO2.out h0 hsm).mono ?_
          rintro e w3 ⟨rfl, hb3⟩
          have R3 := Lib.hid (R2.out.below hb3)
          have RO3 := Lib.hid (RO2.out.below hb3)
          have BR3 := Lib.hid (BR2.out.below hb3)
          have HB3 := Lib.hid (HB2.out.trans (hb3.mono HB2.out.size))
          clear hb3
          have s0 := BR3.out.c0; have s1 := BR3.out.c1; have s2 := BR3.out.c2
          have f0 := BR3.out.f 0; have f1 := BR3.out.f 1; have f2 := BR3.out.f 2
          go_wp2_with fail
          refine bodyPost_ret (v := .agg #[.slice O act.length co, .slice E' l.length d', .int .i64 (max 1 (y / 1024))]) (by simp [results, Try.results39, go_sem, s0, s1, s2]) rfl ?_
          refine ⟨O, co, E', d', l2, by rw [DL.out], ?_, ?_, P2.out, S2.out, (fun b off e => by have := FO.out b off e; omega), (fun b off e => by have := FR.out b off e; omega), ((HB3.out.setCell (by simp) _).setCell (by simp) _).setCell (by simp) _⟩
          · rw [DL.out]; exact RO3.out.keep3 fun b off e => by have := FO.out b off e; omega
          · exact R3.out.keep3 fun b off e => by have := FR.out b off e; omega

end Go.Proofs.Ythfadkilffmmlaa
