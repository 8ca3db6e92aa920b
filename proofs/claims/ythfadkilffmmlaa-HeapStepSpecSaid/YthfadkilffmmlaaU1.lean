/-
  An append of a slice that reads as a list; the reference's put and without. No condition.
-/
import Derived.Test.YthfadkilffmmlaaC2
import Derived.Test.YthfadkilffmmlaaT1
import Derived.Deep.CutBlock
import Derived.Deep.DeepCutAuto
namespace Go.Proofs.Ythfadkilffmmlaa
open Go.RowKit
set_option linter.unusedVariables false
set_option linter.unusedSimpArgs false

theorem run_append_nil (w : World) (base : Nat) (ty : TypeId) (i0 : TypeInfo) (hi : Try.prog.info? 3 = some i0) (v : Value) (n : Nat) (xs : List Value) (hown : w.ownsRow base 3 1 v n xs) (c : Nat) :
    (Builtin.append_ #[22, 22] ty #[v, .slice none 0 c]).run Try.prog w = .ok v w := by
  rcases hown.2 with ⟨rfl, rfl⟩ | ⟨g, cap, cur, rfl, _, _, hnc, _⟩
  · simp [Builtin.append_, run_underlying Try.underlying22, sizeOf, typeInfo, hi, Builtin.lenOf, Builtin.firstCells]
  · simp [Builtin.append_, run_underlying Try.underlying22, sizeOf, typeInfo, hi, Builtin.lenOf, Builtin.firstCells, hnc, storeCells]

theorem RI.news {w : World} {b off n c : Nat} {zs : List Int} (h : RI w (some ⟨b, off, none⟩) n c zs) : ∀ j u, (zs.map (Value.int .i64))[j]? = some u → w.cell? (Addr.add ⟨b, off, none⟩ j) = some u := by
  intro j u hj
  have hl := h.len
  have hjn : j < n := by have := (List.getElem?_eq_some_iff.1 hj).1; simpa [hl] using this
  obtain ⟨b', off', he, hb, hc⟩ := h.cells (by omega)
  simp only [Option.some.injEq, Addr.mk.injEq] at he
  obtain ⟨rfl, rfl, _⟩ := he
  rw [Addr.add_lit, hc j hjn]
  rw [List.getElem?_map, List.getElem?_eq_getElem (by rw [hl]; exact hjn)] at hj
  rw [elt_lt (by rw [hl]; exact hjn)]
  exact hj
theorem RI.form {w : World} {A : Option Addr} {n c : Nat} {zs : List Int} (h : RI w A n c zs) : (A = none ∧ n = 0 ∧ zs = []) ∨ n = 0 ∧ zs = [] ∨ ∃ b off, A = some ⟨b, off, none⟩ := by
  rcases Nat.eq_zero_or_pos n with h0 | h0
  · right; left; exact ⟨h0, List.eq_nil_of_length_eq_zero (by rw [h.len]; exact h0)⟩
  · obtain ⟨b, off, e, _⟩ := h.cells h0
    right; right; exact ⟨b, off, e⟩

theorem wpList_append_ri {w : World} {ops : Array Oper} {rest : List Oper} {o : Oper} {a : Act} {Q : Exit → Act → World → Prop} (hgd : o.guard = none) (s x : Operand)
    (ho : o.op = .call { callee := .builtin .append, args := #[s, x], argTypes := #[22, 22] }) (base : Nat) (v : Value) (n : Nat) (xs : List Int) (hs : a.eval s = v) (hown : w.ownsRow base 3 1 v n (xs.map (Value.int .i64)))
    (A : Option Addr) (m c : Nat) (zs : List Int) (hx : a.eval x = .slice A m c) (hr : RI w A m c zs) (hbytes : (n + m) * 8 ≤ 140737488355328) (hbase : base ≤ w.heap.size)
    (h : ∀ v' w', w'.ownsRow base 3 1 v' (n + m) ((xs ++ zs).map (Value.int .i64)) → w.grownBy w' v.ownBlock → (v'.ownBlock = v.ownBlock ∨ v'.ownBlock = some w.heap.size) → wpList Try.prog ops Q rest (a.put o.dst v') w') :
    wpList Try.prog ops Q (o :: rest) a w := by
  obtain ⟨i0, hi, hz0, hz1, hz2⟩ := info_parts infoInt
  cases A with
  | none =>
    have hm : m = 0 := by
      rcases Nat.eq_zero_or_pos m with h0 | h0
      · exact h0
      · obtain ⟨b, off, he, _⟩ := hr.cells h0; cases he
    subst hm
    have hz : zs = [] := List.eq_nil_of_length_eq_zero hr.len
    subst hz
    refine wpList_plain hgd fun K hK => ?_
    have hrun := run_append_nil w base o.type i0 hi v n _ hown c
    unfold Oper.wp
    simp only [execOp, ho, resolve, invoke, builtin, Sem.run_bind, Sem.run_pure, Result.andThen_ok, List.map_toArray, List.map_cons, List.map_nil, hs, hx, hrun]
    exact hK _ _ (h v w (by simpa using hown) (World.grownBy.refl w _) (.inl rfl))
  | some ad =>
    have hnews : ∀ j u, (zs.map (Value.int .i64))[j]? = some u → w.cell? (ad.add j) = some u := by
      intro j u hj
      have hjn : j < m := by have := (List.getElem?_eq_some_iff.1 hj).1; simpa [hr.len] using this
      obtain ⟨b, off, he, _⟩ := hr.cells (by omega)
      injection he with he
      subst he
      exact hr.news j u hj
    refine wpList_append_own_at w hgd s x 22 ho base 3 i0 (.int .i64 0) 1 8 Try.underlying22 hi hz0 hz1 hz2 rfl (by decide) v n _ hs hown ad m c (zs.map (Value.int .i64)) hx (by simp [hr.len]) hnews (by intro u hu; obtain ⟨x, _, rfl⟩ := List.mem_map.1 hu; rfl) (by unfold maxLen; omega) hbytes hbase ?_
    intro v' w' h1 h2 _ h4
    exact h v' w' (by rw [List.map_append]; exact h1) h2 h4

theorem RI.take {w : World} {A : Option Addr} {n c : Nat} {zs : List Int} (h : RI w A n c zs) {k : Nat} (hk : k ≤ n) : RI w A k c (zs.take k) := by
  have hb := h.big
  have hc := h.cap
  refine ⟨by simp [h.len]; omega, by omega, by omega, h.cmax, fun h0 => ?_⟩
  obtain ⟨b, off, rfl, hlt, hcs⟩ := h.cells (by omega)
  refine ⟨b, off, rfl, hlt, fun j hj => ?_⟩
  rw [hcs j (by omega)]
  unfold elt
  simp [List.getD_eq_getElem?_getD, List.getElem?_take, hj]
theorem RI.cutK {w : World} {b off n c : Nat} {zs : List Int} (h : RI w (some ⟨b, off, none⟩) n c zs) {k : Nat} (hk : k ≤ n) :
    RI w (if c = k then some ⟨b, off, none⟩ else some ⟨b, off + k, none⟩) (n - k) (c - k) (zs.drop k) := by
  have hl := h.len
  have hc := h.cap
  have hb := h.big
  have hm := h.cmax
  refine ⟨by simp [hl], by omega, by omega, by omega, fun h0 => ?_⟩
  obtain ⟨b', off', he, hlt, hcs⟩ := h.cells (by omega)
  simp only [Option.some.injEq, Addr.mk.injEq] at he
  obtain ⟨rfl, rfl, _⟩ := he
  rw [if_neg (by omega)]
  refine ⟨b, off + k, rfl, hlt, fun j hj => ?_⟩
  have := hcs (k + j) (by omega)
  rw [show off + (k + j) = off + k + j by omega] at this
  rw [this]
  simp [elt, List.getD_eq_getElem?_getD]

/-- a row of ints, handed back -/
def RowV (zs : List Int) (w : World) (e : Ending) (w' : World) : Prop :=
  ∃ (A : Option Addr) (c : Nat), e = .returned (.slice A zs.length c) ∧ RI w' A zs.length c zs ∧ Fr w A ∧ Below w.heap.size w w'
theorem own_form {w : World} {base : Nat} {v : Value} {n : Nat} {xs : List Value} (h : w.ownsRow base 3 1 v n xs) : ∃ A c, v = .slice A n c := by
  rcases h.2 with ⟨rfl, rfl⟩ | ⟨g, cap, cur, rfl, _⟩
  · exact ⟨none, 0, rfl⟩
  · exact ⟨_, _, rfl⟩

theorem others_take (l : List Int) (k : Nat) (v : Int) (h : k < l.length) : others (l.take (k + 1)) v = if elt l k = v then others (l.take k) v else others (l.take k) v ++ [elt l k] := by
  rw [take_snoc l k h]
  unfold others
  rw [List.filter_append]
  by_cases e : elt l k = v <;> simp [e]
theorem others_len (l : List Int) (v : Int) : (others l v).length ≤ l.length := by unfold others; exact List.length_filter_le _ _

set_option maxHeartbeats 2000000 in
theorem without_any (A : Option Addr) (n c : Nat) (l : List Int) (v : Int) (w : World) (h : RI w A n c l) (hn : n ≤ 1000000) :
    Calls Try.prog 38 #[.slice A n c, .int .i64 v] w (RowV (others l v) w) := by
  obtain ⟨i0, hi, hz0, hz1, hz2⟩ := info_parts infoInt
  have H := Lib.hid h
  clear h
  go_enter Try.func38, Try.ntmps38
  go_wp2_with fail
  go_loopw [5, 6] (fun s5 s6 wr => ∃ (k : Nat) (O : Option Addr) (co : Nat), k ≤ n ∧ s6 = .int .i64 k ∧ s5 = .slice O (others (l.take k) v).length co ∧
      wr.ownsRow w.heap.size 3 1 (.slice O (others (l.take k) v).length co) (others (l.take k) v).length ((others (l.take k) v).map (Value.int .i64)) ∧ Below w.heap.size w wr) (fun _ i _ => n - (intOf i).toNat)
  case atStart => exact ⟨0, none, 0, Nat.zero_le _, rfl, rfl, World.ownsRow_nil _ _ _ _, Below.refl _ _⟩
  case round =>
    obtain ⟨k, O, co, hk, rfl, rfl, hO, hb⟩ := hrel
    have HO := Lib.hid hO
    have HB := Lib.hid hb
    have hob := others_len (l.take k) v
    have hob2 : (others (l.take k) v).length ≤ k := by have : (l.take k).length ≤ k := List.length_take_le _ _; omega
    generalize hL : (others (l.take k) v).length = L at hO HO hob hob2 ⊢
    have HL := Lib.hid hL
    clear hL hob hO hb
    by_cases hlt : k < n
    · obtain ⟨b, off, rfl, hbl, hc⟩ := (H.out.below HB.out).cells (by omega)
      have hck := hc k hlt
      have hll : k < l.length := by rw [H.out.len]; exact hlt
      have HLL := Lib.hid hll
      clear hc hll
      by_cases hv : elt l k = v
      · have hvd : (elt l k != v) = false := by simp [hv]
        have E : Hid (others (l.take (k + 1)) v = others (l.take k) v) := by show _ = _; rw [others_take _ _ _ HLL.out, if_pos hv]
        clear hv
        go_wp2_with fail
        go_roundw
        case rel =>
          refine ⟨k + 1, O, co, by omega, by go_num, ?_, ?_, HB.out⟩
          · rw [E.out, HL.out]
          · rw [E.out, HL.out]; exact HO.out
        case measure => simp [intOf]; omega
      · have hvd : (elt l k != v) = true := by simpa using hv
        have E : Hid (others (l.take (k + 1)) v = others (l.take k) v ++ [elt l k]) := by show _ = _; rw [others_take _ _ _ HLL.out, if_neg hv]
        clear hv
        have hown := HO.out
        have hsz := HB.out.size
        go_wp2_with (at_builtin; refine wpList_append_own_at _ rfl (.tmp 19) (.tmp 24) 22 rfl w.heap.size 3 i0 (.int .i64 0) 1 8 Try.underlying22 hi hz0 hz1 hz2 rfl (by decide) (.slice O L co) L _ rfl (hown.alloc _) ⟨wr.heap.size, 0, none⟩ 1 1 [.int .i64 (elt l k)] rfl rfl (cell_one_new _ _ _) (by simp [Value.oneCell']) (by unfold maxLen; omega) (by omega) (by simp; omega) ?_; intro v' w1 hown' hgrow hnil hloc; obtain ⟨g', cap', rfl⟩ := own_succ hown'; have G1 := Lib.hid (grown_below hgrow); have O1 := Lib.hid hown'; have OL := Lib.hid (fun g hg => (own_lt hown (g := g) hg).1); clear hown hown' hgrow hnil hloc)
        go_roundw
        case rel =>
          have el : (others (l.take (k + 1)) v).length = L + 1 := by rw [E.out, List.length_append, HL.out]; rfl
          refine ⟨k + 1, some ⟨g', 0, none⟩, cap', by omega, by go_num, ?_, ?_, ?_⟩
          · rw [el]
          · rw [el, E.out, List.map_append]; exact O1.out
          · exact HB.out.grown G1.out HB.out.size (fun g hg => OL.out g hg)
        case measure => simp [intOf]; omega
    · have hkn : l.take k = l := List.take_of_length_le (by rw [H.out.len]; omega)
      rw [hkn] at HL HO
      go_wp2_with fail
      go_ret
      refine ⟨O, co, by rw [HL.out]; rfl, ?_, fun b off e => ?_, HB.out⟩
      · rw [HL.out]; exact RI.of_own HO.out (by omega)
      · exact (own_lt HO.out (g := b) (by rw [e]; rfl)).1

end Go.Proofs.Ythfadkilffmmlaa
