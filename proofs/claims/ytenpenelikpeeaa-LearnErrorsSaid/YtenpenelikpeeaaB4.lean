/-
  variable, told of the package learn; Var, Rising of the reference; sorted rows. No condition.
-/
import Derived.Test.YtenpenelikpeeaaB2
import Derived.Test.YtenpenelikpeeaaShelf
namespace Go.Proofs.Ytenpenelikpeeaa
open Go.RowKit Go.Shelf Go.Sort Go.Lib
set_option linter.unusedVariables false
set_option linter.unusedSimpArgs false

/-- sorted by variable, each variable once -/
def AscV (l : List Int) : Prop := l.Pairwise fun x y => absI x < absI y
theorem ascV_unique : ∀ (a b : List Int), AscV a → AscV b → (∀ x, x ∈ a ↔ x ∈ b) → a = b
  | [], [], _, _, _ => rfl
  | [], y :: b, _, _, h => by have := (h y).2 (by simp); cases this
  | x :: a, [], _, _, h => by have := (h x).1 (by simp); cases this
  | x :: a, y :: b, ha, hb, h => by
    have hx := List.pairwise_cons.1 ha
    have hy := List.pairwise_cons.1 hb
    have hxy : x = y := by
      rcases List.mem_cons.1 ((h x).1 (by simp)) with e | e
      · exact e
      · rcases List.mem_cons.1 ((h y).2 (by simp)) with e2 | e2
        · exact e2.symm
        · have h1 := hy.1 x e
          have h2 := hx.1 y e2
          omega
    subst hxy
    rw [ascV_unique a b hx.2 hy.2 fun z => ?_]
    constructor
    · intro hz
      rcases List.mem_cons.1 ((h z).1 (by simp [hz])) with e | e
      · have := hx.1 z hz; rw [e] at this; omega
      · exact e
    · intro hz
      rcases List.mem_cons.1 ((h z).2 (by simp [hz])) with e | e
      · have := hy.1 z hz; rw [e] at this; omega
      · exact e

set_option maxHeartbeats 400000 in
theorem variable_any (x : Int) (w : World) (h0 : -65536 ≤ x) (h1 : x ≤ 65536) : Calls Try.prog 46 #[.int .i64 x] w fun e w' => e = .returned (.int .i64 (absI x)) ∧ w = w' := by
  have hneg := lit_neg' h0 h1
  have hm : max x (-x) = absI x := by unfold absI; split <;> omega
  go_enter Try.func46, Try.ntmps46
  go_wp2
  go_ret
  exact ⟨rfl, rfl⟩

set_option maxHeartbeats 400000 in
theorem var20_any (x : Int) (w : World) (h0 : -65536 ≤ x) (h1 : x ≤ 65536) : Calls Try.prog 76 #[.int .i64 x] w fun e w' => e = .returned (.int .i64 (absI x)) ∧ w = w' := by
  have hneg := lit_neg' h0 h1
  have hm : max x (-x) = absI x := by unfold absI; split <;> omega
  go_enter Try.func76, Try.ntmps76
  go_wp2
  go_ret
  exact ⟨rfl, rfl⟩

theorem absI_nn (x : Int) : 0 ≤ absI x := by unfold absI; split <;> omega
theorem absI_le {x : Int} (h0 : -65536 ≤ x) (h1 : x ≤ 65536) : absI x ≤ 65536 := by unfold absI; split <;> omega

set_option maxHeartbeats 400000 in
theorem told1_any (x y : Int) (w : World) (h0 : -65536 ≤ x) (h1 : x ≤ 65536) (g0 : -65536 ≤ y) (g1 : y ≤ 65536) :
    Calls Try.prog 67 #[.int .i64 x, .int .i64 y] w fun e w' => e = .returned (.int .i64 (cmpI (absI x) (absI y))) ∧ w = w' := by
  have v1 := variable_any x w h0 h1
  have v2 := variable_any y w g0 g1
  go_enter Try.func67, Try.ntmps67
  go_wp2_with (first
    | (go_at_call 46; ((with_reducible refine v1.mono ?_)); rintro e w' ⟨rfl, rfl⟩)
    | (go_at_call 46; ((with_reducible refine v2.mono ?_)); rintro e w' ⟨rfl, rfl⟩)
    | (go_at_call 68; refine (compare_any _ _ _).mono ?_; rintro e w' ⟨rfl, rfl⟩))
  go_ret
  exact ⟨rfl, rfl⟩
theorem enters67 : ∀ args w, (callFunc 67 args).run Try.prog w = .ok (.enter 67 args) w := enters_of Try.func67 (by kernel_rfl) rfl

/-- literals without their opposites -/
def Cons (S : List Int) : Prop := Okl S ∧ ∀ x ∈ S, ¬ -x ∈ S
theorem absI_eq {x y : Int} (h : absI x = absI y) : x = y ∨ x = -y := by unfold absI at h; split at h <;> split at h <;> omega
theorem Cons.inj {S : List Int} (h : Cons S) {x y : Int} (hx : x ∈ S) (hy : y ∈ S) (e : absI x = absI y) : x = y := by
  rcases absI_eq e with e1 | e1
  · exact e1
  · exact absurd (by rw [e1] at hx; exact hx) (h.2 y hy)

/-- the elements of a set, as a type -/
abbrev InS (S : List Int) := { x : Int // x ∈ S ∧ Cons S }
def encS {S : List Int} (x : InS S) : Value := .int .i64 x.1
def cfS {S : List Int} (x y : InS S) : Int := cmpI (absI x.1) (absI y.1)
theorem cmpI_neg {x y : Int} : cmpI x y < 0 ↔ x < y := by unfold cmpI; (repeat' split) <;> omega
theorem ltOf_cfS {S : List Int} (x y : InS S) : ltOf cfS x y = decide (absI x.1 < absI y.1) := by
  unfold ltOf cfS
  rw [Bool.eq_iff_iff, decide_eq_true_eq, decide_eq_true_eq, cmpI_neg]
theorem swoS (S : List Int) : SWO (ltOf (cfS (S := S))) where
  irrefl x := by rw [ltOf_cfS]; simp
  trans x y z h1 h2 := by rw [ltOf_cfS, decide_eq_true_eq] at *; omega
  ntrans x y z h1 h2 := by rw [ltOf_cfS, decide_eq_false_iff_not] at *; omega
theorem totS (S : List Int) (x y : InS S) (h1 : ltOf cfS x y = false) (h2 : ltOf cfS y x = false) : x = y := by
  rw [ltOf_cfS, decide_eq_false_iff_not] at *
  exact Subtype.ext (x.2.2.inj x.2.1 y.2.1 (by omega))
theorem oneS (S : List Int) : OneCell (encS (S := S)) := fun _ => rfl
theorem cmpS (S : List Int) [Inhabited (InS S)] (blk off size : Nat) (w : World) : CmpLays1 Try.prog 67 #[] (encS (S := S)) cfS blk off size w := by
  intro m os dk hs x y
  have hx := x.2.2.1 _ x.2.1
  have hy := y.2.2.1 _ y.2.1
  refine (told1_any x.1 y.1 _ hx.2.1 hx.2.2 hy.2.1 hy.2.2).mono ?_
  rintro e w' ⟨rfl, rfl⟩
  exact ⟨rfl, 0, #[], by rw [grow_empty]; rfl⟩

/-- a row of one's own that reads as a list -/
def Own (w : World) (base g n cap : Nat) (zs : List Int) : Prop := w.ownsRow base 3 1 (.slice (some ⟨g, 0, none⟩) n cap) n (zs.map (Value.int .i64))
theorem below_grow {B : Nat} {a w : World} (h : Below B a w) (hB : B ≤ w.heap.size) (os : Array Obj) : Below B a (grow w os) :=
  ⟨h.os, h.tape, h.output, by simp only [grow, Array.size_append]; have := h.size; omega, fun k hk => by
    rw [← h.block k hk]; simp only [grow]; rw [Array.getElem?_append_left (by omega)]⟩
theorem map_encS {S : List Int} (l : List (InS S)) : l.map encS = (l.map (·.1)).map (Value.int .i64) := by rw [List.map_map]; rfl

theorem list_sub {S : List Int} (hC : Cons S) : ∀ (l : List Int), (∀ x ∈ l, x ∈ S) → ∃ l' : List (InS S), l'.map (·.1) = l
  | [], _ => ⟨[], rfl⟩
  | x :: l, h => by
    obtain ⟨l', e⟩ := list_sub hC l (fun y hy => h y (by simp [hy]))
    exact ⟨⟨x, h x (by simp), hC⟩ :: l', by simp [e]⟩

theorem sorted_asc {S : List Int} (l : List (InS S)) (hn : (l.map (·.1)).Nodup) : AscV ((l.mergeSort fun x y => !(ltOf cfS) y x).map (·.1)) := by
  have hp : (l.mergeSort fun x y => !(ltOf cfS) y x).Pairwise fun a b => (!(ltOf cfS) b a) = true := by
    refine List.pairwise_mergeSort (fun a b c h1 h2 => ?_) (fun a b => ?_) l
    · simp only [Bool.not_eq_true', ltOf_cfS, decide_eq_false_iff_not] at *; omega
    · simp only [Bool.or_eq_true, Bool.not_eq_true', ltOf_cfS, decide_eq_false_iff_not]; omega
  have hperm := List.mergeSort_perm l fun x y => !(ltOf cfS) y x
  have hnd : ((l.mergeSort fun x y => !(ltOf cfS) y x).map (·.1)).Nodup := (hperm.map _).nodup_iff.2 hn
  unfold AscV
  rw [List.pairwise_map]
  unfold List.Nodup at hnd
  rw [List.pairwise_map] at hnd
  refine (hp.and hnd).imp fun {a b} h => ?_
  obtain ⟨h1, h2⟩ := h
  simp only [Bool.not_eq_true', ltOf_cfS, decide_eq_false_iff_not] at h1
  rcases Int.lt_or_eq_of_le (Int.not_lt.1 h1) with h3 | h3
  · exact h3
  · exact absurd (a.2.2.inj a.2.1 b.2.1 h3) h2

set_option maxRecDepth 4000 in
theorem sort_own (S : List Int) (w : World) (base g m cap : Nat) (ls : List (InS S)) (h : Own w base g m cap (ls.map (·.1))) (hb : base ≤ g) (hm : m * 8 ≤ 140737488355328) (h0 : 0 < m) :
    Calls Try.prog 66 #[.slice (some ⟨g, 0, none⟩) m cap, .func (.func 67) #[] #[]] w fun e w' =>
      e = .returned (.tuple #[]) ∧ Own w' base g m cap ((ls.mergeSort fun x y => !(ltOf cfS) y x).map (·.1)) ∧ Below base w w' := by
  have hl0 : ls.length = m := by have := h.1; simpa using this
  haveI : Inhabited (InS S) := ⟨ls[0]'(by omega)⟩
  have h' : w.ownsRow base 3 1 (.slice (some ⟨g, 0, none⟩) m cap) m (ls.map encS) := by rw [map_encS]; exact h
  obtain ⟨g', cap', he, h1, h2, h3, h4, h5, h6⟩ := holds_of_ownsRow h' (by intro e; cases e)
  cases he
  have hn : m < 4611686018427387904 := by omega
  have hc := Try.slices_SortFunc_total encS (oneS S) cfS (swoS S) 67 #[] g 0 cap ls.toArray w enters67 (cmpS S _ _ _ w) h6 h2 (by simpa [h5] using hn) (totS S)
  have hs : ls.toArray.size = m := by simp [h5]
  rw [hs] at hc
  refine hc.mono ?_
  rintro e w' ⟨rfl, q, os, rfl⟩
  have hown := ownsRow_putRow (q := q) (k := m) (ys := ls.mergeSort fun x y => !(ltOf cfS) y x) h' (by simp [h5]) (Nat.le_refl _)
  rw [List.take_of_length_le (by simp [h5]), map_encS] at hown
  refine ⟨rfl, ?_, ?_⟩
  · have := ownsRow_grow hown 0 os
    exact this
  · have hbp := below_putRow (enc := encS) (q := q) (d := (ls.mergeSort fun x y => !(ltOf cfS) y x).toArray) (Below.refl base w) hb
    exact below_grow hbp (by simp [putRow, mapBlock, Sort.ahead]; omega) os

/-- what told hands back -/
def Told (S : List Int) (w : World) (e : Ending) (w' : World) : Prop :=
  ∃ (l : List Int) (A : Option Addr) (c : Nat), e = .returned (.slice A l.length c) ∧ RI w' A l.length c l ∧ AscV l ∧ (∀ x, x ∈ l ↔ x ∈ S) ∧ Below w.heap.size w w'

/-- the loop of told under way -/
structure Th (w wr : World) (b n : Nat) (S : List Int) (l : List Int) (left : Int → Bool) (cnt : Nat) (O : Option Addr) (co : Nat) : Prop where
  rng : MR 4 edB wr b w.heap.size n (setF S) left cnt
  own : wr.ownsRow (w.heap.size + 1) 3 1 (.slice O l.length co) l.length (l.map (Value.int .i64))
  below : Below w.heap.size w wr
  nd : l.Nodup
  mem : ∀ x, wfI x = true → (x ∈ l ↔ (x ∈ S ∧ left x = false))
  wf : ∀ x ∈ l, wfI x = true
  few : l.length + cnt ≤ n
  sub : ∀ x, wfI x = true → left x = true → hasB S x = true
  nil : l.length = 0 → O = none ∧ co = 0

theorem wpList_next_set {ops : Array Oper} {rest : List Oper} {o : Oper} {a : Act} {Q : Exit → Act → World → Prop} (w : World) (hg : o.guard = none) (it : Operand) (hop : o.op = Op.next it false) (b r n : Nat) (S : List Int) (left : Int → Bool) (cnt : Nat)
    (hit : a.eval it = .pointer (some ⟨r, 0, none⟩)) (h : MR 4 edB w b r n (setF S) left cnt)
    (hDone : cnt = 0 → (∀ x, wfI x = true → left x = false) → wpList Try.prog ops Q rest (a.put o.dst (.tuple #[.bool false])) w)
    (hMore : ∀ (x : Int) (w' : World) (cnt' : Nat), wfI x = true → left x = true → hasB S x = true → MR 4 edB w' b r n (setF S) (fun y => left y && !(y == x)) cnt' → cnt' < cnt →
      w.grownBy w' (some r) → w'.heap.size = w.heap.size → (Instr.entry (.pointer (some ⟨r, 0, none⟩))).run Try.prog w' = .ok (.tuple #[.int .i64 x, .bool true]) w' → wpList Try.prog ops Q rest (a.put o.dst (.tuple #[.bool true, .int .i64 x, .bool true])) w')
    (hsub : ∀ x, wfI x = true → left x = true → hasB S x = true) :
    wpList Try.prog ops Q (o :: rest) a w :=
  wpList_next_mf w ekB hg it hop b r n (setF S) left cnt hit h hDone (fun x c w' cnt' h1 h2 h3 h4 h5 h6 h7 h8 => by
    have hs := hsub x h1 h2
    have hc : c = true := by unfold setF at h3; rw [if_pos hs] at h3; cases h3; rfl
    subst hc
    exact hMore x w' cnt' h1 h2 hs h4 h5 h6 h7 h8) (fun x h1 h2 => by rw [setF_some]; exact hsub x h1 h2)

set_option maxRecDepth 100000 in
set_option maxHeartbeats 1000000 in
theorem told_any (b n : Nat) (S : List Int) (w : World) (h : SetM w b n S) (hC : Cons S) (hn : n ≤ 1000000) :
    Calls Try.prog 36 #[.map (some b)] w (Told S w) := by
  obtain ⟨i0, hi, hz0, hz1, hz2⟩ := info_parts infoInt
  have H := Lib.hid h
  have HC := Lib.hid hC
  have hbl := h.lt
  clear h hC
  go_enter Try.func36, Try.ntmps36
  go_wp2_with (at_range; refine wpList_range_mf _ rfl _ 61 rfl Try.underlying61 b n _ rfl H.out ?_; intro w0 cnt0 hrg0 hle0 hg0 hs0)
  go_frame
  have HT0 : Hid (Th w w0 b n S [] (fun x => (setF S x).isSome) cnt0 none 0) := Lib.hid ⟨hrg0, World.ownsRow_nil _ _ _ _, ⟨hg0.os, hg0.tape, hg0.output, hg0.size, fun k hk => hg0.block k hk (by simp)⟩, List.nodup_nil, fun x hx => by rw [setF_some]; simp only [List.not_mem_nil, false_iff, not_and]; intro h1; rw [hasB_iff.2 h1]; simp, (by simp), (by simpa using hle0), fun x hx h1 => by rwa [setF_some] at h1, fun _ => ⟨rfl, rfl⟩⟩
  clear hrg0 hg0 hs0 hle0
  go_loopw [3] (fun s3 W => ∃ (l : List Int) (left : Int → Bool) (cnt : Nat) (O : Option Addr) (co : Nat), s3 = .slice O l.length co ∧ Th w W b n S l left cnt O co) (fun _ W => W.rangeLeft b w.heap.size)
  case atStart => exact ⟨[], _, cnt0, none, 0, rfl, HT0.out⟩
  case round =>
    obtain ⟨l, left, cnt, O, co, rfl, hth⟩ := hrel
    have HTH := Lib.hid hth
    obtain ⟨L, hL⟩ : ∃ L, l.length = L := ⟨_, rfl⟩
    have HL := Lib.hid hL
    have hLn : L ≤ n := by have := hth.few; omega
    rw [hL]
    clear hth hL
    go_wp2_with (at_next; refine wpList_next_set _ rfl _ rfl b w.heap.size n S left cnt rfl HTH.out.rng ?_ ?_ HTH.out.sub)
    · intro hc0 hl0
      have HL0 := Lib.hid hl0
      have hmem : ∀ x, x ∈ l ↔ x ∈ S := fun x => by
        by_cases hx : wfI x = true
        · rw [HTH.out.mem x hx]; exact ⟨fun h => h.1, fun h => ⟨h, HL0.out x hx⟩⟩
        · exact ⟨fun h => absurd (HTH.out.wf x h) hx, fun h => absurd (wfI_lit (HC.out.1 x h).2.1 (HC.out.1 x h).2.2) hx⟩
      have HMEM := Lib.hid hmem
      have hsz := HTH.out.below.size
      have hrl := HTH.out.rng.lt
      clear hl0 hmem hc0
      by_cases h0 : L = 0
      · obtain ⟨rfl, rfl⟩ := HTH.out.nil (by rw [HL.out]; exact h0)
        subst h0
        have E : Hid (l = []) := Lib.hid (List.eq_nil_of_length_eq_zero HL.out)
        go_wp2_with (go_at_call 66; refine (Try.slices_SortFunc_none (α := Nat) none 0 (.func (.func 67) #[] #[]) _).mono ?_; rintro e w2 ⟨rfl, hw2⟩; subst hw2)
        go_ret
        exact ⟨[], none, 0, rfl, RI.nil _ _ _ (Nat.zero_le _), List.Pairwise.nil, fun x => by rw [← HMEM.out x, E.out], HTH.out.below⟩
      · obtain ⟨g, cap, hO⟩ : ∃ g cap, (Value.slice O L co) = .slice (some ⟨g, 0, none⟩) L cap := by
          rcases HTH.out.own.2 with ⟨_, h1⟩ | ⟨g, cap, cur, hv, _⟩
          · rw [HL.out] at h1; exact absurd h1 h0
          · rw [HL.out] at hv; exact ⟨g, cap, hv⟩
        simp only [Value.slice.injEq, true_and] at hO
        obtain ⟨rfl, rfl⟩ := hO
        obtain ⟨l', e'⟩ := list_sub HC.out l (fun x hx => (HMEM.out x).1 hx)
        have hown := HTH.out.own
        rw [HL.out] at hown
        have hgb := (own_lt hown (g := g) rfl).1
        have hso := sort_own S wr (w.heap.size + 1) g L co l' (by unfold Own; rw [e']; exact hown) hgb (by omega) (by omega)
        have E := Lib.hid e'
        clear e' hown
        go_wp2_with (go_at_call 66; refine hso.mono ?_; clear hso; rintro e w2 ⟨rfl, ho2, hb2⟩; have HO2 := Lib.hid ho2; have HB2 := Lib.hid hb2; clear ho2 hb2)
        go_ret
        have hlen : ((l'.mergeSort fun x y => !(ltOf cfS) y x).map (·.1)).length = L := by rw [List.length_map, List.length_mergeSort, ← HL.out, ← E.out, List.length_map]
        have hmm : ∀ x, x ∈ (l'.mergeSort fun x y => !(ltOf cfS) y x).map (·.1) ↔ x ∈ l := fun x => by
          rw [← E.out, List.mem_map, List.mem_map]
          exact ⟨fun ⟨a, h1, h2⟩ => ⟨a, List.mem_mergeSort.1 h1, h2⟩, fun ⟨a, h1, h2⟩ => ⟨a, List.mem_mergeSort.2 h1, h2⟩⟩
        refine ⟨_, some ⟨g, 0, none⟩, co, by rw [hlen]; rfl, ?_, sorted_asc l' (by rw [E.out]; exact HTH.out.nd), fun x => (hmm x).trans (HMEM.out x), HTH.out.below.trans (HB2.out.mono (Nat.le_succ _))⟩
        rw [hlen]
        exact RI.of_own HO2.out (by omega)
    · intro x w1 cnt1 hwx hlx hsx hrg1 hlt hg1 hs1 hen
      have HM := Lib.hid (And.intro hwx (And.intro hlx hsx))
      have HRG := Lib.hid hrg1
      have hne : (Value.slice O l.length co).ownBlock = none ∨ (Value.slice O l.length co).ownBlock ≠ some w.heap.size := by
        cases hob : (Value.slice O l.length co).ownBlock with
        | none => exact .inl rfl
        | some g =>
          have := (own_lt HTH.out.own hob).1
          exact .inr (fun e => by injection e with e; omega)
      have hown1 := HTH.out.own.kept hg1 hne
      rw [HL.out] at hown1
      have HO1 := Lib.hid hown1
      have HB1 : Hid (Below w.heap.size w w1) := Lib.hid (HTH.out.below.grown hg1 HTH.out.below.size (fun g e => by cases e; exact Nat.le_refl _))
      have hsz := HTH.out.below.size
      have hrl := HTH.out.rng.lt
      have HLT := Lib.hid hlt
      have hs1' : w.heap.size + 1 ≤ w1.heap.size := by rw [hs1]; omega
      clear hwx hlx hsx hrg1 hown1 hg1 hlt hs1 hne
      go_wp2_with (at_builtin; refine wpList_append_own_at _ rfl (.tmp 11) (.tmp 13) 28 rfl (w.heap.size + 1) 3 i0 (.int .i64 0) 1 8 Try.underlying28 hi hz0 hz1 hz2 rfl (by decide) (.slice O L co) L _ rfl (HO1.out.alloc _) ⟨_, 0, none⟩ 1 1 [.int .i64 x] rfl rfl (cell_new_at _ _ _ _ (by simp)) (by simp [Value.oneCell']) (by unfold maxLen; omega) (by omega) (by simp; omega) ?_; intro v' w4 hown' hgrow hnil hloc; obtain ⟨g', cap', rfl⟩ := own_succ hown'; have G1 := Lib.hid (grown_below hgrow); have O1 := Lib.hid hown'; clear hown' hgrow hnil hloc)
      have hrk : ∀ j, some j = (Value.slice O L co).ownBlock → w.heap.size + 1 ≤ j := fun j e => (own_lt HO1.out e.symm).1
      have hrg4 : MR 4 edB w4 b w.heap.size n (setF S) (fun y => left y && !(y == x)) cnt1 := HRG.out.kept G1.out (fun e => by have := hrk _ e; omega) (fun e => by have := hrk _ e; omega)
      go_roundw
      case rel =>
        refine ⟨l ++ [x], _, cnt1, some ⟨g', 0, none⟩, cap', by rw [List.length_append, HL.out]; rfl, ⟨hrg4, ?_, HB1.out.grown G1.out HB1.out.size (fun g hg => by have := (own_lt HO1.out hg).1; omega), ?_, fun y hy => ?_, fun y hy => ?_, ?_, fun y hy h1 => ?_, fun h1 => ?_⟩⟩
        · rw [List.length_append, HL.out, List.map_append]; exact O1.out
        · rw [List.nodup_append]
          refine ⟨HTH.out.nd, by simp, fun a ha b' hb' e => ?_⟩
          rw [List.mem_singleton.1 hb'] at e
          rw [e] at ha
          have := ((HTH.out.mem x HM.out.1).1 ha).2
          rw [HM.out.2.1] at this; cases this
        · rw [List.mem_append, List.mem_singleton, HTH.out.mem y hy]
          by_cases e : y = x
          · subst e
            simp [hasB_iff.1 HM.out.2.2]
          · simp [e]
        · rcases List.mem_append.1 hy with h1 | h1
          · exact HTH.out.wf y h1
          · rw [List.mem_singleton.1 h1]; exact HM.out.1
        · have := HTH.out.few; have := HLT.out; rw [List.length_append]; simp; omega
        · have h2 : left y = true := by simp only [Bool.and_eq_true] at h1; exact h1.1
          exact HTH.out.sub y hy h2
        · rw [List.length_append] at h1; simp at h1
      case measure => rw [hrg4.left_eq, HTH.out.rng.left_eq]; exact HLT.out

end Go.Proofs.Ytenpenelikpeeaa
