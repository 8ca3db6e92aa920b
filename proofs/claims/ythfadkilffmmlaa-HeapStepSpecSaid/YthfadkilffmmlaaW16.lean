/-
  Contract of slices.Insert of one int into a row of the call's own. No condition.
-/
import Derived.Test.YthfadkilffmmlaaW4
import Derived.Test.YthfadkilffmmlaaShelf
namespace Go.Proofs.Ythfadkilffmmlaa
open Go.RowKit
set_option linter.unusedVariables false
set_option linter.unusedSimpArgs false

def insAt (l : List Int) (i : Nat) (v : Int) : List Int := l.take i ++ v :: l.drop i
theorem insAt_len (l : List Int) (i : Nat) (v : Int) (h : i ≤ l.length) : (insAt l i v).length = l.length + 1 := by simp [insAt]; omega
theorem elt_insAt (l : List Int) (i : Nat) (v : Int) (h : i ≤ l.length) (j : Nat) : elt (insAt l i v) j = if j < i then elt l j else if j = i then v else elt l (j - 1) := by
  unfold insAt elt
  simp only [List.getD_eq_getElem?_getD]
  by_cases h1 : j < i
  · rw [List.getElem?_append_left (by simp; omega), List.getElem?_take_of_lt h1, if_pos h1]
  · rw [List.getElem?_append_right (by simp; omega), if_neg h1]
    have hl : (l.take i).length = i := by simp; omega
    rw [hl]
    by_cases h2 : j = i
    · subst h2; simp
    · rw [if_neg h2]
      obtain ⟨k, hk⟩ : ∃ k, j - i = k + 1 := ⟨j - i - 1, by omega⟩
      rw [hk, List.getElem?_cons_succ, List.getElem?_drop]
      congr 2
      omega

theorem grownBy_setCells {b : Nat} : ∀ (vs : List Value) (o : Nat) (w : World), w.grownBy (w.setCells b o vs) (some b)
  | [], _, w => World.grownBy.refl w _
  | v :: r, o, w => by
    have h := grownBy_setCells (b := b) r (o + 1) (w.setCell ⟨b, o, none⟩ v)
    refine ⟨h.os, h.tape, h.output, Nat.le_trans (by simp [World.setCell]) h.size, fun k hk hne => ?_⟩
    exact (h.block k (by simpa [World.setCell] using hk) hne).trans (Below.heap_setCell _ _ _ _ (by simpa using fun e => hne (by rw [e])))

theorem some_setCells (b : Nat) : ∀ (vs : List Value) (o : Nat) (w : World) (q : Addr), (w.cell? q).isSome = true → ((w.setCells b o vs).cell? q).isSome = true
  | [], _, _, _, h => h
  | v :: r, o, w, q, h => by
    rw [World.setCells]
    refine some_setCells b r (o + 1) _ q ?_
    obtain ⟨u, hu⟩ := Option.isSome_iff_exists.1 h
    obtain ⟨u', hu'⟩ := cell?_setCell_some (w := w) (p := ⟨b, o, none⟩) (x := v) (q := q) (v := u) hu
    rw [hu']; rfl

theorem ints_one (l : List Int) : ∀ v ∈ l.map (Value.int .i64), v.oneCell' = true := fun v hv => by
  obtain ⟨x, _, rfl⟩ := List.mem_map.1 hv; rfl

/-- what Insert leaves -/
def Ins (l : List Int) (i : Nat) (v : Int) (own : Option Nat) (w : World) (e : Ending) (w' : World) : Prop :=
  ∃ A2 c2, e = .returned (.slice A2 (l.length + 1) c2) ∧ RI w' A2 (l.length + 1) c2 (insAt l i v) ∧ w.grownBy w' own ∧ (∀ b off, A2 = some ⟨b, off, none⟩ → own = some b ∨ w.heap.size ≤ b)

section
variable (w : World) (l : List Int) (i : Nat) (v : Int) (vb : Nat) (hvb : w.heap[vb]? = some (.cells #[.int .i64 v] 3 (0, 0)))

theorem one_cell {w : World} {vb : Nat} {v : Int} (hvb : w.heap[vb]? = some (.cells #[.int .i64 v] 3 (0, 0))) : ∀ (j : Nat) (u : Value), [Value.int .i64 v][j]? = some u → w.cell? ⟨vb, 0 + j, none⟩ = some u := by
  intro j u hj
  cases j with
  | zero => simp at hj; subst hj; simp [World.cell?, hvb]
  | succ j => simp at hj

include hvb in
theorem insert_end_grow (A : Option Addr) (c : Nat) (hA : A = none → l.length = 0) (hcs : ∀ a, A = some a → ∀ j u, (l.map (Value.int .i64))[j]? = some u → w.cell? (a.add j) = some u) (hnc : l.length ≤ c) (hroom : c < l.length + 1) (hbig : (l.length + 1) * 8 ≤ 140737488355328) :
    Calls Try.prog 42 #[.slice A l.length c, .int .i64 l.length, .slice (some ⟨vb, 0, none⟩) 1 1] w (Ins l l.length v (Value.slice A l.length c).ownBlock w) := by
  have h := Any2.slices_Insert_int_end_grow Try.lays221 A l.length c vb 0 1 1 (l.map (Value.int .i64)) [.int .i64 v] w (by omega) hnc hroom hbig (by simp) rfl hA hcs (one_cell hvb) (by simp [Value.oneCell'])
  change Calls Try.prog 42 _ _ _ at h
  refine h.mono ?_
  rintro e w' ⟨rfl, rfl⟩
  have hg1 := grownCap_ge w (l.length + 1) c 3
  have hg2 := grownCap_le_maxLen w (l.length + 1) c 3 (by unfold maxLen; omega)
  refine ⟨_, _, rfl, ⟨insAt_len _ _ _ (Nat.le_refl _), hg1, hbig, hg2, fun _ => ⟨w.heap.size, 0, rfl, by simp, fun j hj => ?_⟩⟩, ?_, fun b off e => by cases e; exact Or.inr (Nat.le_refl _)⟩
  · have hh := heap_alloc_new w.drew (.cells ((l.map (Value.int .i64) ++ [Value.int .i64 v]).toArray ++ Builtin.zeroCells (Value.int .i64 0).cells (grownCap w (l.length + 1) c 3 - (l.length + 1))) 3)
    have hj2 : (l.map (Value.int .i64) ++ [Value.int .i64 v])[j]? = some (.int .i64 (elt (insAt l l.length v) j)) := by
      rw [elt_insAt _ _ _ (Nat.le_refl _)]
      by_cases h1 : j < l.length
      · rw [List.getElem?_append_left (by simpa using h1), if_pos h1, List.getElem?_map, List.getElem?_eq_getElem h1, elt_lt h1]; rfl
      · have : j = l.length := by omega
        subst this
        simp
    simp only [Nat.zero_add]
    show (w.drew.alloc _).cell? ⟨w.drew.heap.size, j, none⟩ = _
    simp only [World.cell?]
    rw [show Try.lays221_ren.t 3 = 3 from rfl] at *
    rw [hh]
    simp only [Option.isSome_none]
    rw [Array.getElem?_append_left (by simp; omega)]
    simpa using hj2
  · refine ⟨rfl, rfl, rfl, by simp, fun k hk hne => Below.heap_alloc w.drew _ k hk⟩

theorem map_at {l : List Int} {j : Nat} (h : j < l.length) : (l.map (Value.int .i64))[j]? = some (.int .i64 (elt l j)) := by
  rw [List.getElem?_map, List.getElem?_eq_getElem h, elt_lt h]; rfl

/-- a row with room -/
structure Roomy (w : World) (g c : Nat) (l : List Int) : Prop where
  blk : ∃ cur, w.heap[g]? = some (.cells cur 3 (0, 0)) ∧ cur.size = c
  le : l.length ≤ c
  cmax : c ≤ maxLen
  at_ : ∀ j, j < l.length → w.cell? ⟨g, j, none⟩ = some (.int .i64 (elt l j))
theorem Roomy.some_ {w : World} {g c : Nat} {l : List Int} (h : Roomy w g c l) {j : Nat} (hj : j < c) : (w.cell? ⟨g, j, none⟩).isSome = true := by
  obtain ⟨cur, h1, h2⟩ := h.blk
  simp [World.cell?, h1, h2, hj]
theorem Roomy.frozen {w : World} {g c : Nat} {l : List Int} (h : Roomy w g c l) (j : Nat) : w.frozen? ⟨g, j, none⟩ = false := by
  obtain ⟨cur, h1, h2⟩ := h.blk
  simp [World.frozen?, h1]
theorem Roomy.lt {w : World} {g c : Nat} {l : List Int} (h : Roomy w g c l) : g < w.heap.size := by
  obtain ⟨cur, h1, h2⟩ := h.blk
  rcases Nat.lt_or_ge g w.heap.size with hlt | hge
  · exact hlt
  · rw [Array.getElem?_eq_none hge] at h1; cases h1

include hvb in
theorem insert_end_room (g c : Nat) (h : Roomy w g c l) (hroom : l.length + 1 ≤ c) (hbig : (l.length + 1) * 8 ≤ 140737488355328) :
    Calls Try.prog 42 #[.slice (some ⟨g, 0, none⟩) l.length c, .int .i64 l.length, .slice (some ⟨vb, 0, none⟩) 1 1] w (Ins l l.length v (some g) w) := by
  have hcm := h.cmax
  have h0 := Any2.slices_Insert_int_end_room Try.lays221 g 0 l.length c vb 0 1 1 [.int .i64 v] w (by omega) hroom (by unfold maxLen at hcm; omega) rfl (fun j hj => h.some_ (by omega)) (fun j hj => h.frozen _) (one_cell hvb) (by simp [Value.oneCell'])
  change Calls Try.prog 42 _ _ _ at h0
  refine h0.mono ?_
  rintro e w' ⟨rfl, rfl⟩
  simp only [Nat.zero_add]
  refine ⟨_, _, rfl, ⟨insAt_len _ _ _ (Nat.le_refl _), hroom, hbig, h.cmax, fun _ => ⟨g, 0, rfl, Nat.lt_of_lt_of_le h.lt (grownBy_setCells _ _ _).size, fun j hj => ?_⟩⟩, grownBy_setCells _ _ _, fun b off e => by cases e; exact Or.inl rfl⟩
  simp only [Nat.zero_add]
  rw [elt_insAt _ _ _ (Nat.le_refl _)]
  by_cases h1 : j < l.length
  · rw [if_pos h1, World.cell?_setCells_out _ _ _ _ _ (fun _ _ => Or.inl h1)]
    exact h.at_ j h1
  · have hjl : j = l.length := by omega
    subst hjl
    rw [if_neg h1, if_pos rfl]
    have := World.cell?_setCells_in g [.int .i64 v] l.length w (fun j hj => by simp at hj; subst hj; exact h.some_ (by omega)) 0 (by simp)
    simpa using this

include hvb in
theorem insert_shift (g c : Nat) (h : Roomy w g c l) (hroom : l.length + 1 ≤ c) (hbig : (l.length + 1) * 8 ≤ 140737488355328) (hi : i < l.length) (hne : vb ≠ g) :
    Calls Try.prog 42 #[.slice (some ⟨g, 0, none⟩) l.length c, .int .i64 i, .slice (some ⟨vb, 0, none⟩) 1 1] w (Ins l i v (some g) w) := by
  have hcm := h.cmax
  obtain ⟨cur, hcur, hcs⟩ := h.blk
  have h0 := Any2.slices_Insert_int_shift Try.lays221 g 0 l.length c i vb 0 1 1 (l.map (Value.int .i64)) [.int .i64 v] w hi (by omega) hroom (by unfold maxLen at hcm; omega) hne (by simp) rfl
    (fun j u hj => by
      have hjl : j < l.length := by have := (List.getElem?_eq_some_iff.1 hj).1; simpa using this
      rw [map_at hjl] at hj
      rw [Nat.zero_add, h.at_ j hjl]; exact hj)
    (fun j hj => h.some_ (by omega)) (fun j hj => h.frozen _) (one_cell hvb) (ints_one l) (by simp [Value.oneCell']) 3 3 1 c
    (by simp [World.shape?, hvb]) (by simp [World.shape?, hcur, hcs]) (by omega) (by simp [World.frozen?, hvb]) (by simp [World.frozen?, hvb])
  change Calls Try.prog 42 _ _ _ at h0
  refine h0.mono ?_
  rintro e w' ⟨rfl, rfl⟩
  simp only [Nat.zero_add]
  have hs1 : ∀ k, k < c → ((w.drew.setCells g (i + 1) ((l.map (Value.int .i64)).drop i)).cell? ⟨g, k, none⟩).isSome = true := fun k hk => some_setCells g _ _ _ _ (h.some_ hk)
  have hgr : w.grownBy ((w.drew.setCells g (i + 1) ((l.map (Value.int .i64)).drop i)).setCells g i [.int .i64 v]) (some g) := by
    have a := grownBy_setCells (b := g) ((l.map (Value.int .i64)).drop i) (i + 1) w.drew
    have b := grownBy_setCells (b := g) [.int .i64 v] i (w.drew.setCells g (i + 1) ((l.map (Value.int .i64)).drop i))
    exact ⟨b.os.trans a.os, b.tape.trans a.tape, b.output.trans a.output, Nat.le_trans a.size b.size, fun k hk hne => (b.block k (Nat.lt_of_lt_of_le hk a.size) hne).trans (a.block k hk hne)⟩
  refine ⟨_, _, rfl, ⟨insAt_len _ _ _ (by omega), hroom, hbig, h.cmax, fun _ => ⟨g, 0, rfl, Nat.lt_of_lt_of_le h.lt hgr.size, fun j hj => ?_⟩⟩, hgr, fun b off e => by cases e; exact Or.inl rfl⟩
  simp only [Nat.zero_add]
  rw [elt_insAt _ _ _ (by omega)]
  by_cases h1 : j < i
  · rw [if_pos h1, World.cell?_setCells_out _ _ _ _ _ (fun _ _ => Or.inl h1), World.cell?_setCells_out _ _ _ _ _ (fun _ _ => Or.inl (by simp; omega))]
    exact h.at_ j (by omega)
  · rw [if_neg h1]
    by_cases h2 : j = i
    · subst h2
      rw [if_pos rfl]
      have := World.cell?_setCells_in g [.int .i64 v] j (w.drew.setCells g (j + 1) ((l.map (Value.int .i64)).drop j)) (fun k hk => by simp at hk; subst hk; exact hs1 _ (by omega)) 0 (by simp)
      simpa using this
    · rw [if_neg h2, World.cell?_setCells_out _ _ _ _ _ (fun _ _ => Or.inr (by simp; omega))]
      have hdl : ((l.map (Value.int .i64)).drop i).length = l.length - i := by simp
      have := World.cell?_setCells_in g ((l.map (Value.int .i64)).drop i) (i + 1) w.drew (fun k hk => h.some_ (by rw [hdl] at hk; omega)) (j - (i + 1)) (by rw [hdl]; omega)
      rw [show i + 1 + (j - (i + 1)) = j by omega] at this
      rw [this]
      simp only [List.getElem_drop, List.getElem_map]
      rw [elt_lt (show j - 1 < l.length by omega)]
      congr 3
      omega

include hvb in
theorem insert_grow (g c : Nat) (h : Roomy w g c l) (hroom : c < l.length + 1) (hbig : (l.length + 1) * 8 ≤ 140737488355328) (hi : i < l.length) :
    Calls Try.prog 42 #[.slice (some ⟨g, 0, none⟩) l.length c, .int .i64 i, .slice (some ⟨vb, 0, none⟩) 1 1] w (Ins l i v (some g) w) := by
  have h0 := Any2.slices_Insert_int_grow Try.lays221 g 0 l.length c i vb 0 1 1 (l.map (Value.int .i64)) [.int .i64 v] w hi (by omega) h.le hroom hbig (by simp) rfl
    (fun j u hj => by
      have hjl : j < l.length := by have := (List.getElem?_eq_some_iff.1 hj).1; simpa using this
      rw [map_at hjl] at hj
      rw [Nat.zero_add, h.at_ j hjl]; exact hj)
    (one_cell hvb) (ints_one l) (by simp [Value.oneCell'])
  change Calls Try.prog 42 _ _ _ at h0
  refine h0.mono ?_
  rintro e w' ⟨rfl, rfl⟩
  rw [show Try.lays221_ren.t 3 = 3 from rfl]
  have hg1 := grownCap_ge w (l.length + 1) c 3
  have hg2 := grownCap_le_maxLen w (l.length + 1) c 3 (by unfold maxLen; omega)
  generalize hG : grownCap w (l.length + 1) c 3 = G at hg1 hg2 ⊢
  generalize hcur : ((l.map (Value.int .i64)).take i).toArray ++ Builtin.zeroCells (Value.int .i64 0).cells (l.length + 1 - i) ++ Builtin.zeroCells (Value.int .i64 0).cells (G - (l.length + 1)) = cur
  have hsz : l.length + 1 ≤ cur.size := by rw [← hcur]; simp [Builtin.zeroCells, show (Value.int .i64 0).cells = #[Value.int .i64 0] from rfl]; omega
  have hat : ∀ j, j < i → cur[j]? = some (.int .i64 (elt l j)) := fun j hj => by
    rw [← hcur, Array.getElem?_append_left (by simp; omega), Array.getElem?_append_left (by simp; omega)]
    have := map_at (l := l) (j := j) (by omega)
    simp [hj] at this ⊢
    exact this
  have hA := heap_alloc_new w (.cells cur 3)
  have hgr : w.grownBy ((((w.alloc (.cells cur 3)).drew.setCells w.heap.size i [.int .i64 v]).drew).setCells w.heap.size (i + 1) ((l.map (Value.int .i64)).drop i)) (some g) := by
    have a := grownBy_setCells (b := w.heap.size) [.int .i64 v] i (w.alloc (.cells cur 3)).drew
    have b := grownBy_setCells (b := w.heap.size) ((l.map (Value.int .i64)).drop i) (i + 1) ((w.alloc (.cells cur 3)).drew.setCells w.heap.size i [.int .i64 v]).drew
    refine ⟨b.os.trans a.os, b.tape.trans a.tape, b.output.trans a.output, Nat.le_trans (by simp) (Nat.le_trans a.size b.size), fun k hk hne => ?_⟩
    have hk1 : some k ≠ some w.heap.size := by simp; omega
    exact (b.block k (Nat.lt_of_lt_of_le (by simp; omega) a.size) hk1).trans ((a.block k (by simp; omega) hk1).trans (Below.heap_alloc _ _ _ hk))
  have hsome : ∀ k, k < l.length + 1 → ((w.alloc (.cells cur 3)).cell? ⟨w.heap.size, k, none⟩).isSome = true := fun k hk => by
    have : k < cur.size := by omega
    simp only [World.cell?, hA]
    rw [Array.getElem?_eq_getElem this]
    rfl
  refine ⟨_, _, rfl, ⟨insAt_len _ _ _ (by omega), hg1, hbig, hg2, fun _ => ⟨w.heap.size, 0, rfl, ?_, fun j hj => ?_⟩⟩, hgr, fun b off e => by cases e; exact Or.inr (Nat.le_refl _)⟩
  · have a := grownBy_setCells (b := w.heap.size) [.int .i64 v] i (w.alloc (.cells cur 3)).drew
    have b := grownBy_setCells (b := w.heap.size) ((l.map (Value.int .i64)).drop i) (i + 1) ((w.alloc (.cells cur 3)).drew.setCells w.heap.size i [.int .i64 v]).drew
    exact Nat.lt_of_lt_of_le (by simp) (Nat.le_trans a.size b.size)
  · simp only [Nat.zero_add]
    rw [elt_insAt _ _ _ (by omega)]
    by_cases h1 : j < i
    · rw [if_pos h1, World.cell?_setCells_out _ _ _ _ _ (fun _ _ => Or.inl (by simp; omega))]
      show ((w.alloc (.cells cur 3)).drew.setCells w.heap.size i [.int .i64 v]).cell? _ = _
      rw [World.cell?_setCells_out _ _ _ _ _ (fun _ _ => Or.inl h1)]
      show (w.alloc (.cells cur 3)).cell? _ = _
      simp only [World.cell?, hA, hat j h1]
      rfl
    · rw [if_neg h1]
      by_cases h2 : j = i
      · subst h2
        rw [if_pos rfl, World.cell?_setCells_out _ _ _ _ _ (fun _ _ => Or.inl (by simp))]
        show ((w.alloc (.cells cur 3)).drew.setCells w.heap.size j [.int .i64 v]).cell? _ = _
        have := World.cell?_setCells_in w.heap.size [.int .i64 v] j (w.alloc (.cells cur 3)).drew (fun k hk => by simp at hk; subst hk; exact hsome _ (by omega)) 0 (by simp)
        simpa using this
      · rw [if_neg h2]
        have hdl : ((l.map (Value.int .i64)).drop i).length = l.length - i := by simp
        have := World.cell?_setCells_in w.heap.size ((l.map (Value.int .i64)).drop i) (i + 1) ((w.alloc (.cells cur 3)).drew.setCells w.heap.size i [.int .i64 v]).drew (fun k hk => some_setCells _ _ _ _ _ (hsome _ (by rw [hdl] at hk; omega))) (j - (i + 1)) (by rw [hdl]; omega)
        rw [show i + 1 + (j - (i + 1)) = j by omega] at this
        rw [this]
        simp only [List.getElem_drop, List.getElem_map]
        rw [elt_lt (show j - 1 < l.length by omega)]
        congr 3
        omega

include hvb in
theorem insert_any (base : Nat) (A : Option Addr) (c : Nat) (ho : w.ownsRow base 3 1 (.slice A l.length c) l.length (l.map (Value.int .i64))) (hvbl : w.heap.size = vb + 1 ∨ (Value.slice A l.length c).ownBlock ≠ some vb) (hown : (Value.slice A l.length c).ownBlock ≠ some vb) (hbig : (l.length + 1) * 8 ≤ 140737488355328) (hi : i ≤ l.length) :
    Calls Try.prog 42 #[.slice A l.length c, .int .i64 i, .slice (some ⟨vb, 0, none⟩) 1 1] w (Ins l i v (Value.slice A l.length c).ownBlock w) := by
  rcases ho.2 with ⟨hv, h0⟩ | ⟨g, cap, cur, hv, hg, hh, hnc, hcm, hcs, htk⟩
  · simp only [Value.slice.injEq] at hv
    obtain ⟨rfl, _, rfl⟩ := hv
    have hi0 : i = l.length := by omega
    subst hi0
    exact insert_end_grow w l v vb hvb none 0 (fun _ => h0) (fun a e => by cases e) (by omega) (by omega) hbig
  · simp only [Value.slice.injEq] at hv
    obtain ⟨rfl, _, rfl⟩ := hv
    have R : Roomy w g c l := ⟨⟨cur, hh, by omega⟩, hnc, hcm, fun j hj => by
      have h3 : (cur.toList.take (l.length * 1))[j]? = (l.map (Value.int .i64))[j]? := by rw [htk]
      rw [List.getElem?_take_of_lt (by omega), map_at hj] at h3
      simp only [World.cell?, hh]
      rw [← Array.getElem?_toList, h3]
      rfl⟩
    have hne : vb ≠ g := fun e => hown (by rw [e]; rfl)
    by_cases hroom : l.length + 1 ≤ c
    · by_cases hil : i = l.length
      · subst hil; exact insert_end_room w l v vb hvb g c R hroom hbig
      · exact insert_shift w l i v vb hvb g c R hroom hbig (by omega) hne
    · by_cases hil : i = l.length
      · subst hil
        exact insert_end_grow w l v vb hvb (some ⟨g, 0, none⟩) c (fun e => by cases e) (fun a e j u hj => by
          cases e
          have hjl : j < l.length := by have := (List.getElem?_eq_some_iff.1 hj).1; simpa using this
          rw [map_at hjl] at hj
          rw [Addr.add_lit, Nat.zero_add, R.at_ j hjl]; exact hj) hnc (by omega) hbig
      · exact insert_grow w l i v vb hvb g c R (by omega) hbig (by omega)
end

end Go.Proofs.Ythfadkilffmmlaa
