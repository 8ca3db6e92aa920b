/-
  Steps as they lie; the engine of unit propagation as it lies. Turned from this repo's texts of chapter 20. No condition.
-/
import Derived.Test.YtalcnkoidmoibaaZA18

namespace Go.Proofs.Ytalcnkoidmoibaa
open Go.RowKit Go.Shelf
set_option linter.unusedVariables false
set_option linter.unusedSimpArgs false

/-- a row reads the same where a map has turned -/
theorem RI.turned {w w' : World} {A : Option Addr} {n c : Nat} {zs : List Int} {b : Nat} (h : RI w A n c zs) (ht : w.mapTurned w' b) : RI w' A n c zs :=
  ⟨h.len, h.cap, h.big, h.cmax, fun hn => by
    obtain ⟨bb, off, rfl, hlt, hc⟩ := h.cells hn
    have hg := ht.grown
    obtain ⟨es, clock, es', clock', he, hw⟩ := ht
    have hne : bb ≠ b := fun e => by
      have := hc 0 hn
      subst e
      simp [World.cell?, he] at this
    have hk := hg.block bb hlt (by simpa using hne)
    refine ⟨bb, off, rfl, Nat.lt_of_lt_of_le hlt hg.size, fun j hj => ?_⟩
    rw [← hc j hj]
    exact World.cell?_of_block hk⟩

section

variable {Wb w2 : World} {x : Int} {A : Option Addr} {n c : Nat} {A' : Option Addr} {n' c' : Nat} {ts : List Stp} {A2 : Option Addr} {c2 N : Nat}

end

theorem absI_eq {x y : Int} (h : absI x = absI y) : x = y ∨ x = -y := by unfold absI at h; split at h <;> split at h <;> omega

theorem snoc_ind {P : List Int → Prop} (h0 : P []) (h1 : ∀ l x, P l → P (l ++ [x])) (l : List Int) : P l := by
  have h : ∀ l : List Int, P l.reverse := fun l => by
    induction l with
    | nil => exact h0
    | cons x l ih => rw [List.reverse_cons]; exact h1 _ _ ih
  have := h l.reverse
  rwa [List.reverse_reverse] at this

theorem nodup_len : ∀ (S L : List Int), S.Nodup → (∀ x ∈ S, x ∈ L) → S.length ≤ L.length
  | [], L, _, _ => Nat.zero_le _
  | x :: S, L, hn, h => by
    have hn' := List.nodup_cons.1 hn
    have := nodup_len S (L.erase x) hn'.2 fun y hy => by
      have hne : y ≠ x := fun e => hn'.1 (e ▸ hy)
      exact (List.mem_erase_of_ne hne).2 (h y (by simp [hy]))
    have hl := List.length_erase_of_mem (h x (by simp))
    have hp : 0 < L.length := List.length_pos_of_mem (h x (by simp))
    simp
    omega

theorem RI.grown {w w' : World} {A : Option Addr} {n c : Nat} {zs : List Int} {row : Option Nat} (h : RI w A n c zs) (hg : w.grownBy w' row) (hr : 0 < n → ∀ b off, A = some ⟨b, off, none⟩ → some b ≠ row) : RI w' A n c zs :=
  ⟨h.len, h.cap, h.big, h.cmax, fun hn => by
    obtain ⟨b, off, rfl, hlt, hc⟩ := h.cells hn
    refine ⟨b, off, rfl, Nat.lt_of_lt_of_le hlt hg.size, fun j hj => ?_⟩
    rw [← hc j hj]
    exact World.cell?_of_block (hg.block b hlt (hr hn b off rfl))⟩

/-- a trail that was built -/
def stepsO (ts : List Stp) : Obj := .cells ((ts.map fun s => [Value.int .i64 s.lit, Value.int .i64 s.why]).flatten.toArray) 52

theorem flat_at : ∀ (ts : List Stp) (j : Nat), j < ts.length → ((ts.map fun s => [Value.int .i64 s.lit, Value.int .i64 s.why]).flatten)[j * 2]? = some (.int .i64 (stp ts j).lit) ∧ ((ts.map fun s => [Value.int .i64 s.lit, Value.int .i64 s.why]).flatten)[j * 2 + 1]? = some (.int .i64 (stp ts j).why)
  | s :: ts, 0, _ => ⟨rfl, rfl⟩
  | s :: ts, j + 1, h => by
    have := flat_at ts j (by simpa using h)
    rw [show (j + 1) * 2 = j * 2 + 2 by omega]
    exact this

theorem RS.lit (w : World) (ts : List Stp) (n s : Nat) (hn : ts.length = n) (hs : s = w.heap.size) (h : n ≤ 1000) : RS (w.alloc (stepsO ts)) (some ⟨s, 0, none⟩) n n ts := by
  subst hs
  refine ⟨hn, Nat.le_refl _, by omega, by unfold maxLen; omega, fun h0 => ⟨w.heap.size, 0, rfl, by simp, fun j hj => ?_⟩⟩
  have hb : (w.alloc (stepsO ts)).heap[w.heap.size]? = some (stepsO ts) := World.alloc_heap_new w _
  generalize w.alloc (stepsO ts) = W at hb
  obtain ⟨h1, h2⟩ := flat_at ts j (by omega)
  unfold stepsO at hb
  constructor
  · simp only [World.cell?, hb, Nat.zero_add, List.getElem?_toArray]; exact h1
  · simp only [World.cell?, hb, Nat.zero_add, List.getElem?_toArray]; exact h2

theorem below1 (w : World) (o : Obj) : Below w.heap.size w (w.alloc o) := (Below.refl _ _).alloc (Nat.le_refl _) _

theorem bthen {a b c : World} (h : Below a.heap.size a b) (h' : Below b.heap.size b c) : Below a.heap.size a c := h.trans (h'.mono h.size)

def flatS (ts : List Stp) : List Value := (ts.map fun s => [Value.int .i64 s.lit, Value.int .i64 s.why]).flatten

theorem flatS_cons (s : Stp) (ts : List Stp) : flatS (s :: ts) = .int .i64 s.lit :: .int .i64 s.why :: flatS ts := rfl

theorem flatS_len : ∀ ts : List Stp, (flatS ts).length = ts.length * 2
  | [] => rfl
  | s :: ts => by rw [flatS_cons, List.length_cons, List.length_cons, flatS_len ts, List.length_cons]; omega

theorem flatS_app (a b : List Stp) : flatS (a ++ b) = flatS a ++ flatS b := by simp [flatS]

theorem flatS_one : ∀ (ts : List Stp), ∀ u ∈ flatS ts, u.oneCell' = true
  | [], u, h => by cases h
  | s :: ts, u, h => by
    rw [flatS_cons] at h
    rcases List.mem_cons.1 h with rfl | h
    · rfl
    · rcases List.mem_cons.1 h with rfl | h
      · rfl
      · exact flatS_one ts u h

theorem flatS_at {ts : List Stp} {j : Nat} (h : j < ts.length) : (flatS ts)[j * 2]? = some (.int .i64 (stp ts j).lit) ∧ (flatS ts)[j * 2 + 1]? = some (.int .i64 (stp ts j).why) := flat_at ts j h

theorem RS.news {w : World} {ad : Addr} {n c : Nat} {ts : List Stp} (h : RS w (some ad) n c ts) : ∀ j u, (flatS ts)[j]? = some u → w.cell? (ad.add j) = some u := by
  intro j u hj
  have hl : j < ts.length * 2 := by rw [← flatS_len]; exact (List.getElem?_eq_some_iff.1 hj).1
  obtain ⟨b, off, he, _, hc⟩ := h.cells (by have := h.len; omega)
  injection he with he
  subst he
  have hd : j / 2 < ts.length := by omega
  obtain ⟨c0, c1⟩ := hc (j / 2) (by rw [← h.len]; exact hd)
  obtain ⟨f0, f1⟩ := flatS_at hd
  rw [Go.WideShapes.add_plain]
  rcases Nat.mod_two_eq_zero_or_one j with e | e
  · have ej : j / 2 * 2 = j := by omega
    rw [ej] at c0 f0
    rw [f0] at hj
    rw [c0]; exact hj
  · have ej : j / 2 * 2 + 1 = j := by omega
    rw [ej] at f1
    rw [Nat.add_assoc, ej] at c1
    rw [f1] at hj
    rw [c1]; exact hj

theorem infoStp : (Try.prog.info? 52).map (fun i => (i.zero, i.size, i.bytes)) = some (some (.agg #[.int .i64 0, .int .i64 0]), 2, 16) := by kernel_rfl

theorem RS.of_own {w : World} {base : Nat} {A : Option Addr} {n c : Nat} {ts : List Stp} (h : w.ownsRow base 52 2 (.slice A n c) n (flatS ts)) (hbig : n * 16 ≤ 140737488355328) : RS w A n c ts := by
  obtain ⟨h1, h2⟩ := h
  rw [flatS_len] at h1
  have hl : ts.length = n := by omega
  rcases h2 with ⟨hv, hn⟩ | ⟨g, cap, cur, hv, hg, hh, hnc, hcm, hcs, htk⟩
  · simp only [Value.slice.injEq] at hv
    obtain ⟨rfl, _, rfl⟩ := hv
    subst hn
    exact ⟨hl, Nat.le_refl _, hbig, Nat.zero_le _, fun h => absurd h (by omega)⟩
  · simp only [Value.slice.injEq] at hv
    obtain ⟨rfl, _, rfl⟩ := hv
    refine ⟨hl, hnc, hbig, hcm, fun hn => ⟨g, 0, rfl, ?_, fun j hj => ?_⟩⟩
    · rcases Nat.lt_or_ge g w.heap.size with hlt | hge
      · exact hlt
      · rw [Array.getElem?_eq_none hge] at hh; cases hh
    · obtain ⟨f0, f1⟩ := flatS_at (ts := ts) (j := j) (by omega)
      have e0 : cur[j * 2]? = some (.int .i64 (stp ts j).lit) := by
        rw [← htk, List.getElem?_take_of_lt (by omega), Array.getElem?_toList] at f0; exact f0
      have e1 : cur[j * 2 + 1]? = some (.int .i64 (stp ts j).why) := by
        rw [← htk, List.getElem?_take_of_lt (by omega), Array.getElem?_toList] at f1; exact f1
      constructor
      · simp [World.cell?, hh, e0]
      · simp [World.cell?, hh, e1]

theorem own_emptyS (w : World) (base s : Nat) (hs : s = w.heap.size) (hb : base ≤ w.heap.size) : (w.alloc (.cells #[] 52)).ownsRow base 52 2 (.slice (some ⟨s, 0, none⟩) 0 0) 0 (flatS []) := by
  subst hs; exact World.ownsRow_made w #[] 0 hb (Nat.zero_le _) rfl

set_option maxRecDepth 100000 in
theorem run_append_st (w : World) (ty : TypeId) (base : Nat) (v : Value) (n : Nat) (xs : List Stp) (hown : w.ownsRow base 52 2 v n (flatS xs))
    (A : Option Addr) (m c : Nat) (zs : List Stp) (hr : RS w A m c zs) (hbytes : (n + m) * 16 ≤ 140737488355328) (hbase : base ≤ w.heap.size) :
    ∃ v' w', (Builtin.append_ #[50, 50] ty #[v, .slice A m c]).run Try.prog w = .ok v' w' ∧ w'.ownsRow base 52 2 v' (n + m) (flatS (xs ++ zs)) ∧ w.grownBy w' v.ownBlock := by
  obtain ⟨i0, hi, hz0, hz1, hz2⟩ := info_parts infoStp
  cases A with
  | none =>
    have hm : m = 0 := by
      rcases Nat.eq_zero_or_pos m with h0 | h0
      · exact h0
      · obtain ⟨b, off, he, _⟩ := hr.cells h0; cases he
    subst hm
    have hz : zs = [] := List.eq_nil_of_length_eq_zero hr.len
    subst hz
    exact ⟨v, w, run_append_none Try.underlying50 w base ty i0 hi v n 2 _ hown c, by simpa using hown, World.grownBy.refl w _⟩
  | some ad =>
    obtain ⟨v', w', h1, h2, h3, _, h5⟩ := run_append_own_at (P := Try.prog) w base 50 ty 52 i0 (.agg #[.int .i64 0, .int .i64 0]) 2 16 Try.underlying50 hi hz0 hz1 hz2 rfl (by decide) v n _ hown ad m c (flatS zs) (by rw [flatS_len, hr.len]) hr.news (flatS_one zs) (by unfold maxLen; omega) hbytes hbase
    exact ⟨v', w', h1, by rw [flatS_app]; exact h2, h3⟩

theorem wpList_append_st {w wr : World} {ops : Array Oper} {rest : List Oper} {o : Oper} {a : Act} {Q : Exit → Act → World → Prop} (hgd : o.guard = none) (s x : Operand)
    (ho : o.op = .call { callee := .builtin .append, args := #[s, x], argTypes := #[50, 50] }) (hb : Below wr.heap.size wr w) (v : Value) (n : Nat) (xs : List Stp) (hs : a.eval s = v) (hown : w.ownsRow wr.heap.size 52 2 v n (flatS xs))
    (A : Option Addr) (m c : Nat) (zs : List Stp) (hx : a.eval x = .slice A m c) (hr : RS w A m c zs) (hbytes : (n + m) * 16 ≤ 140737488355328) (k : Nat) (hk : n + m = k) (ys : List Stp) (hy : xs ++ zs = ys)
    (h : ∀ A' c' w', w'.ownsRow wr.heap.size 52 2 (.slice A' k c') k (flatS ys) → Below wr.heap.size wr w' → wpList Try.prog ops Q rest (a.put o.dst (.slice A' k c')) w') :
    wpList Try.prog ops Q (o :: rest) a w := by
  subst hk hy
  obtain ⟨v', w', h1, h2, h3⟩ := run_append_st w o.type wr.heap.size v n xs hown A m c zs hr hbytes hb.size
  refine wpList_plain hgd fun K hK => ?_
  unfold Oper.wp
  simp only [execOp, ho, resolve, invoke, builtin, Sem.run_bind, Sem.run_pure, Result.andThen_ok, List.map_toArray, List.map_cons, List.map_nil, hs, hx, h1]
  obtain ⟨A', c', rfl⟩ := own_form h2
  exact hK _ _ (h A' c' w' h2 (hb.grown h3 hb.size (fun g hg => (own_lt hown hg).1)))

theorem stp_left {a b : List Stp} {k : Nat} (h : k < a.length) : stp (a ++ b) k = stp a k := by
  rw [stp_lt h, stp_lt (by simp; omega), List.getElem_append_left h]

/-- the engine's block -/
def BoxE (w : World) (G bt : Nat) (A : Option Addr) (n c : Nat) (bw : Nat) (O : Option Addr) (no co : Nat) (hd : Int) : Prop :=
  w.heap[G]? = some (.cells #[.map (some bt), .slice A n c, .map (some bw), .slice O no co, .int .i64 hd] 83 (0, 0))

section

variable {w w' : World} {G bt : Nat} {A : Option Addr} {n c bw : Nat} {O : Option Addr} {no co : Nat} {hd : Int}

theorem BoxE.c0 (h : BoxE w G bt A n c bw O no co hd) : w.cell? ⟨G, 0, none⟩ = some (.map (some bt)) := by simp [World.cell?, show w.heap[G]? = _ from h]

theorem BoxE.c1 (h : BoxE w G bt A n c bw O no co hd) : w.cell? ⟨G, 1, none⟩ = some (.slice A n c) := by simp [World.cell?, show w.heap[G]? = _ from h]

theorem BoxE.c2 (h : BoxE w G bt A n c bw O no co hd) : w.cell? ⟨G, 2, none⟩ = some (.map (some bw)) := by simp [World.cell?, show w.heap[G]? = _ from h]

theorem BoxE.c3 (h : BoxE w G bt A n c bw O no co hd) : w.cell? ⟨G, 3, none⟩ = some (.slice O no co) := by simp [World.cell?, show w.heap[G]? = _ from h]

theorem BoxE.c4 (h : BoxE w G bt A n c bw O no co hd) : w.cell? ⟨G, 4, none⟩ = some (.int .i64 hd) := by simp [World.cell?, show w.heap[G]? = _ from h]

theorem BoxE.f (h : BoxE w G bt A n c bw O no co hd) (k : Nat) : w.frozen? ⟨G, k, none⟩ = false := by simp [World.frozen?, show w.heap[G]? = _ from h]

theorem BoxE.lt (h : BoxE w G bt A n c bw O no co hd) : G < w.heap.size := (Array.getElem?_eq_some_iff.1 h).1

theorem BoxE.below (h : BoxE w G bt A n c bw O no co hd) (hb : Below w.heap.size w w') : BoxE w' G bt A n c bw O no co hd := (hb.block G h.lt).trans h

end

/-- the distinct literals that are not false, two at most -/
def opnS (S op : List Int) (y : Int) : List Int := if (!(hasB S (-y)) && (decide (op.length < 2) && !(hasB op y))) = true then op ++ [y] else op

def opnT (S l : List Int) : List Int := l.foldl (opnS S) []

theorem opnT_snoc (S l : List Int) (y : Int) : opnT S (l ++ [y]) = opnS S (opnT S l) y := by unfold opnT; rw [List.foldl_append]; rfl

theorem opnT_len (S l : List Int) : (opnT S l).length ≤ 2 := by
  induction l using snoc_ind with
  | h0 => simp [opnT]
  | h1 l y ih =>
    rw [opnT_snoc]; unfold opnS
    split
    · rename_i h
      simp only [Bool.and_eq_true, decide_eq_true_eq] at h
      simp; omega
    · exact ih

theorem opnS_no1 {S op : List Int} {y : Int} (h : hasB S (-y) = true) : opnS S op y = op := by unfold opnS; simp [h]

theorem opnS_no2 {S op : List Int} {y : Int} (h : ¬ op.length < 2) : opnS S op y = op := by unfold opnS; simp [h]

theorem opnS_no3 {S op : List Int} {y : Int} (h : hasB op y = true) : opnS S op y = op := by unfold opnS; simp [h]

theorem opnS_yes {S op : List Int} {y : Int} (h1 : hasB S (-y) = false) (h2 : op.length < 2) (h3 : hasB op y = false) : opnS S op y = op ++ [y] := by unfold opnS; simp [h1, h2, h3]

/-- what look hands back -/
def LookP (S l : List Int) (w : World) (e : Ending) (w' : World) : Prop :=
  ∃ (A : Option Addr) (n c : Nat), e = .returned (.tuple #[.slice A n c, .bool (l.any (hasB S))]) ∧ (l.any (hasB S) = false → (opnT S l).length = n ∧ RI w' A n c (opnT S l) ∧ ∀ b off, A = some ⟨b, off, none⟩ → w.heap.size ≤ b) ∧ Below w.heap.size w w'

theorem LookP.yes {S l : List Int} {w w' : World} {A : Option Addr} {n c : Nat} (h : l.any (hasB S) = true) (hb : Below w.heap.size w w') : LookP S l w (.returned (.tuple #[.slice A n c, .bool true])) w' :=
  ⟨A, n, c, by rw [h], fun h2 => (by rw [h] at h2; cases h2), hb⟩

theorem LookP.no {S l : List Int} {w w' : World} {A : Option Addr} {n c : Nat} (h : l.any (hasB S) = false) (h1 : (opnT S l).length = n) (h2 : RI w' A n c (opnT S l)) (h3 : ∀ b off, A = some ⟨b, off, none⟩ → w.heap.size ≤ b) (hb : Below w.heap.size w w') : LookP S l w (.returned (.tuple #[.slice A n c, .bool false])) w' :=
  ⟨A, n, c, by rw [h], fun _ => ⟨h1, h2, h3⟩, hb⟩

set_option maxRecDepth 100000 in
set_option maxHeartbeats 2000000 in
theorem look_any (G bt : Nat) (A : Option Addr) (n c bw : Nat) (O : Option Addr) (no co : Nat) (hd : Int) (ls : List (List Int)) (nt : Nat) (S : List Int) (i : Nat) (w : World)
    (hbx : BoxE w G bt A n c bw O no co hd) (h : RL w A n c ls) (hs : SetM w bt nt S) (hi : i < n) (hok : Okl (ell ls i)) :
    Calls Try.prog 81 #[.pointer (some ⟨G, 0, none⟩), .int .i64 i] w (LookP S (ell ls i) w) := by
  obtain ⟨i0, hii, hz0, hz1, hz2⟩ := info_parts infoInt
  obtain ⟨zl, hzl⟩ : ∃ zl, ell ls i = zl := ⟨_, rfl⟩
  rw [hzl] at hok ⊢
  obtain ⟨b, off, rfl, hbl, hcl⟩ := h.cells (by omega)
  obtain ⟨A1, m, c1, hcj, hr1⟩ := hcl i hi
  rw [hzl] at hr1
  have hm := hr1.small
  have HM := Lib.hid hr1.len
  have OK := Lib.hid hok
  have HR1 := Lib.hid hr1
  have BX := Lib.hid hbx
  have HS := Lib.hid hs
  have hbt := hs.lt
  have g0 := hbx.c0
  have g1 := hbx.c1
  clear hbx h hs hok hcl hr1 hzl
  go_enter Try.func81, Try.ntmps81
  go_wp2
  clear g0 g1 hcj
  go_loopw [4, 16] (fun s4 s16 W => ∃ (k K : Nat) (O : Option Addr) (co : Nat), k ≤ m ∧ s16 = .int .i64 k ∧ s4 = .slice O K co ∧ (opnT S (zl.take k)).length = K ∧ (zl.take k).any (hasB S) = false ∧ W.ownsRow w.heap.size 3 1 (.slice O K co) K ((opnT S (zl.take k)).map (Value.int .i64)) ∧ Below w.heap.size w W) (fun _ i _ => m - (intOf i).toNat)
  case atStart => exact ⟨0, 0, none, 0, Nat.zero_le _, rfl, rfl, rfl, rfl, World.ownsRow_nil _ _ _ _, Below.refl _ _⟩
  case round =>
    obtain ⟨k, K, O, co, hk, rfl, rfl, hK, hno, hown, hbW⟩ := hrel
    obtain ⟨W6, hW6, eW⟩ : ∃ W6, (Below w.heap.size w W6 ∧ W6.ownsRow w.heap.size 3 1 (.slice O K co) K ((opnT S (zl.take k)).map (Value.int .i64))) ∧ W6 = _ := ⟨_, ⟨hbW, hown⟩, rfl⟩
    subst eW
    have hK2 : K ≤ 2 := by rw [← hK]; exact opnT_len _ _
    have HO := Lib.hid hW6.2
    have HB := Lib.hid hW6.1
    have HK := Lib.hid hK
    have HN := Lib.hid hno
    have hsz := hW6.1.size
    clear hW6 hown hbW hK hno
    have BX6 := Lib.hid (BX.out.below HB.out)
    have HS6 := Lib.hid (MF.below HS.out HB.out hbt)
    have g0 := BX6.out.c0
    by_cases hlt : k < m
    · have hl : k < zl.length := by rw [HM.out]; exact hlt
      obtain ⟨b1, off1, rfl, hb1, hc1⟩ := (HR1.out.below HB.out).cells (by omega)
      have hck := hc1 k hlt
      have E1 := Lib.hid (show opnT S (zl.take (k + 1)) = opnS S (opnT S (zl.take k)) (elt zl k) by rw [take_snoc zl k hl, opnT_snoc])
      have E2 := Lib.hid (show (zl.take (k + 1)).any (hasB S) = ((zl.take k).any (hasB S) || hasB S (elt zl k)) by rw [take_snoc zl k hl, List.any_append]; simp)
      have EM := Lib.hid (elt_mem hl)
      obtain ⟨o1, o2, o3⟩ := OK.out _ (elt_mem hl)
      clear hc1 hl
      generalize elt zl k = y at *
      have hneg := lit_neg' o2 o3
      have l1 := SetM.look HS6.out Try.underlying79 (wfI_lit o2 o3)
      have l2 := SetM.look HS6.out Try.underlying79 (x := -y) (wfI_lit (by omega) (by omega))
      cases h1 : hasB S y with
      | true =>
        have R := Lib.hid (show zl.any (hasB S) = true from List.any_eq_true.2 ⟨y, EM.out, h1⟩)
        rw [h1] at l1
        clear l2 h1
        go_wp2
        go_ret2
        exact LookP.yes R.out (HB.out.trans ((below1 W6 _).mono HB.out.size))
      | false =>
        rw [h1] at l1
        have E3 := Lib.hid (show (zl.take (k + 1)).any (hasB S) = false by rw [E2.out, HN.out, h1]; rfl)
        clear h1
        cases h2 : hasB S (-y) with
        | true =>
          rw [h2] at l2
          have E4 := Lib.hid (show opnT S (zl.take (k + 1)) = opnT S (zl.take k) by rw [E1.out, opnS_no1 h2])
          clear h2
          go_wp2
          go_roundw
          case rel => exact ⟨k + 1, K, O, co, by omega, by go_num, rfl, by rw [E4.out]; exact HK.out, E3.out, by rw [E4.out]; exact HO.out, HB.out⟩
          case measure => simp [intOf]; omega
        | false =>
          rw [h2] at l2
          by_cases hK3 : K < 2
          · have dK : decide ((K : Int) < 2) = true := by rw [decide_eq_true_iff]; omega
            have HRK := Lib.hid (RI.of_own HO.out (by omega))
            cases h3 : hasB (opnT S (zl.take k)) y with
            | true =>
              have E4 := Lib.hid (show opnT S (zl.take (k + 1)) = opnT S (zl.take k) by rw [E1.out, opnS_no3 h3])
              have H3 := Lib.hid h3
              clear h2 h3
              go_wp2_with (go_at_call 80; refine (contains_val true O K co _ y _ HRK.out H3.out).mono ?_; rintro e w7 ⟨rfl, rfl⟩)
              go_roundw
              case rel => exact ⟨k + 1, K, O, co, by omega, by go_num, rfl, by rw [E4.out]; exact HK.out, E3.out, by rw [E4.out]; exact HO.out, HB.out⟩
              case measure => simp [intOf]; omega
            | false =>
              have E4 := Lib.hid (show opnT S (zl.take (k + 1)) = opnT S (zl.take k) ++ [y] by rw [E1.out, opnS_yes h2 (by rw [HK.out]; exact hK3) h3])
              have H3 := Lib.hid h3
              clear h2 h3
              go_wp2_with (first
                | (go_at_call 80; refine (contains_val false O K co _ y _ HRK.out H3.out).mono ?_; rintro e w7 ⟨rfl, rfl⟩)
                | (at_builtin; refine wpList_append_to (wr := w) rfl (.tmp 49) (.tmp 51) rfl (HB.out.alloc HB.out.size _) (.slice O K co) K (opnT S (zl.take k)) rfl (HO.out.alloc _) (some ⟨W6.heap.size, 0, none⟩) 1 1 [y] rfl (RI.lit W6 [y] 1 _ rfl rfl (by omega)) (by omega) (K + 1) rfl _ E4.out.symm ?_; intro A9 c9 w9 ho9 hb9; have HO9 := Lib.hid ho9; have HB9 := Lib.hid hb9; clear ho9 hb9))
              go_roundw
              case rel => exact ⟨k + 1, K + 1, A9, c9, by omega, by go_num, rfl, by rw [E4.out, List.length_append, HK.out]; rfl, E3.out, HO9.out, HB9.out⟩
              case measure => simp [intOf]; omega
          · have dK : decide ((K : Int) < 2) = false := by rw [decide_eq_false_iff_not]; omega
            have E4 := Lib.hid (show opnT S (zl.take (k + 1)) = opnT S (zl.take k) by rw [E1.out, opnS_no2 (by rw [HK.out]; exact hK3)])
            clear h2
            go_wp2
            go_roundw
            case rel => exact ⟨k + 1, K, O, co, by omega, by go_num, rfl, by rw [E4.out]; exact HK.out, E3.out, by rw [E4.out]; exact HO.out, HB.out⟩
            case measure => simp [intOf]; omega
    · obtain rfl : k = m := by omega
      have E : Hid (zl.take k = zl) := Lib.hid (List.take_of_length_le (by rw [HM.out]; omega))
      go_wp2
      go_ret2
      exact LookP.no (by rw [← E.out]; exact HN.out) (by rw [← E.out]; exact HK.out) (by have := RI.of_own HO.out (by omega); rw [E.out] at this; exact this) (fun b off e => (own_lt HO.out (g := b) (by rw [e]; rfl)).1) HB.out

/-- a row of the call's own, as a slice names it -/
structure Hdr where
  g : Option Nat
  n : Nat
  c : Nat

def Hdr.A (h : Hdr) : Option Addr := h.g.map fun g => ⟨g, 0, none⟩

def hdrV (h : Hdr) : Value := .slice h.A h.n h.c

def hd0 : Hdr := ⟨none, 0, 0⟩

theorem hdrV_inj {a b : Hdr} (h : hdrV a = hdrV b) : a = b := by
  obtain ⟨g, n, c⟩ := a
  obtain ⟨g', n', c'⟩ := b
  simp only [hdrV, Hdr.A, Value.slice.injEq] at h
  obtain ⟨h1, rfl, rfl⟩ := h
  cases g <;> cases g' <;> simp at h1
  · rfl
  · subst h1; rfl

theorem hdrV_own (h : Hdr) : (hdrV h).ownBlock = h.g := by
  obtain ⟨g, n, c⟩ := h
  cases g <;> rfl

/-- how such a value reads: through no place -/
def hdrD (h : Hdr) : DataW Unit := .slice (match h.g with | none => [] | some g => [.lit (.int .i64 g)]) [.lit (.int .i64 h.n), .lit (.int .i64 h.c)]

theorem hdrD_inj {a b : Hdr} (h : hdrD a = hdrD b) : a = b := by
  obtain ⟨g, n, c⟩ := a
  obtain ⟨g', n', c'⟩ := b
  cases g <;> cases g' <;> simp [hdrD] at h
  · obtain ⟨h1, h2⟩ := h
    obtain rfl : n = n' := by omega
    obtain rfl : c = c' := by omega
    rfl
  · rename_i g g'
    obtain ⟨h0, h1, h2⟩ := h
    obtain rfl : n = n' := by omega
    obtain rfl : c = c' := by omega
    obtain rfl : g = g' := by omega
    rfl

open Classical in

noncomputable def RH (v : Value) : Option (DataW Unit × List MemPlace) := if h : ∃ x : Hdr, v = hdrV x then some (hdrD h.choose, []) else none

theorem RH_mk (x : Hdr) : RH (hdrV x) = some (hdrD x, []) := by
  have h : ∃ y : Hdr, hdrV x = hdrV y := ⟨x, rfl⟩
  unfold RH
  rw [dif_pos h, ← hdrV_inj h.choose_spec]

theorem RH_inv {v : Value} {x : Hdr} {ps : List MemPlace} (h : RH v = some (hdrD x, ps)) : v = hdrV x := by
  unfold RH at h
  split at h
  · rename_i h1
    simp only [Option.some.injEq, Prod.mk.injEq] at h
    rw [← hdrD_inj h.1]
    exact h1.choose_spec
  · cases h

/-- the block is a map that holds what f says -/
def HM (w : World) (b n : Nat) (f : Int → Option Hdr) : Prop := ∃ D : DataW Unit, w.ownsMap Try.prog 3 RH b n D ∧ Holdsf hdrD D f

theorem HM.lt {w : World} {b n : Nat} {f : Int → Option Hdr} (h : HM w b n f) : b < w.heap.size := by
  obtain ⟨D, h1, h2⟩ := h; exact h1.lt

theorem HM.kept {w w' : World} {b n : Nat} {f : Int → Option Hdr} {row : Option Nat} (h : HM w b n f) (hg : w.grownBy w' row) (hne : some b ≠ row) : HM w' b n f := by
  obtain ⟨D, h1, h2⟩ := h; exact ⟨D, h1.kept hg hne, h2⟩

theorem HM.block {w : World} {b n : Nat} {f : Int → Option Hdr} (h : HM w b n f) : ∃ es clock, w.heap[b]? = some (.map es clock) := by
  obtain ⟨D, ⟨es, clock, h1, _⟩, _⟩ := h; exact ⟨es, clock, h1⟩

theorem HM.look {t : TypeId} (ht : Try.prog.underlying t = some (.map 3 31)) {w : World} {b n : Nat} {f : Int → Option Hdr} (h : HM w b n f) {x : Int} (hx : wfI x = true) :
    (Instr.lookup t (.map (some b)) (.int .i64 x) false).run Try.prog w = .ok (hdrV ((f x).getD hd0)) w := by
  obtain ⟨D, h1, h2, h3⟩ := h
  obtain ⟨v, ps, hrun, hv⟩ := h1.lookup (Maps.int_keyed Try.underlying3) ht (z := hdrV hd0) (Try.zeroValue31 w) (RH_mk hd0) (Maps.keyOf_int_mk Try.underlying3 hx)
  rw [hrun]
  cases hf : f x with
  | none =>
    rw [Maps.atKey_of_not_has (by rw [h2 x hx, hf]; rfl)] at hv
    rw [RH_inv hv]; rfl
  | some y =>
    rw [h3 x y hx hf] at hv
    rw [RH_inv hv]; rfl

theorem HM.put {t : TypeId} (ht : Try.prog.underlying t = some (.map 3 31)) {w : World} {b n : Nat} {f : Int → Option Hdr} (h : HM w b n f) (hn : n < maxLen) {x : Int} (hx : wfI x = true) (v : Hdr) :
    ∃ w', (Instr.mapUpdate t (.map (some b)) (.int .i64 x) (hdrV v)).run Try.prog w = .ok () w' ∧ HM w' b (n + 1) (putF f x v) ∧ w.mapTurned w' b := by
  obtain ⟨D, h1, h2⟩ := h
  obtain ⟨w', hrun, ho, hg⟩ := h1.store (Maps.int_keyed Try.underlying3) ht hn (Maps.keyOf_int_mk Try.underlying3 hx) (RH_mk v)
  exact ⟨w', hrun, ⟨_, ho, h2.put h1.isMap x v⟩, hg⟩

def hat (f : Int → Option Hdr) (x : Int) : Hdr := (f x).getD hd0

theorem hat_put (f : Int → Option Hdr) (x : Int) (v : Hdr) (y : Int) : hat (putF f x v) y = if y = x then v else hat f y := by
  unfold hat putF; by_cases h : y = x <;> simp [h]

def setW (wt : Int → List Int) (x : Int) (zs : List Int) : Int → List Int := fun y => if y = x then zs else wt y

/-- the watches: under each key a row of the call's own, no two of them one -/
structure Wat (w : World) (base bw nw : Nat) (f : Int → Option Hdr) (wt : Int → List Int) : Prop where
  map : HM w bw nw f
  row : ∀ x, wfI x = true → w.ownsRow base 3 1 (hdrV (hat f x)) (hat f x).n ((wt x).map (Value.int .i64))
  sep : ∀ x y g, x ≠ y → wfI x = true → wfI y = true → (hat f x).g = some g → (hat f y).g ≠ some g

theorem Wat.ne {w : World} {base bw nw : Nat} {f : Int → Option Hdr} {wt : Int → List Int} (h : Wat w base bw nw f wt) {x : Int} (hx : wfI x = true) : (hat f x).g ≠ some bw := by
  intro e
  obtain ⟨es, clock, h1⟩ := h.map.block
  obtain ⟨_, h2⟩ := h.row x hx
  have h3 := hdrV_own (hat f x)
  rcases h2 with ⟨h4, _⟩ | ⟨g, cap, cur, h4, _, h5, _⟩
  · rw [h4, e] at h3; cases h3
  · rw [h4, e] at h3
    simp only [Value.ownBlock, Option.some.injEq] at h3
    subst h3
    rw [h1] at h5; cases h5

theorem Wat.kept {w w' : World} {base bw nw : Nat} {f : Int → Option Hdr} {wt : Int → List Int} {row : Option Nat} (h : Wat w base bw nw f wt) (hg : w.grownBy w' row) (h1 : some bw ≠ row) (h2 : ∀ x g, wfI x = true → (hat f x).g = some g → some g ≠ row) : Wat w' base bw nw f wt := by
  refine ⟨h.map.kept hg h1, fun x hx => (h.row x hx).kept hg ?_, h.sep⟩
  rw [hdrV_own]
  cases hg2 : (hat f x).g with
  | none => exact Or.inl rfl
  | some g => exact Or.inr (h2 x g hx hg2)

/-- a key written: its row is one that no other key has -/
theorem Wat.put {t : TypeId} (ht : Try.prog.underlying t = some (.map 3 31)) {w : World} {base bw nw : Nat} {f : Int → Option Hdr} {wt : Int → List Int} {x : Int} (hm : HM w bw nw f) (hrow : ∀ y, y ≠ x → wfI y = true → w.ownsRow base 3 1 (hdrV (hat f y)) (hat f y).n ((wt y).map (Value.int .i64)))
    (hsep : ∀ x y g, x ≠ y → wfI x = true → wfI y = true → (hat f x).g = some g → (hat f y).g ≠ some g) (hn : nw < maxLen) (hx : wfI x = true) (v : Hdr) (zs : List Int) (hv : w.ownsRow base 3 1 (hdrV v) v.n (zs.map (Value.int .i64))) (hne : ∀ y g, y ≠ x → wfI y = true → (hat f y).g = some g → v.g ≠ some g) :
    ∃ w', (Instr.mapUpdate t (.map (some bw)) (.int .i64 x) (hdrV v)).run Try.prog w = .ok () w' ∧ Wat w' base bw (nw + 1) (putF f x v) (setW wt x zs) ∧ w.mapTurned w' bw := by
  obtain ⟨es, clock, hblk⟩ := hm.block
  obtain ⟨w', h1, h2, h3⟩ := hm.put ht hn hx v
  have keep : ∀ (h : Hdr) (l : List Value), w.ownsRow base 3 1 (hdrV h) h.n l → w'.ownsRow base 3 1 (hdrV h) h.n l := by
    intro h l ho
    refine ho.kept h3.grown ?_
    rcases ho.2 with ⟨h4, _⟩ | ⟨g, cap, cur, h4, _, h5, _⟩
    · left; rw [h4]; rfl
    · right
      rw [h4]
      simp only [Value.ownBlock, ne_eq, Option.some.injEq]
      intro e
      subst e
      rw [hblk] at h5; cases h5
  refine ⟨w', h1, ⟨h2, fun y hy => ?_, fun a b g hab ha hb hga => ?_⟩, h3⟩
  · rw [hat_put]
    unfold setW
    by_cases e : y = x
    · rw [if_pos e, if_pos e]; exact keep v _ hv
    · rw [if_neg e, if_neg e]; exact keep _ _ (hrow y e hy)
  · rw [hat_put] at hga ⊢
    by_cases e1 : a = x
    · rw [if_pos e1] at hga
      rw [if_neg (fun e2 => hab (e1.trans e2.symm))]
      intro h
      exact hne b g (fun e2 => hab (e1.trans e2.symm)) hb h hga
    · rw [if_neg e1] at hga
      by_cases e2 : b = x
      · rw [if_pos e2]
        exact hne a g e1 ha hga
      · rw [if_neg e2]; exact hsep a b g hab ha hb hga

end Go.Proofs.Ytalcnkoidmoibaa
