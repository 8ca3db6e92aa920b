/-
  tidy.comes: the closure of the negations of some literals under all clauses but one. No condition.
-/
import Derived.Test.YtalcnkoidmoibaaZA4
import Derived.Sort.LoopGhostIn

namespace Go.Proofs.Ytalcnkoidmoibaa
open Go.RowKit Go.Shelf
set_option linter.unusedVariables false
set_option linter.unusedSimpArgs false
attribute [local go_sem] Oper.semAt_some

/-- what comes hands back -/
def Came (cls : List (List Int)) (left : List Int) (w : World) (e : Ending) (w' : World) : Prop :=
  (closureT cls (left.map (-·)) = none ∧ e = .returned (.tuple #[.map none, .bool false]) ∧ Below w.heap.size w w') ∨
  ∃ S b m, closureT cls (left.map (-·)) = some S ∧ e = .returned (.tuple #[.map (some b), .bool true]) ∧ SM w' b m S ∧ Below w.heap.size w w'

/-- the function's own blocks: two boxes for the results, the map, the box of the map -/
structure St (w W : World) (S : List Int) : Prop where
  m : SM W (w.heap.size + 1 + 1) S.length S
  r0 : Boxed W w.heap.size 59 (.map none)
  r1 : Boxed W (w.heap.size + 1) 4 (.bool false)
  r3 : Boxed W (w.heap.size + 1 + 1 + 1) 59 (.map (some (w.heap.size + 1 + 1)))
  below : Below w.heap.size w W

theorem St.lt {w W : World} {S : List Int} (h : St w W S) : w.heap.size + 1 + 1 + 1 < W.heap.size := h.r3.lt
theorem St.kept {w W W' : World} {S : List Int} {row : Option Nat} (h : St w W S) (hg : W.grownBy W' row) (hr : ∀ r, row = some r → w.heap.size + 4 ≤ r) : St w W' S :=
  ⟨h.m.kept hg (fun e => by have := hr _ e.symm; omega), h.r0.kept hg (fun e => by have := hr _ e.symm; omega), h.r1.kept hg (fun e => by have := hr _ e.symm; omega), h.r3.kept hg (fun e => by have := hr _ e.symm; omega),
    h.below.grown hg h.below.size (fun k e => by have := hr _ e; omega)⟩
theorem St.alloc {w W : World} {S : List Int} (h : St w W S) (o : Obj) : St w (W.alloc o) S := h.kept (World.grownBy_alloc W o none) (fun r e => by cases e)
theorem St.set {w W : World} {S : List Int} (h : St w W S) {B : Nat} (hB : w.heap.size + 4 ≤ B) (v : Value) : St w (W.setCell ⟨B, 0, none⟩ v) S := h.kept (grownBy_setCell' W B v) (fun r e => by cases e; exact hB)
theorem St.put {w W : World} {S : List Int} (h : St w W S) (hn : S.length < maxLen) {x : Int} (hx : (Lit.int .i64 x).wf = true) :
    ∃ W', (Instr.mapUpdate 59 (.map (some (w.heap.size + 1 + 1))) (.int .i64 x) (.bool true)).run Try.prog W = .ok () W' ∧ St w W' (S ++ [x]) ∧ W.grownBy W' (some (w.heap.size + 1 + 1)) := by
  obtain ⟨W', hrun, hm, hg⟩ := h.m.put hn hx
  refine ⟨W', hrun, ⟨by rw [List.length_append]; exact hm, h.r0.kept hg (by simp; omega), h.r1.kept hg (by simp), h.r3.kept hg (by simp), h.below.grown hg h.below.size (fun k e => by cases e; omega)⟩, hg⟩

/-- the marks of the loops that are over -/
structure Mk (w W : World) (ds : List Nat) : Prop where
  nd : ds.Nodup
  at' : ∀ D ∈ ds, w.heap.size + 4 ≤ D ∧ W.heap[D]? = some (.deferred (some []))
theorem Mk.lt {w W : World} {ds : List Nat} (h : Mk w W ds) {D : Nat} (hD : D ∈ ds) : D < W.heap.size := (Array.getElem?_eq_some_iff.1 (h.at' D hD).2).1
theorem Mk.kept {w W W' : World} {ds : List Nat} {row : Option Nat} (h : Mk w W ds) (hg : W.grownBy W' row) (hr : ∀ r, row = some r → r ∉ ds) : Mk w W' ds :=
  ⟨h.nd, fun D hD => ⟨(h.at' D hD).1, (hg.block D (h.lt hD) (fun e => hr D e.symm hD)).trans (h.at' D hD).2⟩⟩
theorem Mk.alloc {w W : World} {ds : List Nat} (h : Mk w W ds) (o : Obj) : Mk w (W.alloc o) ds := h.kept (World.grownBy_alloc W o none) (fun r e => by cases e)
theorem Mk.box {w W : World} {ds : List Nat} (h : Mk w W ds) {B : Nat} {t : TypeId} {u : Value} (hB : Boxed W B t u) (v : Value) : Mk w (W.setCell ⟨B, 0, none⟩ v) ds :=
  h.kept (grownBy_setCell' W B v) (fun r e hr => by cases e; have := (h.at' B hr).2; rw [show W.heap[B]? = _ from hB] at this; cases this)
theorem Mk.map {w W W' : World} {ds : List Nat} (h : Mk w W ds) (hg : W.grownBy W' (some (w.heap.size + 1 + 1))) : Mk w W' ds :=
  h.kept hg (fun r e hr => by cases e; have := (h.at' _ hr).1; omega)
theorem Mk.cons {w W : World} {ds : List Nat} (h : Mk w W ds) {D : Nat} (hD : w.heap.size + 4 ≤ D) (hW : W.heap[D]? = some (.deferred (some []))) (hn : D ∉ ds) : Mk w W (D :: ds) :=
  ⟨List.nodup_cons.2 ⟨hn, h.nd⟩, fun E hE => (List.mem_cons.1 hE).elim (fun e => by subst e; exact ⟨hD, hW⟩) (fun e => h.at' E e)⟩

/-- the head of the outer loop -/
structure Head (w W : World) (cls : List (List Int)) (S0 S : List Int) (m : Bool) (Bm : Nat) (ds : List Nat) : Prop where
  st : St w W S
  bm : Boxed W Bm 4 (.bool m)
  lo : w.heap.size + 4 ≤ Bm
  mks : Mk w W ds
  few : S.length + openT cls S ≤ 100000
  yes : m = true → closureT cls S0 = closureT cls S
  no : m = false → closureT cls S0 = some S

theorem SM.of_block {W W' : World} {b n : Nat} {S : List Int} (h : SM W b n S) (e : W'.heap[b]? = W.heap[b]?) : SM W' b n S := by
  obtain ⟨D, ⟨es, clock, h1, h3⟩, h2⟩ := h; exact ⟨D, ⟨es, clock, e.trans h1, h3⟩, h2⟩
theorem passT_len : ∀ (cls : List (List Int)) (S : List Int) (m : Bool) (S' : List Int) (m' : Bool), passT S m cls = some (S', m') → S'.length ≤ S.length + cls.length
  | [], S, m, S', m', h => by cases h; simp
  | l :: cls, S, m, S', m', h => by
    rw [passT] at h
    split at h
    · cases h
    · split at h
      · have := passT_len cls _ _ _ _ h; simp at this ⊢; omega
      · have := passT_len cls _ _ _ _ h; simp at this ⊢; omega
theorem comes_results {tmps : Array Value} {W : World} {z : Nat} {v : Option Nat} {x : Bool} (h6 : tmps.getD 6 undef = .pointer (some ⟨z, 0, none⟩)) (h7 : tmps.getD 7 undef = .pointer (some ⟨z + 1, 0, none⟩))
    (c6 : W.cell? ⟨z, 0, none⟩ = some (.map v)) (c7 : W.cell? ⟨z + 1, 0, none⟩ = some (.bool x)) : (results Try.f37 tmps).run Try.prog W = .ok (.tuple #[.map v, .bool x]) W := by
  rw [Array.getD_eq_getD_getElem?] at h6 h7
  simp [results, Try.results37, go_sem, h6, h7, c6, c7]

/-- the way out, past the marks -/
theorem comes_out {cls : List (List Int)} {left : List Int} {w W : World} {ds : List Nat} {tmps : Array Value} {v : Option Nat} {x : Bool} (h6 : tmps.getD 6 undef = .pointer (some ⟨w.heap.size, 0, none⟩)) (h7 : tmps.getD 7 undef = .pointer (some ⟨w.heap.size + 1, 0, none⟩))
    (b6 : Boxed W w.heap.size 59 (.map v)) (b7 : Boxed W (w.heap.size + 1) 4 (.bool x)) (hm : Mk w W ds) (hb : Below w.heap.size w W)
    (hs : (closureT cls (left.map (-·)) = none ∧ v = none ∧ x = false) ∨ ∃ S m, closureT cls (left.map (-·)) = some S ∧ v = some (w.heap.size + 1 + 1) ∧ x = true ∧ SM W (w.heap.size + 1 + 1) m S) :
    LeavesInM Fence.wide 6 Try.prog Try.f37 tmps (Came cls left w) (ds.map coll) .returning W := by
  refine leaves_marks (by simp) ds _ hm.nd (fun D hD => (hm.at' D hD).2) (fun W' hsh => ⟨_, comes_results h6 h7 ((hsh.cell (p := ⟨w.heap.size, 0, none⟩) (fun h => ?_)).trans b6.cell) ((hsh.cell (p := ⟨w.heap.size + 1, 0, none⟩) (fun h => ?_)).trans b7.cell), ?_⟩)
  · have := (hm.at' _ h).1; simp at this; omega
  · have := (hm.at' _ h).1; simp at this
  · have hb' := hsh.below hb (fun D hD => by have := (hm.at' D hD).1; omega)
    rcases hs with ⟨h1, rfl, rfl⟩ | ⟨S, m, h1, rfl, rfl, h2⟩
    · exact .inl ⟨h1, rfl, hb'⟩
    · exact .inr ⟨S, _, m, h1, rfl, h2.of_block (hsh.block _ (fun h => by have := (hm.at' _ h).1; omega)), hb'⟩

theorem map_erase {α β : Type} (f : α → β) : ∀ (l : List α) (k : Nat), (l.eraseIdx k).map f = (l.map f).eraseIdx k
  | [], k => by simp
  | x :: l, 0 => by simp
  | x :: l, k + 1 => by simp [map_erase f l k]

set_option maxRecDepth 100000 in
set_option maxHeartbeats 4000000 in
theorem comes_any (n c b off : Nat) (ls : List (List Int)) (but : Nat) (A' : Option Addr) (n' c' : Nat) (left : List Int) (w : World) (hL : RL w (some ⟨b, off, none⟩) n c ls) (hb : b < w.heap.size) (hbut : but < n) (hok : ∀ l ∈ ls, Okl l)
    (hR : RI w A' n' c' left) (hRo : Okl left) (hfew : n' + sumL (ls.eraseIdx but) ≤ 100000) :
    Calls Try.prog 37 #[.slice (some ⟨b, off, none⟩) n c, .int .i64 but, .slice A' n' c'] w (Came (ls.eraseIdx but) left w) := by
  have hn' := hR.small
  have HL := Lib.hid hL
  have HR := Lib.hid hR
  have HO := Lib.hid hok
  have HRo := Lib.hid hRo
  have HF := Lib.hid hfew
  have hnn := hL.small
  clear hL hR hok hRo hfew
  have hmm := @run_makeMap Try.prog
  refine (callsIn_wide (n := 6)).1 ?_
  refine callsIn_of_wp_marks Try.func37 rfl trivial ?_ rfl
  simp only [Try.ntmps37, List.size_toArray, List.length_cons, List.length_nil, Nat.reduceAdd, Nat.reduceSub, Array.replicate_succ, Array.replicate_zero, List.push_toArray, List.append_toArray, List.nil_append, List.cons_append]
  gi_wp2
  obtain ⟨W0, hW0⟩ : ∃ W0, (((w.alloc (.cells #[.map none] 59)).alloc (.cells #[.bool false] 4)).alloc (.map #[] 0)).alloc (.cells #[.map (some (w.heap.size + 1 + 1))] 59) = W0 := ⟨_, rfl⟩
  have s0 : St w W0 ((left.take 0).map (-·)) := by
    rw [← hW0]
    refine ⟨?_, (((Boxed.new w _ _).alloc _).alloc _).alloc _, ?_, ?_, ?_⟩
    · have := (SM.made ((w.alloc (.cells #[.map none] 59)).alloc (.cells #[.bool false] 4))).alloc (.cells #[.map (some (w.heap.size + 1 + 1))] 59)
      simpa using this
    · have := ((Boxed.new (w.alloc (.cells #[.map none] 59)) 4 (.bool false)).alloc (.map #[] 0)).alloc (.cells #[.map (some (w.heap.size + 1 + 1))] 59)
      simpa using this
    · have := Boxed.new (((w.alloc (.cells #[.map none] 59)).alloc (.cells #[.bool false] 4)).alloc (.map #[] 0)) 59 (.map (some (w.heap.size + 1 + 1)))
      simpa using this
    · exact ((((Below.refl _ w).alloc (Nat.le_refl _) _).alloc (by simp) _).alloc (by simp; omega) _).alloc (by simp; omega) _
  rw [hW0]
  have HS0 := Lib.hid s0
  clear s0 hW0
  gi_loopw [18] (fun i wr => ∃ k : Nat, k ≤ n' ∧ i = .int .i64 k ∧ St w wr ((left.take k).map (-·))) (fun i _ => n' - (intOf i).toNat)
  case atStart => exact ⟨0, Nat.zero_le _, rfl, HS0.out⟩
  case round =>
    obtain ⟨k, hk, rfl, hst⟩ := hrel
    have HS := Lib.hid hst
    have hc8 := hst.r3.cell
    clear hst
    by_cases hlt : k < n'
    · obtain ⟨b1, o1, rfl, hb1, hc1⟩ := HR.out.cells (by omega)
      have hck := (HS.out.below.cell (p := ⟨b1, o1 + k, none⟩) hb1).trans (hc1 k hlt)
      clear hc1
      have hl : k < left.length := by rw [HR.out.len]; exact hlt
      have hx := HRo.out.at hl
      have hneg := lit_neg' hx.2.1 hx.2.2
      obtain ⟨W', hrun, hst', hg'⟩ := HS.out.put (x := -(elt left k)) (by rw [List.length_map, List.length_take]; have := HF.out; simp [maxLen]; omega) (wf_lit (by omega) (by omega))
      have HS' := Lib.hid hst'
      clear hst' hx hg'
      gi_wp2
      go_roundw
      case rel => exact ⟨k + 1, by omega, by simp, by rw [take_snoc left k hl, List.map_append]; exact HS'.out⟩
      case measure => simp [intOf]; omega
    · have HSf : St w wr (left.map (-·)) := by have := HS.out; rwa [List.take_of_length_le (by rw [HR.out.len]; omega)] at this
      replace HS := Lib.hid HSf
      clear HSf
      gi_wp2
      refine wpIn_loop_ghost_k (fun g a W => ∃ (Bm : Nat) (m : Bool) (S : List Int) (ds : List Nat) (u9 u10 u12 u13 u14 u15 u16 u17 u18 u19 u20 u21 u22 u23 u24 u25 u26 u27 u28 u29 u30 u31 u32 u33 u34 u35 u36 u37 u38 u39 u40 u41 u42 u43 : Value), a = { tmps := #[.slice (some ⟨b, off, none⟩) n c, .int .i64 but, .slice A' n' c', undef, undef, undef, .pointer (some ⟨w.heap.size, 0, none⟩), .pointer (some ⟨w.heap.size + 1, 0, none⟩), .pointer (some ⟨w.heap.size + 1 + 1 + 1, 0, none⟩), u9, u10, .pointer (some ⟨Bm, 0, none⟩), u12, u13, u14, u15, u16, u17, u18, u19, u20, u21, u22, u23, u24, u25, u26, u27, u28, u29, u30, u31, u32, u33, u34, u35, u36, u37, u38, u39, u40, u41, u42, u43], defers := ds.map coll } ∧ Head w W (ls.eraseIdx but) (left.map (-·)) S m Bm ds ∧ g = openT (ls.eraseIdx but) S + (if m = true then 1 else 0)) (openT (ls.eraseIdx but) (left.map (-·)) + 1) ?start ?round
      case start =>
        refine ⟨_, true, left.map (-·), [], _, _, _, _, _, _, _, _, _, _, _, _, _, _, _, _, _, _, _, _, _, _, _, _, _, _, _, _, _, _, _, _, _, _, rfl, ⟨HS.out.alloc _, Boxed.new wr 4 (.bool true), by have := HS.out.lt; omega, ⟨List.nodup_nil, fun D h => by cases h⟩, ?_, fun _ => rfl, fun h => (by cases h)⟩, by simp⟩
        have := openT_le (ls.eraseIdx but) (left.map (-·))
        have := HF.out
        have := HR.out.len
        rw [List.length_map]
        omega
      case round =>
        clear HS
        rintro g a W ⟨Bm, m, S, ds, u9, u10, u12, u13, u14, u15, u16, u17, u18, u19, u20, u21, u22, u23, u24, u25, u26, u27, u28, u29, u30, u31, u32, u33, u34, u35, u36, u37, u38, u39, u40, u41, u42, u43, rfl, hh, rfl⟩ J K hJ hK
        have hcm := hh.bm.cell
        have hc8 := hh.st.r3.cell
        cases m with
        | false =>
          have hc6 := hh.st.r0.cell
          have hf6 := hh.st.r0.frozen
          have hc7 := hh.st.r1.cell
          have hf7 := hh.st.r1.frozen
          have HH := Lib.hid hh
          clear hh
          gi_wp2
          have h := HH.out
          have s1 : Boxed (W.setCell ⟨w.heap.size, 0, none⟩ (.map (some (w.heap.size + 1 + 1)))) (w.heap.size + 1) 4 (.bool false) := h.st.r1.kept (grownBy_setCell' W _ _) (by simp)
          refine comes_out (v := some (w.heap.size + 1 + 1)) (x := true) rfl rfl ((h.st.r0.set _).kept (grownBy_setCell' _ _ _) (by simp)) (s1.set _) ((h.mks.box h.st.r0 _).box s1 _) ((h.st.below.setCell (p := ⟨w.heap.size, 0, none⟩) (Nat.le_refl _) _).setCell (p := ⟨w.heap.size + 1, 0, none⟩) (by simp) _) (.inr ⟨S, _, h.no rfl, rfl, rfl, (h.st.m.kept (grownBy_setCell' _ _ _) (by simp; omega)).kept (grownBy_setCell' _ _ _) (by simp)⟩)
        | true =>
          have hfm := hh.bm.frozen
          have HH := Lib.hid hh
          clear hh
          gi_wp2_with (refine ⟨trivial, ?_⟩; gi_at_call 67; refine (clauses_in _ _ trivial rfl _ _ _ _ _).mono ?_; rintro e W2 ⟨rfl, rfl⟩)
          obtain ⟨W2, hW2⟩ : ∃ W2, (((W.setCell ⟨Bm, 0, none⟩ (.bool false)).alloc (.cells #[.slice (some ⟨b, off, none⟩) n c] 27)).alloc (.cells #[.int .i64 but] 3)) = W2 := ⟨_, rfl⟩
          rw [hW2]
          have hsz : W2.heap.size = W.heap.size + 1 + 1 := by rw [← hW2]; simp
          have st2 : St w W2 S := by rw [← hW2]; exact ((HH.out.st.set HH.out.lo _).alloc _).alloc _
          have bm2 : Boxed W2 Bm 4 (.bool false) := by rw [← hW2]; exact ((HH.out.bm.set _).alloc _).alloc _
          have mk2 : Mk w W2 ds := by rw [← hW2]; exact ((HH.out.mks.box HH.out.bm _).alloc _).alloc _
          have bs2 : Boxed W2 W.heap.size 27 (.slice (some ⟨b, off, none⟩) n c) := by
            rw [← hW2]; have := (Boxed.new (W.setCell ⟨Bm, 0, none⟩ (.bool false)) 27 (.slice (some ⟨b, off, none⟩) n c)).alloc (.cells #[.int .i64 but] 3); simpa using this
          have bb2 : Boxed W2 (W.heap.size + 1) 3 (.int .i64 but) := by
            rw [← hW2]; have := Boxed.new ((W.setCell ⟨Bm, 0, none⟩ (.bool false)).alloc (.cells #[.slice (some ⟨b, off, none⟩) n c] 27)) 3 (.int .i64 but); simpa using this
          have hBm := HH.out.bm.lt
          have hlo := HH.out.lo
          have hwW := HH.out.st.lt
          have hds : ∀ D ∈ ds, D < W2.heap.size := fun D hD => mk2.lt hD
          clear hW2
          obtain ⟨rs, hrs1, hrs2⟩ := rows_make (w := w) ls (fun j => (w.cell? ⟨b, off + j, none⟩).getD undef) (fun j hj => by
            obtain ⟨b1, o1, e1, _, hc1⟩ := HL.out.cells (by omega)
            cases e1
            obtain ⟨A1, n1, c1, hc, hri⟩ := hc1 j (by rw [← HL.out.len]; exact hj)
            exact ⟨A1, n1, c1, by simp [hc], hri, HO.out _ (ell_mem hj)⟩)
          have hrl : rs.length = n := by rw [← HL.out.len, ← hrs1, List.length_map]
          have hcells : ∀ j, j < n → W2.cell? ⟨b, off + j, none⟩ = some (.slice (rowAt rs j).1.A (rowAt rs j).1.n (rowAt rs j).1.c) := fun j hj => by
            obtain ⟨b1, o1, e1, _, hc1⟩ := HL.out.cells (by omega)
            cases e1
            obtain ⟨A1, n1, c1, hc, hri⟩ := hc1 j hj
            have h2 := hrs2 j (by rw [HL.out.len]; exact hj)
            simp only [hc, Option.getD_some] at h2
            rw [← h2, st2.below.cell (p := ⟨b, off + j, none⟩) hb, hc]
          have hpre : (rs.eraseIdx but).map (·.1.zs) = ls.eraseIdx but := by rw [← hrs1, map_erase]
          have HRS := Lib.hid (And.intro hrs1 (And.intro hrs2 hpre))
          clear hrs1 hrs2 hpre
          refine wpIn_rangeFunc_ownG (F := Fence.wide) rfl (by omega) (gf := 92) (lb := #[.pointer (some ⟨W.heap.size, 0, none⟩), .pointer (some ⟨W.heap.size + 1, 0, none⟩)]) rfl trivial (enters_of Try.func92 (by kernel_rfl) rfl)
            (clauses_stops Fence.wide (6 - 1) trivial rfl (by omega) W.heap.size (W.heap.size + 1) w.heap.size b off n c but w rs hrl hnn hb W2 (by omega) (by omega) (by omega) bs2.cell bb2.cell hcells)
            (fun h k => KpB.trans h k) (fun V l o o' hl hv ho _ => ⟨belowK_b (w := w) (Nat.le_refl _) V l o o' (by omega) hv ho (by assumption), fun v hv' => (World.cell?_of_block (w := V) (World.putObj_heap_other (by show W.heap.size + 1 ≠ l; omega))).trans hv'⟩) (Below.refl _ _) (fun _ => rfl)
            (fun pre V => ∃ S' m', passT S false (pre.map (·.1.zs)) = some (S', m') ∧ St w V S' ∧ Boxed V Bm 4 (.bool m') ∧ Mk w V ds)
            (fun c pre V => c = .ret ∧ passT S false (pre.map (·.1.zs)) = none ∧ Boxed V w.heap.size 59 (.map none) ∧ Boxed V (w.heap.size + 1) 4 (.bool false) ∧ Mk w V ds ∧ Below w.heap.size w V)
            ?hI ?hIx ⟨S, false, rfl, st2, bm2, mk2⟩
            (fun x => { tmps := #[.slice (some ⟨b, off, none⟩) n c, .int .i64 but, .slice A' n' c', undef, undef, undef, .pointer (some ⟨w.heap.size, 0, none⟩), .pointer (some ⟨w.heap.size + 1, 0, none⟩), .pointer (some ⟨w.heap.size + 1 + 1 + 1, 0, none⟩), u9, u10, .pointer (some ⟨Bm, 0, none⟩), .slice x.1.A x.1.n x.1.c, u13, u14, u15, u16, u17, u18, u19, u20, u21, u22, u23, u24, u25, .bool true, .slice (some ⟨b, off, none⟩) n c, .int .i64 but, .func (.func 92) #[] #[.pointer (some ⟨W.heap.size, 0, none⟩), .pointer (some ⟨W.heap.size + 1, 0, none⟩)], .slice x.1.A x.1.n x.1.c, u31, u32, u33, u34, u35, u36, u37, u38, u39, u40, u41, u42, u43], defers := [] }) ?assign ?body ?done ?stop
          case hI =>
            rintro pre A B row ⟨S', m', hp, hs, hbx, hmk⟩ hg hr
            exact ⟨S', m', hp, hs.kept hg (fun r e => by have := (hr r e).1; omega), hbx.kept hg (fun e => by have := (hr _ e.symm).1; omega), hmk.kept hg (fun r e hr' => by have := (hr r e).1; have := hds r hr'; omega)⟩
          case hIx =>
            rintro cc pre A B row ⟨rfl, hp, h0, h1, hmk, hbl⟩ hg hr
            exact ⟨rfl, hp, h0.kept hg (fun e => by have := (hr _ e.symm).1; omega), h1.kept hg (fun e => by have := (hr _ e.symm).1; omega), hmk.kept hg (fun r e hr' => by have := (hr r e).1; have := hds r hr'; omega), hbl.grown hg hbl.size (fun k e => by have := (hr _ e).1; omega)⟩
          case assign =>
            intro l x V K hK
            gi_wp2
            exact hK
          case body =>
            rintro l pre x V ⟨S', m', hp, hst, hbx, hmk⟩ hlt2
            have hc8 := hst.r3.cell
            have hcm2 := hbx.cell
            have hfm2 := hbx.frozen
            have hc6 := hst.r0.cell
            have hf6 := hst.r0.frozen
            have hc7 := hst.r1.cell
            have hf7 := hst.r1.frozen
            have hcall := unit_any _ _ _ _ _ _ _ V (x.2.1.below hst.below) hst.m x.2.2
            have hps : passT S false ((pre ++ [x]).map (·.1.zs)) = passT S' m' [x.1.zs] := by rw [List.map_append, List.map_cons, List.map_nil, passT_snoc, hp]; rfl
            rw [passT, passT, passT] at hps
            have hlen := passT_len _ _ _ _ _ hp
            rw [List.length_map] at hlen
            have hmem : (unitT S' x.1.zs 0).1 ≠ 0 → (unitT S' x.1.zs 0).1 ∈ x.1.zs := fun h => (unitT_mem h).1
            obtain ⟨⟨lit, wrong⟩, hu⟩ : ∃ r, unitT S' x.1.zs 0 = r := ⟨_, rfl⟩
            rw [hu] at hcall hps hmem
            dsimp only at hcall hps hmem
            have HST := Lib.hid hst
            have HBX := Lib.hid hbx
            have HMK := Lib.hid hmk
            have HPS := Lib.hid hps
            clear hst hbx hmk hps hp hu
            cases wrong with
            | true =>
              gi_wp2_with (refine ⟨trivial, ?_⟩; gi_at_call 68; refine (CallsIn.inRound l (callsIn_wide.2 hcall)).mono ?_; clear hcall; rintro e V1 ⟨rfl, rfl⟩)
              have s1 : Boxed (V.setCell ⟨w.heap.size, 0, none⟩ (.map none)) (w.heap.size + 1) 4 (.bool false) := HST.out.r1.kept (grownBy_setCell' V _ _) (by simp)
              exact ⟨((KeepsOthers.setCell _ _ _).trans (KeepsOthers.setCell _ _ _)).from _, rfl, by rw [HPS.out]; rfl, (HST.out.r0.set _).kept (grownBy_setCell' _ _ _) (by simp), s1.set _, (HMK.out.box HST.out.r0 _).box s1 _, (HST.out.below.setCell (p := ⟨w.heap.size, 0, none⟩) (Nat.le_refl _) _).setCell (p := ⟨w.heap.size + 1, 0, none⟩) (by simp) _⟩
            | false =>
              by_cases h0 : lit = 0
              · subst h0
                gi_wp2_with (refine ⟨trivial, ?_⟩; gi_at_call 68; refine (CallsIn.inRound l (callsIn_wide.2 hcall)).mono ?_; clear hcall; rintro e V1 ⟨rfl, rfl⟩)
                exact ⟨KeepsFrom.refl _ _, KpB.refl _ _ _, S', m', by rw [HPS.out]; rfl, HST.out, HBX.out, HMK.out⟩
              · have h0' : (lit != 0) = true := by simpa using h0
                have hx := x.2.2 lit (hmem h0)
                obtain ⟨V', hrun, hst', hg'⟩ := HST.out.put (x := lit) (by have := HH.out.few; simp only [maxLen]; omega) (wf_lit hx.2.1 hx.2.2)
                have hbx' := HBX.out.kept hg' (by simp; omega)
                have hcm' := hbx'.cell
                have hfm' := hbx'.frozen
                have HST' := Lib.hid hst'
                have HBX' := Lib.hid hbx'
                have HG' := Lib.hid hg'
                have H0 := Lib.hid h0
                clear hst' hbx' hg' hx h0
                gi_wp2_with (refine ⟨trivial, ?_⟩; gi_at_call 68; refine (CallsIn.inRound l (callsIn_wide.2 hcall)).mono ?_; clear hcall; rintro e V1 ⟨rfl, rfl⟩)
                refine ⟨(KeepsFrom.of_grownBy HG'.out (fun j e => by cases e; omega)).trans ((KeepsOthers.setCell _ _ _).from _), ⟨?_, fun v hv => ?_⟩, S' ++ [lit], true, ?_, HST'.out.set hlo _, HBX'.out.set _, (HMK.out.map HG'.out).box HBX'.out _⟩
                · exact ((Below.refl _ V).grown HG'.out HST.out.below.size (fun k e => by cases e; omega)).setCell (p := ⟨Bm, 0, none⟩) (by show w.heap.size ≤ Bm; omega) _
                · have hlt3 : W.heap.size + 1 < V.heap.size := by
                    rcases Nat.lt_or_ge (W.heap.size + 1) V.heap.size with h | h
                    · exact h
                    · simp [World.cell?, Array.getElem?_eq_none h] at hv
                  have e1 := World.cell?_of_block (w := V) (w' := V') (a := ⟨W.heap.size + 1, 0, none⟩) (HG'.out.block (W.heap.size + 1) hlt3 (by simp; omega))
                  have e2 := World.cell?_of_block (w := V') (w' := V'.setCell ⟨Bm, 0, none⟩ (.bool true)) (a := ⟨W.heap.size + 1, 0, none⟩) (Below.heap_setCell _ _ _ _ (by show W.heap.size + 1 ≠ Bm; omega))
                  rw [e2, e1, hv]
                · rw [HPS.out, if_neg (by simp), if_pos H0.out]
          case done =>
            rintro D ys V hD rfl ⟨S', m', hp, hst, hbx, hmk⟩ hDm
            have hcm2 := hbx.cell
            rw [HRS.out.2.2] at hp
            have HP := Lib.hid hp
            have HST := Lib.hid hst
            have HMK := Lib.hid hmk
            have HDM := Lib.hid hDm
            clear hp hst hmk hDm hbx
            gi_wp2
            obtain ⟨q1, q2, q3, q4⟩ := passT_open _ (ls.eraseIdx but) _ _ _ _ (fun l h => h) HP.out
            refine Handed.intro (openT (ls.eraseIdx but) S' + (if m' = true then 1 else 0)) ?_ (hJ _ _ _ ⟨V.heap.size, m', S', D :: ds, _, _, _, _, _, _, _, _, _, _, _, _, _, _, _, _, _, _, _, _, _, _, _, _, _, _, _, _, _, _, _, _, _, _, rfl, ⟨HST.out.alloc _, Boxed.new _ _ _, by have := HST.out.lt; omega, ((HMK.out.cons (by omega) HDM.out (fun h => by have := hds D h; omega))).alloc _, by have := HH.out.few; omega, fun h => ?_, fun h => ?_⟩, rfl⟩)
            · cases m' with
              | false => rw [(q3 rfl).2]; simp
              | true => have := q4 rfl rfl; simp; exact this
            · subst h; rw [HH.out.yes rfl, closureT_more HP.out]
            · subst h; rw [HH.out.yes rfl, closureT_done HP.out]
          case stop =>
            rintro D cc pre V hD hpf ⟨rfl, hp, h0, h1, hmk, hbl⟩ hDm
            obtain ⟨rest, hrest⟩ := hpf
            have hnone : closureT (ls.eraseIdx but) (left.map (-·)) = none := by
              rw [HH.out.yes rfl]
              refine closureT_none ?_
              rw [← HRS.out.2.2, ← hrest, List.map_append]
              exact passT_none _ _ _ _ hp
            gi_wp2
            exact comes_out (ds := D :: ds) rfl rfl h0 h1 (hmk.cons (by omega) hDm (fun h => by have := hds D h; omega)) hbl (.inl ⟨hnone, rfl, rfl⟩)

end Go.Proofs.Ytalcnkoidmoibaa
