/-
  The closure put of First: the literals of a clause come into the set, those of the last level are counted. No condition.
-/
import Derived.Test.YtenpenelikpeeaaB3
import Derived.Test.YtenpenelikpeeaaP2
namespace Go.Proofs.Ytenpenelikpeeaa
open Go.RowKit Go.Shelf
set_option linter.unusedVariables false
set_option linter.unusedSimpArgs false

/-- two blocks have turned, the rest lies as it did -/
structure Kept2 (W W' : World) (i j : Nat) : Prop where
  size : W.heap.size ≤ W'.heap.size
  same : ∀ k, k < W.heap.size → k ≠ i → k ≠ j → W'.heap[k]? = W.heap[k]?
theorem Kept2.refl (W : World) (i j : Nat) : Kept2 W W i j := ⟨Nat.le_refl _, fun _ _ _ _ => rfl⟩
theorem Kept2.trans {W W1 W2 : World} {i j : Nat} (h : Kept2 W W1 i j) (h' : Kept2 W1 W2 i j) : Kept2 W W2 i j :=
  ⟨Nat.le_trans h.size h'.size, fun k hk h1 h2 => (h'.same k (Nat.lt_of_lt_of_le hk h.size) h1 h2).trans (h.same k hk h1 h2)⟩
theorem Kept2.below {W W1 : World} (i j : Nat) (h : Below W.heap.size W W1) : Kept2 W W1 i j := ⟨h.size, fun k hk _ _ => h.block k hk⟩
theorem Kept2.grown {W W1 : World} {i j : Nat} {row : Option Nat} (h : W.grownBy W1 row) (hr : row = some i ∨ row = some j ∨ row = none) : Kept2 W W1 i j :=
  ⟨h.size, fun k hk h1 h2 => h.block k hk (fun e => by rcases hr with r | r | r <;> rw [r] at e <;> cases e <;> contradiction)⟩

theorem RI.grown {w w' : World} {A : Option Addr} {n c : Nat} {zs : List Int} {row : Option Nat} (h : RI w A n c zs) (hg : w.grownBy w' row) (hr : 0 < n → ∀ b off, A = some ⟨b, off, none⟩ → some b ≠ row) : RI w' A n c zs :=
  ⟨h.len, h.cap, h.big, h.cmax, fun hn => by
    obtain ⟨b, off, rfl, hlt, hc⟩ := h.cells hn
    refine ⟨b, off, rfl, Nat.lt_of_lt_of_le hlt hg.size, fun j hj => ?_⟩
    rw [← hc j hj]
    exact World.cell?_of_block (hg.block b hlt (hr hn b off rfl))⟩
/-- the arguments and the index of First -/
structure Fx where
  x : Int
  A : Option Addr
  n : Nat
  c : Nat
  A' : Option Addr
  n' : Nat
  c' : Nat
  ts : List Stp
  A2 : Option Addr
  c2 : Nat
  bi : Nat
  Bk : Nat
  Bm : Nat
  b : Nat
  Bl : Nat
  Bh : Nat
  last : Int

/-- what First has made: its boxes and the set -/
structure FS (w W : World) (F : Fx) (m : Nat) (S : List Int) (hi : Int) : Prop where
  box : BoxK W F.Bk F.x F.A F.n F.c F.A' F.n' F.c' F.A2 F.n' F.c2 (some F.bi)
  lev : RI W F.A2 F.n' F.c2 (levL F.ts)
  map : IntM W F.bi F.n' (atF F.ts)
  bm : Boxed W F.Bm 61 (.map (some F.b))
  bl : Boxed W F.Bl 3 (.int .i64 F.last)
  bh : Boxed W F.Bh 3 (.int .i64 hi)
  set : SetM W F.b m S
  ne1 : F.b ≠ F.bi
  ne2 : F.Bh ≠ F.Bl
  row : 0 < F.n' → ∀ b' off, F.A2 = some ⟨b', off, none⟩ → b' ≠ F.Bh
  lo1 : w.heap.size ≤ F.b
  lo2 : w.heap.size ≤ F.Bh
  below : Below w.heap.size w W

theorem map_block {β : Type} {e : TypeId} {ed : β → DataW Unit} {w : World} {b n : Nat} {f : Int → Option β} (h : MF e ed w b n f) : ∃ es clock, w.heap[b]? = some (.map es clock) := by
  obtain ⟨D, ⟨es, clock, h1, h3⟩, h2⟩ := h; exact ⟨es, clock, h1⟩
theorem boxed_ne_map {β : Type} {e : TypeId} {ed : β → DataW Unit} {w : World} {b n B : Nat} {f : Int → Option β} {t : TypeId} {v : Value} (h : MF e ed w b n f) (hB : Boxed w B t v) : B ≠ b := fun e1 => by
  obtain ⟨es, clock, h1⟩ := map_block h
  rw [← e1, show w.heap[B]? = _ from hB] at h1; cases h1
theorem boxk_ne_map {β : Type} {e : TypeId} {ed : β → DataW Unit} {w : World} {b k B : Nat} {f : Int → Option β} {x : Int} {A : Option Addr} {n c : Nat} {A' : Option Addr} {n' c' : Nat} {A2 : Option Addr} {n2 q2 : Nat} {m : Option Nat}
    (h : MF e ed w b k f) (hB : BoxK w B x A n c A' n' c' A2 n2 q2 m) : B ≠ b := fun e1 => by
  obtain ⟨es, clock, h1⟩ := map_block h
  rw [← e1, show w.heap[B]? = _ from hB] at h1; cases h1
theorem boxed_ne_boxk {w : World} {B B' : Nat} {x : Int} {A : Option Addr} {n c : Nat} {A' : Option Addr} {n' c' : Nat} {A2 : Option Addr} {n2 q2 : Nat} {m : Option Nat} {t : TypeId} {v : Value}
    (hB : BoxK w B x A n c A' n' c' A2 n2 q2 m) (h : Boxed w B' t v) : B ≠ B' := fun e1 => by
  have h1 : w.heap[B]? = _ := hB
  rw [e1, show w.heap[B']? = _ from h] at h1
  simp at h1
theorem boxed_ne_boxed {w : World} {B B' : Nat} {t t' : TypeId} {v v' : Value} (h : Boxed w B t v) (h' : Boxed w B' t' v') (ht : t ≠ t') : B ≠ B' := fun e1 => by
  have h1 : w.heap[B]? = _ := h
  rw [e1, show w.heap[B']? = _ from h'] at h1
  simp at h1
  exact ht h1.2.symm

section
variable {w W W' : World} {F : Fx} {m : Nat} {S : List Int} {hi : Int}
theorem FS.mono (h : FS w W F m S hi) {m' : Nat} (hm : m ≤ m') : FS w W F m' S hi := { h with set := h.set.mono hm }
theorem FS.grow (h : FS w W F m S hi) (hb : Below W.heap.size W W') : FS w W' F m S hi where
  box := h.box.below hb
  lev := h.lev.below hb
  map := h.map.below hb h.map.lt
  bm := boxed_below h.bm hb
  bl := boxed_below h.bl hb
  bh := boxed_below h.bh hb
  set := h.set.below hb h.set.lt
  ne1 := h.ne1
  ne2 := h.ne2
  row := h.row
  lo1 := h.lo1
  lo2 := h.lo2
  below := h.below.trans (hb.mono h.below.size)
theorem FS.turn (h : FS w W F m S hi) {m' : Nat} {S' : List Int} (hs : SetM W' F.b m' S') (ht : W.mapTurned W' F.b) : FS w W' F m' S' hi where
  box := h.box.kept ht.grown (fun e => boxk_ne_map h.set h.box (by injection e))
  lev := h.lev.turned ht
  map := h.map.kept ht.grown (fun e => h.ne1 (by injection e with e; exact e.symm))
  bm := h.bm.kept ht.grown (fun e => boxed_ne_map h.set h.bm (by injection e))
  bl := h.bl.kept ht.grown (fun e => boxed_ne_map h.set h.bl (by injection e))
  bh := h.bh.kept ht.grown (fun e => boxed_ne_map h.set h.bh (by injection e))
  set := hs
  ne1 := h.ne1
  ne2 := h.ne2
  row := h.row
  lo1 := h.lo1
  lo2 := h.lo2
  below := h.below.grown ht.grown h.below.size (fun g e => by cases e; exact h.lo1)
theorem FS.setHi (h : FS w W F m S hi) (v : Int) : FS w (W.setCell ⟨F.Bh, 0, none⟩ (.int .i64 v)) F m S v where
  box := h.box.kept (grownBy_setCell' W _ _) (fun e => boxed_ne_boxk h.box h.bh (by injection e))
  lev := h.lev.grown (grownBy_setCell' W _ _) (fun h0 b off e e2 => h.row h0 b off e (by injection e2))
  map := h.map.setCell (fun e => boxed_ne_map h.map h.bh e.symm) _
  bm := h.bm.kept (grownBy_setCell' W _ _) (fun e => boxed_ne_boxed h.bm h.bh (by decide) (by injection e))
  bl := h.bl.kept (grownBy_setCell' W _ _) (fun e => h.ne2 (by injection e with e; exact e.symm))
  bh := h.bh.set _
  set := h.set.setCell (fun e => boxed_ne_map h.set h.bh e.symm) _
  ne1 := h.ne1
  ne2 := h.ne2
  row := h.row
  lo1 := h.lo1
  lo2 := h.lo2
  below := h.below.setCell (p := ⟨F.Bh, 0, none⟩) h.lo2 _
end

set_option maxRecDepth 100000 in
set_option maxHeartbeats 2000000 in
theorem put_any (w W : World) (F : Fx) (m : Nat) (S : List Int) (A3 : Option Addr) (n3 c3 : Nat) (l : List Int) (but : Int) (h : FS w W F m S (hiN F.ts F.last S : Int)) (hS : S.length ≤ 100000000) (h3 : RI w A3 n3 c3 l) (hz : Okl l) (hd : ∀ y ∈ l, y ≠ but → plc F.ts (-y) < F.ts.length)
    (hm : m + n3 ≤ 100000000) (hn3 : n3 ≤ 100000) :
    Calls Try.prog 33 #[.slice A3 n3 c3, .int .i64 but, .pointer (some ⟨F.Bm, 0, none⟩), .pointer (some ⟨F.Bk, 0, none⟩), .pointer (some ⟨F.Bl, 0, none⟩), .pointer (some ⟨F.Bh, 0, none⟩)] W
      fun e W' => e = .returned (.tuple #[]) ∧ FS w W' F (m + n3) (moreL S but l) (hiN F.ts F.last (moreL S but l) : Int) ∧ Kept2 W W' F.b F.Bh := by
  have H := Lib.hid h
  have H3 := Lib.hid h3
  have HZ := Lib.hid hz
  have HD := Lib.hid hd
  clear h h3 hz hd
  go_enter Try.func33, Try.ntmps33
  go_wp2
  go_loopw [9, 12] (fun s9 s12 V => ∃ k : Nat, k ≤ n3 ∧ s12 = .int .i64 k ∧ FS w V F (m + k) (moreL S but (l.take k)) (hiN F.ts F.last (moreL S but (l.take k)) : Int) ∧ Kept2 W V F.b F.Bh) (fun _ s12 _ => n3 - (intOf s12).toNat)
  case atStart => exact ⟨0, Nat.zero_le _, rfl, H.out, Kept2.refl _ _ _⟩
  case round =>
    obtain ⟨k, hk, rfl, hfs, hkp⟩ := hrel
    have HF := Lib.hid hfs
    have HK := Lib.hid hkp
    have hhl : hiN F.ts F.last (moreL S but (l.take k)) ≤ 200000000 := by
      have h1 : hiN F.ts F.last (moreL S but (l.take k)) ≤ (moreL S but (l.take k)).length := List.length_filter_le _ _
      have h2 := moreL_len (l.take k) S but
      rw [List.length_take] at h2
      omega
    clear hfs hkp
    by_cases hlt : k < n3
    · obtain ⟨b3, o3, rfl, hb3, hc3⟩ := (H3.out.below HF.out.below).cells (by omega)
      have hck := hc3 k hlt
      have hl : k < l.length := by rw [H3.out.len]; exact hlt
      have hx := HZ.out.at hl
      have hmm := elt_mem hl
      have hdd := HD.out _ hmm
      have E1 : Hid (moreL S but (l.take (k + 1)) = if (elt l k == but || hasB (moreL S but (l.take k)) (elt l k)) = true then moreL S but (l.take k) else moreL S but (l.take k) ++ [elt l k]) := Lib.hid (by rw [take_snoc l k hl, moreL_snoc])
      clear hc3 hl hmm
      generalize elt l k = y at *
      generalize moreL S but (l.take k) = S0 at *
      have q0 := HF.out.bm.cell
      by_cases hyb : (y == but || hasB S0 y) = true
      · have E2 : Hid (moreL S but (l.take (k + 1)) = S0) := Lib.hid (by rw [E1.out, if_pos hyb])
        cases hyb1 : (y == but) with
        | true =>
          clear hyb hdd E1
          go_wp2_with fail
          go_roundw
          case rel => exact ⟨k + 1, by omega, by go_num, by rw [E2.out]; exact HF.out.mono (by omega), HK.out⟩
          case measure => simp [intOf]; omega
        | false =>
          rw [hyb1, Bool.false_or] at hyb
          have hlk := HF.out.set.look Try.underlying61 (x := y) (wfI_lit (by omega) (by omega))
          rw [hyb] at hlk
          clear hyb hdd E1
          go_wp2_with fail
          go_roundw
          case rel => exact ⟨k + 1, by omega, by go_num, by rw [E2.out]; exact HF.out.mono (by omega), HK.out⟩
          case measure => simp [intOf]; omega
      · obtain ⟨hyb1, hyb2⟩ := Bool.or_eq_false_iff.1 (by simpa only [Bool.not_eq_true] using hyb)
        have E2 : Hid (moreL S but (l.take (k + 1)) = S0 ++ [y]) := Lib.hid (by rw [E1.out, if_neg hyb])
        have hlk := HF.out.set.look Try.underlying61 (x := y) (wfI_lit (by omega) (by omega))
        rw [hyb2] at hlk
        obtain ⟨V1, hrun, hs1, ht1⟩ := HF.out.set.put (by unfold maxLen; omega) Try.underlying61 (x := y) (wfI_lit (by omega) (by omega))
        have HF1 := Lib.hid (HF.out.turn hs1 ht1)
        have HK1 := Lib.hid (HK.out.trans (Kept2.grown ht1.grown (Or.inl rfl)))
        have E3 := Lib.hid (hiN_snoc F.ts F.last S0 y)
        have hpl : plc F.ts (-y) < F.ts.length := hdd (by intro e; rw [e] at hyb1; simp at hyb1)
        have HPL := Lib.hid hpl
        obtain ⟨r, hr⟩ : ∃ r, lvlT F.ts y = r := ⟨_, rfl⟩
        have HR := Lib.hid hr
        rw [hr] at E3
        clear hyb hdd E1 hyb2 hs1 ht1 hpl hr
        go_upto_region 5 with fail
        have g0 := fun u : Gr V1 => u.cell (p := ⟨F.Bk, 0, none⟩) HF1.out.box.lt HF1.out.box.c0
        have g1 := fun u : Gr V1 => u.cell (p := ⟨F.Bk, 1, none⟩) HF1.out.box.lt HF1.out.box.c1
        have g2 := fun u : Gr V1 => u.cell (p := ⟨F.Bk, 2, none⟩) HF1.out.box.lt HF1.out.box.c2
        have g3 := fun u : Gr V1 => u.cell (p := ⟨F.Bk, 3, none⟩) HF1.out.box.lt HF1.out.box.c3
        have g4 := fun u : Gr V1 => u.cell (p := ⟨F.Bk, 4, none⟩) HF1.out.box.lt HF1.out.box.c4
        have g5 := fun u : Gr V1 => u.cell (p := ⟨F.Bl, 0, none⟩) HF1.out.bl.lt HF1.out.bl.cell
        refine wp_region_grow (by kernel_rfl) (by kernel_rfl) ?_
        repeat (go_big_quiet_step ((go_at_call 34; exact Gr.call _ (llevel_any F.x F.A F.n F.c F.A' F.n' F.c' F.A2 F.n' F.c2 F.bi F.n' F.ts y _ (HF1.out.map.below (Gr.ok _) HF1.out.map.lt) (HF1.out.lev.below (Gr.ok _)) hx.2.1 hx.2.2 HPL.out r HR.out))))
        refine wpQuiet_nil ?_
        rintro V2 ⟨⟨_, hb2⟩, rfl⟩
        have HF2 := Lib.hid (HF1.out.grow hb2)
        have HK2 := Lib.hid (HK1.out.trans (Kept2.below _ _ hb2))
        clear hb2 g0 g1 g2 g3 g4 g5 q0 hlk hrun
        have q1 := HF2.out.bh.cell
        have q2 := HF2.out.bh.frozen
        by_cases hrl : r = F.last
        · have E4 : Hid (hiN F.ts F.last (S0 ++ [y]) = hiN F.ts F.last S0 + 1) := Lib.hid (by rw [E3.out, if_pos hrl])
          have hrb : (r == F.last) = true := by simpa using hrl
          clear hrl
          go_wp2_with fail
          go_roundw
          case rel => exact ⟨k + 1, by omega, by go_num, by rw [E2.out, E4.out]; exact HF2.out.setHi _, HK2.out.trans (Kept2.grown (grownBy_setCell' _ _ _) (Or.inr (Or.inl rfl)))⟩
          case measure => simp [intOf]; omega
        · have E4 : Hid (hiN F.ts F.last (S0 ++ [y]) = hiN F.ts F.last S0) := Lib.hid (by rw [E3.out, if_neg hrl]; rfl)
          have hrb : (r == F.last) = false := by simpa using hrl
          clear hrl
          go_wp2_with fail
          go_roundw
          case rel => exact ⟨k + 1, by omega, by go_num, by rw [E2.out, E4.out]; exact HF2.out, HK2.out⟩
          case measure => simp [intOf]; omega
    · obtain rfl : k = n3 := by omega
      have E1 : Hid (moreL S but l = moreL S but (l.take k)) := Lib.hid (by rw [List.take_of_length_le (by rw [H3.out.len]; omega)])
      go_wp2_with fail
      go_end0
      exact ⟨rfl, by rw [E1.out]; exact HF.out, HK.out⟩

end Go.Proofs.Ytenpenelikpeeaa
