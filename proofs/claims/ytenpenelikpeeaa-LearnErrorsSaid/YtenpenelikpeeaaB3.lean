/-
  The index of a trail is made: looked of the package learn. No condition.
-/
import Derived.Test.YtenpenelikpeeaaB2
namespace Go.Proofs.Ytenpenelikpeeaa
open Go.RowKit Go.Shelf
set_option linter.unusedVariables false
set_option linter.unusedSimpArgs false

/-- an index of the call's own -/
structure Lkd (w W : World) (ts : List Stp) (A2 : Option Addr) (n2 c2 b k : Nat) : Prop where
  lev : RI W A2 n2 c2 (levL ts)
  map : IntM W b k (atTo ts k)
  fresh : w.heap.size ≤ b
  below : Below w.heap.size w W
  row : ∀ b off, A2 = some ⟨b, off, none⟩ → w.heap.size ≤ b

/-- a block of five cells -/
def Blk5 (w : World) (B : Nat) (v0 v1 v2 v3 v4 : Value) : Prop := w.heap[B]? = some (.cells #[v0, v1, v2, v3, v4] 58 (0, 0))
theorem Blk5.lt {w : World} {B : Nat} {v0 v1 v2 v3 v4 : Value} (h : Blk5 w B v0 v1 v2 v3 v4) : B < w.heap.size := (Array.getElem?_eq_some_iff.1 h).1
theorem Blk5.below {w w' : World} {B : Nat} {v0 v1 v2 v3 v4 : Value} (h : Blk5 w B v0 v1 v2 v3 v4) (hb : Below w.heap.size w w') : Blk5 w' B v0 v1 v2 v3 v4 := (hb.block B h.lt).trans h
theorem Blk5.alloc {w : World} {B : Nat} {v0 v1 v2 v3 v4 : Value} (h : Blk5 w B v0 v1 v2 v3 v4) (o : Obj) : Blk5 (w.alloc o) B v0 v1 v2 v3 v4 := h.below ((Below.refl _ _).alloc (Nat.le_refl _) _)
theorem Blk5.set5 {w : World} {B : Nat} {v0 v1 v2 v3 v4 : Value} (h : Blk5 w B v0 v1 v2 v3 v4) (x0 x1 x2 x3 x4 : Value) :
    Blk5 (((((w.setCell ⟨B, 0, none⟩ x0).setCell ⟨B, 1, none⟩ x1).setCell ⟨B, 2, none⟩ x2).setCell ⟨B, 3, none⟩ x3).setCell ⟨B, 4, none⟩ x4) B x0 x1 x2 x3 x4 := by
  unfold Blk5 at *
  simp [World.setCell, Array.getElem?_modify, h]
theorem below_set5 {base : Nat} {a w : World} {B : Nat} (h : Below base a w) (hB : base ≤ B) (x0 x1 x2 x3 x4 : Value) :
    Below base a (((((w.setCell ⟨B, 0, none⟩ x0).setCell ⟨B, 1, none⟩ x1).setCell ⟨B, 2, none⟩ x2).setCell ⟨B, 3, none⟩ x3).setCell ⟨B, 4, none⟩ x4) :=
  ((((h.setCell (p := ⟨B, 0, none⟩) hB _).setCell (p := ⟨B, 1, none⟩) hB _).setCell (p := ⟨B, 2, none⟩) hB _).setCell (p := ⟨B, 3, none⟩) hB _).setCell (p := ⟨B, 4, none⟩) hB _
theorem MF.set5 {β : Type} {e : TypeId} {ed : β → DataW Unit} {w : World} {b k B : Nat} {f : Int → Option β} (h : MF e ed w b k f) (hB : b ≠ B) (x0 x1 x2 x3 x4 : Value) :
    MF e ed (((((w.setCell ⟨B, 0, none⟩ x0).setCell ⟨B, 1, none⟩ x1).setCell ⟨B, 2, none⟩ x2).setCell ⟨B, 3, none⟩ x3).setCell ⟨B, 4, none⟩ x4) b k f :=
  ((((h.setCell (a := ⟨B, 0, none⟩) hB _).setCell (a := ⟨B, 1, none⟩) hB _).setCell (a := ⟨B, 2, none⟩) hB _).setCell (a := ⟨B, 3, none⟩) hB _).setCell (a := ⟨B, 4, none⟩) hB _
/-- a row reads the same where one block has turned that is not its own -/
theorem RI.setOther {w : World} {A : Option Addr} {n c : Nat} {zs : List Int} (h : RI w A n c zs) {p : Addr} (v : Value) (hp : ∀ b off, A = some ⟨b, off, none⟩ → b ≠ p.block) : RI (w.setCell p v) A n c zs :=
  ⟨h.len, h.cap, h.big, h.cmax, fun hn => by
    obtain ⟨b, off, rfl, hlt, hc⟩ := h.cells hn
    refine ⟨b, off, rfl, by simp [World.setCell]; exact hlt, fun j hj => ?_⟩
    rw [← hc j hj]
    exact World.cell?_of_block (Below.heap_setCell _ _ _ _ (hp b off rfl))⟩
theorem RI.set5 {w : World} {A : Option Addr} {n c : Nat} {zs : List Int} (h : RI w A n c zs) {B : Nat} (hB : ∀ b off, A = some ⟨b, off, none⟩ → b ≠ B) (x0 x1 x2 x3 x4 : Value) :
    RI (((((w.setCell ⟨B, 0, none⟩ x0).setCell ⟨B, 1, none⟩ x1).setCell ⟨B, 2, none⟩ x2).setCell ⟨B, 3, none⟩ x3).setCell ⟨B, 4, none⟩ x4) A n c zs :=
  ((((h.setOther (p := ⟨B, 0, none⟩) _ hB).setOther (p := ⟨B, 1, none⟩) _ hB).setOther (p := ⟨B, 2, none⟩) _ hB).setOther (p := ⟨B, 3, none⟩) _ hB).setOther (p := ⟨B, 4, none⟩) _ hB

theorem Blk5.k0 {w : World} {B : Nat} {v0 v1 v2 v3 v4 : Value} (h : Blk5 w B v0 v1 v2 v3 v4) : w.cell? ⟨B, 0, none⟩ = some v0 := by simp [World.cell?, show w.heap[B]? = _ from h]
theorem Blk5.k1 {w : World} {B : Nat} {v0 v1 v2 v3 v4 : Value} (h : Blk5 w B v0 v1 v2 v3 v4) : w.cell? ⟨B, 1, none⟩ = some v1 := by simp [World.cell?, show w.heap[B]? = _ from h]
theorem Blk5.k2 {w : World} {B : Nat} {v0 v1 v2 v3 v4 : Value} (h : Blk5 w B v0 v1 v2 v3 v4) : w.cell? ⟨B, 2, none⟩ = some v2 := by simp [World.cell?, show w.heap[B]? = _ from h]
theorem Blk5.k3 {w : World} {B : Nat} {v0 v1 v2 v3 v4 : Value} (h : Blk5 w B v0 v1 v2 v3 v4) : w.cell? ⟨B, 3, none⟩ = some v3 := by simp [World.cell?, show w.heap[B]? = _ from h]
theorem Blk5.k4 {w : World} {B : Nat} {v0 v1 v2 v3 v4 : Value} (h : Blk5 w B v0 v1 v2 v3 v4) : w.cell? ⟨B, 4, none⟩ = some v4 := by simp [World.cell?, show w.heap[B]? = _ from h]
theorem Blk5.f {w : World} {B : Nat} {v0 v1 v2 v3 v4 : Value} (h : Blk5 w B v0 v1 v2 v3 v4) (k : Nat) : w.frozen? ⟨B, k, none⟩ = false := by simp [World.frozen?, show w.heap[B]? = _ from h]

abbrev zeroK : Obj := .cells #[.int .i64 0, .slice none 0 0, .slice none 0 0, .slice none 0 0, .map none] 58
abbrev Zero5 (w : World) (B : Nat) : Prop := Blk5 w B (.int .i64 0) (.slice none 0 0) (.slice none 0 0) (.slice none 0 0) (.map none)
theorem Zero5.new (w : World) : Zero5 (w.alloc zeroK) w.heap.size := World.alloc_heap_new w _

theorem atTo_zero (ts : List Stp) : atTo ts 0 = emptyF := by funext y; unfold atTo emptyF; rw [if_neg (by omega)]
theorem made_at (w : World) (b : Nat) (hb : b = w.heap.size) : IntM (w.alloc (.map #[] 0)) b 0 emptyF := by subst hb; exact MF.made w
theorem boxk_new_at (w : World) (B : Nat) (hB : B = w.heap.size) (x : Int) (A : Option Addr) (n c : Nat) (A' : Option Addr) (n' c' : Nat) (A2 : Option Addr) (n2 c2 : Nat) (m : Option Nat) :
    BoxK (w.alloc (.cells #[.int .i64 x, .slice A n c, .slice A' n' c', .slice A2 n2 c2, .map m] 58)) B x A n c A' n' c' A2 n2 c2 m := by subst hB; exact BoxK.new w x A n c A' n' c' A2 n2 c2 m
theorem zero_new_at (w : World) (B : Nat) (hB : B = w.heap.size) : Zero5 (w.alloc zeroK) B := by subst hB; exact Zero5.new w
theorem boxk_set5 {w : World} {B : Nat} (h : Zero5 w B) (x : Int) (A : Option Addr) (n c : Nat) (A' : Option Addr) (n' c' : Nat) (A2 : Option Addr) (n2 c2 : Nat) (m : Option Nat) :
    BoxK (((((w.setCell ⟨B, 0, none⟩ (.int .i64 x)).setCell ⟨B, 1, none⟩ (.slice A n c)).setCell ⟨B, 2, none⟩ (.slice A' n' c')).setCell ⟨B, 3, none⟩ (.slice A2 n2 c2)).setCell ⟨B, 4, none⟩ (.map m)) B x A n c A' n' c' A2 n2 c2 m := Blk5.set5 h _ _ _ _ _
theorem zero_facts {w : World} {B : Nat} (h : Zero5 w B) : w.cell? ⟨B, 0, none⟩ = some (.int .i64 0) ∧ w.cell? ⟨B, 1, none⟩ = some (.slice none 0 0) ∧ w.cell? ⟨B, 2, none⟩ = some (.slice none 0 0) ∧ w.cell? ⟨B, 3, none⟩ = some (.slice none 0 0) ∧ w.cell? ⟨B, 4, none⟩ = some (.map none) ∧
    w.frozen? ⟨B, 0, none⟩ = false ∧ w.frozen? ⟨B, 1, none⟩ = false ∧ w.frozen? ⟨B, 2, none⟩ = false ∧ w.frozen? ⟨B, 3, none⟩ = false ∧ w.frozen? ⟨B, 4, none⟩ = false := ⟨h.k0, h.k1, h.k2, h.k3, h.k4, h.f 0, h.f 1, h.f 2, h.f 3, h.f 4⟩

/-- a row reads the same where a map has turned -/
theorem RI.turned {w w' : World} {A : Option Addr} {n c : Nat} {zs : List Int} {b : Nat} (h : RI w A n c zs) (ht : w.mapTurned w' b) : RI w' A n c zs :=
  ⟨h.len, h.cap, h.big, h.cmax, fun hn => by
    obtain ⟨bb, off, rfl, hlt, hc⟩ := h.cells hn
    have hg := ht.grown
    obtain ⟨es, clock, es', clock', he, hw⟩ := ht
    have hne : bb ≠ b := fun e => by
      have := hc 0 hn
      subst e
      simp [World.cell?, he] at this
    have hk := hg.block bb hlt (by simpa using hne)
    refine ⟨bb, off, rfl, Nat.lt_of_lt_of_le hlt hg.size, fun j hj => ?_⟩
    rw [← hc j hj]
    exact World.cell?_of_block hk⟩

/-- the index's box and what stands in it, however the region was ordered -/
def Made (Wb : World) (x : Int) (A : Option Addr) (n c : Nat) (A' : Option Addr) (n' c' : Nat) (ts : List Stp) (s : Value) (W : World) : Prop :=
  ∃ (B : Nat) (A2 : Option Addr) (c2 b : Nat), s = .pointer (some ⟨B, 0, none⟩) ∧ BoxK W B x A n c A' n' c' A2 n' c2 (some b) ∧ Lkd Wb W ts A2 n' c2 b 0 ∧ B ≠ b ∧ Wb.heap.size ≤ B

section
variable {Wb w2 : World} {x : Int} {A : Option Addr} {n c : Nat} {A' : Option Addr} {n' c' : Nat} {ts : List Stp} {A2 : Option Addr} {c2 N : Nat}
theorem made_cma (hr : RI w2 A2 n' c2 (levL ts)) (hf : ∀ b off, A2 = some ⟨b, off, none⟩ → N ≤ b) (hN : Wb.heap.size ≤ N) (hb : Below Wb.heap.size Wb w2) :
    Made Wb x A n c A' n' c' ts (.pointer (some ⟨w2.heap.size + 1, 0, none⟩)) ((w2.alloc (.map #[] 0)).alloc (.cells #[.int .i64 x, .slice A n c, .slice A' n' c', .slice A2 n' c2, .map (some w2.heap.size)] 58)) := by
  have hs := hb.size
  refine ⟨_, A2, c2, w2.heap.size, rfl, boxk_new_at _ _ (by simp) .., ⟨(hr.alloc _).alloc _, ?_, hs, (hb.alloc hs _).alloc (by simp; omega) _, fun b off e => Nat.le_trans (by omega) (hf b off e)⟩, by omega, by omega⟩
  rw [atTo_zero]
  exact (made_at _ _ rfl).alloc _
theorem made_cam (hr : RI w2 A2 n' c2 (levL ts)) (hf : ∀ b off, A2 = some ⟨b, off, none⟩ → N ≤ b) (hN : Wb.heap.size ≤ N) (hb : Below Wb.heap.size Wb w2) :
    Made Wb x A n c A' n' c' ts (.pointer (some ⟨w2.heap.size, 0, none⟩)) ((w2.alloc (.cells #[.int .i64 x, .slice A n c, .slice A' n' c', .slice A2 n' c2, .map (some (w2.heap.size + 1))] 58)).alloc (.map #[] 0)) := by
  have hs := hb.size
  refine ⟨_, A2, c2, w2.heap.size + 1, rfl, (boxk_new_at _ _ rfl ..).below ((Below.refl _ _).alloc (Nat.le_refl _) _), ⟨(hr.alloc _).alloc _, ?_, by omega, (hb.alloc hs _).alloc (by simp; omega) _, fun b off e => Nat.le_trans (by omega) (hf b off e)⟩, by omega, by omega⟩
  rw [atTo_zero]
  exact made_at _ _ (by simp)
theorem made_mca (hr : RI w2 A2 n' c2 (levL ts)) (hm : IntM w2 Wb.heap.size 0 emptyF) (hf : ∀ b off, A2 = some ⟨b, off, none⟩ → N ≤ b) (hN : Wb.heap.size ≤ N) (hb : Below Wb.heap.size Wb w2) (hlt : Wb.heap.size < w2.heap.size) :
    Made Wb x A n c A' n' c' ts (.pointer (some ⟨w2.heap.size, 0, none⟩)) (w2.alloc (.cells #[.int .i64 x, .slice A n c, .slice A' n' c', .slice A2 n' c2, .map (some Wb.heap.size)] 58)) := by
  refine ⟨_, A2, c2, Wb.heap.size, rfl, boxk_new_at _ _ rfl .., ⟨hr.alloc _, ?_, Nat.le_refl _, hb.alloc hb.size _, fun b off e => Nat.le_trans (by omega) (hf b off e)⟩, by omega, hb.size⟩
  rw [atTo_zero]
  exact hm.alloc _
theorem made_mac (hr : RI w2 A2 n' c2 (levL ts)) (hm : IntM w2 Wb.heap.size 0 emptyF) (hz : Zero5 w2 (Wb.heap.size + 1)) (hf : ∀ b off, A2 = some ⟨b, off, none⟩ → N ≤ b) (hN : Wb.heap.size + 2 ≤ N) (hb : Below Wb.heap.size Wb w2) :
    Made Wb x A n c A' n' c' ts (.pointer (some ⟨Wb.heap.size + 1, 0, none⟩)) (((((w2.setCell ⟨Wb.heap.size + 1, 0, none⟩ (.int .i64 x)).setCell ⟨Wb.heap.size + 1, 1, none⟩ (.slice A n c)).setCell ⟨Wb.heap.size + 1, 2, none⟩ (.slice A' n' c')).setCell ⟨Wb.heap.size + 1, 3, none⟩ (.slice A2 n' c2)).setCell ⟨Wb.heap.size + 1, 4, none⟩ (.map (some Wb.heap.size))) := by
  refine ⟨_, A2, c2, Wb.heap.size, rfl, boxk_set5 hz .., ⟨hr.set5 (fun b off e => by have := hf b off e; omega) .., ?_, Nat.le_refl _, below_set5 hb (by omega) .., fun b off e => Nat.le_trans (by omega) (hf b off e)⟩, by omega, by omega⟩
  rw [atTo_zero]
  exact hm.set5 (by omega) ..
theorem made_acm (hr : RI w2 A2 n' c2 (levL ts)) (hz : Zero5 w2 Wb.heap.size) (hf : ∀ b off, A2 = some ⟨b, off, none⟩ → N ≤ b) (hN : Wb.heap.size + 1 ≤ N) (hb : Below Wb.heap.size Wb w2) :
    Made Wb x A n c A' n' c' ts (.pointer (some ⟨Wb.heap.size, 0, none⟩)) ((((((w2.alloc (.map #[] 0)).setCell ⟨Wb.heap.size, 0, none⟩ (.int .i64 x)).setCell ⟨Wb.heap.size, 1, none⟩ (.slice A n c)).setCell ⟨Wb.heap.size, 2, none⟩ (.slice A' n' c')).setCell ⟨Wb.heap.size, 3, none⟩ (.slice A2 n' c2)).setCell ⟨Wb.heap.size, 4, none⟩ (.map (some w2.heap.size))) := by
  have hlt := hz.lt
  refine ⟨_, A2, c2, w2.heap.size, rfl, boxk_set5 (Blk5.alloc hz _) .., ⟨(hr.alloc _).set5 (fun b off e => by have := hf b off e; omega) .., ?_, hb.size, below_set5 (hb.alloc hb.size _) (by omega) .., fun b off e => Nat.le_trans (by omega) (hf b off e)⟩, by omega, by omega⟩
  rw [atTo_zero]
  exact (made_at _ _ rfl).set5 (by omega) ..
theorem made_amc (hr : RI w2 A2 n' c2 (levL ts)) (hm : IntM w2 (Wb.heap.size + 1) 0 emptyF) (hz : Zero5 w2 Wb.heap.size) (hf : ∀ b off, A2 = some ⟨b, off, none⟩ → N ≤ b) (hN : Wb.heap.size + 1 ≤ N) (hb : Below Wb.heap.size Wb w2) :
    Made Wb x A n c A' n' c' ts (.pointer (some ⟨Wb.heap.size, 0, none⟩)) (((((w2.setCell ⟨Wb.heap.size, 0, none⟩ (.int .i64 x)).setCell ⟨Wb.heap.size, 1, none⟩ (.slice A n c)).setCell ⟨Wb.heap.size, 2, none⟩ (.slice A' n' c')).setCell ⟨Wb.heap.size, 3, none⟩ (.slice A2 n' c2)).setCell ⟨Wb.heap.size, 4, none⟩ (.map (some (Wb.heap.size + 1)))) := by
  refine ⟨_, A2, c2, Wb.heap.size + 1, rfl, boxk_set5 hz .., ⟨hr.set5 (fun b off e => by have := hf b off e; omega) .., ?_, by omega, below_set5 hb (by omega) .., fun b off e => Nat.le_trans (by omega) (hf b off e)⟩, by omega, by omega⟩
  rw [atTo_zero]
  exact hm.set5 (by omega) ..
end

set_option maxRecDepth 100000 in
set_option maxHeartbeats 16000000 in
theorem looked_any (x : Int) (A : Option Addr) (n c : Nat) (ls : List (List Int)) (A' : Option Addr) (n' c' : Nat) (ts : List Stp) (w : World) (h' : RS w A' n' c' ts) (ht : Tr x ls ts) (hx1 : x ≤ 65536) (hn' : n' ≤ 1000000) :
    Calls Try.prog 31 #[.agg #[.int .i64 x, .slice A n c], .slice A' n' c'] w fun e w' => ∃ A2 c2 b, e = .returned (lookV x A n c A' n' c' A2 n' c2 (some b)) ∧ Lkd w w' ts A2 n' c2 b n' := by
  have hmm := @run_makeMap Try.prog
  have HB0 := Lib.hid (((Below.refl w.heap.size w).alloc (Nat.le_refl _) (.cells #[.int .i64 x, .slice A n c] 24)).alloc (by simp) zeroK)
  have HX := Lib.hid ((Two.new w (.int .i64 x) (.slice A n c)).below ((Below.refl _ _).alloc (Nat.le_refl _) zeroK))
  have HR : Hid (Zero5 ((w.alloc (.cells #[.int .i64 x, .slice A n c] 24)).alloc zeroK) (w.heap.size + 1)) := Lib.hid (by have := Zero5.new (w.alloc (.cells #[.int .i64 x, .slice A n c] 24)); simpa using this)
  have hsz : ((w.alloc (.cells #[.int .i64 x, .slice A n c] 24)).alloc zeroK).heap.size = w.heap.size + 1 + 1 := by simp
  have HS := Lib.hid (h'.below HB0.out)
  have HT := Lib.hid ht
  clear h' ht
  go_enter Try.func31, Try.ntmps31
  go_upto_region 1 with fail
  generalize hW : (w.alloc (.cells #[.int .i64 x, .slice A n c] 24)).alloc zeroK = Wb at *
  clear hW
  have q0 := HX.out.c0
  have q1 := HX.out.c1
  have HSZ := Lib.hid hsz
  have hxl := HX.out.lt
  clear hsz
  go_cut [5] (fun s W => Made Wb x A n c A' n' c' ts s W)
  case first =>
    have B0 : Hid (Below Wb.heap.size Wb Wb.drew) := Lib.hid ((Below.refl _ _).drew)
    have B1 : Hid (∀ o, Below Wb.heap.size Wb (Wb.drew.alloc o)) := Lib.hid (fun o => B0.out.alloc (Nat.le_refl _) o)
    have B2 : Hid (∀ o o', Below Wb.heap.size Wb ((Wb.drew.alloc o).alloc o')) := Lib.hid (fun o o' => (B1.out o).alloc (by simp) o')
    go_region_with (first
      | (go_at_call 18; refine (levels_new A' n' c' ts Wb.drew (HS.out.below B0.out) hn').mono ?_; rintro e w2 ⟨A2, c2, rfl, hr2, hf2, hb2⟩; have HR2 := Lib.hid hr2; have HF2 := Lib.hid hf2; have HB2 := Lib.hid (B0.out.trans (hb2.mono (Nat.le_refl _))); have p0 := (HX.out.below HB2.out).c0; have p1 := (HX.out.below HB2.out).c1; have l2 := (HX.out.below HB2.out).lt; have l3 := Nat.lt_succ_of_lt l2; obtain ⟨z0, z1, z2, z3, z4, y0, y1, y2, y3, y4⟩ := zero_facts ((Zero5.new w2).alloc (.map #[] 0)); clear hr2 hf2 hb2)
      | (go_at_call 18; refine (levels_new A' n' c' ts (Wb.drew.alloc (.map #[] 0)) (HS.out.below (B1.out _)) hn').mono ?_; rintro e w2 ⟨A2, c2, rfl, hr2, hf2, hb2⟩; have HR2 := Lib.hid hr2; have HF2 := Lib.hid hf2; have HB2 := Lib.hid ((B1.out _).trans (hb2.mono (by simp))); have HM2 : Hid (IntM w2 Wb.heap.size 0 emptyF) := Lib.hid ((MF.made Wb.drew).below hb2 (by simp)); have p0 := (HX.out.below HB2.out).c0; have p1 := (HX.out.below HB2.out).c1; have l2 := (HX.out.below HB2.out).lt; have l3 := Nat.lt_succ_of_lt l2; clear hr2 hf2 hb2)
      | (go_at_call 18; refine (levels_new A' n' c' ts (Wb.drew.alloc zeroK) (HS.out.below (B1.out _)) hn').mono ?_; rintro e w2 ⟨A2, c2, rfl, hr2, hf2, hb2⟩; have HR2 := Lib.hid hr2; have HF2 := Lib.hid hf2; have HB2 := Lib.hid ((B1.out _).trans (hb2.mono (by simp))); have HZ2 : Hid (Zero5 w2 Wb.heap.size) := Lib.hid ((Zero5.new Wb.drew).below hb2); have p0 := (HX.out.below HB2.out).c0; have p1 := (HX.out.below HB2.out).c1; have l2 := (HX.out.below HB2.out).lt; have l3 := Nat.lt_succ_of_lt l2; obtain ⟨z0, z1, z2, z3, z4, y0, y1, y2, y3, y4⟩ := zero_facts (HZ2.out.alloc (.map #[] 0)); clear hr2 hf2 hb2)
      | (go_at_call 18; refine (levels_new A' n' c' ts ((Wb.drew.alloc (.map #[] 0)).alloc zeroK) (HS.out.below (B2.out _ _)) hn').mono ?_; rintro e w2 ⟨A2, c2, rfl, hr2, hf2, hb2⟩; have HR2 := Lib.hid hr2; have HF2 := Lib.hid hf2; have HB2 := Lib.hid ((B2.out _ _).trans (hb2.mono (by simp; omega))); have HM2 : Hid (IntM w2 Wb.heap.size 0 emptyF) := Lib.hid (((MF.made Wb.drew).alloc zeroK).below hb2 (by simp; omega)); have HZ2 : Hid (Zero5 w2 (Wb.heap.size + 1)) := Lib.hid ((show Zero5 _ _ by have := Zero5.new (Wb.drew.alloc (.map #[] 0)); simpa using this).below hb2); have p0 := (HX.out.below HB2.out).c0; have p1 := (HX.out.below HB2.out).c1; have l2 := (HX.out.below HB2.out).lt; have l3 := Nat.lt_succ_of_lt l2; obtain ⟨z0, z1, z2, z3, z4, y0, y1, y2, y3, y4⟩ := zero_facts HZ2.out; clear hr2 hf2 hb2)
      | (go_at_call 18; refine (levels_new A' n' c' ts ((Wb.drew.alloc zeroK).alloc (.map #[] 0)) (HS.out.below (B2.out _ _)) hn').mono ?_; rintro e w2 ⟨A2, c2, rfl, hr2, hf2, hb2⟩; have HR2 := Lib.hid hr2; have HF2 := Lib.hid hf2; have HB2 := Lib.hid ((B2.out _ _).trans (hb2.mono (by simp; omega))); have HM2 : Hid (IntM w2 (Wb.heap.size + 1) 0 emptyF) := Lib.hid ((show IntM _ _ _ _ by have := MF.made (e := 3) (ed := edI) (Wb.drew.alloc zeroK); simpa using this).below hb2 (by simp)); have HZ2 : Hid (Zero5 w2 Wb.heap.size) := Lib.hid (((Zero5.new Wb.drew).alloc (.map #[] 0)).below hb2); have p0 := (HX.out.below HB2.out).c0; have p1 := (HX.out.below HB2.out).c1; have l2 := (HX.out.below HB2.out).lt; have l3 := Nat.lt_succ_of_lt l2; obtain ⟨z0, z1, z2, z3, z4, y0, y1, y2, y3, y4⟩ := zero_facts HZ2.out; clear hr2 hf2 hb2))
    all_goals go_wp2_with fail
    all_goals go_meet
    all_goals with_reducible first
      | exact made_cma HR2.out HF2.out (by simp) HB2.out
      | exact made_cam HR2.out HF2.out (by simp) HB2.out
      | exact made_mca HR2.out HM2.out HF2.out (by simp) HB2.out HM2.out.lt
      | exact made_mac HR2.out HM2.out HZ2.out HF2.out (by simp) HB2.out
      | exact made_acm HR2.out HZ2.out HF2.out (by simp) HB2.out
      | exact made_amc HR2.out HM2.out HZ2.out HF2.out (by simp) HB2.out
  case rest =>
    obtain ⟨B, A2, c2, b, rfl, hbox, hlk, hne, hBs⟩ := hcut
    have BX := Lib.hid hbox
    have LK := Lib.hid hlk
    clear hbox hlk
    go_wp2_with fail
    go_loopw [16] (fun s16 W => ∃ k : Nat, k ≤ n' ∧ s16 = .int .i64 k ∧ BoxK W B x A n c A' n' c' A2 n' c2 (some b) ∧ Lkd Wb W ts A2 n' c2 b k) (fun k _ => n' - (intOf k).toNat)
    case atStart => exact ⟨0, Nat.zero_le _, rfl, BX.out, LK.out⟩
    case round =>
      obtain ⟨k, hk, rfl, hbox, hlk⟩ := hrel
      have BXr := Lib.hid hbox
      have LKr := Lib.hid hlk
      have hsr := HS.out.below hlk.below
      have g0 := hbox.c4
      have gl := hbox.lt
      have gd := hlk.below.size
      have HSr := Lib.hid hsr
      have HRr := Lib.hid (HR.out.below hlk.below)
      clear hbox hlk
      by_cases hkn : k < n'
      · obtain ⟨bt, ot, rfl, hbt, hct⟩ := hsr.cells (by omega)
        obtain ⟨u0, u1⟩ := hct k hkn
        have hkl : k < ts.length := by rw [HSr.out.len]; exact hkn
        have hlo := isB_iff.1 (HT.out.lit k hkl)
        have E1 := Lib.hid (atTo_succ HT.out hkl)
        obtain ⟨w4, hrun, hm4, ht4⟩ := MF.put ekI Try.underlying56 (LKr.out.map.alloc (.cells #[.int .i64 (stp ts k).lit, .int .i64 (stp ts k).why] 41)) (by unfold maxLen; omega) (x := (stp ts k).lit) (wfI_lit (by omega) (by omega)) (v := (k : Int)) (wfI_of (by omega) (by omega))
        have HM4 := Lib.hid hm4
        have HT4 := Lib.hid ht4
        clear hsr hct hkl hlo hm4 ht4
        generalize (stp ts k).lit = lt at *
        generalize (stp ts k).why = wy at *
        go_wp2_with fail
        go_roundw
        case rel =>
          refine ⟨k + 1, by omega, by go_num, ((BXr.out.below ((Below.refl _ _).alloc (Nat.le_refl _) _)).kept HT4.out.grown (by simpa using hne)), ⟨(LKr.out.lev.alloc _).turned HT4.out, ?_, LKr.out.fresh, (LKr.out.below.alloc LKr.out.below.size _).grown HT4.out.grown (by simp; omega) (fun g e => by cases e; exact LKr.out.fresh), LKr.out.row⟩⟩
          rw [← E1.out]; exact HM4.out
        case measure => simp [intOf]; omega
      · obtain rfl : k = n' := by omega
        obtain ⟨z0, z1, z2, z3, z4, y0, y1, y2, y3, y4⟩ := zero_facts HRr.out
        have g1 := BXr.out.c0
        have g2 := BXr.out.c1
        have g3 := BXr.out.c2
        have g5 := BXr.out.c3
        have HS5 := Lib.hid (Blk5.set5 HRr.out (.int .i64 x) (.slice A n c) (.slice A' k c') (.slice A2 k c2) (.map (some b)))
        go_wp2_with fail
        have s0 := HS5.out.k0
        have s1 := HS5.out.k1
        have s2 := HS5.out.k2
        have s3 := HS5.out.k3
        have s4 := HS5.out.k4
        refine bodyPost_ret (v := lookV x A n c A' k c' A2 k c2 (some b)) (by simp [results, Try.results31, go_sem, lookV, s0, s1, s2, s3, s4]) rfl ⟨A2, c2, b, rfl, ?_⟩
        have hsw := HSZ.out
        have hfr := LKr.out.fresh
        refine ⟨LKr.out.lev.set5 (fun bb off e => by have := LKr.out.row bb off e; omega) .., LKr.out.map.set5 (by omega) .., by omega, below_set5 (HB0.out.trans (LKr.out.below.mono HB0.out.size)) (by omega) .., fun bb off e => by have := LKr.out.row bb off e; omega⟩

end Go.Proofs.Ytenpenelikpeeaa
