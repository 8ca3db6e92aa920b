/-
  A slice of steps; prop.Levels, the law's level, the reference's Levels. No condition.
  prop.Check of the program. No condition.
  prop.Check of the program, walked. No condition.
-/
import Derived.Test.YtenpenelikpeeaaZC3

namespace Go.Proofs.Ytenpenelikpeeaa
open Go.RowKit Go.Shelf
set_option linter.unusedVariables false
set_option linter.unusedSimpArgs false

structure Stp where
  lit : Int
  why : Int
instance : Inhabited Stp := ⟨⟨0, 0⟩⟩
def stp (ts : List Stp) (k : Nat) : Stp := ts.getD k ⟨0, 0⟩
theorem stp_lt {ts : List Stp} {k : Nat} (h : k < ts.length) : stp ts k = ts[k] := by simp [stp, List.getD_eq_getElem?_getD, List.getElem?_eq_getElem h]
theorem takes_snoc (ts : List Stp) (k : Nat) (h : k < ts.length) : ts.take (k + 1) = ts.take k ++ [stp ts k] := by
  rw [List.take_succ_eq_append_getElem h, stp_lt h]
theorem stp_mem {ts : List Stp} {k : Nat} (h : k < ts.length) : stp ts k ∈ ts := by rw [stp_lt h]; exact List.getElem_mem h

/-- a slice of steps that reads as a list -/
structure RS (w : World) (A : Option Addr) (n c : Nat) (ts : List Stp) : Prop where
  len : ts.length = n
  cap : n ≤ c
  big : n * 16 ≤ 140737488355328
  cmax : c ≤ maxLen
  cells : 0 < n → ∃ b off, A = some ⟨b, off, none⟩ ∧ b < w.heap.size ∧ ∀ j, j < n → w.cell? ⟨b, off + j * 2, none⟩ = some (.int .i64 (stp ts j).lit) ∧ w.cell? ⟨b, off + j * 2 + 1, none⟩ = some (.int .i64 (stp ts j).why)
theorem RS.below {w w' : World} {A : Option Addr} {n c : Nat} {ts : List Stp} (h : RS w A n c ts) (hb : Below w.heap.size w w') : RS w' A n c ts :=
  ⟨h.len, h.cap, h.big, h.cmax, fun hn => by
    obtain ⟨b, off, rfl, hlt, hc⟩ := h.cells hn
    refine ⟨b, off, rfl, Nat.lt_of_lt_of_le hlt hb.size, fun j hj => ?_⟩
    obtain ⟨h1, h2⟩ := hc j hj
    exact ⟨(hb.cell (p := ⟨b, _, none⟩) hlt).trans h1, (hb.cell (p := ⟨b, _, none⟩) hlt).trans h2⟩⟩
theorem RS.alloc {w : World} {A : Option Addr} {n c : Nat} {ts : List Stp} (h : RS w A n c ts) (o : Obj) : RS (w.alloc o) A n c ts := h.below ((Below.refl _ _).alloc (Nat.le_refl _) _)
theorem RS.nil (w : World) (A : Option Addr) (c : Nat) (hc : c ≤ maxLen) : RS w A 0 c [] := ⟨rfl, Nat.zero_le _, by omega, hc, fun h => absurd h (by omega)⟩
theorem RS.small {w : World} {A : Option Addr} {n c : Nat} {ts : List Stp} (h : RS w A n c ts) : n ≤ 8796093022208 := by have := h.big; omega

/-- how many decisions -/
def cntD (ts : List Stp) : Nat := (ts.filter fun s => s.why == -1).length
theorem cntD_snoc (ts : List Stp) (s : Stp) : cntD (ts ++ [s]) = cntD ts + (if s.why = -1 then 1 else 0) := by
  unfold cntD; rw [List.filter_append, List.length_append]
  by_cases h : s.why = -1 <;> simp [h]
theorem cntD_le (ts : List Stp) : cntD ts ≤ ts.length := List.length_filter_le _ _
def levAt (ts : List Stp) (k : Nat) : Int := (cntD (ts.take (k + 1)) : Int)
def levTo (ts : List Stp) (k : Nat) : List Int := (List.range k).map (levAt ts)
def levL (ts : List Stp) : List Int := levTo ts ts.length
theorem levTo_succ (ts : List Stp) (k : Nat) : levTo ts (k + 1) = levTo ts k ++ [levAt ts k] := by simp [levTo, List.range_succ]
theorem levTo_len (ts : List Stp) (k : Nat) : (levTo ts k).length = k := by simp [levTo]
theorem levL_len (ts : List Stp) : (levL ts).length = ts.length := levTo_len _ _
theorem levL_at {ts : List Stp} {k : Nat} (h : k < ts.length) : elt (levL ts) k = levAt ts k := by
  rw [elt_lt (by rw [levL_len]; exact h)]; simp [levL, levTo]
theorem levAt_yes {ts : List Stp} {k : Nat} (h : k < ts.length) (e : (stp ts k).why = -1) : levAt ts k = (cntD (ts.take k) : Int) + 1 := by
  unfold levAt; rw [takes_snoc ts k h, cntD_snoc, if_pos e]; simp
theorem levAt_no {ts : List Stp} {k : Nat} (h : k < ts.length) (e : (stp ts k).why ≠ -1) : levAt ts k = (cntD (ts.take k) : Int) := by
  unfold levAt; rw [takes_snoc ts k h, cntD_snoc, if_neg e]; simp

/-- a block of two cells that holds a step -/
def BoxS (w : World) (B : Nat) (s : Stp) : Prop := w.heap[B]? = some (.cells #[.int .i64 s.lit, .int .i64 s.why] 41 (0, 0))
theorem BoxS.c0 {w : World} {B : Nat} {s : Stp} (h : BoxS w B s) : w.cell? ⟨B, 0, none⟩ = some (.int .i64 s.lit) := by simp [World.cell?, show w.heap[B]? = _ from h]
theorem BoxS.c1 {w : World} {B : Nat} {s : Stp} (h : BoxS w B s) : w.cell? ⟨B, 1, none⟩ = some (.int .i64 s.why) := by simp [World.cell?, show w.heap[B]? = _ from h]
theorem BoxS.lt {w : World} {B : Nat} {s : Stp} (h : BoxS w B s) : B < w.heap.size := (Array.getElem?_eq_some_iff.1 h).1
theorem BoxS.below {w w' : World} {B : Nat} {s : Stp} (h : BoxS w B s) (hb : Below w.heap.size w w') : BoxS w' B s := (hb.block B h.lt).trans h
theorem BoxS.kept {w w' : World} {B : Nat} {s : Stp} {row : Option Nat} (h : BoxS w B s) (hg : w.grownBy w' row) (hne : some B ≠ row) : BoxS w' B s := (hg.block B h.lt hne).trans h
theorem BoxS.new (w : World) (x y : Int) : BoxS (w.alloc (.cells #[.int .i64 x, .int .i64 y] 41)) w.heap.size ⟨x, y⟩ := World.alloc_heap_new w _

theorem cell_new_at (w : World) (v : Value) (t : TypeId) (s : Nat) (h : s = w.heap.size) : ∀ j u, [v][j]? = some u → (w.alloc (.cells #[v] t)).cell? ((⟨s, 0, none⟩ : Addr).add j) = some u := by
  subst h; exact cell_one_new _ _ _

/-- a row that the call has made itself, as a result -/
def Freshd (zs : List Int) (n : Nat) (w : World) (e : Ending) (w' : World) : Prop :=
  ∃ A c, e = .returned (.slice A n c) ∧ RI w' A n c zs ∧ Below w.heap.size w w'

/-- the same, and the row's block is new -/
def Freshn (zs : List Int) (n : Nat) (w : World) (e : Ending) (w' : World) : Prop :=
  ∃ A c, e = .returned (.slice A n c) ∧ RI w' A n c zs ∧ (∀ b off, A = some ⟨b, off, none⟩ → w.heap.size ≤ b) ∧ Below w.heap.size w w'
theorem fresh_of {e : Ending} {zs : List Int} {n : Nat} {w w' : World} (h : Freshn zs n w e w') : Freshd zs n w e w' := by
  obtain ⟨A, c, h1, h2, _, h3⟩ := h; exact ⟨A, c, h1, h2, h3⟩

set_option maxRecDepth 100000 in
set_option maxHeartbeats 1000000 in
theorem levels_new (A : Option Addr) (n c : Nat) (ts : List Stp) (w : World) (h : RS w A n c ts) (hn : n ≤ 1000000) :
    Calls Try.prog 18 #[.slice A n c] w (Freshn (levL ts) n w) := by
  obtain ⟨i0, hi, hz0, hz1, hz2⟩ := info_parts infoInt
  have H := Lib.hid h
  clear h
  go_enter Try.func18, Try.ntmps18
  go_wp2
  go_loopw [3, 4, 9] (fun s3 s4 s9 W => ∃ (k : Nat) (O : Option Addr) (co : Nat), k ≤ n ∧ s9 = .int .i64 k ∧ s4 = .int .i64 (cntD (ts.take k)) ∧ s3 = .slice O k co ∧ W.ownsRow w.heap.size 3 1 (.slice O k co) k ((levTo ts k).map (Value.int .i64)) ∧ Below w.heap.size w W) (fun _ _ i _ => n - (intOf i).toNat)
  case atStart => exact ⟨0, none, 0, Nat.zero_le _, rfl, rfl, rfl, World.ownsRow_nil _ _ _ _, Below.refl _ _⟩
  case round =>
    obtain ⟨k, O, co, hk, rfl, rfl, rfl, hown, hb⟩ := hrel
    have HO := Lib.hid hown
    have HB := Lib.hid hb
    have hsz := hb.size
    clear hown hb
    have hcd : cntD (ts.take k) ≤ k := Nat.le_trans (cntD_le _) (by rw [List.length_take]; omega)
    by_cases hlt : k < n
    · have hl : k < ts.length := by rw [H.out.len]; exact hlt
      obtain ⟨b, off, rfl, hbl, hc⟩ := (H.out.below HB.out).cells (by omega)
      obtain ⟨hc0, hc1⟩ := hc k hlt
      clear hc
      have E1 := Lib.hid (levTo_succ ts k)
      have E2 := Lib.hid (takes_snoc ts k hl)
      have E3 := Lib.hid (fun e => levAt_yes (ts := ts) (k := k) hl e)
      have E4 := Lib.hid (fun e => levAt_no (ts := ts) (k := k) hl e)
      have E5 := Lib.hid (cntD_snoc (ts.take k) (stp ts k))
      clear hl
      generalize hw : (stp ts k).why = y at *
      have HW := Lib.hid hw
      generalize (stp ts k).lit = x at *
      generalize hcn : cntD (ts.take k) = q at *
      clear hw hcn
      by_cases hy : y = -1
      · subst hy
        have e3 := E3.out rfl
        have E6 : Hid (cntD (ts.take (k + 1)) = q + 1) := Lib.hid (by rw [E2.out, E5.out]; rfl)
        have E7 := Lib.hid e3
        clear e3
        go_wp2_with (at_builtin; refine wpList_append_own_at _ rfl (.tmp 18) (.tmp 20) 28 rfl w.heap.size 3 i0 (.int .i64 0) 1 8 Try.underlying28 hi hz0 hz1 hz2 rfl (by decide) (.slice O k co) k _ rfl ((HO.out.alloc _).alloc _) ⟨_, 0, none⟩ 1 1 [.int .i64 ((q : Int) + 1)] rfl rfl (cell_new_at _ _ _ _ (by simp)) (by simp [Value.oneCell']) (by unfold maxLen; omega) (by omega) (by simp; omega) ?_; intro v' w4 hown' hgrow hnil hloc; obtain ⟨g', cap', rfl⟩ := own_succ hown'; have G1 := Lib.hid (grown_below (grown_below hgrow)); have O1 := Lib.hid hown'; clear hown' hgrow hnil hloc)
        go_roundw
        case rel => exact ⟨k + 1, some ⟨g', 0, none⟩, cap', by omega, by go_num, by rw [E6.out]; go_num, rfl, by rw [E1.out, List.map_append, E7.out]; exact O1.out, HB.out.grown G1.out hsz (fun g hg => (own_lt HO.out hg).1)⟩
        case measure => simp [intOf]; omega
      · have hyb : (y == -1) = false := by simpa using hy
        have e3 := E4.out hy
        have E6 : Hid (cntD (ts.take (k + 1)) = q) := Lib.hid (by rw [E2.out, E5.out, if_neg hy]; rfl)
        have E7 := Lib.hid e3
        clear e3
        go_wp2_with (at_builtin; refine wpList_append_own_at _ rfl (.tmp 18) (.tmp 20) 28 rfl w.heap.size 3 i0 (.int .i64 0) 1 8 Try.underlying28 hi hz0 hz1 hz2 rfl (by decide) (.slice O k co) k _ rfl ((HO.out.alloc _).alloc _) ⟨_, 0, none⟩ 1 1 [.int .i64 (q : Int)] rfl rfl (cell_new_at _ _ _ _ (by simp)) (by simp [Value.oneCell']) (by unfold maxLen; omega) (by omega) (by simp; omega) ?_; intro v' w4 hown' hgrow hnil hloc; obtain ⟨g', cap', rfl⟩ := own_succ hown'; have G1 := Lib.hid (grown_below (grown_below hgrow)); have O1 := Lib.hid hown'; clear hown' hgrow hnil hloc)
        go_roundw
        case rel => exact ⟨k + 1, some ⟨g', 0, none⟩, cap', by omega, by go_num, by rw [E6.out], rfl, by rw [E1.out, List.map_append, E7.out]; exact O1.out, HB.out.grown G1.out hsz (fun g hg => (own_lt HO.out hg).1)⟩
        case measure => simp [intOf]; omega
    · obtain rfl : k = n := by omega
      have E1 : Hid (levL ts = levTo ts k) := Lib.hid (by unfold levL; rw [H.out.len])
      go_wp2
      go_ret
      exact ⟨O, co, rfl, by rw [E1.out]; exact RI.of_own HO.out (by omega), fun b off e => (own_lt HO.out (g := b) (by rw [e]; rfl)).1, HB.out⟩
theorem levels_any (A : Option Addr) (n c : Nat) (ts : List Stp) (w : World) (h : RS w A n c ts) (hn : n ≤ 1000000) :
    Calls Try.prog 18 #[.slice A n c] w (Freshd (levL ts) n w) := (levels_new A n c ts w h hn).mono fun _ _ h => fresh_of h

/-- the place of a literal -/
def plc (ts : List Stp) (x : Int) : Nat := ts.findIdx fun s => s.lit == x
theorem plc_at {ts : List Stp} {x : Int} {k : Nat} (hk : k < ts.length) (h : (stp ts k).lit = x) (hno : ∀ j, j < k → (stp ts j).lit ≠ x) : plc ts x = k := by
  unfold plc
  refine (List.findIdx_eq hk).2 ⟨by rw [← stp_lt hk]; simpa using h, fun j hj => ?_⟩
  have := hno j hj
  rw [stp_lt (by omega)] at this
  simpa using this
theorem plc_none {ts : List Stp} {x : Int} (h : ∀ j, j < ts.length → (stp ts j).lit ≠ x) : plc ts x = ts.length := by
  unfold plc
  refine List.findIdx_eq_length.2 fun s hs => ?_
  obtain ⟨j, hj, rfl⟩ := List.mem_iff_getElem.1 hs
  have := h j hj
  rw [stp_lt hj] at this
  simpa using this
theorem plc_lt {ts : List Stp} {x : Int} (h : plc ts x < ts.length) : (stp ts (plc ts x)).lit = x ∧ ∀ j, j < plc ts x → (stp ts j).lit ≠ x := by
  constructor
  · rw [stp_lt h]
    have := List.findIdx_getElem (p := fun s : Stp => s.lit == x) (w := h)
    exact beq_iff_eq.1 this
  · intro j hj
    have := List.not_of_lt_findIdx hj
    rw [stp_lt (by omega)]
    simpa using this
theorem plc_le (ts : List Stp) (x : Int) : plc ts x ≤ ts.length := List.findIdx_le_length

/-- the level of a false literal; -1 if it is not false -/
def lvlT (ts : List Stp) (x : Int) : Int := if plc ts (-x) < ts.length then levAt ts (plc ts (-x)) else -1
theorem lvlT_at {ts : List Stp} {x : Int} {k : Nat} (hk : k < ts.length) (h : (stp ts k).lit = -x) (hno : ∀ j, j < k → (stp ts j).lit ≠ -x) : lvlT ts x = elt (levL ts) k := by
  unfold lvlT; rw [plc_at hk h hno, if_pos hk, levL_at hk]
theorem lvlT_none {ts : List Stp} {x : Int} (h : ∀ j, j < ts.length → (stp ts j).lit ≠ -x) : lvlT ts x = -1 := by
  unfold lvlT; rw [plc_none h, if_neg (by omega)]

set_option maxRecDepth 100000 in
set_option maxHeartbeats 1000000 in
theorem levelLaw_any (A : Option Addr) (n c : Nat) (ts : List Stp) (x : Int) (w : World) (h : RS w A n c ts) (hn : n ≤ 1000000) (h0 : -65536 ≤ x) (h1 : x ≤ 65536) :
    Calls Try.prog 19 #[.slice A n c, .int .i64 x] w fun e w' => e = .returned (.int .i64 (lvlT ts x)) ∧ Below w.heap.size w w' := by
  have H := Lib.hid h
  have hneg := lit_neg' h0 h1
  clear h
  go_enter Try.func19, Try.ntmps19
  go_wp2_with (go_at_call 18; refine (levels_any A n c ts _ H.out hn).mono ?_; rintro e w2 ⟨A2, c2, rfl, hr2, hb2⟩; have HR2 := Lib.hid hr2; have HB2 := Lib.hid hb2; clear hr2 hb2)
  go_loopw [6] (fun s6 W => ∃ k : Nat, k ≤ n ∧ s6 = .int .i64 k ∧ (∀ j, j < k → (stp ts j).lit ≠ -x) ∧ W = w2) (fun i _ => n - (intOf i).toNat)
  case atStart => exact ⟨0, Nat.zero_le _, rfl, fun j hj => absurd hj (by omega), rfl⟩
  case round =>
    obtain ⟨k, hk, rfl, hno, rfl⟩ := hrel
    have HN := Lib.hid hno
    clear hno
    by_cases hlt : k < n
    · have hl : k < ts.length := by rw [H.out.len]; exact hlt
      obtain ⟨b, off, rfl, hbl, hc⟩ := (H.out.below HB2.out).cells (by omega)
      obtain ⟨hc0, -⟩ := hc k hlt
      obtain ⟨b2, off2, rfl, hbl2, hc2⟩ := HR2.out.cells (by omega)
      have hck2 := hc2 k hlt
      clear hc hc2
      by_cases hx : (stp ts k).lit = -x
      · have E := Lib.hid (lvlT_at hl hx HN.out)
        have hxb : ((stp ts k).lit == -x) = true := by simpa using hx
        clear hx hl
        go_wp2
        go_ret
        exact ⟨ret_int E.out.symm, HB2.out⟩
      · have E := Lib.hid hx
        have hxb : ((stp ts k).lit == -x) = false := by simpa using hx
        clear hx hl
        go_wp2
        go_roundw
        case rel =>
          refine ⟨k + 1, by omega, by go_num, fun j hj => ?_, by first | rfl | trivial⟩
          rcases Nat.lt_or_ge j k with h1 | h1
          · exact HN.out j h1
          · obtain rfl : j = k := by omega
            exact E.out
        case measure => simp [intOf]; omega
    · have E := Lib.hid (lvlT_none (ts := ts) (x := x) (fun j hj => HN.out j (by rw [H.out.len] at hj; omega)))
      go_wp2
      go_ret
      exact ⟨ret_int E.out.symm, HB2.out⟩

set_option maxRecDepth 100000 in
set_option maxHeartbeats 1000000 in
theorem levelsR_any (A : Option Addr) (n c : Nat) (ts : List Stp) (w : World) (h : RS w A n c ts) (hn : n ≤ 1000000) :
    Calls Try.prog 75 #[.slice A n c] w (Freshd (levL ts) n w) := by
  obtain ⟨i0, hi, hz0, hz1, hz2⟩ := info_parts infoInt
  have H := Lib.hid h
  clear h
  go_enter Try.func75, Try.ntmps75
  go_wp2
  go_loopw [3, 4, 5] (fun s3 s4 s9 W => ∃ (k : Nat) (O : Option Addr) (co : Nat), k ≤ n ∧ s9 = .int .i64 k ∧ s4 = .int .i64 (cntD (ts.take k)) ∧ s3 = .slice O k co ∧ W.ownsRow w.heap.size 3 1 (.slice O k co) k ((levTo ts k).map (Value.int .i64)) ∧ Below w.heap.size w W) (fun _ _ i _ => n - (intOf i).toNat)
  case atStart => exact ⟨0, none, 0, Nat.zero_le _, rfl, rfl, rfl, World.ownsRow_nil _ _ _ _, Below.refl _ _⟩
  case round =>
    obtain ⟨k, O, co, hk, rfl, rfl, rfl, hown, hb⟩ := hrel
    have HO := Lib.hid hown
    have HB := Lib.hid hb
    have hsz := hb.size
    clear hown hb
    have hcd : cntD (ts.take k) ≤ k := Nat.le_trans (cntD_le _) (by rw [List.length_take]; omega)
    by_cases hlt : k < n
    · have hl : k < ts.length := by rw [H.out.len]; exact hlt
      obtain ⟨b, off, rfl, hbl, hc⟩ := (H.out.below HB.out).cells (by omega)
      obtain ⟨hc0, hc1⟩ := hc k hlt
      clear hc
      have E1 := Lib.hid (levTo_succ ts k)
      have E2 := Lib.hid (takes_snoc ts k hl)
      have E3 := Lib.hid (fun e => levAt_yes (ts := ts) (k := k) hl e)
      have E4 := Lib.hid (fun e => levAt_no (ts := ts) (k := k) hl e)
      have E5 := Lib.hid (cntD_snoc (ts.take k) (stp ts k))
      clear hl
      generalize hw : (stp ts k).why = y at *
      have HW := Lib.hid hw
      generalize (stp ts k).lit = x at *
      generalize hcn : cntD (ts.take k) = q at *
      clear hw hcn
      by_cases hy : y = -1
      · subst hy
        have e3 := E3.out rfl
        have E6 : Hid (cntD (ts.take (k + 1)) = q + 1) := Lib.hid (by rw [E2.out, E5.out]; rfl)
        have E7 := Lib.hid e3
        clear e3
        go_wp2_with (at_builtin; refine wpList_append_own_at _ rfl (.tmp 20) (.tmp 22) 28 rfl w.heap.size 3 i0 (.int .i64 0) 1 8 Try.underlying28 hi hz0 hz1 hz2 rfl (by decide) (.slice O k co) k _ rfl (HO.out.alloc _) ⟨_, 0, none⟩ 1 1 [.int .i64 ((q : Int) + 1)] rfl rfl (cell_new_at _ _ _ _ (by simp)) (by simp [Value.oneCell']) (by unfold maxLen; omega) (by omega) (by simp; omega) ?_; intro v' w4 hown' hgrow hnil hloc; obtain ⟨g', cap', rfl⟩ := own_succ hown'; have G1 := Lib.hid (grown_below hgrow); have O1 := Lib.hid hown'; clear hown' hgrow hnil hloc)
        go_roundw
        case rel => exact ⟨k + 1, some ⟨g', 0, none⟩, cap', by omega, by go_num, by rw [E6.out]; go_num, rfl, by rw [E1.out, List.map_append, E7.out]; exact O1.out, HB.out.grown G1.out hsz (fun g hg => (own_lt HO.out hg).1)⟩
        case measure => simp [intOf]; omega
      · have hyb : (y == -1) = false := by simpa using hy
        have e3 := E4.out hy
        have E6 : Hid (cntD (ts.take (k + 1)) = q) := Lib.hid (by rw [E2.out, E5.out, if_neg hy]; rfl)
        have E7 := Lib.hid e3
        clear e3
        go_wp2_with (at_builtin; refine wpList_append_own_at _ rfl (.tmp 20) (.tmp 22) 28 rfl w.heap.size 3 i0 (.int .i64 0) 1 8 Try.underlying28 hi hz0 hz1 hz2 rfl (by decide) (.slice O k co) k _ rfl (HO.out.alloc _) ⟨_, 0, none⟩ 1 1 [.int .i64 (q : Int)] rfl rfl (cell_new_at _ _ _ _ (by simp)) (by simp [Value.oneCell']) (by unfold maxLen; omega) (by omega) (by simp; omega) ?_; intro v' w4 hown' hgrow hnil hloc; obtain ⟨g', cap', rfl⟩ := own_succ hown'; have G1 := Lib.hid (grown_below hgrow); have O1 := Lib.hid hown'; clear hown' hgrow hnil hloc)
        go_roundw
        case rel => exact ⟨k + 1, some ⟨g', 0, none⟩, cap', by omega, by go_num, by rw [E6.out], rfl, by rw [E1.out, List.map_append, E7.out]; exact O1.out, HB.out.grown G1.out hsz (fun g hg => (own_lt HO.out hg).1)⟩
        case measure => simp [intOf]; omega
    · obtain rfl : k = n := by omega
      have E1 : Hid (levL ts = levTo ts k) := Lib.hid (by unfold levL; rw [H.out.len])
      go_wp2
      go_ret
      exact ⟨O, co, rfl, by rw [E1.out]; exact RI.of_own HO.out (by omega), HB.out⟩

end Go.Proofs.Ytenpenelikpeeaa

namespace Go.Proofs.Ytenpenelikpeeaa
open Go.RowKit Go.Shelf
set_option linter.unusedVariables false
set_option linter.unusedSimpArgs false

theorem wfI_lit {x : Int} (h0 : -65536 ≤ x) (h1 : x ≤ 65536) : wfI x = true := wfI_of (by omega) (by omega)

def whyOk (l prev : List Int) (lit : Int) : Bool := hasB l lit && !(l.any fun y => (y != lit) && !(hasB prev (-y)))
def stepOk (x : Int) (ls : List (List Int)) (prev : List Int) (s : Stp) : Bool :=
  isB s.lit x && !(hasB prev s.lit || hasB prev (-s.lit)) && decide (-1 ≤ s.why) && decide (s.why < ls.length) && (decide (s.why < 0) || whyOk (ell ls s.why.toNat) prev s.lit)
def litsOf (ts : List Stp) : List Int := ts.map (·.lit)
theorem litsOf_snoc (ts : List Stp) (s : Stp) : litsOf (ts ++ [s]) = litsOf ts ++ [s.lit] := by simp [litsOf]
def trailTo (x : Int) (ls : List (List Int)) (ts : List Stp) (k : Nat) : Bool := (List.range k).all fun j => stepOk x ls (litsOf (ts.take j)) (stp ts j)
def trailB (x : Int) (ls : List (List Int)) (ts : List Stp) : Bool := trailTo x ls ts ts.length
theorem trailTo_succ (x : Int) (ls : List (List Int)) (ts : List Stp) (k : Nat) : trailTo x ls ts (k + 1) = (trailTo x ls ts k && stepOk x ls (litsOf (ts.take k)) (stp ts k)) := by simp [trailTo, List.range_succ]
theorem trailB_no {x : Int} {ls : List (List Int)} {ts : List Stp} {k : Nat} (hk : k < ts.length) (h : stepOk x ls (litsOf (ts.take k)) (stp ts k) = false) : trailB x ls ts = false := by
  unfold trailB trailTo
  rw [List.all_eq_false]
  exact ⟨k, List.mem_range.2 hk, by rw [h]; simp⟩
def propE (x : Int) (ls : List (List Int)) (ts : List Stp) : Int := if checkE x ls ≠ 0 then checkE x ls else if trailB x ls ts = true then 0 else 1

/-- the first thing that is wrong with a step -/
theorem step_no {x : Int} {ls : List (List Int)} {prev : List Int} {s : Stp} (h : stepOk x ls prev s = false) :
    s.lit = 0 ∨ (s.lit ≠ 0 ∧ x < s.lit) ∨ (s.lit ≠ 0 ∧ s.lit ≤ x ∧ s.lit < -x) ∨ (isB s.lit x = true ∧ (hasB prev s.lit || hasB prev (-s.lit)) = true) ∨
    (isB s.lit x = true ∧ (hasB prev s.lit || hasB prev (-s.lit)) = false ∧ s.why < -1) ∨
    (isB s.lit x = true ∧ (hasB prev s.lit || hasB prev (-s.lit)) = false ∧ -1 ≤ s.why ∧ (ls.length : Int) ≤ s.why) ∨
    (isB s.lit x = true ∧ (hasB prev s.lit || hasB prev (-s.lit)) = false ∧ 0 ≤ s.why ∧ s.why < (ls.length : Int) ∧ hasB (ell ls s.why.toNat) s.lit = false) ∨
    (isB s.lit x = true ∧ (hasB prev s.lit || hasB prev (-s.lit)) = false ∧ 0 ≤ s.why ∧ s.why < (ls.length : Int) ∧ hasB (ell ls s.why.toNat) s.lit = true ∧ ((ell ls s.why.toNat).any fun y => (y != s.lit) && !(hasB prev (-y))) = true) := by
  unfold stepOk whyOk at h
  by_cases h1 : s.lit = 0
  · exact Or.inl h1
  right
  by_cases h2 : x < s.lit
  · exact Or.inl ⟨h1, h2⟩
  right
  by_cases h3 : s.lit < -x
  · exact Or.inl ⟨h1, by omega, h3⟩
  right
  have h4 : isB s.lit x = true := isB_iff.2 ⟨h1, by omega, by omega⟩
  cases h5 : (hasB prev s.lit || hasB prev (-s.lit)) with
  | true => exact Or.inl ⟨h4, rfl⟩
  | false =>
    right
    by_cases h6 : s.why < -1
    · exact Or.inl ⟨h4, rfl, h6⟩
    right
    by_cases h7 : (ls.length : Int) ≤ s.why
    · exact Or.inl ⟨h4, rfl, by omega, h7⟩
    right
    rw [h4, h5, decide_eq_true (by omega), decide_eq_true (by omega)] at h
    by_cases h8 : s.why < 0
    · rw [decide_eq_true h8] at h; simp at h
    · rw [decide_eq_false h8] at h
      cases h9 : hasB (ell ls s.why.toNat) s.lit with
      | false => exact Or.inl ⟨h4, rfl, by omega, by omega, rfl⟩
      | true =>
        right
        rw [h9] at h
        refine ⟨h4, rfl, by omega, by omega, rfl, ?_⟩
        cases h10 : ((ell ls s.why.toNat).any fun y => (y != s.lit) && !(hasB prev (-y))) with
        | true => rfl
        | false => rw [h10] at h; simp at h
theorem step_yes {x : Int} {ls : List (List Int)} {prev : List Int} {s : Stp} (h : stepOk x ls prev s = true) :
    isB s.lit x = true ∧ (hasB prev s.lit || hasB prev (-s.lit)) = false ∧ -1 ≤ s.why ∧ s.why < (ls.length : Int) ∧
    (0 ≤ s.why → hasB (ell ls s.why.toNat) s.lit = true ∧ ((ell ls s.why.toNat).any fun y => (y != s.lit) && !(hasB prev (-y))) = false) := by
  unfold stepOk whyOk at h
  simp only [Bool.and_eq_true, Bool.or_eq_true, decide_eq_true_iff, Bool.not_eq_true'] at h
  obtain ⟨⟨⟨⟨h1, h2⟩, h3⟩, h4⟩, h5⟩ := h
  refine ⟨h1, h2, h3, h4, fun h6 => ?_⟩
  rcases h5 with h5 | h5
  · omega
  · exact h5

abbrev SetM (w : World) (b n : Nat) (S : List Int) : Prop := MF 4 edB w b n (setF S)
theorem SetM.look {w : World} {b n : Nat} {S : List Int} (h : SetM w b n S) {t : TypeId} (ht : Try.prog.underlying t = some (.map 3 4)) {x : Int} (hx : wfI x = true) :
    (Instr.lookup t (.map (some b)) (.int .i64 x) false).run Try.prog w = .ok (.bool (hasB S x)) w := by
  have := MF.look ekB ht h hx
  rwa [setF_get] at this
theorem SetM.put {w : World} {b n : Nat} {S : List Int} (h : SetM w b n S) (hn : n < maxLen) {t : TypeId} (ht : Try.prog.underlying t = some (.map 3 4)) {x : Int} (hx : wfI x = true) :
    ∃ w', (Instr.mapUpdate t (.map (some b)) (.int .i64 x) (.bool true)).run Try.prog w = .ok () w' ∧ SetM w' b (n + 1) (S ++ [x]) ∧ w.mapTurned w' b := by
  obtain ⟨w', h1, h2, h3⟩ := MF.put ekB ht h hn hx (v := true) trivial
  exact ⟨w', h1, by rw [setF_put] at h2; exact h2, h3⟩

theorem known_or {S : List Int} {x : Int} {r : Bool} (h : (hasB S x || hasB S (-x)) = r) : hasB S x = true ∧ r = true ∨ hasB S x = false ∧ hasB S (-x) = r := by
  cases h1 : hasB S x <;> rw [h1] at h <;> simp at h <;> simp [h]

set_option maxHeartbeats 400000 in
theorem known_val (r : Bool) (b n : Nat) (S : List Int) (x : Int) (w : World) (h : SetM w b n S) (h0 : -65536 ≤ x) (h1 : x ≤ 65536) (hr : (hasB S x || hasB S (-x)) = r) :
    Calls Try.prog 53 #[.map (some b), .int .i64 x] w fun e w' => e = .returned (.bool r) ∧ w = w' := by
  have l1 := h.look Try.underlying81 (wfI_lit h0 h1)
  have l2 := h.look Try.underlying81 (x := -x) (wfI_lit (by omega) (by omega))
  have hneg := lit_neg' h0 h1
  clear h
  rcases known_or hr with ⟨h2, rfl⟩ | ⟨h2, h3⟩
  · rw [h2] at l1
    clear l2 h2 hr
    go_enter Try.func53, Try.ntmps53
    go_wp2
    go_ret
    exact ⟨rfl, rfl⟩
  · rw [h2] at l1
    rw [h3] at l2
    clear h2 h3 hr
    go_enter Try.func53, Try.ntmps53
    go_wp2
    go_ret
    exact ⟨rfl, rfl⟩

set_option maxHeartbeats 400000 in
theorem step56_any (b n : Nat) (S : List Int) (x : Int) (w : World) (h : SetM w b n S) (hn : n < maxLen) (hx : wfI x = true) :
    Calls Try.prog 56 #[.map (some b), .int .i64 x] w fun e w' => e = .returned (.tuple #[]) ∧ SetM w' b (n + 1) (S ++ [x]) ∧ w.mapTurned w' b := by
  obtain ⟨w1, hrun, h1, h2⟩ := h.put hn Try.underlying81 hx
  have H1 := Lib.hid (And.intro h1 h2)
  clear h hn h1 h2
  go_enter Try.func56, Try.ntmps56
  go_wp2
  go_end0
  exact ⟨rfl, H1.out.1, H1.out.2⟩

set_option maxHeartbeats 400000 in
theorem index_any (A : Option Addr) (n c : Nat) (zs : List Int) (x : Int) (w : World) (h : RI w A n c zs) :
    Calls Try.prog 78 #[.slice A n c, .int .i64 x] w fun e w' => (∃ r : Int, e = .returned (.int .i64 r) ∧ decide (0 ≤ r) = hasB zs x) ∧ w = w' := by
  have hn := h.small
  have H := Lib.hid h
  clear h
  go_enter Try.func78, Try.ntmps78
  go_wp2
  go_loop [8] (fun i => ∃ k : Nat, k ≤ n ∧ i = .int .i64 k ∧ hasB (zs.take k) x = false) (fun i => n - (intOf i).toNat)
  case atStart => exact ⟨0, Nat.zero_le _, rfl, rfl⟩
  case round =>
    obtain ⟨k, hk, rfl, hno⟩ := hrel
    have HN := Lib.hid hno
    clear hno
    by_cases hlt : k < n
    · obtain ⟨b, off, rfl, hb, hc⟩ := H.out.cells (by omega)
      have hck := hc k hlt
      clear hc
      by_cases hx : x = elt zs k
      · have hxb : (x == elt zs k) = true := by simpa using hx
        have E : Hid (hasB zs x = true) := Lib.hid (hasB_of_at (k := k) (by rw [H.out.len]; exact hlt) (by simpa using hx.symm))
        clear hx
        go_wp2
        go_ret
        exact ⟨⟨k, rfl, by rw [E.out]; simp⟩, rfl⟩
      · have hxb : (x == elt zs k) = false := by simpa using hx
        have E : Hid (hasB (zs.take (k + 1)) x = false) := Lib.hid (hasB_step (by rw [H.out.len]; exact hlt) (by simpa using Ne.symm hx) HN.out)
        clear hx
        go_wp2
        go_round
        case rel => exact ⟨k + 1, by omega, by go_num, E.out⟩
        case measure => simp [intOf]; omega
    · go_wp2
      go_ret
      exact ⟨⟨-1, rfl, by rw [hasB_full H.out.len hlt HN.out]; rfl⟩, rfl⟩

set_option maxHeartbeats 400000 in
theorem contains_val (r : Bool) (A : Option Addr) (n c : Nat) (zs : List Int) (x : Int) (w : World) (h : RI w A n c zs) (hr : hasB zs x = r) :
    Calls Try.prog 55 #[.slice A n c, .int .i64 x] w fun e w' => e = .returned (.bool r) ∧ w = w' := by
  have hI := index_any A n c zs x w h
  rw [hr] at hI
  clear h hr
  go_enter Try.func55, Try.ntmps55
  go_wp2_with (go_at_call 78; refine hI.mono ?_; rintro e w' ⟨⟨r, rfl, hr⟩, rfl⟩)
  all_goals
    go_ret
    exact ⟨ret_bool (by rw [← hr]), rfl⟩

theorem enters54 : ∀ args w, (callFunc 54 args).run Try.prog w = .ok (.enter 54 args) w := enters_of Try.func54 (by kernel_rfl) rfl

set_option maxHeartbeats 400000 in
theorem check1p_any (Bs Bd b n : Nat) (S : List Int) (s : Stp) (y : Int) (w : World) (hs : BoxS w Bs s) (hd : w.cell? ⟨Bd, 0, none⟩ = some (.map (some b))) (h : SetM w b n S) (h0 : -65536 ≤ y) (h1 : y ≤ 65536) :
    Calls Try.prog 54 #[.int .i64 y, .pointer (some ⟨Bs, 0, none⟩), .pointer (some ⟨Bd, 0, none⟩)] w fun e w' => e = .returned (.bool ((y != s.lit) && !(hasB S (-y)))) ∧ w = w' := by
  have l2 := h.look Try.underlying81 (x := -y) (wfI_lit (by omega) (by omega))
  have hneg := lit_neg' h0 h1
  have c0 := hs.c0
  clear h hs
  generalize hasB S (-y) = v at *
  generalize s.lit = z at *
  by_cases hy : y = z
  · have hyb : (y != z) = false := by simpa using hy
    clear hy
    go_enter Try.func54, Try.ntmps54
    go_wp2
    go_ret
    exact ⟨ret_bool (by rw [hyb]; rfl), rfl⟩
  · have hyb : (y != z) = true := by simpa using hy
    clear hy
    go_enter Try.func54, Try.ntmps54
    go_wp2
    go_ret
    exact ⟨ret_bool (by rw [hyb]; rfl), rfl⟩

end Go.Proofs.Ytenpenelikpeeaa

namespace Go.Proofs.Ytenpenelikpeeaa
open Go.RowKit Go.Shelf
set_option linter.unusedVariables false
set_option linter.unusedSimpArgs false

theorem checkE_lits {x : Int} {ls : List (List Int)} (h : checkE x ls = 0) : ∀ l ∈ ls, Okl l := by
  unfold checkE at h
  split at h
  · cases h
  · split at h
    · cases h
    · rename_i h1 h2
      have h3 : allB x ls = true := by simpa using h2
      intro l hl y hy
      have h4 : litsB x l = true := List.all_eq_true.1 h3 l hl
      have h5 := isB_iff.1 (List.all_eq_true.1 h4 y hy)
      have h6 := h5.1
      refine ⟨h6, by omega, by omega⟩
theorem checkE_n {x : Int} {ls : List (List Int)} (h : checkE x ls = 0) : 0 ≤ x ∧ x ≤ 65536 := by
  unfold checkE at h
  split at h
  · cases h
  · rename_i h1; omega
theorem check_val (r : Int) (x : Int) (A : Option Addr) (n c : Nat) (ls : List (List Int)) (w : World) (h : RL w A n c ls) (hr : checkE x ls = r) :
    Calls Try.prog 23 #[.agg #[.int .i64 x, .slice A n c]] w fun e w' => e = .returned (.int .i64 r) ∧ Below w.heap.size w w' := by
  have := check_any x A n c ls w h
  rw [hr] at this; exact this

/-- the loop of Check under way -/
structure Ck (w1 wr : World) (k : Nat) (S : List Int) : Prop where
  set : SetM wr w1.heap.size k S
  dbox : Boxed wr (w1.heap.size + 1) 81 (.map (some w1.heap.size))
  below : Below w1.heap.size w1 wr
theorem Ck.start (w1 : World) : Ck w1 ((w1.alloc (.map #[] 0)).alloc (.cells #[.map (some w1.heap.size)] 81)) 0 [] :=
  ⟨(MF.made w1).alloc _, by have := Boxed.new (w1.alloc (.map #[] 0)) 81 (.map (some w1.heap.size)); simpa using this, ((Below.refl _ _).alloc (Nat.le_refl _) _).alloc (by simp) _⟩
theorem Ck.alloc {w1 wr : World} {k : Nat} {S : List Int} (h : Ck w1 wr k S) (o : Obj) : Ck w1 (wr.alloc o) k S :=
  ⟨h.set.alloc o, boxed_below h.dbox ((Below.refl _ _).alloc (Nat.le_refl _) _), h.below.alloc h.below.size _⟩
theorem Ck.turn {w1 wr w' : World} {k k' : Nat} {S S' : List Int} (h : Ck w1 wr k S) (hs : SetM w' w1.heap.size k' S') (ht : wr.mapTurned w' w1.heap.size) : Ck w1 w' k' S' :=
  ⟨hs, (ht.grown.block _ h.dbox.lt (by simp)).trans h.dbox, h.below.grown ht.grown h.below.size (fun g e => by cases e; exact Nat.le_refl _)⟩

set_option maxRecDepth 100000 in
set_option maxHeartbeats 4000000 in
theorem pcheck_in (x : Int) (A : Option Addr) (n c : Nat) (ls : List (List Int)) (A' : Option Addr) (n' c' : Nat) (ts : List Stp) (w : World) (h : RL w A n c ls) (h' : RS w A' n' c' ts) (hE : checkE x ls = 0) (hn' : n' ≤ 1000000) (r : Int) (hr : (if trailB x ls ts = true then 0 else 1) = r) :
    Calls Try.prog 20 #[.agg #[.int .i64 x, .slice A n c], .slice A' n' c'] w fun e w' => e = .returned (.int .i64 r) ∧ Below w.heap.size w w' := by
  obtain ⟨hx0, hx1⟩ := checkE_n hE
  have H := Lib.hid (h.alloc (.cells #[.int .i64 x, .slice A n c] 24))
  have HS := Lib.hid (h'.alloc (.cells #[.int .i64 x, .slice A n c] 24))
  have HB0 := Lib.hid ((Below.refl w.heap.size w).alloc (Nat.le_refl _) (.cells #[.int .i64 x, .slice A n c] 24))
  have BX := Lib.hid (Two.new w (.int .i64 x) (.slice A n c))
  have HE := Lib.hid hE
  have HK := Lib.hid (checkE_lits hE)
  have hlen := h.len
  have hnx := neg_small hx0 hx1
  have HLN := Lib.hid hlen
  have hnb := h.small
  have HRR := Lib.hid hr
  clear h h' hE hlen hr
  have hmm := @run_makeMap Try.prog
  go_enter Try.func20, Try.ntmps20
  go_upto_region 5 with (go_at_call 23; refine (check_val 0 x A n c ls _ H.out HE.out).mono ?_; rintro e w1 ⟨rfl, hb1⟩; have HB1 := Lib.hid (HB0.out.trans (hb1.mono HB0.out.size)); have HR1 := Lib.hid (H.out.below hb1); have HS1 := Lib.hid (HS.out.below hb1); have BX1 := Lib.hid (BX.out.below hb1); clear hb1)
  go_wp2_with fail
  go_loopw [19] (fun s19 W => ∃ k : Nat, k ≤ n' ∧ s19 = .int .i64 k ∧ trailTo x ls ts k = true ∧ Ck w1 W k (litsOf (ts.take k))) (fun s19 _ => n' - (intOf s19).toNat)
  case atStart => exact ⟨0, Nat.zero_le _, rfl, rfl, Ck.start w1⟩
  case round =>
    obtain ⟨k, hk, rfl, htr, hck⟩ := hrel
    have HT := Lib.hid htr
    have HC := Lib.hid hck
    clear htr hck
    by_cases hlt : k < n'
    · have hl : k < ts.length := by rw [HS.out.len]; exact hlt
      obtain ⟨b, off, rfl, hbl, hc⟩ := (HS1.out.below HC.out.below).cells (by omega)
      obtain ⟨hc0, hc1⟩ := hc k hlt
      clear hc
      have E1 := Lib.hid (trailTo_succ x ls ts k)
      have E2 : Hid (litsOf (ts.take (k + 1)) = litsOf (ts.take k) ++ [(stp ts k).lit]) := Lib.hid (by rw [takes_snoc ts k hl, litsOf_snoc])
      have E3 := Lib.hid (trailB_no (x := x) (ls := ls) (ts := ts) hl)
      have HX := Lib.hid (BoxS.new wr (stp ts k).lit (stp ts k).why)
      have HC2 := Lib.hid (HC.out.alloc (.cells #[.int .i64 (stp ts k).lit, .int .i64 (stp ts k).why] 41))
      have q0 := (BX1.out.below HC2.out.below).c0
      have q1 := (BX1.out.below HC2.out.below).c1
      have d0 := HC2.out.dbox.cell
      clear hl
      generalize hs : stp ts k = s at *
      obtain ⟨lt, wy⟩ := s
      dsimp only at *
      cases hok : stepOk x ls (litsOf (ts.take k)) ⟨lt, wy⟩ with
      | false =>
        have E4 := Lib.hid (E3.out hok)
        have hno := step_no hok
        dsimp only at hno
        rw [HLN.out] at hno
        have hkv := fun (r : Bool) (h0 : isB lt x = true) hr => known_val r _ _ (litsOf (ts.take k)) lt _ HC2.out.set (by have := isB_iff.1 h0; omega) (by have := isB_iff.1 h0; omega) hr
        clear E1 E2 E3 hok
        rcases hno with h1 | ⟨h1, h2⟩ | ⟨h1, h2, h3⟩ | ⟨h1, h2⟩ | ⟨h1, h2, h3⟩ | ⟨h1, h2, h3, h4⟩ | ⟨h1, h2, h3, h4, h5⟩ | ⟨h1, h2, h3, h4, h5, h6⟩
        · have z : (lt == 0) = true := by simpa using h1
          clear h1 hkv
          go_wp2_with fail
          go_ret
          exact ⟨ret_int (by rw [← HRR.out, E4.out]; rfl), HB1.out.trans (HC2.out.below.mono HB1.out.size)⟩
        · have z : (lt == 0) = false := by simpa using h1
          clear h1 hkv
          go_wp2_with fail
          go_ret
          exact ⟨ret_int (by rw [← HRR.out, E4.out]; rfl), HB1.out.trans (HC2.out.below.mono HB1.out.size)⟩
        · have z : (lt == 0) = false := by simpa using h1
          have z2 : ¬ x < lt := by omega
          clear h1 hkv
          go_wp2_with fail
          go_ret
          exact ⟨ret_int (by rw [← HRR.out, E4.out]; rfl), HB1.out.trans (HC2.out.below.mono HB1.out.size)⟩
        · have hb := isB_iff.1 h1
          have hcall := hkv true h1 h2
          have z : (lt == 0) = false := by simpa using hb.1
          have z2 : ¬ x < lt := by omega
          have z3 : ¬ lt < -x := by omega
          clear h1 h2 hkv hb
          go_wp2_with (go_at_call 53; refine hcall.mono ?_; clear hcall; rintro e w' ⟨rfl, rfl⟩)
          go_ret
          exact ⟨ret_int (by rw [← HRR.out, E4.out]; rfl), HB1.out.trans (HC2.out.below.mono HB1.out.size)⟩
        · have hb := isB_iff.1 h1
          have hcall := hkv false h1 h2
          have z : (lt == 0) = false := by simpa using hb.1
          have z2 : ¬ x < lt := by omega
          have z3 : ¬ lt < -x := by omega
          clear h1 h2 hkv hb
          go_wp2_with (go_at_call 53; refine hcall.mono ?_; clear hcall; rintro e w' ⟨rfl, rfl⟩)
          go_ret
          exact ⟨ret_int (by rw [← HRR.out, E4.out]; rfl), HB1.out.trans (HC2.out.below.mono HB1.out.size)⟩
        · have hb := isB_iff.1 h1
          have hcall := hkv false h1 h2
          have z : (lt == 0) = false := by simpa using hb.1
          have z2 : ¬ x < lt := by omega
          have z3 : ¬ lt < -x := by omega
          have z4 : ¬ wy < -1 := by omega
          clear h1 h2 h3 hkv hb
          go_wp2_with (go_at_call 53; refine hcall.mono ?_; clear hcall; rintro e w' ⟨rfl, rfl⟩)
          go_ret
          exact ⟨ret_int (by rw [← HRR.out, E4.out]; rfl), HB1.out.trans (HC2.out.below.mono HB1.out.size)⟩
        · have hb := isB_iff.1 h1
          have hcall := hkv false h1 h2
          have z : (lt == 0) = false := by simpa using hb.1
          have z2 : ¬ x < lt := by omega
          have z3 : ¬ lt < -x := by omega
          have z4 : ¬ wy < -1 := by omega
          have z5 : ¬ (n : Int) ≤ wy := by omega
          obtain ⟨j, rfl⟩ : ∃ j : Nat, wy = j := ⟨wy.toNat, by omega⟩
          obtain ⟨b2, off2, rfl, hb2, hc2⟩ := (HR1.out.below HC2.out.below).cells (by omega)
          obtain ⟨a3, n3, c3, hc3, hr3⟩ := hc2 j (by omega)
          rw [Int.toNat_natCast] at h5
          have hcon := contains_val false a3 n3 c3 _ lt _ hr3 h5
          clear h1 h2 h5 hkv hb hc2 hr3
          go_wp2_with (first | (go_at_call 53; refine hcall.mono ?_; clear hcall; rintro e w' ⟨rfl, rfl⟩) | (go_at_call 55; refine hcon.mono ?_; clear hcon; rintro e w' ⟨rfl, rfl⟩))
          go_ret
          exact ⟨ret_int (by rw [← HRR.out, E4.out]; rfl), HB1.out.trans (HC2.out.below.mono HB1.out.size)⟩
        · have hb := isB_iff.1 h1
          have hcall := hkv false h1 h2
          have z : (lt == 0) = false := by simpa using hb.1
          have z2 : ¬ x < lt := by omega
          have z3 : ¬ lt < -x := by omega
          have z4 : ¬ wy < -1 := by omega
          have z5 : ¬ (n : Int) ≤ wy := by omega
          obtain ⟨j, rfl⟩ : ∃ j : Nat, wy = j := ⟨wy.toNat, by omega⟩
          obtain ⟨b2, off2, rfl, hb2, hc2⟩ := (HR1.out.below HC2.out.below).cells (by omega)
          obtain ⟨a3, n3, c3, hc3, hr3⟩ := hc2 j (by omega)
          rw [Int.toNat_natCast] at h5 h6
          have hokl := HK.out _ (ell_mem (ls := ls) (k := j) (by rw [HLN.out]; omega))
          have hcon := contains_val true a3 n3 c3 _ lt _ hr3 h5
          have hany := containsI_any 54 #[.pointer (some ⟨wr.heap.size, 0, none⟩), .pointer (some ⟨w1.heap.size + 1, 0, none⟩)] (fun y => (y != lt) && !(hasB (litsOf (ts.take k)) (-y))) enters54 a3 n3 c3 _ _ hr3 (fun y hy => check1p_any wr.heap.size (w1.heap.size + 1) w1.heap.size k _ ⟨lt, (j : Int)⟩ y _ HX.out d0 HC2.out.set (hokl y hy).2.1 (hokl y hy).2.2)
          rw [h6] at hany
          clear h1 h2 h5 h6 hkv hb hc2 hr3 hokl
          go_wp2_with (first | (go_at_call 53; refine hcall.mono ?_; clear hcall; rintro e w' ⟨rfl, rfl⟩) | (go_at_call 55; refine hcon.mono ?_; clear hcon; rintro e w' ⟨rfl, rfl⟩) | (go_at_call 49; refine hany.mono ?_; clear hany; rintro e w' ⟨rfl, rfl⟩))
          go_ret
          exact ⟨ret_int (by rw [← HRR.out, E4.out]; rfl), HB1.out.trans (HC2.out.below.mono HB1.out.size)⟩
      | true =>
        have E4 : Hid (trailTo x ls ts (k + 1) = true) := Lib.hid (by rw [E1.out, HT.out, hok]; rfl)
        obtain ⟨h1, h2, h3, h4, h5⟩ := step_yes hok
        dsimp only at h1 h2 h3 h4 h5
        rw [HLN.out] at h4
        have hb := isB_iff.1 h1
        have hcall := known_val false _ _ (litsOf (ts.take k)) lt _ HC2.out.set (by omega) (by omega) h2
        have hstep := fun W (hs : SetM W w1.heap.size k (litsOf (ts.take k))) => step56_any _ _ _ lt W hs (by unfold maxLen; omega) (wfI_lit (by omega) (by omega))
        have z : (lt == 0) = false := by simpa using hb.1
        have z2 : ¬ x < lt := by omega
        have z3 : ¬ lt < -x := by omega
        have z4 : ¬ wy < -1 := by omega
        have z5 : ¬ (n : Int) ≤ wy := by omega
        clear h1 h2 E1 E3 hok hb
        by_cases hw0 : 0 ≤ wy
        · obtain ⟨j, rfl⟩ : ∃ j : Nat, wy = j := ⟨wy.toNat, by omega⟩
          obtain ⟨h6, h7⟩ := h5 hw0
          obtain ⟨b2, off2, rfl, hb2, hc2⟩ := (HR1.out.below HC2.out.below).cells (by omega)
          obtain ⟨a3, n3, c3, hc3, hr3⟩ := hc2 j (by omega)
          rw [Int.toNat_natCast] at h6 h7
          have hokl := HK.out _ (ell_mem (ls := ls) (k := j) (by rw [HLN.out]; omega))
          have hcon := contains_val true a3 n3 c3 _ lt _ hr3 h6
          have hany := containsI_any 54 #[.pointer (some ⟨wr.heap.size, 0, none⟩), .pointer (some ⟨w1.heap.size + 1, 0, none⟩)] (fun y => (y != lt) && !(hasB (litsOf (ts.take k)) (-y))) enters54 a3 n3 c3 _ _ hr3 (fun y hy => check1p_any wr.heap.size (w1.heap.size + 1) w1.heap.size k _ ⟨lt, (j : Int)⟩ y _ HX.out d0 HC2.out.set (hokl y hy).2.1 (hokl y hy).2.2)
          rw [h7] at hany
          clear h5 h6 h7 hc2 hr3 hokl
          go_wp2_with (first | (go_at_call 53; refine hcall.mono ?_; clear hcall; rintro e w' ⟨rfl, rfl⟩) | (go_at_call 55; refine hcon.mono ?_; clear hcon; rintro e w' ⟨rfl, rfl⟩) | (go_at_call 49; refine hany.mono ?_; clear hany; rintro e w' ⟨rfl, rfl⟩) | (go_at_call 56; refine (hstep _ HC2.out.set).mono ?_; clear hstep; rintro e w4 ⟨rfl, hs4, ht4⟩; have HC4 := Lib.hid (HC2.out.turn hs4 ht4); clear hs4 ht4))
          go_roundw
          case rel => exact ⟨k + 1, by omega, by go_num, E4.out, by rw [E2.out]; exact HC4.out⟩
          case measure => simp [intOf]; omega
        · clear h5
          go_wp2_with (first | (go_at_call 53; refine hcall.mono ?_; clear hcall; rintro e w' ⟨rfl, rfl⟩) | (go_at_call 56; refine (hstep _ HC2.out.set).mono ?_; clear hstep; rintro e w4 ⟨rfl, hs4, ht4⟩; have HC4 := Lib.hid (HC2.out.turn hs4 ht4); clear hs4 ht4))
          go_roundw
          case rel => exact ⟨k + 1, by omega, by go_num, E4.out, by rw [E2.out]; exact HC4.out⟩
          case measure => simp [intOf]; omega
    · have E : Hid (trailB x ls ts = true) := Lib.hid (by unfold trailB; rw [show ts.length = k by rw [HS.out.len]; omega]; exact HT.out)
      go_wp2_with fail
      go_ret
      exact ⟨ret_int (by rw [← HRR.out, E.out]; rfl), HB1.out.trans (HC.out.below.mono HB1.out.size)⟩

set_option maxRecDepth 100000 in
set_option maxHeartbeats 1000000 in
theorem pcheck_out (x : Int) (A : Option Addr) (n c : Nat) (ls : List (List Int)) (A' : Option Addr) (n' c' : Nat) (w : World) (h : RL w A n c ls) (hE : checkE x ls ≠ 0) :
    Calls Try.prog 20 #[.agg #[.int .i64 x, .slice A n c], .slice A' n' c'] w fun e w' => e = .returned (.int .i64 (checkE x ls)) ∧ Below w.heap.size w w' := by
  have hcall := check_any x A n c ls (w.alloc (.cells #[.int .i64 x, .slice A n c] 24)) (h.alloc _)
  generalize checkE x ls = r at hcall hE ⊢
  have hr : (r != 0) = true := by simpa using hE
  clear hE h
  go_enter Try.func20, Try.ntmps20
  go_wp2_with (go_at_call 23; refine hcall.mono ?_; clear hcall; rintro e w1 ⟨rfl, hb⟩)
  go_ret
  exact ⟨rfl, ((Below.refl _ w).alloc (Nat.le_refl _) _).trans (hb.mono (by simp))⟩

theorem pcheck_any (x : Int) (A : Option Addr) (n c : Nat) (ls : List (List Int)) (A' : Option Addr) (n' c' : Nat) (ts : List Stp) (w : World) (h : RL w A n c ls) (h' : RS w A' n' c' ts) (hn' : n' ≤ 1000000) :
    Calls Try.prog 20 #[.agg #[.int .i64 x, .slice A n c], .slice A' n' c'] w fun e w' => e = .returned (.int .i64 (propE x ls ts)) ∧ Below w.heap.size w w' := by
  unfold propE
  by_cases hE : checkE x ls = 0
  · rw [if_neg (by simpa using hE)]; exact pcheck_in x A n c ls A' n' c' ts w h h' hE hn' _ rfl
  · rw [if_pos hE]; exact pcheck_out x A n c ls A' n' c' w h hE
theorem pcheck_val (r : Int) (x : Int) (A : Option Addr) (n c : Nat) (ls : List (List Int)) (A' : Option Addr) (n' c' : Nat) (ts : List Stp) (w : World) (h : RL w A n c ls) (h' : RS w A' n' c' ts) (hn' : n' ≤ 1000000) (hr : propE x ls ts = r) :
    Calls Try.prog 20 #[.agg #[.int .i64 x, .slice A n c], .slice A' n' c'] w fun e w' => e = .returned (.int .i64 r) ∧ Below w.heap.size w w' := by
  have := pcheck_any x A n c ls A' n' c' ts w h h' hn'
  rw [hr] at this; exact this

end Go.Proofs.Ytenpenelikpeeaa
