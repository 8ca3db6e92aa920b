/-
  A slice of steps; prop.Levels, the law's level, the reference's Levels. No condition.
-/
import Derived.Test.YtenpenelikpeeaaM1
namespace Go.Proofs.Ytenpenelikpeeaa
open Go.RowKit Go.Shelf
set_option linter.unusedVariables false
set_option linter.unusedSimpArgs false

structure Stp where
  lit : Int
  why : Int
instance : Inhabited Stp := ⟨⟨0, 0⟩⟩
def stp (ts : List Stp) (k : Nat) : Stp := ts.getD k ⟨0, 0⟩
theorem stp_lt {ts : List Stp} {k : Nat} (h : k < ts.length) : stp ts k = ts[k] := by simp [stp, List.getD_eq_getElem?_getD, List.getElem?_eq_getElem h]
theorem takes_snoc (ts : List Stp) (k : Nat) (h : k < ts.length) : ts.take (k + 1) = ts.take k ++ [stp ts k] := by
  rw [List.take_succ_eq_append_getElem h, stp_lt h]
theorem stp_mem {ts : List Stp} {k : Nat} (h : k < ts.length) : stp ts k ∈ ts := by rw [stp_lt h]; exact List.getElem_mem h

/-- a slice of steps that reads as a list -/
structure RS (w : World) (A : Option Addr) (n c : Nat) (ts : List Stp) : Prop where
  len : ts.length = n
  cap : n ≤ c
  big : n * 16 ≤ 140737488355328
  cmax : c ≤ maxLen
  cells : 0 < n → ∃ b off, A = some ⟨b, off, none⟩ ∧ b < w.heap.size ∧ ∀ j, j < n → w.cell? ⟨b, off + j * 2, none⟩ = some (.int .i64 (stp ts j).lit) ∧ w.cell? ⟨b, off + j * 2 + 1, none⟩ = some (.int .i64 (stp ts j).why)
theorem RS.below {w w' : World} {A : Option Addr} {n c : Nat} {ts : List Stp} (h : RS w A n c ts) (hb : Below w.heap.size w w') : RS w' A n c ts :=
  ⟨h.len, h.cap, h.big, h.cmax, fun hn => by
    obtain ⟨b, off, rfl, hlt, hc⟩ := h.cells hn
    refine ⟨b, off, rfl, Nat.lt_of_lt_of_le hlt hb.size, fun j hj => ?_⟩
    obtain ⟨h1, h2⟩ := hc j hj
    exact ⟨(hb.cell (p := ⟨b, _, none⟩) hlt).trans h1, (hb.cell (p := ⟨b, _, none⟩) hlt).trans h2⟩⟩
theorem RS.alloc {w : World} {A : Option Addr} {n c : Nat} {ts : List Stp} (h : RS w A n c ts) (o : Obj) : RS (w.alloc o) A n c ts := h.below ((Below.refl _ _).alloc (Nat.le_refl _) _)
theorem RS.nil (w : World) (A : Option Addr) (c : Nat) (hc : c ≤ maxLen) : RS w A 0 c [] := ⟨rfl, Nat.zero_le _, by omega, hc, fun h => absurd h (by omega)⟩
theorem RS.small {w : World} {A : Option Addr} {n c : Nat} {ts : List Stp} (h : RS w A n c ts) : n ≤ 8796093022208 := by have := h.big; omega

/-- how many decisions -/
def cntD (ts : List Stp) : Nat := (ts.filter fun s => s.why == -1).length
theorem cntD_snoc (ts : List Stp) (s : Stp) : cntD (ts ++ [s]) = cntD ts + (if s.why = -1 then 1 else 0) := by
  unfold cntD; rw [List.filter_append, List.length_append]
  by_cases h : s.why = -1 <;> simp [h]
theorem cntD_le (ts : List Stp) : cntD ts ≤ ts.length := List.length_filter_le _ _
def levAt (ts : List Stp) (k : Nat) : Int := (cntD (ts.take (k + 1)) : Int)
def levTo (ts : List Stp) (k : Nat) : List Int := (List.range k).map (levAt ts)
def levL (ts : List Stp) : List Int := levTo ts ts.length
theorem levTo_succ (ts : List Stp) (k : Nat) : levTo ts (k + 1) = levTo ts k ++ [levAt ts k] := by simp [levTo, List.range_succ]
theorem levTo_len (ts : List Stp) (k : Nat) : (levTo ts k).length = k := by simp [levTo]
theorem levL_len (ts : List Stp) : (levL ts).length = ts.length := levTo_len _ _
theorem levL_at {ts : List Stp} {k : Nat} (h : k < ts.length) : elt (levL ts) k = levAt ts k := by
  rw [elt_lt (by rw [levL_len]; exact h)]; simp [levL, levTo]
theorem levAt_yes {ts : List Stp} {k : Nat} (h : k < ts.length) (e : (stp ts k).why = -1) : levAt ts k = (cntD (ts.take k) : Int) + 1 := by
  unfold levAt; rw [takes_snoc ts k h, cntD_snoc, if_pos e]; simp
theorem levAt_no {ts : List Stp} {k : Nat} (h : k < ts.length) (e : (stp ts k).why ≠ -1) : levAt ts k = (cntD (ts.take k) : Int) := by
  unfold levAt; rw [takes_snoc ts k h, cntD_snoc, if_neg e]; simp

/-- a block of two cells that holds a step -/
def BoxS (w : World) (B : Nat) (s : Stp) : Prop := w.heap[B]? = some (.cells #[.int .i64 s.lit, .int .i64 s.why] 41 (0, 0))
theorem BoxS.c0 {w : World} {B : Nat} {s : Stp} (h : BoxS w B s) : w.cell? ⟨B, 0, none⟩ = some (.int .i64 s.lit) := by simp [World.cell?, show w.heap[B]? = _ from h]
theorem BoxS.c1 {w : World} {B : Nat} {s : Stp} (h : BoxS w B s) : w.cell? ⟨B, 1, none⟩ = some (.int .i64 s.why) := by simp [World.cell?, show w.heap[B]? = _ from h]
theorem BoxS.lt {w : World} {B : Nat} {s : Stp} (h : BoxS w B s) : B < w.heap.size := (Array.getElem?_eq_some_iff.1 h).1
theorem BoxS.below {w w' : World} {B : Nat} {s : Stp} (h : BoxS w B s) (hb : Below w.heap.size w w') : BoxS w' B s := (hb.block B h.lt).trans h
theorem BoxS.kept {w w' : World} {B : Nat} {s : Stp} {row : Option Nat} (h : BoxS w B s) (hg : w.grownBy w' row) (hne : some B ≠ row) : BoxS w' B s := (hg.block B h.lt hne).trans h
theorem BoxS.new (w : World) (x y : Int) : BoxS (w.alloc (.cells #[.int .i64 x, .int .i64 y] 41)) w.heap.size ⟨x, y⟩ := World.alloc_heap_new w _

theorem cell_new_at (w : World) (v : Value) (t : TypeId) (s : Nat) (h : s = w.heap.size) : ∀ j u, [v][j]? = some u → (w.alloc (.cells #[v] t)).cell? ((⟨s, 0, none⟩ : Addr).add j) = some u := by
  subst h; exact cell_one_new _ _ _

/-- a row that the call has made itself, as a result -/
def Freshd (zs : List Int) (n : Nat) (w : World) (e : Ending) (w' : World) : Prop :=
  ∃ A c, e = .returned (.slice A n c) ∧ RI w' A n c zs ∧ Below w.heap.size w w'

/-- the same, and the row's block is new -/
def Freshn (zs : List Int) (n : Nat) (w : World) (e : Ending) (w' : World) : Prop :=
  ∃ A c, e = .returned (.slice A n c) ∧ RI w' A n c zs ∧ (∀ b off, A = some ⟨b, off, none⟩ → w.heap.size ≤ b) ∧ Below w.heap.size w w'
theorem fresh_of {e : Ending} {zs : List Int} {n : Nat} {w w' : World} (h : Freshn zs n w e w') : Freshd zs n w e w' := by
  obtain ⟨A, c, h1, h2, _, h3⟩ := h; exact ⟨A, c, h1, h2, h3⟩

set_option maxRecDepth 100000 in
set_option maxHeartbeats 1000000 in
theorem levels_new (A : Option Addr) (n c : Nat) (ts : List Stp) (w : World) (h : RS w A n c ts) (hn : n ≤ 1000000) :
    Calls Try.prog 18 #[.slice A n c] w (Freshn (levL ts) n w) := by
  obtain ⟨i0, hi, hz0, hz1, hz2⟩ := info_parts infoInt
  have H := Lib.hid h
  clear h
  go_enter Try.func18, Try.ntmps18
  go_wp2
  go_loopw [3, 4, 9] (fun s3 s4 s9 W => ∃ (k : Nat) (O : Option Addr) (co : Nat), k ≤ n ∧ s9 = .int .i64 k ∧ s4 = .int .i64 (cntD (ts.take k)) ∧ s3 = .slice O k co ∧ W.ownsRow w.heap.size 3 1 (.slice O k co) k ((levTo ts k).map (Value.int .i64)) ∧ Below w.heap.size w W) (fun _ _ i _ => n - (intOf i).toNat)
  case atStart => exact ⟨0, none, 0, Nat.zero_le _, rfl, rfl, rfl, World.ownsRow_nil _ _ _ _, Below.refl _ _⟩
  case round =>
    obtain ⟨k, O, co, hk, rfl, rfl, rfl, hown, hb⟩ := hrel
    have HO := Lib.hid hown
    have HB := Lib.hid hb
    have hsz := hb.size
    clear hown hb
    have hcd : cntD (ts.take k) ≤ k := Nat.le_trans (cntD_le _) (by rw [List.length_take]; omega)
    by_cases hlt : k < n
    · have hl : k < ts.length := by rw [H.out.len]; exact hlt
      obtain ⟨b, off, rfl, hbl, hc⟩ := (H.out.below HB.out).cells (by omega)
      obtain ⟨hc0, hc1⟩ := hc k hlt
      clear hc
      have E1 := Lib.hid (levTo_succ ts k)
      have E2 := Lib.hid (takes_snoc ts k hl)
      have E3 := Lib.hid (fun e => levAt_yes (ts := ts) (k := k) hl e)
      have E4 := Lib.hid (fun e => levAt_no (ts := ts) (k := k) hl e)
      have E5 := Lib.hid (cntD_snoc (ts.take k) (stp ts k))
      clear hl
      generalize hw : (stp ts k).why = y at *
      have HW := Lib.hid hw
      generalize (stp ts k).lit = x at *
      generalize hcn : cntD (ts.take k) = q at *
      clear hw hcn
      by_cases hy : y = -1
      · subst hy
        have e3 := E3.out rfl
        have E6 : Hid (cntD (ts.take (k + 1)) = q + 1) := Lib.hid (by rw [E2.out, E5.out]; rfl)
        have E7 := Lib.hid e3
        clear e3
        go_wp2_with (at_builtin; refine wpList_append_own_at _ rfl (.tmp 18) (.tmp 20) 28 rfl w.heap.size 3 i0 (.int .i64 0) 1 8 Try.underlying28 hi hz0 hz1 hz2 rfl (by decide) (.slice O k co) k _ rfl ((HO.out.alloc _).alloc _) ⟨_, 0, none⟩ 1 1 [.int .i64 ((q : Int) + 1)] rfl rfl (cell_new_at _ _ _ _ (by simp)) (by simp [Value.oneCell']) (by unfold maxLen; omega) (by omega) (by simp; omega) ?_; intro v' w4 hown' hgrow hnil hloc; obtain ⟨g', cap', rfl⟩ := own_succ hown'; have G1 := Lib.hid (grown_below (grown_below hgrow)); have O1 := Lib.hid hown'; clear hown' hgrow hnil hloc)
        go_roundw
        case rel => exact ⟨k + 1, some ⟨g', 0, none⟩, cap', by omega, by go_num, by rw [E6.out]; go_num, rfl, by rw [E1.out, List.map_append, E7.out]; exact O1.out, HB.out.grown G1.out hsz (fun g hg => (own_lt HO.out hg).1)⟩
        case measure => simp [intOf]; omega
      · have hyb : (y == -1) = false := by simpa using hy
        have e3 := E4.out hy
        have E6 : Hid (cntD (ts.take (k + 1)) = q) := Lib.hid (by rw [E2.out, E5.out, if_neg hy]; rfl)
        have E7 := Lib.hid e3
        clear e3
        go_wp2_with (at_builtin; refine wpList_append_own_at _ rfl (.tmp 18) (.tmp 20) 28 rfl w.heap.size 3 i0 (.int .i64 0) 1 8 Try.underlying28 hi hz0 hz1 hz2 rfl (by decide) (.slice O k co) k _ rfl ((HO.out.alloc _).alloc _) ⟨_, 0, none⟩ 1 1 [.int .i64 (q : Int)] rfl rfl (cell_new_at _ _ _ _ (by simp)) (by simp [Value.oneCell']) (by unfold maxLen; omega) (by omega) (by simp; omega) ?_; intro v' w4 hown' hgrow hnil hloc; obtain ⟨g', cap', rfl⟩ := own_succ hown'; have G1 := Lib.hid (grown_below (grown_below hgrow)); have O1 := Lib.hid hown'; clear hown' hgrow hnil hloc)
        go_roundw
        case rel => exact ⟨k + 1, some ⟨g', 0, none⟩, cap', by omega, by go_num, by rw [E6.out], rfl, by rw [E1.out, List.map_append, E7.out]; exact O1.out, HB.out.grown G1.out hsz (fun g hg => (own_lt HO.out hg).1)⟩
        case measure => simp [intOf]; omega
    · obtain rfl : k = n := by omega
      have E1 : Hid (levL ts = levTo ts k) := Lib.hid (by unfold levL; rw [H.out.len])
      go_wp2
      go_ret
      exact ⟨O, co, rfl, by rw [E1.out]; exact RI.of_own HO.out (by omega), fun b off e => (own_lt HO.out (g := b) (by rw [e]; rfl)).1, HB.out⟩
theorem levels_any (A : Option Addr) (n c : Nat) (ts : List Stp) (w : World) (h : RS w A n c ts) (hn : n ≤ 1000000) :
    Calls Try.prog 18 #[.slice A n c] w (Freshd (levL ts) n w) := (levels_new A n c ts w h hn).mono fun _ _ h => fresh_of h

/-- the place of a literal -/
def plc (ts : List Stp) (x : Int) : Nat := ts.findIdx fun s => s.lit == x
theorem plc_at {ts : List Stp} {x : Int} {k : Nat} (hk : k < ts.length) (h : (stp ts k).lit = x) (hno : ∀ j, j < k → (stp ts j).lit ≠ x) : plc ts x = k := by
  unfold plc
  refine (List.findIdx_eq hk).2 ⟨by rw [← stp_lt hk]; simpa using h, fun j hj => ?_⟩
  have := hno j hj
  rw [stp_lt (by omega)] at this
  simpa using this
theorem plc_none {ts : List Stp} {x : Int} (h : ∀ j, j < ts.length → (stp ts j).lit ≠ x) : plc ts x = ts.length := by
  unfold plc
  refine List.findIdx_eq_length.2 fun s hs => ?_
  obtain ⟨j, hj, rfl⟩ := List.mem_iff_getElem.1 hs
  have := h j hj
  rw [stp_lt hj] at this
  simpa using this
theorem plc_lt {ts : List Stp} {x : Int} (h : plc ts x < ts.length) : (stp ts (plc ts x)).lit = x ∧ ∀ j, j < plc ts x → (stp ts j).lit ≠ x := by
  constructor
  · rw [stp_lt h]
    have := List.findIdx_getElem (p := fun s : Stp => s.lit == x) (w := h)
    exact beq_iff_eq.1 this
  · intro j hj
    have := List.not_of_lt_findIdx hj
    rw [stp_lt (by omega)]
    simpa using this
theorem plc_le (ts : List Stp) (x : Int) : plc ts x ≤ ts.length := List.findIdx_le_length

/-- the level of a false literal; -1 if it is not false -/
def lvlT (ts : List Stp) (x : Int) : Int := if plc ts (-x) < ts.length then levAt ts (plc ts (-x)) else -1
theorem lvlT_at {ts : List Stp} {x : Int} {k : Nat} (hk : k < ts.length) (h : (stp ts k).lit = -x) (hno : ∀ j, j < k → (stp ts j).lit ≠ -x) : lvlT ts x = elt (levL ts) k := by
  unfold lvlT; rw [plc_at hk h hno, if_pos hk, levL_at hk]
theorem lvlT_none {ts : List Stp} {x : Int} (h : ∀ j, j < ts.length → (stp ts j).lit ≠ -x) : lvlT ts x = -1 := by
  unfold lvlT; rw [plc_none h, if_neg (by omega)]

set_option maxRecDepth 100000 in
set_option maxHeartbeats 1000000 in
theorem levelLaw_any (A : Option Addr) (n c : Nat) (ts : List Stp) (x : Int) (w : World) (h : RS w A n c ts) (hn : n ≤ 1000000) (h0 : -65536 ≤ x) (h1 : x ≤ 65536) :
    Calls Try.prog 19 #[.slice A n c, .int .i64 x] w fun e w' => e = .returned (.int .i64 (lvlT ts x)) ∧ Below w.heap.size w w' := by
  have H := Lib.hid h
  have hneg := lit_neg' h0 h1
  clear h
  go_enter Try.func19, Try.ntmps19
  go_wp2_with (go_at_call 18; refine (levels_any A n c ts _ H.out hn).mono ?_; rintro e w2 ⟨A2, c2, rfl, hr2, hb2⟩; have HR2 := Lib.hid hr2; have HB2 := Lib.hid hb2; clear hr2 hb2)
  go_loopw [6] (fun s6 W => ∃ k : Nat, k ≤ n ∧ s6 = .int .i64 k ∧ (∀ j, j < k → (stp ts j).lit ≠ -x) ∧ W = w2) (fun i _ => n - (intOf i).toNat)
  case atStart => exact ⟨0, Nat.zero_le _, rfl, fun j hj => absurd hj (by omega), rfl⟩
  case round =>
    obtain ⟨k, hk, rfl, hno, rfl⟩ := hrel
    have HN := Lib.hid hno
    clear hno
    by_cases hlt : k < n
    · have hl : k < ts.length := by rw [H.out.len]; exact hlt
      obtain ⟨b, off, rfl, hbl, hc⟩ := (H.out.below HB2.out).cells (by omega)
      obtain ⟨hc0, -⟩ := hc k hlt
      obtain ⟨b2, off2, rfl, hbl2, hc2⟩ := HR2.out.cells (by omega)
      have hck2 := hc2 k hlt
      clear hc hc2
      by_cases hx : (stp ts k).lit = -x
      · have E := Lib.hid (lvlT_at hl hx HN.out)
        have hxb : ((stp ts k).lit == -x) = true := by simpa using hx
        clear hx hl
        go_wp2
        go_ret
        exact ⟨ret_int E.out.symm, HB2.out⟩
      · have E := Lib.hid hx
        have hxb : ((stp ts k).lit == -x) = false := by simpa using hx
        clear hx hl
        go_wp2
        go_roundw
        case rel =>
          refine ⟨k + 1, by omega, by go_num, fun j hj => ?_, by first | rfl | trivial⟩
          rcases Nat.lt_or_ge j k with h1 | h1
          · exact HN.out j h1
          · obtain rfl : j = k := by omega
            exact E.out
        case measure => simp [intOf]; omega
    · have E := Lib.hid (lvlT_none (ts := ts) (x := x) (fun j hj => HN.out j (by rw [H.out.len] at hj; omega)))
      go_wp2
      go_ret
      exact ⟨ret_int E.out.symm, HB2.out⟩

set_option maxRecDepth 100000 in
set_option maxHeartbeats 1000000 in
theorem levelsR_any (A : Option Addr) (n c : Nat) (ts : List Stp) (w : World) (h : RS w A n c ts) (hn : n ≤ 1000000) :
    Calls Try.prog 75 #[.slice A n c] w (Freshd (levL ts) n w) := by
  obtain ⟨i0, hi, hz0, hz1, hz2⟩ := info_parts infoInt
  have H := Lib.hid h
  clear h
  go_enter Try.func75, Try.ntmps75
  go_wp2
  go_loopw [3, 4, 5] (fun s3 s4 s9 W => ∃ (k : Nat) (O : Option Addr) (co : Nat), k ≤ n ∧ s9 = .int .i64 k ∧ s4 = .int .i64 (cntD (ts.take k)) ∧ s3 = .slice O k co ∧ W.ownsRow w.heap.size 3 1 (.slice O k co) k ((levTo ts k).map (Value.int .i64)) ∧ Below w.heap.size w W) (fun _ _ i _ => n - (intOf i).toNat)
  case atStart => exact ⟨0, none, 0, Nat.zero_le _, rfl, rfl, rfl, World.ownsRow_nil _ _ _ _, Below.refl _ _⟩
  case round =>
    obtain ⟨k, O, co, hk, rfl, rfl, rfl, hown, hb⟩ := hrel
    have HO := Lib.hid hown
    have HB := Lib.hid hb
    have hsz := hb.size
    clear hown hb
    have hcd : cntD (ts.take k) ≤ k := Nat.le_trans (cntD_le _) (by rw [List.length_take]; omega)
    by_cases hlt : k < n
    · have hl : k < ts.length := by rw [H.out.len]; exact hlt
      obtain ⟨b, off, rfl, hbl, hc⟩ := (H.out.below HB.out).cells (by omega)
      obtain ⟨hc0, hc1⟩ := hc k hlt
      clear hc
      have E1 := Lib.hid (levTo_succ ts k)
      have E2 := Lib.hid (takes_snoc ts k hl)
      have E3 := Lib.hid (fun e => levAt_yes (ts := ts) (k := k) hl e)
      have E4 := Lib.hid (fun e => levAt_no (ts := ts) (k := k) hl e)
      have E5 := Lib.hid (cntD_snoc (ts.take k) (stp ts k))
      clear hl
      generalize hw : (stp ts k).why = y at *
      have HW := Lib.hid hw
      generalize (stp ts k).lit = x at *
      generalize hcn : cntD (ts.take k) = q at *
      clear hw hcn
      by_cases hy : y = -1
      · subst hy
        have e3 := E3.out rfl
        have E6 : Hid (cntD (ts.take (k + 1)) = q + 1) := Lib.hid (by rw [E2.out, E5.out]; rfl)
        have E7 := Lib.hid e3
        clear e3
        go_wp2_with (at_builtin; refine wpList_append_own_at _ rfl (.tmp 20) (.tmp 22) 28 rfl w.heap.size 3 i0 (.int .i64 0) 1 8 Try.underlying28 hi hz0 hz1 hz2 rfl (by decide) (.slice O k co) k _ rfl (HO.out.alloc _) ⟨_, 0, none⟩ 1 1 [.int .i64 ((q : Int) + 1)] rfl rfl (cell_new_at _ _ _ _ (by simp)) (by simp [Value.oneCell']) (by unfold maxLen; omega) (by omega) (by simp; omega) ?_; intro v' w4 hown' hgrow hnil hloc; obtain ⟨g', cap', rfl⟩ := own_succ hown'; have G1 := Lib.hid (grown_below hgrow); have O1 := Lib.hid hown'; clear hown' hgrow hnil hloc)
        go_roundw
        case rel => exact ⟨k + 1, some ⟨g', 0, none⟩, cap', by omega, by go_num, by rw [E6.out]; go_num, rfl, by rw [E1.out, List.map_append, E7.out]; exact O1.out, HB.out.grown G1.out hsz (fun g hg => (own_lt HO.out hg).1)⟩
        case measure => simp [intOf]; omega
      · have hyb : (y == -1) = false := by simpa using hy
        have e3 := E4.out hy
        have E6 : Hid (cntD (ts.take (k + 1)) = q) := Lib.hid (by rw [E2.out, E5.out, if_neg hy]; rfl)
        have E7 := Lib.hid e3
        clear e3
        go_wp2_with (at_builtin; refine wpList_append_own_at _ rfl (.tmp 20) (.tmp 22) 28 rfl w.heap.size 3 i0 (.int .i64 0) 1 8 Try.underlying28 hi hz0 hz1 hz2 rfl (by decide) (.slice O k co) k _ rfl (HO.out.alloc _) ⟨_, 0, none⟩ 1 1 [.int .i64 (q : Int)] rfl rfl (cell_new_at _ _ _ _ (by simp)) (by simp [Value.oneCell']) (by unfold maxLen; omega) (by omega) (by simp; omega) ?_; intro v' w4 hown' hgrow hnil hloc; obtain ⟨g', cap', rfl⟩ := own_succ hown'; have G1 := Lib.hid (grown_below hgrow); have O1 := Lib.hid hown'; clear hown' hgrow hnil hloc)
        go_roundw
        case rel => exact ⟨k + 1, some ⟨g', 0, none⟩, cap', by omega, by go_num, by rw [E6.out], rfl, by rw [E1.out, List.map_append, E7.out]; exact O1.out, HB.out.grown G1.out hsz (fun g hg => (own_lt HO.out hg).1)⟩
        case measure => simp [intOf]; omega
    · obtain rfl : k = n := by omega
      have E1 : Hid (levL ts = levTo ts k) := Lib.hid (by unfold levL; rw [H.out.len])
      go_wp2
      go_ret
      exact ⟨O, co, rfl, by rw [E1.out]; exact RI.of_own HO.out (by omega), HB.out⟩

end Go.Proofs.Ytenpenelikpeeaa
