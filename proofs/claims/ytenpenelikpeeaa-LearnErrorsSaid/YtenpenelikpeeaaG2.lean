/-
  The sanity check live returns true. No condition.
-/
import Derived.Test.YtenpenelikpeeaaG1
namespace Go.Proofs.Ytenpenelikpeeaa
open Go.RowKit Go.Shelf
set_option linter.unusedVariables false
set_option linter.unusedSimpArgs false

def lsA : List (List Int) := [[-1, 2], [-1, 3], [-2, -3, -4]]
def tsA : List Stp := [⟨4, -1⟩, ⟨1, -1⟩, ⟨2, 0⟩, ⟨3, 1⟩]
def lsB : List (List Int) := [[1], [-1]]
def tsB : List Stp := [⟨1, 0⟩]
def lsD : List (List Int) := [[-1, 2]]
def tsD : List Stp := [⟨1, -1⟩, ⟨2, 0⟩, ⟨3, -1⟩]
theorem eA1 : firstE 4 lsA tsA 2 = 0 := by decide +kernel
theorem eA2 : firstL 4 lsA tsA 2 = [-1, -4] := by decide +kernel
theorem eA3 : firstB 4 lsA tsA 2 = 1 := by decide +kernel
theorem eA4 : firstE 4 lsA tsA 0 = 1 := by decide +kernel
theorem eB1 : firstE 1 lsB tsB 1 = 200 := by decide +kernel
theorem eD1 : lessE 3 lsD tsD [-3, -2, -1] = 0 := by decide +kernel
theorem eD2 : lessR 3 lsD tsD [-3, -2, -1] = [-1, -3] := by decide +kernel
theorem eD3 : lessE 3 lsD tsD [3] = 1 := by decide +kernel

theorem firstB_of (x : Int) (ls : List (List Int)) (ts : List Stp) (q : Int) (h : firstE x ls ts q ≠ 0) : firstL x ls ts q = [] ∧ firstB x ls ts q = 0 := by
  unfold firstL firstB; rw [if_neg h, if_neg h]; exact ⟨rfl, rfl⟩
theorem lessR_of (x : Int) (ls : List (List Int)) (ts : List Stp) (l : List Int) (h : lessE x ls ts l ≠ 0) : lessR x ls ts l = [] := by
  unfold lessR; rw [if_neg h]

/-- a trail that was built -/
def stepsO (ts : List Stp) : Obj := .cells ((ts.map fun s => [Value.int .i64 s.lit, Value.int .i64 s.why]).flatten.toArray) 41
theorem flat_at : ∀ (ts : List Stp) (j : Nat), j < ts.length → ((ts.map fun s => [Value.int .i64 s.lit, Value.int .i64 s.why]).flatten)[j * 2]? = some (.int .i64 (stp ts j).lit) ∧ ((ts.map fun s => [Value.int .i64 s.lit, Value.int .i64 s.why]).flatten)[j * 2 + 1]? = some (.int .i64 (stp ts j).why)
  | s :: ts, 0, _ => ⟨rfl, rfl⟩
  | s :: ts, j + 1, h => by
    have := flat_at ts j (by simpa using h)
    rw [show (j + 1) * 2 = j * 2 + 2 by omega]
    exact this
theorem RS.lit (w : World) (ts : List Stp) (n s : Nat) (hn : ts.length = n) (hs : s = w.heap.size) (h : n ≤ 1000) : RS (w.alloc (stepsO ts)) (some ⟨s, 0, none⟩) n n ts := by
  subst hs
  refine ⟨hn, Nat.le_refl _, by omega, by unfold maxLen; omega, fun h0 => ⟨w.heap.size, 0, rfl, by simp, fun j hj => ?_⟩⟩
  have hb : (w.alloc (stepsO ts)).heap[w.heap.size]? = some (stepsO ts) := World.alloc_heap_new w _
  generalize w.alloc (stepsO ts) = W at hb
  obtain ⟨h1, h2⟩ := flat_at ts j (by omega)
  unfold stepsO at hb
  constructor
  · simp only [World.cell?, hb, Nat.zero_add, List.getElem?_toArray]; exact h1
  · simp only [World.cell?, hb, Nat.zero_add, List.getElem?_toArray]; exact h2

theorem RL.litT {w : World} (t : TypeId) {rs : List Row} {n s : Nat} {ls : List (List Int)} (hls : rs.map (·.zs) = ls) (hn : rs.length = n) (hs : s = w.heap.size) (h : n ≤ 1000) (hi : ∀ r ∈ rs, RI w r.A r.n r.c r.zs) : RL (w.alloc (.cells ((rs.map rowV).toArray) t)) (some ⟨s, 0, none⟩) n n ls := by
  subst hs hls
  refine ⟨by simpa using hn, Nat.le_refl _, by omega, by unfold maxLen; omega, fun h0 => ⟨w.heap.size, 0, rfl, by simp, fun j hj => ?_⟩⟩
  have hj' : j < rs.length := by omega
  have hri := (hi _ (List.getElem_mem hj')).alloc (.cells ((rs.map rowV).toArray) t)
  have hb : (w.alloc (.cells ((rs.map rowV).toArray) t)).heap[w.heap.size]? = some (.cells ((rs.map rowV).toArray) t) := World.alloc_heap_new w _
  generalize w.alloc (.cells ((rs.map rowV).toArray) t) = W at hb hri
  have : ((rs.map rowV).toArray)[j]? = some (rowV rs[j]) := by
    rw [List.getElem?_toArray, List.getElem?_map, List.getElem?_eq_getElem hj']
    rfl
  refine ⟨rs[j].A, rs[j].n, rs[j].c, ?_, ?_⟩
  · have h1 : W.cell? ⟨w.heap.size, 0 + j, none⟩ = ((rs.map rowV).toArray)[0 + j]? := by
      unfold World.cell?
      simp only [hb]
      rfl
    rw [h1, Nat.zero_add, this]
    rfl
  · rw [ell_lt (by simpa using hj')]
    simpa using hri

theorem below1 (w : World) (o : Obj) : Below w.heap.size w (w.alloc o) := (Below.refl _ _).alloc (Nat.le_refl _) _
theorem bthen {a b c : World} (h : Below a.heap.size a b) (h' : Below b.heap.size b c) : Below a.heap.size a c := h.trans (h'.mono h.size)

theorem mk_rl3 (w : World) (z1 z2 z3 : List Int) (n1 n2 n3 : Nat) (h1 : z1.length = n1) (h2 : z2.length = n2) (h3 : z3.length = n3) (b1 : n1 ≤ 1000) (b2 : n2 ≤ 1000) (b3 : n3 ≤ 1000) :
    RL ((((w.alloc (intsO z1)).alloc (intsO z2)).alloc (intsO z3)).alloc (.cells #[.slice (some ⟨w.heap.size, 0, none⟩) n1 n1, .slice (some ⟨w.heap.size + 1, 0, none⟩) n2 n2, .slice (some ⟨w.heap.size + 1 + 1, 0, none⟩) n3 n3] 28)) (some ⟨w.heap.size + 1 + 1 + 1, 0, none⟩) 3 3 [z1, z2, z3] := by
  have q1 := ((RI.lit w z1 n1 w.heap.size h1 rfl b1).alloc (intsO z2)).alloc (intsO z3)
  have q2 := (RI.lit (w.alloc (intsO z1)) z2 n2 (w.heap.size + 1) h2 (by simp) b2).alloc (intsO z3)
  have q3 := RI.lit ((w.alloc (intsO z1)).alloc (intsO z2)) z3 n3 (w.heap.size + 1 + 1) h3 (by simp) b3
  exact RL.litT 28 (rs := [⟨some ⟨w.heap.size, 0, none⟩, n1, n1, z1⟩, ⟨some ⟨w.heap.size + 1, 0, none⟩, n2, n2, z2⟩, ⟨some ⟨w.heap.size + 1 + 1, 0, none⟩, n3, n3, z3⟩]) rfl rfl (by simp) (by omega)
    (by intro r hr; simp only [List.mem_cons, List.not_mem_nil, or_false] at hr; rcases hr with rfl | rfl | rfl <;> first | exact q1 | exact q2 | exact q3)
theorem mk_rl2 (w : World) (z1 z2 : List Int) (n1 n2 : Nat) (h1 : z1.length = n1) (h2 : z2.length = n2) (b1 : n1 ≤ 1000) (b2 : n2 ≤ 1000) :
    RL (((w.alloc (intsO z1)).alloc (intsO z2)).alloc (.cells #[.slice (some ⟨w.heap.size, 0, none⟩) n1 n1, .slice (some ⟨w.heap.size + 1, 0, none⟩) n2 n2] 28)) (some ⟨w.heap.size + 1 + 1, 0, none⟩) 2 2 [z1, z2] := by
  have q1 := (RI.lit w z1 n1 w.heap.size h1 rfl b1).alloc (intsO z2)
  have q2 := RI.lit (w.alloc (intsO z1)) z2 n2 (w.heap.size + 1) h2 (by simp) b2
  exact RL.litT 28 (rs := [⟨some ⟨w.heap.size, 0, none⟩, n1, n1, z1⟩, ⟨some ⟨w.heap.size + 1, 0, none⟩, n2, n2, z2⟩]) rfl rfl (by simp) (by omega)
    (by intro r hr; simp only [List.mem_cons, List.not_mem_nil, or_false] at hr; rcases hr with rfl | rfl <;> first | exact q1 | exact q2)
theorem mk_rl1 (w : World) (z1 : List Int) (n1 : Nat) (h1 : z1.length = n1) (b1 : n1 ≤ 1000) :
    RL ((w.alloc (intsO z1)).alloc (.cells #[.slice (some ⟨w.heap.size, 0, none⟩) n1 n1] 28)) (some ⟨w.heap.size + 1, 0, none⟩) 1 1 [z1] := by
  have q1 := RI.lit w z1 n1 w.heap.size h1 rfl b1
  exact RL.litT 28 (rs := [⟨some ⟨w.heap.size, 0, none⟩, n1, n1, z1⟩]) rfl rfl (by simp) (by omega)
    (by intro r hr; simp only [List.mem_cons, List.not_mem_nil, or_false] at hr; subst hr; exact q1)

/-- what First hands back, its values known -/
def FirstV (zs : List Int) (n : Nat) (bk e' : Int) (w : World) (e : Ending) (w' : World) : Prop :=
  ∃ A c, e = .returned (.tuple #[.slice A n c, .int .i64 bk, .int .i64 e']) ∧ RI w' A n c zs ∧ Below w.heap.size w w'
theorem first_known (zs : List Int) (k : Nat) (bk e' : Int) (x : Int) (A : Option Addr) (n c : Nat) (ls : List (List Int)) (A' : Option Addr) (n' c' : Nat) (ts : List Stp) (q : Int) (w : World) (h : RL w A n c ls) (h' : RS w A' n' c' ts) (hn' : n' ≤ 900) (hlong : ∀ l ∈ ls, l.length ≤ 1000)
    (h1 : firstL x ls ts q = zs) (h2 : firstB x ls ts q = bk) (h3 : firstE x ls ts q = e') (h4 : zs.length = k) :
    Calls Try.prog 13 #[.agg #[.int .i64 x, .slice A n c], .slice A' n' c', .int .i64 q] w (FirstV zs k bk e' w) := by
  have := first_any x A n c ls A' n' c' ts q w h h' hn' hlong
  rw [h1, h2, h3] at this
  subst h4
  exact this
def LessV (zs : List Int) (n : Nat) (e' : Int) (w : World) (e : Ending) (w' : World) : Prop :=
  ∃ A c, e = .returned (.tuple #[.slice A n c, .int .i64 e']) ∧ RI w' A n c zs ∧ Below w.heap.size w w'
theorem less_known (zs : List Int) (k : Nat) (e' : Int) (x : Int) (A : Option Addr) (n c : Nat) (ls : List (List Int)) (A' : Option Addr) (n' c' : Nat) (ts : List Stp) (Al : Option Addr) (nl cl : Nat) (l : List Int) (w : World) (h : RL w A n c ls) (h' : RS w A' n' c' ts) (hl : RI w Al nl cl l) (hw : Wfl l) (hn' : n' ≤ 900) (hnl : nl ≤ 1000)
    (h1 : lessR x ls ts l = zs) (h3 : lessE x ls ts l = e') (h4 : zs.length = k) :
    Calls Try.prog 16 #[.agg #[.int .i64 x, .slice A n c], .slice A' n' c', .slice Al nl cl] w (LessV zs k e' w) := by
  have := less_any x A n c ls A' n' c' ts Al nl cl l w h h' hl hw hn' hnl
  rw [h1, h3] at this
  subst h4
  exact this
theorem ints_val (r : Bool) (A : Option Addr) (n c : Nat) (zs : List Int) (A' : Option Addr) (n' c' : Nat) (zs' : List Int) (w : World) (h : RI w A n c zs) (h' : RI w A' n' c' zs') (hr : sameB zs zs' = r) :
    Calls Try.prog 15 #[.slice A n c, .slice A' n' c'] w fun e w' => e = .returned (.bool r) ∧ Below w.heap.size w w' := by
  have := ints_any A n c zs A' n' c' zs' w h h'
  rw [hr] at this
  refine this.mono ?_
  rintro e w' ⟨h1, q, rfl⟩
  exact ⟨h1, drewN_below _ _⟩

set_option maxRecDepth 100000 in
set_option maxHeartbeats 4000000 in
theorem live_any (w : World) : Calls Try.prog 11 #[] w fun e w' => e = .returned (.bool true) ∧ Below w.heap.size w w' := by
  go_enter Try.func11, Try.ntmps11
  go_upto_region 3 with fail
  have hA := ((mk_rl3 w [-1, 2] [-1, 3] [-2, -3, -4] 2 2 3 rfl rfl rfl (by omega) (by omega) (by omega)).alloc (.cells #[.int .i64 4, .slice (some ⟨w.heap.size + 1 + 1 + 1, 0, none⟩) 3 3] 24)).alloc (stepsO tsA)
  have hS := RS.lit (((((w.alloc (intsO [-1, 2])).alloc (intsO [-1, 3])).alloc (intsO [-2, -3, -4])).alloc (.cells #[.slice (some ⟨w.heap.size, 0, none⟩) 2 2, .slice (some ⟨w.heap.size + 1, 0, none⟩) 2 2, .slice (some ⟨w.heap.size + 1 + 1, 0, none⟩) 3 3] 28)).alloc (.cells #[.int .i64 4, .slice (some ⟨w.heap.size + 1 + 1 + 1, 0, none⟩) 3 3] 24)) tsA 4 (w.heap.size + 1 + 1 + 1 + 1 + 1) rfl (by simp) (by omega)
  have hT := (show Two _ (w.heap.size + 1 + 1 + 1 + 1) _ _ by have := Two.new ((((w.alloc (intsO [-1, 2])).alloc (intsO [-1, 3])).alloc (intsO [-2, -3, -4])).alloc (.cells #[.slice (some ⟨w.heap.size, 0, none⟩) 2 2, .slice (some ⟨w.heap.size + 1, 0, none⟩) 2 2, .slice (some ⟨w.heap.size + 1 + 1, 0, none⟩) 3 3] 28)) (.int .i64 4) (.slice (some ⟨w.heap.size + 1 + 1 + 1, 0, none⟩) 3 3); simpa using this).below (below1 _ (stepsO tsA))
  have hB : Below w.heap.size w ((((((w.alloc (intsO [-1, 2])).alloc (intsO [-1, 3])).alloc (intsO [-2, -3, -4])).alloc (.cells #[.slice (some ⟨w.heap.size, 0, none⟩) 2 2, .slice (some ⟨w.heap.size + 1, 0, none⟩) 2 2, .slice (some ⟨w.heap.size + 1 + 1, 0, none⟩) 3 3] 28)).alloc (.cells #[.int .i64 4, .slice (some ⟨w.heap.size + 1 + 1 + 1, 0, none⟩) 3 3] 24)).alloc (stepsO tsA)) :=
    bthen (bthen (bthen (bthen (bthen (below1 w _) (below1 _ _)) (below1 _ _)) (below1 _ _)) (below1 _ _)) (below1 _ _)
  obtain ⟨s3, hs3⟩ : ∃ s3, w.heap.size + 1 + 1 + 1 = s3 := ⟨_, rfl⟩
  obtain ⟨s4, hs4⟩ : ∃ s4, s3 + 1 = s4 := ⟨_, rfl⟩
  obtain ⟨s5, hs5⟩ : ∃ s5, s4 + 1 = s5 := ⟨_, rfl⟩
  rw [hs3] at hA hS hT hB
  rw [hs4] at hS hT
  rw [hs5] at hS
  rw [hs3, hs4, hs5]
  have HA := Lib.hid hA
  have HS := Lib.hid hS
  have HT := Lib.hid hT
  have HB := Lib.hid hB
  clear hA hS hT hB hs3 hs4 hs5
  generalize hW1 : (((((w.alloc (.cells #[.int .i64 (-1), .int .i64 2] 3)).alloc (.cells #[.int .i64 (-1), .int .i64 3] 3)).alloc (.cells #[.int .i64 (-2), .int .i64 (-3), .int .i64 (-4)] 3)).alloc (.cells #[.slice (some ⟨w.heap.size, 0, none⟩) 2 2, .slice (some ⟨w.heap.size + 1, 0, none⟩) 2 2, .slice (some ⟨w.heap.size + 1 + 1, 0, none⟩) 3 3] 28)).alloc (.cells #[.int .i64 4, .slice (some ⟨s3, 0, none⟩) 3 3] 24)).alloc (.cells #[.int .i64 4, .int .i64 (-1), .int .i64 1, .int .i64 (-1), .int .i64 2, .int .i64 0, .int .i64 3, .int .i64 1] 41) = W1 at *
  have HA1 : Hid (RL W1 (some ⟨s3, 0, none⟩) 3 3 lsA) := Lib.hid (by rw [← hW1]; exact HA.out)
  have HS1 : Hid (RS W1 (some ⟨s5, 0, none⟩) 4 4 tsA) := Lib.hid (by rw [← hW1]; exact HS.out)
  have HT1 : Hid (Two W1 s4 (.int .i64 4) (.slice (some ⟨s3, 0, none⟩) 3 3)) := Lib.hid (by rw [← hW1]; exact HT.out)
  have HB1 : Hid (Below w.heap.size w W1) := Lib.hid (by rw [← hW1]; exact HB.out)
  clear hW1 HA HS HT HB
  have t0 := HT1.out.c0
  have t1 := HT1.out.c1
  go_upto_region 4 with (go_at_call 13; refine (first_known [-1, -4] 2 1 0 4 _ 3 3 lsA _ 4 4 tsA 2 W1 HA1.out HS1.out (by omega) (by decide) eA2 eA3 eA1 rfl).mono ?_; rintro e W2 ⟨A1, c1, rfl, hr2, hb2⟩; have HR2 := Lib.hid hr2; have HB2 := Lib.hid hb2; clear hr2 hb2)
  clear t0 t1
  have t0 := (HT1.out.below HB2.out).c0
  have t1 := (HT1.out.below HB2.out).c1
  go_upto_region 5 with (go_at_call 13; refine (first_known [] 0 0 1 4 _ 3 3 lsA _ 4 4 tsA 0 W2 (HA1.out.below HB2.out) (HS1.out.below HB2.out) (by omega) (by decide) (firstB_of _ _ _ _ (by rw [eA4]; decide)).1 (firstB_of _ _ _ _ (by rw [eA4]; decide)).2 eA4 rfl).mono ?_; rintro e W3 ⟨A2, c2, rfl, hr3, hb3⟩; have HR3 := Lib.hid (HR2.out.below hb3); have HB3 := Lib.hid (bthen (bthen HB1.out HB2.out) hb3); clear hr3 hb3)
  clear t0 t1
  go_upto_region 6 with (go_at_call 13; refine (first_known [] 0 0 200 1 (some ⟨W3.heap.size + 1 + 1, 0, none⟩) 2 2 lsB (some ⟨W3.heap.size + 1 + 1 + 1, 0, none⟩) 1 1 tsB 1 ((((W3.alloc (intsO [1])).alloc (intsO [-1])).alloc (.cells #[.slice (some ⟨W3.heap.size, 0, none⟩) 1 1, .slice (some ⟨W3.heap.size + 1, 0, none⟩) 1 1] 28)).alloc (stepsO tsB)) ((mk_rl2 W3 [1] [-1] 1 1 rfl rfl (by omega) (by omega)).alloc _) (RS.lit _ tsB 1 _ rfl (by simp) (by omega)) (by omega) (by decide) (firstB_of _ _ _ _ (by rw [eB1]; decide)).1 (firstB_of _ _ _ _ (by rw [eB1]; decide)).2 eB1 rfl).mono ?_; rintro e W4 ⟨A3, c3, rfl, hr4, hb4⟩; have hb34 := bthen (bthen (bthen (bthen (below1 W3 _) (below1 _ _)) (below1 _ _)) (below1 _ _)) hb4; have HR4 := Lib.hid (HR3.out.below hb34); have HB4 := Lib.hid (bthen HB3.out hb34); clear hr4 hb4 hb34)
  go_upto_region 8 with fail
  have hD := ((mk_rl1 W4 [-1, 2] 2 rfl (by omega)).alloc (.cells #[.int .i64 3, .slice (some ⟨W4.heap.size + 1, 0, none⟩) 1 1] 24)).alloc (stepsO tsD)
  have hSD := RS.lit (((W4.alloc (intsO [-1, 2])).alloc (.cells #[.slice (some ⟨W4.heap.size, 0, none⟩) 2 2] 28)).alloc (.cells #[.int .i64 3, .slice (some ⟨W4.heap.size + 1, 0, none⟩) 1 1] 24)) tsD 3 (W4.heap.size + 1 + 1 + 1) rfl (by simp) (by omega)
  have hTD := (show Two _ (W4.heap.size + 1 + 1) _ _ by have := Two.new ((W4.alloc (intsO [-1, 2])).alloc (.cells #[.slice (some ⟨W4.heap.size, 0, none⟩) 2 2] 28)) (.int .i64 3) (.slice (some ⟨W4.heap.size + 1, 0, none⟩) 1 1); simpa using this).below (below1 _ (stepsO tsD))
  have hb45 : Below W4.heap.size W4 ((((W4.alloc (intsO [-1, 2])).alloc (.cells #[.slice (some ⟨W4.heap.size, 0, none⟩) 2 2] 28)).alloc (.cells #[.int .i64 3, .slice (some ⟨W4.heap.size + 1, 0, none⟩) 1 1] 24)).alloc (stepsO tsD)) := bthen (bthen (bthen (below1 W4 _) (below1 _ _)) (below1 _ _)) (below1 _ _)
  obtain ⟨d1, hd1⟩ : ∃ d1, W4.heap.size + 1 = d1 := ⟨_, rfl⟩
  obtain ⟨d2, hd2⟩ : ∃ d2, d1 + 1 = d2 := ⟨_, rfl⟩
  obtain ⟨d3, hd3⟩ : ∃ d3, d2 + 1 = d3 := ⟨_, rfl⟩
  rw [hd1] at hD hSD hTD hb45
  rw [hd2] at hSD hTD
  rw [hd3] at hSD
  have HD := Lib.hid hD
  have HSD := Lib.hid hSD
  have HTD := Lib.hid hTD
  have HBD := Lib.hid hb45
  rw [hd1, hd2, hd3]
  clear hD hSD hTD hb45 hd1 hd2 hd3
  generalize hW5 : (((W4.alloc (.cells #[.int .i64 (-1), .int .i64 2] 3)).alloc (.cells #[.slice (some ⟨W4.heap.size, 0, none⟩) 2 2] 28)).alloc (.cells #[.int .i64 3, .slice (some ⟨d1, 0, none⟩) 1 1] 24)).alloc (.cells #[.int .i64 1, .int .i64 (-1), .int .i64 2, .int .i64 0, .int .i64 3, .int .i64 (-1)] 41) = W5 at *
  have HD5 : Hid (RL W5 (some ⟨d1, 0, none⟩) 1 1 lsD) := Lib.hid (by rw [← hW5]; exact HD.out)
  have HSD5 : Hid (RS W5 (some ⟨d3, 0, none⟩) 3 3 tsD) := Lib.hid (by rw [← hW5]; exact HSD.out)
  have HTD5 : Hid (Two W5 d2 (.int .i64 3) (.slice (some ⟨d1, 0, none⟩) 1 1)) := Lib.hid (by rw [← hW5]; exact HTD.out)
  have HB45 : Hid (Below W4.heap.size W4 W5) := Lib.hid (by rw [← hW5]; exact HBD.out)
  have HR5 := Lib.hid (HR4.out.below HB45.out)
  have HB5 := Lib.hid (bthen HB4.out HB45.out)
  clear hW5 HD HSD HTD HBD
  have t0 := HTD5.out.c0
  have t1 := HTD5.out.c1
  go_upto_region 9 with (go_at_call 16; refine (less_known [-1, -3] 2 0 3 (some ⟨d1, 0, none⟩) 1 1 lsD (some ⟨d3, 0, none⟩) 3 3 tsD (some ⟨W5.heap.size, 0, none⟩) 3 3 [-3, -2, -1] (W5.alloc (intsO [-3, -2, -1])) (HD5.out.alloc _) (HSD5.out.alloc _) (RI.lit W5 [-3, -2, -1] 3 _ rfl rfl (by omega)) (by intro z hz; simp only [List.mem_cons, List.not_mem_nil, or_false] at hz; rcases hz with rfl | rfl | rfl <;> decide) (by omega) (by omega) eD2 eD1 rfl).mono ?_; rintro e W6 ⟨A6, c6, rfl, hr6, hb6⟩; have HB56 := Lib.hid (bthen (below1 W5 _) hb6); have HL6 := Lib.hid hr6; clear hr6 hb6)
  clear t0 t1
  have t0 := (HTD5.out.below HB56.out).c0
  have t1 := (HTD5.out.below HB56.out).c1
  go_upto_region 10 with (go_at_call 16; refine (less_known [] 0 1 3 (some ⟨d1, 0, none⟩) 1 1 lsD (some ⟨d3, 0, none⟩) 3 3 tsD (some ⟨W6.heap.size, 0, none⟩) 1 1 [3] (W6.alloc (intsO [3])) ((HD5.out.below HB56.out).alloc _) ((HSD5.out.below HB56.out).alloc _) (RI.lit W6 [3] 1 _ rfl rfl (by omega)) (by intro z hz; simp only [List.mem_cons, List.not_mem_nil, or_false] at hz; subst hz; decide) (by omega) (by omega) (lessR_of _ _ _ _ (by rw [eD3]; decide)) eD3 rfl).mono ?_; rintro e W7 ⟨A7, c7, rfl, hr7, hb7⟩; have HB67 := Lib.hid (bthen (below1 W6 _) hb7); clear hr7 hb7)
  clear t0 t1
  have HB7 := Lib.hid (bthen (bthen HB5.out HB56.out) HB67.out)
  have HR7 := Lib.hid ((HR5.out.below HB56.out).below HB67.out)
  have HL7 := Lib.hid (HL6.out.below HB67.out)
  have l1 : ∀ W : World, RI (W.alloc (.cells #[.int .i64 (-1), .int .i64 (-4)] 3)) (some ⟨W.heap.size, 0, none⟩) 2 2 [-1, -4] := fun W => RI.lit W [-1, -4] 2 _ rfl rfl (by omega)
  have l2 : ∀ W : World, RI (W.alloc (.cells #[.int .i64 (-1), .int .i64 (-3)] 3)) (some ⟨W.heap.size, 0, none⟩) 2 2 [-1, -3] := fun W => RI.lit W [-1, -3] 2 _ rfl rfl (by omega)
  have L1 := Lib.hid l1
  have L2 := Lib.hid l2
  clear l1 l2
  go_wp2_with (first
    | (go_at_call 15; have _t := L1; refine (ints_val true A1 2 c1 [-1, -4] (some ⟨W7.heap.size, 0, none⟩) 2 2 [-1, -4] (W7.alloc (.cells #[.int .i64 (-1), .int .i64 (-4)] 3)) (HR7.out.alloc _) (L1.out W7) (by decide)).mono ?_; rintro e W8 ⟨rfl, hb8⟩; have HB78 := Lib.hid (bthen (below1 W7 _) hb8); clear hb8 _t L1)
    | (go_at_call 15; have _t := HB78; refine (ints_val true A6 2 c6 [-1, -3] (some ⟨W8.heap.size, 0, none⟩) 2 2 [-1, -3] (W8.alloc (.cells #[.int .i64 (-1), .int .i64 (-3)] 3)) ((HL7.out.below HB78.out).alloc _) (L2.out W8) (by decide)).mono ?_; rintro e W9 ⟨rfl, hb9⟩; have HB89 := Lib.hid (bthen (below1 W8 _) hb9); clear hb9))
  go_ret
  exact ⟨rfl, bthen (bthen HB7.out HB78.out) HB89.out⟩

end Go.Proofs.Ytenpenelikpeeaa
