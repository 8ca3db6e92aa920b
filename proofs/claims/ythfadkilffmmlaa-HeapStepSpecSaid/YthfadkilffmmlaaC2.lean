/-
  Contracts of the reference's New. No condition.
-/
import Derived.Test.YthfadkilffmmlaaC1
import Derived.Test.YthfadkilffmmlaaPush1
namespace Go.Proofs.Ythfadkilffmmlaa
open Go.RowKit
set_option linter.unusedVariables false
set_option linter.unusedSimpArgs false

theorem own_grown {w w' : World} {base : Nat} {e : TypeId} {size : Nat} {v : Value} {n : Nat} {xs : List Value} {row : Option Nat} (h : w.ownsRow base e size v n xs) (hg : w.grownBy w' row) (hne : ∀ g, v.ownBlock = some g → row ≠ some g) : w'.ownsRow base e size v n xs := by
  obtain ⟨h1, h2⟩ := h
  refine ⟨h1, ?_⟩
  rcases h2 with h2 | ⟨g, cap, cur, rfl, hg2, hh, r⟩
  · exact Or.inl h2
  · exact Or.inr ⟨g, cap, cur, rfl, hg2, (hg.block g (lt_of_block hh) (fun e => hne g rfl e.symm)).trans hh, r⟩

set_option maxHeartbeats 1000000 in
theorem rnew_bad (n : Int) (w : World) (h : n < 0 ∨ 65536 < n) :
    Calls Try.prog 13 #[.int .i64 n] w fun e w' => e = .returned (.tuple #[zeroH, .int .i64 1]) ∧ Below w.heap.size w w' := by
  by_cases h1 : n < 0
  · clear h
    go_enter Try.func13, Try.ntmps13
    go_wp2
    refine bodyPost_ret (v := .tuple #[zeroH, .int .i64 1]) (by simp [results, Try.results13, go_sem]) rfl ⟨rfl, ?_⟩
    exact (Below.refl _ _).alloc (Nat.le_refl _) _
  · have h2 : 65536 < n := by omega
    clear h
    go_enter Try.func13, Try.ntmps13
    go_wp2
    refine bodyPost_ret (v := .tuple #[zeroH, .int .i64 1]) (by simp [results, Try.results13, go_sem]) rfl ⟨rfl, ?_⟩
    exact (Below.refl _ _).alloc (Nat.le_refl _) _

theorem set_grown (w : World) (p : Addr) (u : Value) : w.grownBy (w.setCell p u) (some p.block) :=
  ⟨rfl, rfl, rfl, by simp [World.setCell], fun k hk hne => Below.heap_setCell _ _ _ _ (fun e => hne (by rw [e]))⟩
theorem box_set0 {w : World} {B : Nat} {x0 x1 x2 v : Value} (h : Box w B x0 x1 x2) : Box (w.setCell ⟨B, 0, none⟩ v) B v x1 x2 := by
  unfold Box at *
  simp [World.setCell, Array.getElem?_modify, h]
theorem box_set1 {w : World} {B : Nat} {x0 x1 x2 v : Value} (h : Box w B x0 x1 x2) : Box (w.setCell ⟨B, 1, none⟩ v) B x0 v x2 := by
  unfold Box at *
  simp [World.setCell, Array.getElem?_modify, h]
theorem own_box {w : World} {base : Nat} {size : Nat} {v : Value} {n B : Nat} {xs : List Value} {x0 x1 x2 : Value} (h : w.ownsRow base 3 size v n xs) (hb : Box w B x0 x1 x2) : v.ownBlock ≠ some B := own_ne h hb (by decide)
theorem cell_one_set (w : World) (p : Addr) (v x : Value) (t : TypeId) : ∀ (j : Nat) (u : Value), [x][j]? = some u → ((w.setCell p v).alloc (.cells #[x] t)).cell? (Addr.add ⟨w.heap.size, 0, none⟩ j) = some u := by
  have h := cell_one_new (w.setCell p v) x t
  rwa [show (w.setCell p v).heap.size = w.heap.size by simp [World.setCell]] at h
theorem zeros_succ (k : Nat) : zeros (k + 1) = zeros k ++ [0] := by simp [zeros, List.replicate_succ']

set_option maxHeartbeats 2000000 in
theorem rnew_ok (n : Nat) (w : World) (h : n ≤ 65536) :
    Calls Try.prog 13 #[.int .i64 n] w (HeapOk (zeros (n + 1)) (upTo n) 1 w) := by
  obtain ⟨i0, hi, hz0, hz1, hz2⟩ := info_parts infoInt
  go_enter Try.func13, Try.ntmps13
  go_wp2_with fail
  go_loopw [5] (fun i wr => ∃ (k : Nat) (A : Option Addr) (c : Nat) (A' : Option Addr) (c' : Nat), k ≤ n ∧ i = .int .i64 ((k : Int) + 1) ∧
      Box wr (w.heap.size + 1 + 1) (.slice A (k + 1) c) (.slice A' k c') (.int .i64 1) ∧ Box wr w.heap.size (.slice none 0 0) (.slice none 0 0) (.int .i64 0) ∧
      wr.ownsRow (w.heap.size + 1) 3 1 (.slice A (k + 1) c) (k + 1) ((zeros (k + 1)).map (Value.int .i64)) ∧ wr.ownsRow (w.heap.size + 1) 3 1 (.slice A' k c') k ((upTo k).map (Value.int .i64)) ∧
      (∀ g, (Value.slice A (k + 1) c).ownBlock = some g → (Value.slice A' k c').ownBlock ≠ some g) ∧ Below w.heap.size w wr) (fun i _ => n + 1 - (intOf i).toNat)
  case atStart =>
    refine ⟨0, some ⟨w.heap.size + 1, 0, none⟩, 1, none, 0, Nat.zero_le _, rfl, ?_, ?_, ?_, World.ownsRow_nil _ _ _ _, fun _ _ => by simp [Value.ownBlock], ?_⟩
    · have e := Box.new ((w.alloc (.cells #[.slice none 0 0, .slice none 0 0, .int .i64 0] 24)).alloc (.cells #[.int .i64 0] 3)) (.slice (some ⟨w.heap.size + 1, 0, none⟩) 1 1) (.slice none 0 0) (.int .i64 1)
      simpa using e
    · exact (Below.heap_alloc _ _ _ (by simp; omega)).trans ((Below.heap_alloc _ _ _ (by simp)).trans (heap_alloc_new _ _))
    · refine ⟨by simp [zeros_len], Or.inr ⟨w.heap.size + 1, 1, #[.int .i64 0], rfl, Nat.le_refl _, ?_, Nat.le_refl _, by unfold maxLen; omega, rfl, rfl⟩⟩
      have e := heap_alloc_new (w.alloc (.cells #[.slice none 0 0, .slice none 0 0, .int .i64 0] 24)) (.cells #[.int .i64 0] 3)
      exact (Below.heap_alloc _ _ _ (by simp)).trans (by simpa using e)
    · exact (((Below.refl _ _).alloc (Nat.le_refl _) _).alloc (by simp) _).alloc (by simp; omega) _
  case round =>
    obtain ⟨k, A, c, A', c', hk, rfl, hBX, hBR, hown, hownL, hdis, hbl⟩ := hrel
    have BX := Lib.hid hBX
    have BR := Lib.hid hBR
    have OL := Lib.hid hownL
    have HD := Lib.hid hdis
    have HB := Lib.hid hbl
    have HAO := Lib.hid (fun g hg => (own_lt hown (g := g) hg).1)
    have hsz : w.heap.size + 1 + 1 < wr.heap.size := lt_of_block hBX
    have p0 := BX.out.c0; have p1 := BX.out.c1; have p2 := BX.out.c2
    clear hBX hBR hownL hdis hbl
    by_cases hlt : k < n
    · go_wp2_with (first
        | (at_builtin; refine wpList_append_own_at _ rfl (.tmp 21) (.tmp 22) 22 rfl (w.heap.size + 1) 3 i0 (.int .i64 0) 1 8 Try.underlying22 hi hz0 hz1 hz2 rfl (by decide) (.slice A (k + 1) c) (k + 1) _ rfl (hown.alloc _) ⟨wr.heap.size, 0, none⟩ 1 1 [.int .i64 0] rfl rfl (cell_one_new _ _ _) (by simp [Value.oneCell']) (by unfold maxLen; omega) (by omega) (by simp; omega) ?_; intro v1 w1 hown1 hg1 hnil1 hloc1; obtain ⟨ga, ca, rfl⟩ := own_succ hown1; have G1 := Lib.hid (grown_below hg1); have O1 := Lib.hid hown1; have L1 := Lib.hid hloc1; have N1 := own_box hown BX.out; have BX1 := Lib.hid (BX.out.grown G1.out N1); have OL1 := Lib.hid (own_grown OL.out G1.out (fun g hg e => HD.out g e hg)); have q0 := BX1.out.c0; have q1 := BX1.out.c1; have q2 := BX1.out.c2; have f0 := BX1.out.f 0; have f1 := BX1.out.f 1; have hs1 : wr.heap.size + 1 ≤ w1.heap.size := (by have := hg1.size; simp at this; omega); have OL2 := Lib.hid (own_grown OL1.out (set_grown w1 ⟨w.heap.size + 1 + 1, 0, none⟩ (.slice (some ⟨ga, 0, none⟩) (k + 1 + 1) ca)) (fun g hg e => own_box OL1.out BX1.out (hg.trans e.symm))); clear hown hown1 hg1 hnil1 hloc1 p0 p1 p2 N1)
        | (at_builtin; refine wpList_append_own_at _ rfl (.tmp 26) (.tmp 28) 22 rfl (w.heap.size + 1) 3 i0 (.int .i64 0) 1 8 Try.underlying22 hi hz0 hz1 hz2 rfl (by decide) (.slice A' k c') k _ rfl (OL2.out.alloc _) ⟨w1.heap.size, 0, none⟩ 1 1 [.int .i64 ((k : Int) + 1)] rfl rfl (cell_one_set _ _ _ _ _) (by simp [Value.oneCell']) (by unfold maxLen; omega) (by omega) (by simp; omega) ?_; intro v2 w2 hown2 hg2 hnil2 hloc2; obtain ⟨gl, cl, rfl⟩ := own_succ hown2; have G2 := Lib.hid (grown_below hg2); have O2 := Lib.hid hown2; have L2 := Lib.hid hloc2; have N2 := own_box OL2.out (box_set0 BX1.out (v := .slice (some ⟨ga, 0, none⟩) (k + 1 + 1) ca)); have BX2 := Lib.hid ((box_set0 BX1.out (v := .slice (some ⟨ga, 0, none⟩) (k + 1 + 1) ca)).grown G2.out N2); have r0 := BX2.out.c0; have r1 := BX2.out.c1; have r2 := BX2.out.c2; have f1' := BX2.out.f 1; have hs2 : w1.heap.size + 1 ≤ w2.heap.size := (by have := hg2.size; simp at this; omega); clear hown2 hg2 hnil2 hloc2 q0 q1 q2 f0 f1 N2))
      go_roundw
      case rel =>
        have Z1 : zeros (k + 1 + 1) = zeros (k + 1) ++ [0] := zeros_succ (k + 1)
        have Z2 : upTo (k + 1) = upTo k ++ [(k : Int) + 1] := upTo_succ k
        have lga := own_lt O1.out (g := ga) rfl
        have lgl := own_lt O2.out (g := gl) rfl
        have hne1 : ga ≠ w.heap.size + 1 + 1 := fun e => own_box O1.out BX1.out (by rw [e]; rfl)
        have hne2 : gl ≠ w.heap.size + 1 + 1 := fun e => own_box O2.out BX2.out (by rw [e]; rfl)
        have hdis2 : ga ≠ gl := by
          intro e
          rcases L2.out with h2 | h2
          · have h2' : some gl = (Value.slice A' k c').ownBlock := h2
            have h3 := (own_lt OL.out h2'.symm).2
            rcases L1.out with h1 | h1
            · have h1' : some ga = (Value.slice A (k + 1) c).ownBlock := h1
              exact HD.out ga h1'.symm (by rw [← h2', e])
            · have h1' : some ga = some (wr.alloc (.cells #[.int .i64 0] 3)).heap.size := h1
              simp at h1'
              omega
          · have h2' : some gl = some ((w1.setCell ⟨w.heap.size + 1 + 1, 0, none⟩ (.slice (some ⟨ga, 0, none⟩) (k + 1 + 1) ca)).alloc (.cells #[.int .i64 ((k : Int) + 1)] 3)).heap.size := h2
            simp at h2'
            have := lga.2
            omega
        have GS := set_grown w1 ⟨w.heap.size + 1 + 1, 0, none⟩ (.slice (some ⟨ga, 0, none⟩) (k + 1 + 1) ca)
        have GT := set_grown w2 ⟨w.heap.size + 1 + 1, 1, none⟩ (.slice (some ⟨gl, 0, none⟩) (k + 1) cl)
        have oA : (Value.slice A (k + 1) c).ownBlock ≠ some w.heap.size := fun e => by
          rcases hA0 : (Value.slice A (k + 1) c).ownBlock with _ | g
          · rw [hA0] at e; cases e
          · rw [hA0] at e
            have := HAO.out g hA0
            injection e with e
            omega
        have oL : (Value.slice A' k c').ownBlock ≠ some w.heap.size := fun e => by have := (own_lt OL.out e).1; omega
        refine ⟨k + 1, _, _, _, _, by omega, by go_num, box_set1 BX2.out, ?_, ?_, ?_, ?_, ?_⟩
        · have h1 := BR.out.grown G1.out oA
          have h2 := h1.grown GS (by simp; omega)
          have h3 := h2.grown G2.out oL
          exact h3.grown GT (by simp; omega)
        · rw [Z1, List.map_append]
          exact own_grown (own_grown (own_grown O1.out GS (fun g hg e => hne1 (by have hg' : some ga = some g := hg; injection hg' with hg'; injection e with e; rw [hg', ← e]))) G2.out (fun g hg e => by
            have hg' : some ga = some g := hg
            injection hg' with hg'
            subst hg'
            have h3 := (own_lt OL.out e).2
            rcases L1.out with h1 | h1
            · have h1' : some ga = (Value.slice A (k + 1) c).ownBlock := h1
              exact HD.out ga h1'.symm e
            · have h1' : some ga = some (wr.alloc (.cells #[.int .i64 0] 3)).heap.size := h1
              simp at h1'
              omega)) GT (fun g hg e => hne1 (by have hg' : some ga = some g := hg; injection hg' with hg'; injection e with e; rw [hg', ← e]))
        · rw [Z2, List.map_append]
          exact own_grown O2.out GT (fun g hg e => hne2 (by have hg' : some gl = some g := hg; injection hg' with hg'; injection e with e; rw [hg', ← e]))
        · intro g hg hgl
          have hg' : some ga = some g := hg
          have hgl' : some gl = some g := hgl
          injection hg' with hg'
          injection hgl' with hgl'
          exact hdis2 (hg'.trans hgl'.symm)
        · have b1 : Below w.heap.size w w1 := HB.out.grown G1.out HB.out.size (fun g hg => by have := HAO.out g hg; omega)
          have b2 : Below w.heap.size w (w1.setCell ⟨w.heap.size + 1 + 1, 0, none⟩ (.slice (some ⟨ga, 0, none⟩) (k + 1 + 1) ca)) := b1.setCell (by simp; omega) _
          have b3 : Below w.heap.size w w2 := b2.grown G2.out b2.size (fun g hg => by have := (own_lt OL.out hg).1; omega)
          exact b3.setCell (by simp; omega) _
      case measure => simp [intOf]; omega
    · have hkn : k = n := by omega
      subst hkn
      have s0 := BR.out.c0; have s1 := BR.out.c1; have s2 := BR.out.c2
      have f0 := BR.out.f 0; have f1 := BR.out.f 1; have f2 := BR.out.f 2
      have hzs : RI wr A (k + 1) c (zeros (k + 1)) := RI.of_own hown (by omega)
      have hls : RI wr A' k c' (upTo k) := RI.of_own OL.out (by omega)
      have hla : ∀ b off, A = some ⟨b, off, none⟩ → b ≠ w.heap.size := fun b off e => by have := (own_lt hown (g := b) (by rw [e]; rfl)).1; omega
      have hlb : ∀ b off, A' = some ⟨b, off, none⟩ → b ≠ w.heap.size := fun b off e => by have := (own_lt OL.out (g := b) (by rw [e]; rfl)).1; omega
      have HZS := Lib.hid hzs
      have HLS := Lib.hid hls
      have HLA := Lib.hid hla
      have HLB := Lib.hid hlb
      clear hzs hls hla hlb hown
      go_wp2_with fail
      refine bodyPost_ret (v := .tuple #[.agg #[.slice A (k + 1) c, .slice A' k c', .int .i64 1], .int .i64 0]) (by simp [results, Try.results13, go_sem, s0, s1, s2]) rfl ?_
      refine ⟨_, _, _, _, by rw [zeros_len, upTo_len], ?_, ?_, ((HB.out.setCell (by simp) _).setCell (by simp) _).setCell (by simp) _⟩
      · rw [zeros_len]; exact HZS.out.keep3 HLA.out
      · rw [upTo_len]; exact HLS.out.keep3 HLB.out

end Go.Proofs.Ythfadkilffmmlaa
