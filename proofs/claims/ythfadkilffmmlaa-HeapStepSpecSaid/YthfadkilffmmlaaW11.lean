/-
  The walk of scaled. It takes what slices.SortFunc does as a hypothesis.
-/
import Derived.Test.YthfadkilffmmlaaW10
namespace Go.Proofs.Ythfadkilffmmlaa
open Go.RowKit
set_option linter.unusedVariables false
set_option linter.unusedSimpArgs false

section
variable {w w' : World} {base B ga : Nat} {ra : List Value} {ca : Nat} {A' : Option Addr} {cl : Nat} {act l : List Int} {y : Int}
theorem Wk.below (h : Wk w base B ga ra ca A' cl act l y) (hb : Below w.heap.size w w') : Wk w' base B ga ra ca A' cl act l y :=
  ⟨(hb.block _ (lt_of_block h.box)).trans h.box, (hb.block _ (lt_of_block h.row)).trans h.row, h.capa, h.capl, fun h0 => by
    obtain ⟨gl, rl, e, h1, h2, h3⟩ := h.own h0
    exact ⟨gl, rl, e, (hb.block _ (lt_of_block h1)).trans h1, h2, h3⟩, h.hB, h.hga⟩
theorem Wk.alloc (h : Wk w base B ga ra ca A' cl act l y) (o : Obj) : Wk (w.alloc o) base B ga ra ca A' cl act l y := h.below ((Below.refl _ _).alloc (Nat.le_refl _) _)
theorem Wk.cx (h : Wk w base B ga ra ca A' cl act l y) {gl : Nat} {rl : List Value} (hl : w.heap[gl]? = some (.cells (l.map (Value.int .i64) ++ rl).toArray 3 (0, 0))) (hne : gl ≠ ga) : Cx w gl B act := by
  refine ⟨lt_of_block hl, lt_of_block h.box, ?_, some ⟨ga, 0, none⟩, act.length, ca, by simp [World.cell?, h.box], h.ri, fun b off e => by cases e; exact hne.symm⟩
  intro e
  subst e
  have h1 := h.box
  rw [hl] at h1
  injection h1 with h1
  injection h1 with _ h2
  exact absurd h2 (by decide)
theorem Srt.start {gl : Nat} {rl : List Value} (hl : w.heap[gl]? = some (.cells (l.map (Value.int .i64) ++ rl).toArray 3 (0, 0))) : Srt w gl rl l w := ⟨World.grownBy.refl w _, hl⟩
end

theorem RI.keep3 {w : World} {R : Nat} {A : Option Addr} {n c : Nat} {zs : List Int} {v0 v1 v2 : Value} (h : RI w A n c zs) (hR : ∀ b off, A = some ⟨b, off, none⟩ → b ≠ R) :
    RI (((w.setCell ⟨R, 0, none⟩ v0).setCell ⟨R, 1, none⟩ v1).setCell ⟨R, 2, none⟩ v2) A n c zs :=
  ((h.setOther _ (p := ⟨R, 0, none⟩) hR).setOther _ (p := ⟨R, 1, none⟩) hR).setOther _ (p := ⟨R, 2, none⟩) hR

theorem RI.of_srt {W0 W : World} {g : Nat} {rest : List Value} {zs : List Int} {c : Nat} (h : Srt W0 g rest zs W) (hc : zs.length ≤ c ∧ c ≤ maxLen ∧ zs.length * 8 ≤ 140737488355328) : RI W (some ⟨g, 0, none⟩) zs.length c zs :=
  ⟨rfl, hc.1, hc.2.2, hc.2.1, fun _ => ⟨g, 0, rfl, h.lt, fun j hj => by simpa using h.cell hj⟩⟩


set_option maxHeartbeats 4000000 in
theorem scaled_small (N : Nat) (hSO : SortOk N) (w : World) (base B ga : Nat) (ra : List Value) (ca : Nat) (A' : Option Addr) (cl : Nat) (act l : List Int) (y : Int) (h : Wk w base B ga ra ca A' cl act l y) (hbase : base ≤ w.heap.size)
    (hact : 0 < act.length) (hd : Dom act.length l) (hN : l.length ≤ N) (hbg : bigB act y = false) :
    Calls Try.prog 35 #[.pointer (some ⟨B, 0, none⟩)] w (Scaled base ga ca A' cl act l y w) := by
  have HSO := Lib.hid hSO
  have HD := Lib.hid hd
  have HN := Lib.hid hN
  have H := Lib.hid h
  have hgalt : ga < w.heap.size := lt_of_block h.row
  have hBlt : B < w.heap.size := lt_of_block h.box
  simp only [bigB, Bool.or_eq_false_iff, M40] at hbg
  obtain ⟨hb1, hb2⟩ := hbg
  have hm1 : ¬ 1099511627776 < y := of_decide_eq_false hb1
  have hm2 : ¬ 1099511627776 < maxTo act act.length := of_decide_eq_false hb2
  have hcy : w.cell? ⟨B, 2, none⟩ = some (.int .i64 y) := by simp [World.cell?, h.box]
  have hca : w.cell? ⟨B, 0, none⟩ = some (.slice (some ⟨ga, 0, none⟩) act.length ca) := by simp [World.cell?, h.box]
  clear hSO hd hN h hb1 hb2
  go_enter Try.func35, Try.ntmps35
  go_wp2_with fail
  have K := Lib.hid (H.out.alloc (.cells #[.slice none 0 0, .slice none 0 0, .int .i64 0] 24))
  have HR2 := Lib.hid (heap_alloc_new w (.cells #[.slice none 0 0, .slice none 0 0, .int .i64 0] 24))
  have HBW := Lib.hid ((Below.refl base w).alloc hbase (.cells #[.slice none 0 0, .slice none 0 0, .int .i64 0] 24))
  have HGAR : Hid (ga ≠ w.heap.size) := by show ga ≠ _; omega
  have hRb : base ≤ w.heap.size := hbase
  refine wp_loop_rounds 1 ?_
  rw [rounds_succ]
  go_wp2_with fail
  refine (max_any _ act.length ca act _ K.out.ri hact).mono ?_
  rintro e w2 ⟨rfl, rfl⟩
  obtain ⟨wx, hwx⟩ : ∃ wx, w.alloc (.cells #[.slice none 0 0, .slice none 0 0, .int .i64 0] 24) = wx := ⟨_, rfl⟩
  rw [hwx] at K HR2 HBW ⊢
  clear hwx
  have hbx : wx.cell? ⟨B, 0, none⟩ = some (.slice (some ⟨ga, 0, none⟩) (act).length ca) := by simp [World.cell?, K.out.box]
  have hbx1 : wx.cell? ⟨B, 1, none⟩ = some (.slice A' l.length cl) := by simp [World.cell?, K.out.box]
  have hbx2 : wx.cell? ⟨B, 2, none⟩ = some (.int .i64 y) := by simp [World.cell?, K.out.box]
  by_cases hl0 : 0 < l.length
  · obtain ⟨gl, rl, hA, hrl, hne, hbl⟩ := K.out.own hl0
    subst hA
    have HRL := Lib.hid hrl
    have C := Lib.hid (K.out.cx hrl hne)
    have hglR : gl ≠ w.heap.size := by
      intro e
      rw [e, HR2.out] at hrl
      injection hrl with hrl
      injection hrl with _ h2
      exact absurd h2 (by decide)
    have HGR := Lib.hid hglR
    clear hrl hglR
    go_wp2_with fail
    refine (HSO.out wx gl B (act) C.out rl l HD.out l.length cl wx (Srt.start HRL.out) rfl (HN.out)).mono ?_
    rintro e w3 ⟨l2, rfl, hS3, hG3, hO3⟩
    have hg3 := hS3.grown
    have hB3 : w3.heap[B]? = wx.heap[B]? := hg3.block B C.out.hB (by simpa using C.out.hne)
    have hR3 : w3.heap[w.heap.size]? = wx.heap[w.heap.size]? := hg3.block _ (lt_of_block HR2.out) (by simpa using HGR.out.symm)
    have hl2 : l2.length = l.length := hG3.len
    have hd0 : w3.cell? ⟨B, 0, none⟩ = some (.slice (some ⟨ga, 0, none⟩) (act).length ca) := (World.cell?_of_block (a := ⟨B, 0, none⟩) hB3).trans hbx
    have hd1 : w3.cell? ⟨B, 1, none⟩ = some (.slice (some ⟨gl, 0, none⟩) l.length cl) := (World.cell?_of_block (a := ⟨B, 1, none⟩) hB3).trans hbx1
    have hd2 : w3.cell? ⟨B, 2, none⟩ = some (.int .i64 y) := (World.cell?_of_block (a := ⟨B, 2, none⟩) hB3).trans hbx2
    have hrb : w3.heap[w.heap.size]? = some (.cells #[.slice none 0 0, .slice none 0 0, .int .i64 0] 24 (0, 0)) := hR3.trans HR2.out
    have hr0 : w3.cell? ⟨w.heap.size, 0, none⟩ = some (.slice none 0 0) := by simp [World.cell?, hrb]
    have hr1 : w3.cell? ⟨w.heap.size, 1, none⟩ = some (.slice none 0 0) := by simp [World.cell?, hrb]
    have hr2 : w3.cell? ⟨w.heap.size, 2, none⟩ = some (.int .i64 0) := by simp [World.cell?, hrb]
    have hf0 : w3.frozen? ⟨w.heap.size, 0, none⟩ = false := by simp [World.frozen?, hrb]
    have hf1 : w3.frozen? ⟨w.heap.size, 1, none⟩ = false := by simp [World.frozen?, hrb]
    have hf2 : w3.frozen? ⟨w.heap.size, 2, none⟩ = false := by simp [World.frozen?, hrb]
    have S3 := Lib.hid hS3
    have G3 := Lib.hid hG3
    have O3 := Lib.hid hO3
    have HL2 := Lib.hid hl2
    have hga3 := K.out.ri.grown hg3 (fun b off e => by cases e; exact hne.symm)
    have GA3 := Lib.hid hga3
    have hbb : Below base w w3 := HBW.out.trans ⟨hg3.os, hg3.tape, hg3.output, hg3.size, fun k hk => hg3.block k (by have := lt_of_block K.out.box; have := K.out.hB; omega) (by simp; omega)⟩
    clear hS3 hG3 hO3 hl2 hg3 hB3 hR3 hrb hbx hbx1 hbx2 hga3
    go_wp2_with fail
    refine bodyPost_ret (v := .agg #[.slice (some ⟨ga, 0, none⟩) (act).length ca, .slice (some ⟨gl, 0, none⟩) l.length cl, .int .i64 y]) (by simp [results, Try.results35, go_sem, hr0, hr1, hr2]) rfl ?_
    refine ⟨l2, by rw [HL2.out], GA3.out.keep3 (fun b off e => by cases e; exact HGAR.out), (RI.of_srt S3.out (by rw [HL2.out]; exact K.out.capl)).keep3 (fun b off e => by cases e; exact HGR.out), G3.out.perm, by rw [HL2.out]; exact O3.out, ?_⟩
    exact ((hbb.setCell hRb _).setCell hRb _).setCell hRb _
  · have hl1 : l.length = 0 := by omega
    have HL1 := Lib.hid hl1
    rw [hl1] at hbx1
    clear hl1 hl0
    have hrb : wx.heap[w.heap.size]? = some (.cells #[.slice none 0 0, .slice none 0 0, .int .i64 0] 24 (0, 0)) := HR2.out
    have hr0 : wx.cell? ⟨w.heap.size, 0, none⟩ = some (.slice none 0 0) := by simp [World.cell?, hrb]
    have hr1 : wx.cell? ⟨w.heap.size, 1, none⟩ = some (.slice none 0 0) := by simp [World.cell?, hrb]
    have hr2 : wx.cell? ⟨w.heap.size, 2, none⟩ = some (.int .i64 0) := by simp [World.cell?, hrb]
    have hf0 : wx.frozen? ⟨w.heap.size, 0, none⟩ = false := by simp [World.frozen?, hrb]
    have hf1 : wx.frozen? ⟨w.heap.size, 1, none⟩ = false := by simp [World.frozen?, hrb]
    have hf2 : wx.frozen? ⟨w.heap.size, 2, none⟩ = false := by simp [World.frozen?, hrb]
    clear hrb
    go_wp2_with fail
    refine (sort_none _ _ _ _).mono ?_
    rintro e w3 ⟨rfl, rfl⟩
    go_wp2_with fail
    refine bodyPost_ret (v := .agg #[.slice (some ⟨ga, 0, none⟩) (act).length ca, .slice A' 0 cl, .int .i64 y]) (by simp [results, Try.results35, go_sem, hr0, hr1, hr2]) rfl ?_
    refine ⟨[], rfl, K.out.ri.keep3 (fun b off e => by cases e; exact HGAR.out), RI.nil _ _ _ K.out.capl.2.1, by rw [List.eq_nil_of_length_eq_zero HL1.out], fun p q h1 h2 h3 => absurd h3 (by simp), ?_⟩
    exact ((HBW.out.setCell hRb _).setCell hRb _).setCell hRb _

end Go.Proofs.Ythfadkilffmmlaa
