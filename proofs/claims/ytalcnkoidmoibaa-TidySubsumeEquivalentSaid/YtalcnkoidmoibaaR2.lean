/-
  tidy.Reduce. No condition.
-/
import Derived.Test.YtalcnkoidmoibaaQ2
import Derived.Deep.DeepAppendWide
namespace Go.Proofs.Ytalcnkoidmoibaa
open Go.RowKit Go.Shelf Go.Sort Go.Lib
set_option linter.unusedVariables false
set_option linter.unusedSimpArgs false

theorem infoLrn : (Try.prog.info? 44).map (fun i => (i.zero, i.size, i.bytes)) = some (some (.agg #[.slice none 0 0, .int .i64 0, .int .i64 0]), 3, 40) := by kernel_rfl

def cellsE (es : List Lrn) : List Value := es.flatMap fun e => [rowV e.r, .int .i64 e.lv, .int .i64 e.act]
theorem cellsE_snoc (es : List Lrn) (e : Lrn) : cellsE (es ++ [e]) = cellsE es ++ [rowV e.r, .int .i64 e.lv, .int .i64 e.act] := by simp [cellsE]
theorem cellsE_at : ∀ (es : List Lrn) (j : Nat), j < es.length → (cellsE es)[j * 3]? = some (rowV (lrn es j).r) ∧ (cellsE es)[j * 3 + 1]? = some (.int .i64 (lrn es j).lv) ∧ (cellsE es)[j * 3 + 2]? = some (.int .i64 (lrn es j).act)
  | [], j, h => by simp at h
  | e :: es, 0, h => ⟨rfl, rfl, rfl⟩
  | e :: es, j + 1, h => by
    have := cellsE_at es j (by simpa using h)
    have e3 : (j + 1) * 3 = j * 3 + 1 + 1 + 1 := by omega
    rw [e3]
    exact this

theorem RE.of_own {w : World} {base : Nat} {A : Option Addr} {n c : Nat} {es : List Lrn} (h : w.ownsRow base 44 3 (.slice A n c) n (cellsE es)) (hl : es.length = n) (hi : ∀ e ∈ es, RI w e.r.A e.r.n e.r.c e.r.zs) (hbig : n * 40 ≤ 140737488355328) : RE w A n c es := by
  obtain ⟨h1, h2⟩ := h
  rcases h2 with ⟨hv, hn⟩ | ⟨g, cap, cur, hv, hg, hh, hnc, hcm, hcs, htk⟩
  · simp only [Value.slice.injEq] at hv
    obtain ⟨rfl, _, rfl⟩ := hv
    subst hn
    exact ⟨hl, Nat.le_refl _, hbig, Nat.zero_le _, fun h => absurd h (by omega)⟩
  · simp only [Value.slice.injEq] at hv
    obtain ⟨rfl, _, rfl⟩ := hv
    refine ⟨hl, hnc, hbig, hcm, fun hn => ⟨g, 0, rfl, ?_, fun j hj => ?_⟩⟩
    · rcases Nat.lt_or_ge g w.heap.size with hlt | hge
      · exact hlt
      · rw [Array.getElem?_eq_none hge] at hh; cases hh
    · have hj' : j < es.length := by omega
      have e : ∀ k, k < n * 3 → cur[k]? = (cellsE es)[k]? := fun k hk => by
        rw [← htk, List.getElem?_take_of_lt hk, Array.getElem?_toList]
      obtain ⟨e0, e1, e2⟩ := cellsE_at es j hj'
      refine ⟨?_, ?_, ?_, hi _ (by rw [lrn_lt hj']; exact List.getElem_mem hj')⟩
      · simp [World.cell?, hh, e _ (by omega : j * 3 < n * 3), e0]
      · simp [World.cell?, hh, e _ (by omega : j * 3 + 1 < n * 3), e1]
      · simp [World.cell?, hh, e _ (by omega : j * 3 + 2 < n * 3), e2]

theorem cell_new_at (w : World) (v : Value) (t : TypeId) (s : Nat) (h : s = w.heap.size) : ∀ j u, [v][j]? = some u → (w.alloc (.cells #[v] t)).cell? ((⟨s, 0, none⟩ : Addr).add j) = some u := by
  subst h; exact cell_one_new _ _ _

theorem three_cell {W : World} {B : Nat} {u v x : Value} {t : TypeId} (h : W.heap[B]? = some (.cells #[u, v, x] t (0, 0))) : ∀ j y, [u, v, x][j]? = some y → W.cell? ((⟨B, 0, none⟩ : Addr).add j) = some y
  | 0, y, hj => by simp at hj; subst hj; simp [World.cell?, Addr.add, h]
  | 1, y, hj => by simp at hj; subst hj; simp [World.cell?, Addr.add, h]
  | 2, y, hj => by simp at hj; subst hj; simp [World.cell?, Addr.add, h]
  | j + 3, y, hj => by simp at hj
theorem cell_three_at (w : World) (u v x : Value) (t : TypeId) (s : Nat) (h : s = w.heap.size) : ∀ j y, [u, v, x][j]? = some y → (w.alloc (.cells #[u, v, x] t)).cell? ((⟨s, 0, none⟩ : Addr).add j) = some y := by
  subst h; exact three_cell (World.alloc_heap_new w _)

/-- what Reduce hands back -/
def Redd (es : List Lrn) (w : World) (e : Ending) (w' : World) : Prop :=
  ∃ A c, e = .returned (.slice A es.length c) ∧ RE w' A es.length c es ∧ Below w.heap.size w w'

theorem placesTo_succ (es : List Lrn) (n k : Nat) (h : k < n) : placesTo es n (k + 1) h = placesTo es n k (Nat.le_of_lt h) ++ (if longB (lrn es k) = true then [⟨k, h⟩] else []) := by
  have hinj : ∀ a b : List (Pl n), a.map (·.1) = b.map (·.1) → a = b := fun a b e => by
    exact (List.map_inj_right (fun x y e => Subtype.ext e)).1 e
  apply hinj
  rw [List.map_append, places_vals, places_vals, List.range_succ, List.filter_append]
  congr 1
  cases hl : longB (lrn es k) <;> simp [hl]
theorem places_len (es : List Lrn) (n k : Nat) (h : k ≤ n) : (placesTo es n k h).length ≤ k := by
  have : ((placesTo es n k h).map (·.1)).length ≤ k := by rw [places_vals]; exact Nat.le_trans (List.length_filter_le _ _) (by simp)
  simpa using this

/-- the first loop: the long places -/
structure L1 (w W0 wr : World) (es : List Lrn) (n k : Nat) (hk : k ≤ n) (O : Option Addr) (L co : Nat) : Prop where
  own : wr.ownsRow (w.heap.size + 1) 3 1 (.slice O L co) L (((placesTo es n k hk).map (fun i => (i.1 : Int))).map (Value.int .i64))
  len : (placesTo es n k hk).length = L
  below : Below (w.heap.size + 1) W0 wr
  nil : L = 0 → O = none ∧ co = 0

set_option maxRecDepth 4000 in
theorem sort_places (A : Option Addr) (n c : Nat) (es : List Lrn) (w wr : World) (H : RE w A n c es) (hn : n ≤ 60000) (hk : n ≤ n) (O : Option Addr) (L co : Nat) (h : L1 w (w.alloc (.cells #[.slice A n c] 22)) wr es n n hk O L co) :
    Calls Try.prog 31 #[.slice O L co, .func (.func 32) #[] #[.pointer (some ⟨w.heap.size, 0, none⟩)]] wr fun e w' => e = .returned (.tuple #[]) ∧ RI w' O L co ((sortedP es n).map (fun i => (i.1 : Int))) ∧ Below (w.heap.size + 1) wr w' := by
  have hLn : L ≤ n := by rw [← h.len]; exact places_len es n n hk
  by_cases h0 : L = 0
  · obtain ⟨rfl, rfl⟩ := h.nil h0
    subst h0
    have hs : sortedP es n = [] := by
      unfold sortedP
      rw [List.eq_nil_of_length_eq_zero h.len]
      exact List.mergeSort_nil
    rw [hs]
    exact (Try.slices_SortFunc_none (α := LitT) none 0 (.func (.func 32) #[] #[.pointer (some ⟨w.heap.size, 0, none⟩)]) wr).mono fun _ _ ⟨h1, h2⟩ => by subst h2; exact ⟨h1, RI.nil _ _ _ (Nat.zero_le _), Below.refl _ _⟩
  · rcases h.own.2 with ⟨hv, h1⟩ | ⟨g, cap, cur, hv, hg, hr⟩
    · exact absurd h1 h0
    · simp only [Value.slice.injEq] at hv
      obtain ⟨rfl, -, rfl⟩ := hv
      have hsz : (w.alloc (.cells #[.slice A n c] 22)).heap.size = w.heap.size + 1 := by simp
      have hb := h.below
      have := sort_red (w.alloc (.cells #[.slice A n c] 22)) wr w.heap.size n c A es (w.heap.size + 1) g L co (placesTo es n n hk) (by omega) h.own hg (by omega)
        (Boxed.new w 22 (.slice A n c)).cell (by rw [hsz]; omega) (H.below ((Below.refl _ _).alloc (Nat.le_refl _) _)) (by rw [hsz]; exact hb) (by rw [hsz]; omega)
      refine this.mono ?_
      rintro e w' ⟨rfl, h2, h3⟩
      exact ⟨rfl, h2.ri (by omega), h3⟩

set_option maxRecDepth 100000 in
set_option maxHeartbeats 1000000 in
theorem reduce_any (A : Option Addr) (n c : Nat) (es : List Lrn) (keep : Int) (w : World) (h : RE w A n c es) (hn : n ≤ 60000) :
    Calls Try.prog 13 #[.slice A n c, .int .i64 keep] w (Redd (redL es keep) w) := by
  obtain ⟨i0, hi, hz0, hz1, hz2⟩ := info_parts infoInt
  obtain ⟨j0, gi, gz0, gz1, gz2⟩ := info_parts infoLrn
  have H := Lib.hid h
  clear h
  go_enter Try.func13, Try.ntmps13
  go_wp2
  have HB0 := Lib.hid ((Below.refl w.heap.size w).alloc (Nat.le_refl _) (.cells #[.slice A n c] 22))
  go_loopw [5, 16] (fun s5 s16 wr => ∃ (k : Nat) (hk : k ≤ n) (O : Option Addr) (L co : Nat), s16 = .int .i64 k ∧ s5 = .slice O L co ∧ L1 w (w.alloc (.cells #[.slice A n c] 22)) wr es n k hk O L co) (fun _ i _ => n - (intOf i).toNat)
  case atStart => exact ⟨0, Nat.zero_le _, none, 0, 0, rfl, rfl, World.ownsRow_nil _ _ _ _, rfl, Below.refl _ _, fun _ => ⟨rfl, rfl⟩⟩
  case round =>
    obtain ⟨k, hk, O, L, co, rfl, rfl, h1⟩ := hrel
    have hLk : L ≤ k := by rw [← h1.len]; exact places_len es n k hk
    have hsz : w.heap.size + 1 ≤ wr.heap.size := by have := h1.below.size; simpa using this
    have H1 := Lib.hid h1
    clear h1
    by_cases hlt : k < n
    · obtain ⟨b, off, rfl, hbl, hc⟩ := H.out.cells (by omega)
      obtain ⟨c0, c1, c2, -⟩ := hc k hlt
      clear hc
      have hW : Below w.heap.size w wr := HB0.out.trans (H1.out.below.mono (by omega))
      have c0' := (hW.cell (p := ⟨b, off + k * 3, none⟩) hbl).trans c0
      have c1' := (hW.cell (p := ⟨b, off + k * 3 + 1, none⟩) hbl).trans c1
      have c2' := (hW.cell (p := ⟨b, off + k * 3 + 2, none⟩) hbl).trans c2
      have hps := placesTo_succ es n k hlt
      unfold longB at hps
      clear c0 c1 c2 hW
      rcases hE : lrn es k with ⟨⟨A1, n1, c1, z1⟩, lv, act⟩
      rw [hE] at c0' c1' c2' hps
      simp only [rowV] at c0' c1' c2' hps
      clear hE
      by_cases hlg : 2 < lv
      · rw [if_pos (by simpa using hlg)] at hps
        have HP := Lib.hid hps
        clear hps
        go_wp2_with (at_builtin; refine wpList_append_own_at _ rfl (.tmp 24) (.tmp 26) 31 rfl (w.heap.size + 1) 3 i0 (.int .i64 0) 1 8 Try.underlying31 hi hz0 hz1 hz2 rfl (by decide) (.slice O L co) L _ rfl ((H1.out.own.alloc _).alloc _) ⟨_, 0, none⟩ 1 1 [.int .i64 k] rfl rfl (cell_new_at _ _ _ _ (by simp)) (by simp [Value.oneCell']) (by unfold maxLen; omega) (by omega) (by simp; omega) ?_; intro v' w4 hown' hgrow hnil hloc; obtain ⟨g', cap', rfl⟩ := own_succ hown'; have G1 := Lib.hid (grown_below (grown_below hgrow)); have O1 := Lib.hid hown'; clear hown' hgrow hnil hloc)
        go_roundw
        case rel =>
          refine ⟨k + 1, hlt, some ⟨g', 0, none⟩, L + 1, cap', by go_num, rfl, ⟨?_, ?_, ?_, fun h => absurd h (by omega)⟩⟩
          · rw [HP.out, List.map_append, List.map_append]; exact O1.out
          · rw [HP.out, List.length_append, H1.out.len]; rfl
          · exact H1.out.below.grown G1.out hsz (fun g hg => (own_lt H1.out.own hg).1)
        case measure => simp [intOf]; omega
      · rw [if_neg (by simpa using hlg), List.append_nil] at hps
        have HP := Lib.hid hps
        clear hps
        go_wp2_with fail
        go_roundw
        case rel =>
          refine ⟨k + 1, hlt, O, L, co, by go_num, rfl, ⟨?_, ?_, ?_, H1.out.nil⟩⟩
          · rw [HP.out]; exact H1.out.own.alloc _
          · rw [HP.out, H1.out.len]
          · exact H1.out.below.alloc hsz _
        case measure => simp [intOf]; omega
    · obtain rfl : k = n := by omega
      have hsort := sort_places A k c es w wr H.out hn hk O L co H1.out
      have hmm := @run_makeMap Try.prog
      obtain ⟨m, hm⟩ : ∃ m, stay keep L = m := ⟨_, rfl⟩
      have hmL : m ≤ L := by rw [← hm]; exact stay_le _ _
      have hmin : min (max keep 0) (L : Int) = (m : Int) := by rw [← hm]; unfold stay; omega
      have hlen : (sortedP es k).length = L := by
        rw [← H1.out.len]; unfold sortedP; rw [List.length_mergeSort]
      have hgl : goneL es k keep = ((sortedP es k).map (fun i => (i.1 : Int))).drop m := by unfold goneL; rw [hlen, hm]
      have hwf : ∀ x ∈ goneL es k keep, (Lit.int .i64 x).wf = true := by
        intro x hx
        rw [hgl] at hx
        obtain ⟨y, _, rfl⟩ := List.mem_map.1 (List.mem_of_mem_drop hx)
        exact wf_lit (by omega) (by have := y.2; omega)
      have HWF := Lib.hid hwf
      have HGL := Lib.hid hgl
      have hglen : (goneL es k keep).length = L - m := by rw [hgl, List.length_drop, List.length_map, hlen]
      have HGN := Lib.hid hglen
      clear hwf hgl hglen hm hlen
      have HG := Lib.hid (fun i hi => gone_iff es k H.out.len keep i hi)
      go_wp2_with (go_at_call 31; refine hsort.mono ?_; clear hsort; rintro e w3 ⟨rfl, hr3, hb3⟩; have HR3 := Lib.hid hr3; have HW3 := Lib.hid ((HB0.out.trans (H1.out.below.mono (by omega))).trans (hb3.mono (by omega))); have hs3 : w.heap.size + 1 ≤ w3.heap.size := Nat.le_trans hsz hb3.size; have BX3 := Lib.hid ((hb3.cell (p := ⟨w.heap.size, 0, none⟩) (by simp)).trans ((H1.out.below.cell (p := ⟨w.heap.size, 0, none⟩) (by simp)).trans (Boxed.new w 22 (.slice A k c)).cell)); clear hr3 hb3)
      all_goals
        go_loopw [41] (fun s41 wr2 => ∃ j : Nat, j ≤ L - m ∧ s41 = .int .i64 j ∧ SM wr2 w3.heap.size j ((goneL es k keep).take j) ∧ Below w3.heap.size w3 wr2) (fun i _ => (L - m) - (intOf i).toNat)
        case atStart => exact ⟨0, Nat.zero_le _, rfl, (by rw [List.take_zero]; exact SM.made _), (Below.refl _ _).alloc (Nat.le_refl _) _⟩
        case round =>
          obtain ⟨j, hj, rfl, hsm, hb2⟩ := hrel
          have HB2 := Lib.hid hb2
          have HSM := Lib.hid hsm
          clear hb2 hsm
          by_cases hjl : j < L - m
          · obtain ⟨b3, off3, rfl, hb3, hc3⟩ := HR3.out.cells (by omega)
            have hcj := (HB2.out.cell (p := ⟨b3, off3 + (m + j), none⟩) hb3).trans (hc3 (m + j) (by omega))
            rw [← Nat.add_assoc] at hcj
            clear hc3
            have hl : j < (goneL es k keep).length := by rw [HGN.out]; exact hjl
            have hel : elt ((sortedP es k).map (fun i => (i.1 : Int))) (m + j) = elt (goneL es k keep) j := by
              rw [HGL.out]; simp [elt, List.getElem?_drop]
            rw [hel] at hcj
            obtain ⟨w5, hrun, hS1, hg1⟩ := HSM.out.put (by simp [maxLen]; omega) (HWF.out _ (elt_mem hl))
            have HS1 := Lib.hid hS1
            have HG1 := Lib.hid hg1
            have HEL := Lib.hid hl
            clear hS1 hg1 hl hel
            first
              | (exfalso; have := HR3.out.cap; omega)
              | skip
            all_goals go_wp2
            all_goals go_roundw
            all_goals first
              | exact ⟨j + 1, by omega, by go_num, by rw [take_snoc _ _ HEL.out]; exact HS1.out, HB2.out.grown HG1.out HB2.out.size (fun j e => (by cases e; exact Nat.le_refl _))⟩
              | (simp [intOf]; omega)
          · have hS := HSM.out
            rw [List.take_of_length_le (by rw [HGN.out]; omega)] at hS
            have HS := Lib.hid hS
            clear hS HSM
            have HW4 := Lib.hid (HW3.out.trans (HB2.out.mono (by omega)))
            have hbx := (HB2.out.cell (p := ⟨w.heap.size, 0, none⟩) (by simp; omega)).trans BX3.out
            have hs4 : w3.heap.size < wr.heap.size := HS.out.lt
            go_wp2
            go_loopw [11, 50] (fun s11 s50 W => ∃ (i : Nat) (O3 : Option Addr) (L3 c3 : Nat), i ≤ k ∧ s50 = .int .i64 i ∧ s11 = .slice O3 L3 c3 ∧ W.ownsRow wr.heap.size 44 3 (.slice O3 L3 c3) L3 (cellsE (redTo es keep i)) ∧ (redTo es keep i).length = L3 ∧ Below wr.heap.size wr W) (fun _ i _ => k - (intOf i).toNat)
            case atStart => exact ⟨0, none, 0, 0, Nat.zero_le _, rfl, rfl, World.ownsRow_nil _ _ _ _, rfl, Below.refl _ _⟩
            case round =>
              obtain ⟨i, O3, L3, c3, hi3, rfl, rfl, hown, hl3, hb4⟩ := hrel
              have hL3 : L3 ≤ i := by rw [← hl3]; exact redTo_len es keep i
              have HB4 := Lib.hid hb4
              have HL3 := Lib.hid hl3
              have HO := Lib.hid hown
              have hs5 := hb4.size
              clear hb4 hl3 hown
              by_cases hil : i < k
              · obtain ⟨b, off, rfl, hbl, hc⟩ := H.out.cells (by omega)
                obtain ⟨c0, c1, c2, -⟩ := hc i hil
                clear hc
                have hW := HW4.out.trans (HB4.out.mono (by omega))
                have c0' := (hW.cell (p := ⟨b, off + i * 3, none⟩) hbl).trans c0
                have c1' := (hW.cell (p := ⟨b, off + i * 3 + 1, none⟩) hbl).trans c1
                have c2' := (hW.cell (p := ⟨b, off + i * 3 + 2, none⟩) hbl).trans c2
                have hps := redTo_succ es keep i
                have hlk := fun o => ((HS.out.below HB4.out hs4).alloc o).look (wf_lit (x := (i : Int)) (by omega) (by omega))
                have hg := HG.out i hil
                clear c0 c1 c2 hW
                cases hkp : keptB es keep i
                all_goals
                  rw [hkp] at hg hps
                  rw [hg] at hlk
                  clear hg hkp
                  rcases hE : lrn es i with ⟨⟨A1, n1, c1, z1⟩, lv, act⟩
                  rw [hE] at c0' c1' c2' hps
                  simp only [rowV] at c0' c1' c2'
                  simp only [Bool.false_eq_true, if_false, if_true, Bool.not_true, Bool.not_false] at hps hlk
                  have HP := Lib.hid hps
                  clear hps hE
                · go_wp2
                  go_roundw
                  case rel => exact ⟨i + 1, O3, L3, c3, by omega, by go_num, rfl, by rw [HP.out]; exact HO.out.alloc _, by rw [HP.out]; exact HL3.out, HB4.out.alloc hs5 _⟩
                  case measure => simp [intOf]; omega
                · go_wp2_with (at_builtin; refine wpList_append_own_at _ rfl (.tmp 59) (.tmp 61) 22 rfl _ 44 j0 (.agg #[.slice none 0 0, .int .i64 0, .int .i64 0]) 3 40 Try.underlying22 gi gz0 gz1 gz2 rfl (by decide) (.slice O3 L3 c3) L3 _ rfl ((HO.out.alloc _).alloc _) ⟨_, 0, none⟩ 1 1 [.slice A1 n1 c1, .int .i64 lv, .int .i64 act] rfl rfl (cell_three_at _ _ _ _ _ _ (by simp)) (by simp [Value.oneCell']) (by unfold maxLen; omega) (by omega) (by simp; omega) ?_; intro v' w6 hown' hgrow hnil hloc; obtain ⟨g', cap', rfl⟩ := own_succ hown'; have G1 := Lib.hid (grown_below (grown_below hgrow)); have O1 := Lib.hid hown'; clear hown' hgrow hnil hloc)
                  go_roundw
                  case rel => exact ⟨i + 1, some ⟨g', 0, none⟩, L3 + 1, cap', by omega, by go_num, rfl, by rw [HP.out, cellsE_snoc]; exact O1.out, by rw [HP.out, List.length_append, HL3.out]; rfl, HB4.out.grown G1.out hs5 (fun g hg => (own_lt HO.out hg).1)⟩
                  case measure => simp [intOf]; omega
              · obtain rfl : i = k := by omega
                go_wp2
                go_ret
                have hlen : (redL es keep).length = L3 := by unfold redL; rw [H.out.len]; exact HL3.out
                have hW := HW4.out.trans (HB4.out.mono (by omega))
                have hre : redL es keep = redTo es keep i := by unfold redL; rw [H.out.len]
                refine ⟨O3, c3, by rw [hlen]; rfl, ?_, hW⟩
                rw [hlen, hre]
                refine RE.of_own HO.out HL3.out ?_ (by omega)
                intro e he
                rw [← hre] at he
                obtain ⟨j, hj, _, rfl⟩ := mem_redL.1 he
                rw [H.out.len] at hj
                obtain ⟨b, off, _, _, hc⟩ := H.out.cells (by omega)
                exact (hc j hj).2.2.2.below hW

end Go.Proofs.Ytalcnkoidmoibaa
