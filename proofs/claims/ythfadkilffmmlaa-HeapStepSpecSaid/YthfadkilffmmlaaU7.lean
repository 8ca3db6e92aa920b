/-
  The reference's Bump. No condition.
-/
import Derived.Test.YthfadkilffmmlaaU6
namespace Go.Proofs.Ythfadkilffmmlaa
open Go.RowKit
set_option linter.unusedVariables false
set_option linter.unusedSimpArgs false

theorem nb {a b : Nat} (h : a < b) : ¬ (a = b + 1) ∧ ¬ (a = b) := ⟨by omega, by omega⟩
abbrev ZB : Obj := .cells #[.slice none 0 0, .slice none 0 0, .int .i64 0] 24
abbrev EB : Obj := .cells #[] 3
/-- the new row behind the append, by the order in which the blocks were made -/
structure App (w2 : World) (act : List Int) (A3 : Option Addr) (c3 : Nat) (w3 : World) : Prop where
  own : w3.ownsRow w2.heap.size 3 1 (.slice A3 act.length c3) act.length (act.map (Value.int .i64))
  below : Below w2.heap.size w2 w3
theorem app1 {w2 w3 : World} {act : List Int} {v1 : Value} (o1 : w3.ownsRow w2.heap.size 3 1 v1 (0 + act.length) (([] ++ act).map (Value.int .i64))) (g1 : ((w2.alloc EB).drew).grownBy w3 (Value.slice (some ⟨w2.heap.size, 0, none⟩) 0 0).ownBlock) :
    ∃ A3 c3, v1 = .slice A3 act.length c3 ∧ App w2 act A3 c3 w3 := by
  rw [Nat.zero_add, List.nil_append] at o1
  obtain ⟨A3, c3, rfl⟩ := own_form o1
  exact ⟨A3, c3, rfl, o1, ((((Below.refl _ _).alloc (Nat.le_refl _) _).drew).grown g1 (by show _ ≤ (w2.alloc EB).heap.size; simp) (fun g hg => by have : some w2.heap.size = some g := hg; injection this; omega))⟩
theorem app2 {w2 w3 : World} {act : List Int} {v1 : Value} (o1 : w3.ownsRow w2.heap.size 3 1 v1 (0 + act.length) (([] ++ act).map (Value.int .i64))) (g1 : (((w2.alloc ZB).alloc EB).drew).grownBy w3 (Value.slice (some ⟨w2.heap.size + 1, 0, none⟩) 0 0).ownBlock) :
    ∃ A3 c3, v1 = .slice A3 act.length c3 ∧ App w2 act A3 c3 w3 ∧ Box w3 w2.heap.size (.slice none 0 0) (.slice none 0 0) (.int .i64 0) := by
  rw [Nat.zero_add, List.nil_append] at o1
  obtain ⟨A3, c3, rfl⟩ := own_form o1
  refine ⟨A3, c3, rfl, ⟨o1, (((((Below.refl _ _).alloc (Nat.le_refl _) _).alloc (by simp) _).drew).grown g1 (by show _ ≤ ((w2.alloc ZB).alloc EB).heap.size; simp; omega) (fun g hg => by have : some (w2.heap.size + 1) = some g := hg; injection this; omega))⟩, ?_⟩
  refine (g1.block w2.heap.size (by show _ < ((w2.alloc ZB).alloc EB).heap.size; simp; omega) (fun e => by have : some w2.heap.size = some (w2.heap.size + 1) := e; simp at this)).trans ?_
  exact (Below.heap_alloc _ _ _ (by simp)).trans (heap_alloc_new _ _)
theorem app3 {w2 w3 : World} {act : List Int} {v1 : Value} (o1 : w3.ownsRow w2.heap.size 3 1 v1 (0 + act.length) (([] ++ act).map (Value.int .i64))) (g1 : (((w2.alloc EB).alloc ZB).drew).grownBy w3 (Value.slice (some ⟨w2.heap.size, 0, none⟩) 0 0).ownBlock) :
    ∃ A3 c3, v1 = .slice A3 act.length c3 ∧ App w2 act A3 c3 w3 ∧ Box w3 (w2.heap.size + 1) (.slice none 0 0) (.slice none 0 0) (.int .i64 0) := by
  rw [Nat.zero_add, List.nil_append] at o1
  obtain ⟨A3, c3, rfl⟩ := own_form o1
  refine ⟨A3, c3, rfl, ⟨o1, (((((Below.refl _ _).alloc (Nat.le_refl _) _).alloc (by simp) _).drew).grown g1 (by show _ ≤ ((w2.alloc EB).alloc ZB).heap.size; simp; omega) (fun g hg => by have : some w2.heap.size = some g := hg; injection this; omega))⟩, ?_⟩
  refine (g1.block (w2.heap.size + 1) (by show _ < ((w2.alloc EB).alloc ZB).heap.size; simp) (fun e => by have : some (w2.heap.size + 1) = some w2.heap.size := e; simp at this)).trans ?_
  have e := heap_alloc_new (w2.alloc EB) ZB
  rw [show (w2.alloc EB).heap.size = w2.heap.size + 1 by simp] at e
  exact e
theorem own_made2 (w : World) (o : Obj) (base : Nat) (hb : base ≤ w.heap.size + 1) : ((w.alloc o).alloc EB).ownsRow base 3 1 (.slice (some ⟨w.heap.size + 1, 0, none⟩) 0 0) 0 (([] : List Int).map (Value.int .i64)) := by
  have e : (w.alloc o).heap.size = w.heap.size + 1 := by simp
  have := World.ownsRow_made (base := base) (w.alloc o) #[] 0 (e := 3) (size := 1) (by omega) (Nat.zero_le _) rfl
  rw [e] at this
  exact this

theorem SortedSeg.of_pairwise {act l : List Int} (h : l.Pairwise (fun a b => ¬ ltO act b a)) : SortedSeg act 0 l.length l := by
  rw [List.pairwise_iff_getElem] at h
  intro p q _ h2 h3
  have := h p q (by omega) h3 h2
  rwa [elt_lt (show p < l.length by omega), elt_lt h3]
theorem others_sorted {act l : List Int} {y x : Int} {v : Nat} (hv : Valid act l y) (h1 : v < act.length) : SortedSeg (act.set v x) 0 (others l v).length (others l v) := by
  refine SortedSeg.of_pairwise ?_
  unfold others
  refine ((SortedSeg.pairwise (sorted_of_valid hv)).filter _).imp_of_mem fun {a b} ha hb hr => ?_
  have ma := List.mem_filter.1 ha
  have mb := List.mem_filter.1 hb
  rw [ltO_set h1 (hv.dom b mb.1).1 (hv.dom a ma.1).1 (by simpa using mb.2) (by simpa using ma.2)]
  exact hr
theorem others_none {l : List Int} {v : Int} (h : v ∉ l) : others l v = l := by
  unfold others
  rw [List.filter_eq_self]
  intro a ha
  simp
  intro e; subst e; exact h ha
theorem others_perm {l : List Int} {v : Int} (hn : l.Nodup) (h : v ∈ l) : (v :: others l v).Perm l := by
  have e : others l v = l.erase v := by
    rw [hn.erase_eq_filter]
    unfold others
    congr 1
    funext x
    by_cases hx : x = v <;> simp [hx]
  rw [e]
  exact (List.perm_cons_erase h).symm

section
variable (A : Option Addr) (n c : Nat) (act : List Int) (A' : Option Addr) (n' c' : Nat) (l : List Int) (y : Int) (w : World)

set_option maxHeartbeats 2000000 in
theorem rbump_bad (v : Int) (h : RI w A n c act) (h' : RI w A' n' c' l) (hk : checkB act l y = false) :
    Calls Try.prog 20 #[.agg #[.slice A n c, .slice A' n' c', .int .i64 y], .int .i64 v] w fun e w' => e = .returned (.tuple #[zeroH, .int .i64 1]) ∧ Below w.heap.size w w' := by
  have H := Lib.hid h
  have H' := Lib.hid h'
  have HK := Lib.hid hk
  clear h h' hk
  go_enter Try.func20, Try.ntmps20
  go_wp2_with fail
  refine (rcheck_any A n c act A' n' c' l y _ ((H.out.alloc _).alloc _) ((H'.out.alloc _).alloc _)).mono ?_
  rintro e w1 ⟨rfl, hb⟩
  rw [HK.out, show errB false = 1 from rfl]
  obtain ⟨b1, b2, b3, b4⟩ := two_boxes w _ _ _ hb
  have BR := Lib.hid b2
  have HB := Lib.hid b3
  clear b1 b2 b3 hb
  have s0 := BR.out.c0; have s1 := BR.out.c1; have s2 := BR.out.c2
  have f0 := BR.out.f 0; have f1 := BR.out.f 1; have f2 := BR.out.f 2
  go_wp2_with fail
  refine bodyPost_ret (v := .tuple #[zeroH, .int .i64 1]) (by simp [results, Try.results20, go_sem, s0, s1, s2]) rfl ⟨rfl, ?_⟩
  exact ((HB.out.setCell (by simp) _).setCell (by simp) _).setCell (by simp) _

set_option maxHeartbeats 2000000 in
theorem rbump_unknown (v : Int) (h : RI w A n c act) (h' : RI w A' n' c' l) (hk : checkB act l y = true) (hv : knownB n v = false) :
    Calls Try.prog 20 #[.agg #[.slice A n c, .slice A' n' c', .int .i64 y], .int .i64 v] w fun e w' => e = .returned (.tuple #[zeroH, .int .i64 1]) ∧ Below w.heap.size w w' := by
  have H := Lib.hid h
  have H' := Lib.hid h'
  have HK := Lib.hid hk
  have HKN := Lib.hid hv
  clear h h' hk hv
  go_enter Try.func20, Try.ntmps20
  go_wp2_with fail
  refine (rcheck_any A n c act A' n' c' l y _ ((H.out.alloc _).alloc _) ((H'.out.alloc _).alloc _)).mono ?_
  rintro e w1 ⟨rfl, hb⟩
  rw [HK.out, show errB true = 0 from rfl]
  obtain ⟨b1, b2, b3, b4⟩ := two_boxes w _ _ _ hb
  have BH := Lib.hid b1
  have BR := Lib.hid b2
  have HB := Lib.hid b3
  clear b1 b2 b3 hb
  have p0 := BH.out.c0; have p1 := BH.out.c1; have p2 := BH.out.c2
  go_wp2_with fail
  refine (variable_val false A n c A' n' c' y v _ HKN.out).mono ?_
  rintro e w2 ⟨rfl, hb⟩
  replace BR := Lib.hid (BR.out.below hb)
  replace HB := Lib.hid (HB.out.trans (hb.mono HB.out.size))
  clear hb p0 p1 p2
  have s0 := BR.out.c0; have s1 := BR.out.c1; have s2 := BR.out.c2
  have f0 := BR.out.f 0; have f1 := BR.out.f 1; have f2 := BR.out.f 2
  go_wp2_with fail
  refine bodyPost_ret (v := .tuple #[zeroH, .int .i64 1]) (by simp [results, Try.results20, go_sem, s0, s1, s2]) rfl ⟨rfl, ?_⟩
  exact ((HB.out.setCell (by simp) _).setCell (by simp) _).setCell (by simp) _

set_option maxRecDepth 100000 in
set_option maxHeartbeats 8000000 in
theorem rbump_ok (v : Nat) (h : RI w A n c act) (h' : RI w A' n' c' l) (hk : Valid act l y) (hv : 0 < v ∧ v < act.length) (hN : l.length ≤ 1000000) (hM : act.length ≤ 1000000) :
    Calls Try.prog 20 #[.agg #[.slice A n c, .slice A' n' c', .int .i64 y], .int .i64 v] w (ScOk (sclA (act.set v (elt act v + y)) y) l (sclY (act.set v (elt act v + y)) y) w) := by
  obtain rfl : act.length = n := h.len
  obtain rfl : l.length = n' := h'.len
  obtain ⟨hv0, hv1⟩ := hv
  have HKN : Hid (knownB act.length v = true) := knownB_iff.2 ⟨by omega, by omega⟩
  have H := Lib.hid h
  have H' := Lib.hid h'
  have HV := Lib.hid hk
  have ry1 := hk.by1
  have ry2 := hk.by2
  have rv := hk.rng v hv1
  clear h h' hk
  go_enter Try.func20, Try.ntmps20
  go_wp2_with fail
  refine (rcheck_any A _ c act A' _ c' l y _ ((H.out.alloc _).alloc _) ((H'.out.alloc _).alloc _)).mono ?_
  rintro e w1 ⟨rfl, hb⟩
  rw [(valid_iff _ _ _).2 HV.out, show errB true = 0 from rfl]
  obtain ⟨b1, b2, b3, b4⟩ := two_boxes w _ _ _ hb
  have BH := Lib.hid b1
  have BR := Lib.hid b2
  have HB := Lib.hid b3
  clear b1 b2 b3 hb
  have p0 := BH.out.c0; have p1 := BH.out.c1; have p2 := BH.out.c2
  go_wp2_with fail
  refine (variable_val true A _ c A' _ c' y v _ HKN.out).mono ?_
  rintro e w2 ⟨rfl, hb⟩
  replace BR := Lib.hid (BR.out.below hb)
  replace BH := Lib.hid (BH.out.below hb)
  replace HB := Lib.hid (HB.out.trans (hb.mono HB.out.size))
  clear hb p0 p1 p2 b4
  have p0 := BH.out.c0; have p1 := BH.out.c1; have p2 := BH.out.c2
  have hs1 : w.heap.size + 1 < w2.heap.size := lt_of_block BR.out
  have hs0 : w.heap.size < w2.heap.size := by omega
  go_upto_region 6 with fail
  go_cut [7] (fun s wx => ∃ (X g cx : Nat) (rs : List Value), s = .pointer (some ⟨X, 0, none⟩) ∧ Box wx X (.slice (some ⟨g, 0, none⟩) act.length cx) (.slice A' l.length c') (.int .i64 y) ∧
    wx.heap[g]? = some (.cells (act.map (Value.int .i64) ++ rs).toArray 3 (0, 0)) ∧ act.length ≤ cx ∧ cx ≤ maxLen ∧ w2.heap.size ≤ X ∧ w2.heap.size ≤ g ∧ Below w2.heap.size w2 wx)
  case first =>
    have own1 : Hid ((w2.alloc EB).ownsRow w2.heap.size 3 1 (.slice (some ⟨w2.heap.size, 0, none⟩) 0 0) 0 (([] : List Int).map (Value.int .i64))) := World.ownsRow_made w2 #[] 0 (Nat.le_refl _) (Nat.zero_le _) rfl
    go_region_held3 (fun w' => w'.cell? ⟨w.heap.size, 0, none⟩ = some (.slice A act.length c) ∧ w'.cell? ⟨w.heap.size, 1, none⟩ = some (.slice A' l.length c') ∧ w'.cell? ⟨w.heap.size, 2, none⟩ = some (.int .i64 y)) (first | exact ⟨p0, p1, p2⟩ | exact ⟨r0, r1, r2⟩ | (refine ⟨?_, ?_, ?_⟩ <;> (rw [World.cell?_setCell_other _ _ _ _ (fun e => by first | exact (nb hs0).1 (congrArg Addr.block e) | exact (nb hs0).2 (congrArg Addr.block e) | exact (nb hs0).1 (congrArg Addr.block e).symm | exact (nb hs0).2 (congrArg Addr.block e).symm), World.cell?_setCell_other _ _ _ _ (fun e => by first | exact (nb hs0).1 (congrArg Addr.block e) | exact (nb hs0).2 (congrArg Addr.block e) | exact (nb hs0).1 (congrArg Addr.block e).symm | exact (nb hs0).2 (congrArg Addr.block e).symm), World.cell?_setCell_other _ _ _ _ (fun e => by first | exact (nb hs0).1 (congrArg Addr.block e) | exact (nb hs0).2 (congrArg Addr.block e) | exact (nb hs0).1 (congrArg Addr.block e).symm | exact (nb hs0).2 (congrArg Addr.block e).symm)]; assumption)) | go_keep)
      (first
        | (refine step_append_ri rfl (.tmp 19) (.tmp 21) rfl w2.heap.size (.slice (some ⟨w2.heap.size, 0, none⟩) 0 0) 0 [] rfl own1.out A act.length c act rfl ?_ ?_ ?_ ?_; exact ((H.out.below HB.out).alloc EB).drew; omega; (show _ ≤ (w2.alloc EB).heap.size; simp); intro v1 w3 o1 g1 l1; obtain ⟨A3, c3, rfl, ap⟩ := app1 o1 g1; have AP := Lib.hid ap; have BH3 := Lib.hid (BH.out.below AP.out.below); have r0 := BH3.out.c0; have r1 := BH3.out.c1; have r2 := BH3.out.c2; clear o1 g1 l1 ap)
        | (refine step_append_ri rfl (.tmp 19) (.tmp 21) rfl w2.heap.size (.slice (some ⟨w2.heap.size + 1, 0, none⟩) 0 0) 0 [] rfl (own_made2 w2 ZB w2.heap.size (Nat.le_add_right _ _)) A act.length c act rfl ?_ ?_ ?_ ?_; exact (((H.out.below HB.out).alloc ZB).alloc EB).drew; omega; (show _ ≤ ((w2.alloc ZB).alloc EB).heap.size; simp; omega); intro v1 w3 o1 g1 l1; obtain ⟨A3, c3, rfl, ap, bz⟩ := app2 o1 g1; have AP := Lib.hid ap; have BZ := Lib.hid bz; have BH3 := Lib.hid (BH.out.below AP.out.below); have r0 := BH3.out.c0; have r1 := BH3.out.c1; have r2 := BH3.out.c2; have s0 := BZ.out.c0; have s1 := BZ.out.c1; have s2 := BZ.out.c2; have f0 := BZ.out.f 0; have f1 := BZ.out.f 1; have f2 := BZ.out.f 2; clear o1 g1 l1 ap bz)
        | (refine step_append_ri rfl (.tmp 19) (.tmp 21) rfl w2.heap.size (.slice (some ⟨w2.heap.size, 0, none⟩) 0 0) 0 [] rfl (own1.out.alloc ZB) A act.length c act rfl ?_ ?_ ?_ ?_; exact (((H.out.below HB.out).alloc EB).alloc ZB).drew; omega; (show _ ≤ ((w2.alloc EB).alloc ZB).heap.size; simp; omega); intro v1 w3 o1 g1 l1; obtain ⟨A3, c3, rfl, ap, bz⟩ := app3 o1 g1; have AP := Lib.hid ap; have BZ := Lib.hid bz; have BH3 := Lib.hid (BH.out.below AP.out.below); have r0 := BH3.out.c0; have r1 := BH3.out.c1; have r2 := BH3.out.c2; have s0 := BZ.out.c0; have s1 := BZ.out.c1; have s2 := BZ.out.c2; have f0 := BZ.out.f 0; have f1 := BZ.out.f 1; have f2 := BZ.out.f 2; clear o1 g1 l1 ap bz))
    · obtain ⟨g, rs, rfl, hg, hh⟩ := own_row AP.out.own (by omega)
      obtain ⟨k1, k2⟩ := own_caps AP.out.own
      have hsz := AP.out.below.size
      have HH := Lib.hid hh
      clear hh r0 r1 r2
      go_wp2_with fail
      go_meet
      exact ⟨w3.heap.size, g, c3, rs, rfl, Box.new _ _ _ _, (Below.heap_alloc _ _ _ (lt_of_block HH.out)).trans HH.out, k1, k2, hsz, hg, belowA AP.out.below _⟩
    · obtain ⟨g, rs, rfl, hg, hh⟩ := own_row AP.out.own (by omega)
      obtain ⟨k1, k2⟩ := own_caps AP.out.own
      have hne : g ≠ w2.heap.size + 1 := fun e => by
        subst e
        have := BZ.out; unfold Box at this; rw [hh] at this; injection this with this; injection this with _ ht; exact absurd ht (by decide)
      have HH := Lib.hid hh
      clear hh r0 r1 r2 s0 s1 s2 f0 f1 f2
      go_wp2_with fail
      go_meet
      exact ⟨w2.heap.size + 1, g, c3, rs, rfl, set012 BZ.out, (Below.heap_setCell _ _ _ _ hne).trans ((Below.heap_setCell _ _ _ _ hne).trans ((Below.heap_setCell _ _ _ _ hne).trans HH.out)), k1, k2, by omega, hg, ((AP.out.below.setCell (by simp) _).setCell (by simp) _).setCell (by simp) _⟩
    · obtain ⟨g, rs, rfl, hg, hh⟩ := own_row AP.out.own (by omega)
      obtain ⟨k1, k2⟩ := own_caps AP.out.own
      have hne : g ≠ w2.heap.size := fun e => by
        subst e
        have := BZ.out; unfold Box at this; rw [hh] at this; injection this with this; injection this with _ ht; exact absurd ht (by decide)
      have HH := Lib.hid hh
      clear hh r0 r1 r2 s0 s1 s2 f0 f1 f2
      go_wp2_with fail
      go_meet
      exact ⟨w2.heap.size, g, c3, rs, rfl, set012 BZ.out, (Below.heap_setCell _ _ _ _ hne).trans ((Below.heap_setCell _ _ _ _ hne).trans ((Below.heap_setCell _ _ _ _ hne).trans HH.out)), k1, k2, Nat.le_refl _, hg, ((AP.out.below.setCell (by simp) _).setCell (by simp) _).setCell (by simp) _⟩
  case rest =>
    obtain ⟨X, g, cx, rs, rfl, bX, row, hc1, hc2, hX, hg, hb⟩ := hcut
    have hXg : X ≠ g := fun e => by
      subst e
      have := bX; unfold Box at this; rw [row] at this; injection this with this; injection this with _ ht; exact absurd ht (by decide)
    have SR := Lib.hid (Srt.start row)
    have BX := Lib.hid bX
    replace BH := Lib.hid (BH.out.below hb)
    replace BR := Lib.hid (BR.out.below hb)
    replace HB := Lib.hid (HB.out.trans (hb.mono HB.out.size))
    have hcv := SR.out.cell hv1
    have hfv : wc.frozen? ⟨g, v, none⟩ = false := SR.out.frozen _
    have lv : (v : Int) < (act.length : Int) := by omega
    have hw : IntKind.i64.wrap (elt act v + y) = elt act v + y := by rw [IntKind.wrap_i64]; omega
    clear bX row hb p0 p1 p2
    have p2 := BH.out.c2
    have x0 := BX.out.c0
    go_wp2_with fail
    go_region
    have S2 := Lib.hid ((SR.out.set hv1 (elt act v + y)).drew)
    obtain ⟨W, hW⟩ : ∃ W, (wc.setCell ⟨g, v, none⟩ (.int .i64 (elt act v + y))).drew = W := ⟨_, rfl⟩
    rw [hW]
    rw [hW] at S2
    have GR := Lib.hid S2.out.grown
    have hgH : g ≠ w.heap.size := by omega
    have hgR : g ≠ w.heap.size + 1 := by omega
    replace BX := Lib.hid (BX.out.grown GR.out (fun e => hXg (by injection e with e; exact e.symm)))
    replace BH := Lib.hid (BH.out.grown GR.out (fun e => hgH (by injection e)))
    replace BR := Lib.hid (BR.out.grown GR.out (fun e => hgR (by injection e)))
    replace HB := Lib.hid (HB.out.grown GR.out HB.out.size (fun k hk => by injection hk with hk; omega))
    have al : (act.set v (elt act v + y)).length = act.length := by simp
    have RX : Hid (RI W (some ⟨g, 0, none⟩) act.length cx (act.set v (elt act v + y))) := by
      have := RI.of_srt (c := cx) S2.out ⟨by rw [al]; exact hc1, hc2, by rw [al]; omega⟩
      rwa [al] at this
    have HSM := Lib.hid (others_sorted (x := elt act v + y) HV.out hv1)
    have HMID := Lib.hid (HV.out.mid_set hv1)
    have AL := Lib.hid al
    have hdom := Lib.hid HV.out.dom
    generalize hA2 : act.set v (elt act v + y) = act2 at S2 RX HSM HMID AL ⊢
    clear hcv hfv hw p2 x0 hW SR GR al
    have p1 := BH.out.c1
    go_wp2_with fail
    refine (in_any _ _ _ l v _ (H'.out.below HB.out)).mono ?_
    rintro e w4 ⟨rfl, rfl⟩
    clear p1
    generalize hhas : hasB l v = hs
    have HHAS := Lib.hid hhas
    clear hhas
    go_upto_if 43 with fail
    go_cut [] (fun wx => ∃ (A3 : Option Addr) (c3 : Nat) (l2 : List Int), Box wx X (.slice (some ⟨g, 0, none⟩) act.length cx) (.slice A3 l.length c3) (.int .i64 y) ∧ RI wx (some ⟨g, 0, none⟩) act.length cx act2 ∧ RI wx A3 l.length c3 l2 ∧ l2.Perm l ∧ SortedSeg act2 0 l.length l2 ∧
      (∀ b off, A3 = some ⟨b, off, none⟩ → 0 < l.length → b ≠ w.heap.size + 1) ∧ Box wx (w.heap.size + 1) (.slice none 0 0) (.slice none 0 0) (.int .i64 0) ∧ Below w.heap.size w wx)
    case first =>
      cases hs
      · have hm : (v : Int) ∉ l := fun h => by have := hasB_iff.2 h; rw [HHAS.out] at this; cases this
        have eo := others_none hm
        have HE := Lib.hid eo
        clear hm eo
        go_wp2_with fail
        go_meet
        exact ⟨A', c', l, BX.out, RX.out, H'.out.below HB.out, List.Perm.refl _, by have := HSM.out; rwa [HE.out] at this, fun b off e h0 => by have := H'.out.lt h0 b off e; omega, BR.out, HB.out⟩
      · have hm : (v : Int) ∈ l := hasB_iff.1 HHAS.out
        have hpo := others_perm HV.out.nodup hm
        have HPO := Lib.hid hpo
        have hol : (others l v).length + 1 = l.length := by have := hpo.length_eq; simpa using this
        have hdo : Dom act.length (others l v) := fun z hz => hdom.out z ((List.mem_filter.1 hz).1)
        have HDO := Lib.hid hdo
        have HOL := Lib.hid hol
        clear hm hpo hol hdo
        have p1 := BH.out.c1
        have x0 := BX.out.c0; have x1 := BX.out.c1; have x2 := BX.out.c2
        have fx := BX.out.f 1
        have hsX : X < W.heap.size := lt_of_block BX.out
        have hsH : w.heap.size < W.heap.size := lt_of_block BH.out
        go_wp2_with fail
        go_region_with (first
          | (go_at_call 38; refine (without_any A' l.length c' l v _ ?_ hN).mono ?_; exact (H'.out.below HB.out).drew; rintro e w5 ⟨O5, c5, rfl, r5, fr5, hb5⟩; replace hb5 := undrew hb5; have BX5 := Lib.hid (BX.out.below hb5); have y0 := BX5.out.c0; have y1 := BX5.out.c1; have y2 := BX5.out.c2; have R5 := Lib.hid r5; have F5 := Lib.hid fr5; have HB5 := Lib.hid hb5; clear r5 fr5 hb5)
          | (go_at_call 37; refine (put_any (some ⟨g, 0, none⟩) act.length cx act2 _ _ _ y O5 (others l v).length c5 (others l v) v _ ?_ ?_ HDO.out ?_ ?_).mono ?_; exact RX.out.below HB5.out; exact R5.out; omega; (have := HOL.out; omega); rintro e w6 ⟨i, hi, hlo, hhi, A6, c6, rfl, r6, fr6, hb6⟩; have BX6 := Lib.hid (BX5.out.below hb6); have z0 := BX6.out.c0; have z1 := BX6.out.c1; have z2 := BX6.out.c2; have fz := BX6.out.f 1; have R6 := Lib.hid r6; have F6 := Lib.hid fr6; have HB6 := Lib.hid hb6; have LO := Lib.hid hlo; have HI := Lib.hid hhi; clear r6 fr6 hb6 hlo hhi))
        all_goals
          go_wp2_with fail
          go_meet
          have hbW : Below W.heap.size W w6 := HB5.out.trans (HB6.out.mono HB5.out.size)
          have el : (insAt (others l v) i v).length = l.length := by rw [insAt_len _ _ _ hi]; exact HOL.out
          have GS := set_grown w6 ⟨X, 1, none⟩ (.slice A6 (insAt (others l v) i v).length c6)
          have hs5 := HB5.out.size
          refine ⟨A6, c6, insAt (others l v) i v, ?_, (RX.out.below hbW).setOther _ fun b off e => by cases e; simp; omega, ?_, (insAt_perm _ _ _).trans HPO.out, ?_, fun b off e _ => by have := F6.out b off e; omega, (BR.out.below hbW).grown GS (by simp; omega), (HB.out.trans (hbW.mono HB.out.size)).setCell (by simp; omega) _⟩
          · have := box_set1 (v := .slice A6 (insAt (others l v) i v).length c6) BX6.out
            rw [el] at this ⊢
            exact this
          · rw [← el]; exact R6.out.setOther _ fun b off e => by have := F6.out b off e; simp; omega
          · have := put_sorted HSM.out hi LO.out HI.out
            rw [HOL.out] at this; exact this
    case rest =>
      obtain ⟨A3, c3, l2, bx, rx, r3, hp, hso, hf3, br, hb⟩ := hcut
      clear BX BR RX HB
      have BX := Lib.hid bx
      have RX := Lib.hid rx
      have R3 := Lib.hid r3
      have HP := Lib.hid hp
      have HSO := Lib.hid hso
      have F3 := Lib.hid hf3
      have BR := Lib.hid br
      have HB := Lib.hid hb
      have el2 : l2.length = l.length := hp.length_eq
      have hdl : Dom act.length l2 := fun z hz => hdom.out z (hp.mem_iff.1 hz)
      have HDL := Lib.hid hdl
      have EL := Lib.hid el2
      have HA2 := Lib.hid hA2
      have hpos : 0 < act.length := by omega
      clear bx rx r3 hp hso hf3 br hb el2 hdl hA2
      have x0 := BX.out.c0; have x1 := BX.out.c1; have x2 := BX.out.c2
      go_wp2_with fail
      generalize hbg : bigB act2 y = bg
      have HBG := Lib.hid hbg
      clear hbg
      cases bg
      · refine (rscaled_small (some ⟨g, 0, none⟩) act.length cx act2 A3 _ c3 y _ RX.out hpos HBG.out).mono ?_
        rintro e w5 ⟨rfl, hb⟩
        replace BR := Lib.hid (BR.out.below hb)
        replace RX := Lib.hid (RX.out.below hb)
        replace R3 := Lib.hid (R3.out.below hb)
        replace HB := Lib.hid (HB.out.trans (hb.mono HB.out.size))
        clear hb x0 x1 x2
        have s0 := BR.out.c0; have s1 := BR.out.c1; have s2 := BR.out.c2
        have f0 := BR.out.f 0; have f1 := BR.out.f 1; have f2 := BR.out.f 2
        go_wp2_with fail
        refine bodyPost_ret (v := .tuple #[.agg #[.slice (some ⟨g, 0, none⟩) act.length cx, .slice A3 l.length c3, .int .i64 y], .int .i64 0]) (by simp [results, Try.results20, go_sem, s0, s1, s2]) rfl ?_
        have e1 : sclA act2 y = act2 := by simp [sclA, HBG.out]
        have e2 : sclY act2 y = y := by simp [sclY, HBG.out]
        rw [HA2.out, e1, e2]
        refine ⟨some ⟨g, 0, none⟩, cx, A3, c3, l2, by rw [AL.out, EL.out], ?_, ?_, HP.out, by rw [EL.out]; exact HSO.out, ((HB.out.setCell (by simp) _).setCell (by simp) _).setCell (by simp) _⟩
        · rw [AL.out]; exact RX.out.keep3 fun b off e => by cases e; omega
        · rw [EL.out]
          rcases Nat.eq_zero_or_pos l.length with h0 | h0
          · rw [h0]
            have : l2 = [] := List.eq_nil_of_length_eq_zero (by rw [EL.out]; exact h0)
            rw [this]; exact RI.nil _ _ _ R3.out.cmax
          · exact R3.out.keep3 fun b off e => F3.out b off e h0
      · refine (rscaled_big (some ⟨g, 0, none⟩) act.length cx act2 A3 _ c3 l2 y _ RX.out R3.out hpos HBG.out HMID.out (by omega) (by omega) HDL.out hN hM).mono ?_
        rintro e w5 ⟨E, d, E', d', l3, rfl, r1, r2, hp, hs, hf1, hf2, hb⟩
        have dl : (down act2).length = act.length := by rw [down_len, AL.out]
        have el3 : l3.length = l2.length := hp.length_eq
        have R1 := Lib.hid r1; have R2 := Lib.hid r2; have P2 := Lib.hid hp; have S2' := Lib.hid hs
        have F1 := Lib.hid hf1; have F2 := Lib.hid hf2
        have hsz : w.heap.size + 1 < wc.heap.size := lt_of_block BR.out
        replace BR := Lib.hid (BR.out.below hb)
        replace HB := Lib.hid (HB.out.trans (hb.mono HB.out.size))
        clear hb x0 x1 x2 r1 r2 hp hs hf1 hf2
        have s0 := BR.out.c0; have s1 := BR.out.c1; have s2 := BR.out.c2
        have f0 := BR.out.f 0; have f1 := BR.out.f 1; have f2 := BR.out.f 2
        have EL3 := Lib.hid el3
        clear dl el3
        go_wp2_with fail
        refine bodyPost_ret (v := .tuple #[.agg #[.slice E (down act2).length d, .slice E' l2.length d', .int .i64 (max 1 (y / 1024))], .int .i64 0]) (by simp [results, Try.results20, go_sem, s0, s1, s2]) rfl ?_
        have e1 : sclA act2 y = down act2 := by simp [sclA, HBG.out]
        have e2 : sclY act2 y = max 1 (y / 1024) := by simp only [sclY, HBG.out, if_true]; omega
        rw [HA2.out, e1, e2]
        refine ⟨E, d, E', d', l3, by rw [EL3.out], ?_, ?_, P2.out.trans HP.out, by rw [EL3.out]; exact S2'.out, ((HB.out.setCell (by simp) _).setCell (by simp) _).setCell (by simp) _⟩
        · exact R1.out.keep3 fun b off e => by have := F1.out b off e; omega
        · rw [EL3.out]; exact R2.out.keep3 fun b off e => by have := F2.out b off e; omega
end

end Go.Proofs.Ythfadkilffmmlaa
