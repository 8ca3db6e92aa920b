/-
  The reference function Rising of layer 20. No condition.
-/
import Derived.Test.YtenpenelikpeeaaE2
namespace Go.Proofs.Ytenpenelikpeeaa
open Go.RowKit Go.Shelf
set_option linter.unusedVariables false
set_option linter.unusedSimpArgs false

theorem snoc_ind {P : List Int → Prop} (h0 : P []) (h1 : ∀ l x, P l → P (l ++ [x])) (l : List Int) : P l := by
  have h : ∀ l : List Int, P l.reverse := fun l => by
    induction l with
    | nil => exact h0
    | cons x l ih => rw [List.reverse_cons]; exact h1 _ _ ih
  have := h l.reverse
  rwa [List.reverse_reverse] at this

/-- put into its place by variable -/
def insV (x : Int) : List Int → List Int
  | [] => [x]
  | y :: l => if absI y < absI x then y :: insV x l else x :: y :: l
def risL (l : List Int) : List Int := l.foldl (fun a x => insV x a) []
theorem risL_snoc (l : List Int) (x : Int) : risL (l ++ [x]) = insV x (risL l) := by unfold risL; rw [List.foldl_append]; rfl
theorem mem_insV {x y : Int} : ∀ {l : List Int}, y ∈ insV x l ↔ y = x ∨ y ∈ l
  | [] => by simp [insV]
  | z :: l => by
    rw [insV]
    split
    · rw [List.mem_cons, mem_insV, List.mem_cons]
      constructor
      · rintro (h | h | h)
        · exact Or.inr (Or.inl h)
        · exact Or.inl h
        · exact Or.inr (Or.inr h)
      · rintro (h | h | h)
        · exact Or.inr (Or.inl h)
        · exact Or.inl h
        · exact Or.inr (Or.inr h)
    · rw [List.mem_cons]
theorem len_insV (x : Int) : ∀ (l : List Int), (insV x l).length = l.length + 1
  | [] => rfl
  | y :: l => by rw [insV]; split <;> simp [len_insV x l]
theorem mem_risL {y : Int} : ∀ {l : List Int}, y ∈ risL l ↔ y ∈ l := by
  intro l
  refine snoc_ind (P := fun l => y ∈ risL l ↔ y ∈ l) (by simp [risL]) (fun l x ih => ?_) l
  rw [risL_snoc, mem_insV, ih, List.mem_append, List.mem_singleton]; exact Or.comm
theorem len_risL (l : List Int) : (risL l).length = l.length := by
  refine snoc_ind (P := fun l => (risL l).length = l.length) rfl (fun l x ih => ?_) l
  rw [risL_snoc, len_insV, ih, List.length_append]; rfl
theorem asc_insV {x : Int} : ∀ {l : List Int}, AscV l → (∀ y ∈ l, absI y ≠ absI x) → AscV (insV x l)
  | [], _, _ => List.pairwise_singleton _ _
  | z :: l, h, hx => by
    have h' := List.pairwise_cons.1 h
    rw [insV]
    split
    · rename_i hz
      refine List.pairwise_cons.2 ⟨fun y hy => ?_, asc_insV h'.2 fun y hy => hx y (by simp [hy])⟩
      rcases mem_insV.1 hy with e | e
      · rw [e]; exact hz
      · exact h'.1 y e
    · rename_i hz
      refine List.pairwise_cons.2 ⟨fun y hy => ?_, h⟩
      have h1 := hx z (by simp)
      rcases List.mem_cons.1 hy with e | e
      · rw [e]; omega
      · have := h'.1 y e; omega
theorem asc_risL {l : List Int} : l.Nodup → Cons l → AscV (risL l) := by
  refine snoc_ind (P := fun l => l.Nodup → Cons l → AscV (risL l)) (fun _ _ => List.Pairwise.nil) (fun l x ih hn hc => ?_) l
  · rw [risL_snoc]
    rw [List.nodup_append] at hn
    refine asc_insV (ih hn.1 ⟨fun y hy => hc.1 y (by simp [hy]), fun y hy h => hc.2 y (by simp [hy]) (by simp [h])⟩) fun y hy e => ?_
    rw [mem_risL] at hy
    have := hc.inj (x := y) (y := x) (by simp [hy]) (by simp) e
    exact hn.2.2 y hy x (by simp) this

theorem insV_at {x : Int} : ∀ (l : List Int) (k : Nat), k ≤ l.length → (∀ j, j < k → absI (elt l j) < absI x) → (k < l.length → ¬ absI (elt l k) < absI x) → insV x l = l.take k ++ x :: l.drop k
  | [], k, hk, _, _ => by
    have : k = 0 := by simpa using hk
    subst this; rfl
  | y :: l, 0, _, _, h2 => by
    have := h2 (by simp)
    rw [insV, if_neg (by have e : elt (y :: l) 0 = y := rfl; rw [e] at this; exact this)]
    rfl
  | y :: l, k + 1, hk, h1, h2 => by
    have h0 : absI y < absI x := h1 0 (by omega)
    rw [insV, if_pos h0, insV_at l k (by simpa using hk) (fun j hj => h1 (j + 1) (by omega)) (fun h => h2 (by simpa using h))]
    rfl

/-- the loop of Rising -/
structure Rh (w W : World) (zs : List Int) (i : Nat) (O : Option Addr) (L co : Nat) (out : List Int) : Prop where
  eq : risL (zs.take i) = out
  len : out.length = L
  ri : RI W O L co out
  below : Below w.heap.size w W

theorem var20_val (r : Int) (x : Int) (w : World) (h0 : -65536 ≤ x) (h1 : x ≤ 65536) (hr : absI x = r) : Calls Try.prog 76 #[.int .i64 x] w fun e w' => e = .returned (.int .i64 r) ∧ w = w' := by
  have := var20_any x w h0 h1
  rw [hr] at this; exact this

set_option maxRecDepth 100000 in
set_option maxHeartbeats 4000000 in
theorem rising_any (A : Option Addr) (n c : Nat) (zs : List Int) (w : World) (h : RI w A n c zs) (hz : Okl zs) (hn : n ≤ 1000000) :
    Calls Try.prog 45 #[.slice A n c] w (Freshd (risL zs) n w) := by
  have H := Lib.hid h
  have HZ := Lib.hid hz
  have HB0 := Lib.hid ((Below.refl w.heap.size w).alloc (Nat.le_refl _) (.cells #[] 3))
  clear h hz
  go_enter Try.func45, Try.ntmps45
  go_wp2
  go_loopw [3, 4] (fun s3 s4 W => ∃ (i : Nat) (O : Option Addr) (L co : Nat) (out : List Int), i ≤ n ∧ L = i ∧ s4 = .int .i64 i ∧ s3 = .slice O L co ∧ Rh w W zs i O L co out) (fun _ i _ => n - (intOf i).toNat)
  case atStart => exact ⟨0, _, 0, 0, [], Nat.zero_le _, rfl, rfl, rfl, rfl, rfl, RI.nil _ _ _ (Nat.zero_le _), HB0.out⟩
  case round =>
    obtain ⟨i, O, L, co, out, hi, hLi, rfl, rfl, hnh⟩ := hrel
    have HN := Lib.hid hnh
    clear hnh
    by_cases hlt : i < n
    · obtain ⟨b, off, rfl, hbl, hc⟩ := (H.out.below HN.out.below).cells (by omega)
      have hci := hc i hlt
      clear hc
      have hl : i < zs.length := by rw [H.out.len]; exact hlt
      have hsn : risL (zs.take (i + 1)) = insV (elt zs i) out := by rw [take_snoc zs i hl, risL_snoc, HN.out.eq]
      have hx := HZ.out.at hl
      have hol : Okl out := fun y hy => by
        rw [← HN.out.eq, mem_risL] at hy
        exact HZ.out y (List.mem_of_mem_take hy)
      have HOL := Lib.hid hol
      have HXB := Lib.hid hx
      have E := Lib.hid hsn
      clear hsn hx hol hl
      generalize elt zs i = x at *
      obtain ⟨vx, hvx⟩ : ∃ vx, absI x = vx := ⟨_, rfl⟩
      have HVX := Lib.hid hvx
      have hLn : L ≤ 1000000 := by omega
      have HLI := Lib.hid hLi
      clear hvx hLi
      go_wp2_with fail
      go_loopw [5] (fun s5 W => ∃ t : Nat, t ≤ L ∧ s5 = .int .i64 t ∧ (∀ j, j < t → absI (elt out j) < vx) ∧ Below wr.heap.size wr W) (fun t _ => L - (intOf t).toNat)
      case atStart => exact ⟨0, Nat.zero_le _, rfl, fun j hj => absurd hj (by omega), Below.refl _ _⟩
      case round =>
        obtain ⟨t, ht, rfl, hall, hbt⟩ := hrel
        have HALL := Lib.hid hall
        have HBT := Lib.hid hbt
        clear hall hbt
        have hci2 := (HBT.out.cell (p := ⟨b, off + i, none⟩) hbl).trans hci
        have hblt := Nat.lt_of_lt_of_le hbl HBT.out.size
        have htc : t ≤ co := by have := HN.out.ri.cap; omega
        by_cases hat : t < L
        · obtain ⟨b4, off4, rfl, hbl4, hc4⟩ := (HN.out.ri.below HBT.out).cells (by omega)
          have hct := hc4 t hat
          have hk4 : t ≤ L := by omega
          clear hc4
          have hto : t < out.length := by rw [HN.out.len]; exact hat
          have hxt := HOL.out.at hto
          have g1 := fun u : Gr wr => u.cell (p := ⟨b, off + i, none⟩) hblt hci2
          have g2 := fun u : Gr wr => u.cell (p := ⟨b4, off4 + t, none⟩) hbl4 hct
          have k1 : (i : Int) < (n : Int) := by omega
          have k2 : (t : Int) < (L : Int) := by omega
          have HXT := Lib.hid hxt
          have HTO := Lib.hid hto
          obtain ⟨vt, hvt⟩ : ∃ vt, absI (elt out t) = vt := ⟨_, rfl⟩
          have HVT := Lib.hid hvt
          clear hxt hto hvt
          by_cases hll : vt < vx
          · have HLL := Lib.hid hll
            go_wp2_with fail
            refine wp_region_grow (by kernel_rfl) (by kernel_rfl) ?_
            repeat (go_big_quiet_step ((go_at_call 76; exact Gr.same _ (var20_val _ _ _ (by first | exact HXT.out.2.1 | exact HXB.out.2.1) (by first | exact HXT.out.2.2 | exact HXB.out.2.2) (by first | exact HVT.out | exact HVX.out)))))
            refine wpQuiet_nil ?_
            rintro w5 ⟨⟨_, hb5⟩, rfl⟩
            have HB5 := Lib.hid hb5
            clear hb5
            go_wp2_with fail
            go_roundw
            case rel =>
              refine ⟨t + 1, by omega, by go_num, fun j hj => ?_, HBT.out.trans (HB5.out.mono HBT.out.size)⟩
              rcases Nat.lt_or_ge j t with h1 | h1
              · exact HALL.out j h1
              · obtain rfl : j = t := by omega
                rw [HVT.out]; exact HLL.out
            case measure => simp [intOf]; omega
          · have HI : Hid (insV x out = out.take t ++ x :: out.drop t) := Lib.hid (insV_at out t (by rw [HN.out.len]; omega) (fun j hj => by rw [HVX.out]; exact HALL.out j hj) (fun _ => by rw [HVX.out, HVT.out]; exact hll))
            have HT := Lib.hid ((HN.out.ri.below HBT.out).take hk4)
            have hd := (HN.out.ri.below HBT.out).cut hk4
            rw [Option.map_some, Addr.add_lit] at hd
            have HD := Lib.hid hd
            have hne : ¬ co = t := by have := HN.out.ri.cap; omega
            clear hd
            go_wp2_with fail
            refine wp_region_grow (by kernel_rfl) (by kernel_rfl) ?_
            repeat (go_big_quiet_step ((go_at_call 76; exact Gr.same _ (var20_val _ _ _ (by first | exact HXT.out.2.1 | exact HXB.out.2.1) (by first | exact HXT.out.2.2 | exact HXB.out.2.2) (by first | exact HVT.out | exact HVX.out)))))
            refine wpQuiet_nil ?_
            rintro w5 ⟨⟨_, hb5⟩, rfl⟩
            have HB5 := Lib.hid (HBT.out.trans (hb5.mono HBT.out.size))
            have HT5 := Lib.hid (HT.out.below hb5)
            have HD5 := Lib.hid (HD.out.below hb5)
            have hci5 := (hb5.cell (p := ⟨b, off + i, none⟩) hblt).trans hci2
            have hbl5 := Nat.lt_of_lt_of_le hblt hb5.size
            have HOE := Lib.hid (own_empty w5 w5.heap.size w5.heap.size 3 rfl (Nat.le_refl _))
            have HBE := Lib.hid ((Below.refl w5.heap.size w5).alloc (Nat.le_refl _) (.cells #[] 3))
            clear hb5 g1 g2
            go_wp2_with (first
              | (at_builtin; refine wpList_append_to (wr := w5) rfl (.tmp 33) (.tmp 36) rfl HBE.out (.slice (some ⟨w5.heap.size, 0, none⟩) 0 0) 0 [] rfl HOE.out (some ⟨b4, off4, none⟩) t co (out.take t) rfl (HT5.out.alloc _) (by omega) t (by omega) (out.take t) rfl ?_; intro A8 c8 w8 ho8 hb8; have HO8 := Lib.hid ho8; have HB8 := Lib.hid hb8; have hci8 := (hb8.cell (p := ⟨b, off + i, none⟩) hbl5).trans hci5; clear ho8 hb8)
              | (at_builtin; refine wpList_append_to (wr := w5) rfl (.tmp 38) (.tmp 43) rfl (HB8.out.alloc HB8.out.size _) (.slice A8 t c8) t (out.take t) rfl (HO8.out.alloc _) (some ⟨w8.heap.size, 0, none⟩) 1 1 [x] rfl (RI.lit w8 [x] 1 _ rfl rfl (by omega)) (by omega) (t + 1) rfl (out.take t ++ [x]) rfl ?_; intro A9 c9 w9 ho9 hb9; have HO9 := Lib.hid ho9; have HB9 := Lib.hid hb9; clear ho9 hb9)
              | (at_builtin; refine wpList_append_to (wr := w5) rfl (.tmp 45) (.tmp 48) rfl HB9.out (.slice A9 (t + 1) c9) (t + 1) (out.take t ++ [x]) rfl HO9.out _ _ _ (out.drop t) rfl (by first | exact HD5.out.below HB9.out | exact RI.zero (by omega) (by rw [List.length_drop, HN.out.len]; omega) (by unfold maxLen; omega)) (by omega) (L + 1) (by omega) (insV x out) (by rw [HI.out, List.append_assoc]; rfl) ?_; intro A10 c10 w10 ho10 hb10; have HO10 := Lib.hid ho10; have HB10 := Lib.hid hb10; clear ho10 hb10))
            all_goals go_roundw
            all_goals first
              | exact ⟨i + 1, A10, L + 1, c10, insV x out, by omega, by have := HLI.out; omega, by go_num, rfl, E.out, by rw [len_insV, HN.out.len], RI.of_own HO10.out (by omega), HN.out.below.trans ((HB5.out.trans (HB10.out.mono HB5.out.size)).mono HN.out.below.size)⟩
              | (simp [intOf]; omega)
        · obtain rfl : t = L := by omega
          have HI : Hid (insV x out = out.take t ++ x :: out.drop t) := Lib.hid (insV_at out t (by rw [HN.out.len]; omega) (fun j hj => by rw [HVX.out]; exact HALL.out j hj) (fun h => absurd h (by rw [HN.out.len]; omega)))
          have HT := Lib.hid ((HN.out.ri.below HBT.out).take (Nat.le_refl t))
          have HD := Lib.hid ((HN.out.ri.below HBT.out).cut (Nat.le_refl t))
          have hcm := HN.out.ri.cmax
          unfold maxLen at hcm
          have kL : ¬ (t : Int) < (t : Int) := by omega
          have k1 : (i : Int) < (n : Int) := by omega
          go_wp2_with fail
          refine wp_region_grow (by kernel_rfl) (by kernel_rfl) ?_
          repeat (go_big_quiet_step (fail))
          refine wpQuiet_nil ?_
          rintro w5 ⟨⟨_, hb5⟩, rfl⟩
          have HB5 := Lib.hid (HBT.out.trans (hb5.mono HBT.out.size))
          have HT5 := Lib.hid (HT.out.below hb5)
          have HD5 := Lib.hid (HD.out.below hb5)
          have hci5 := (hb5.cell (p := ⟨b, off + i, none⟩) hblt).trans hci2
          have hbl5 := Nat.lt_of_lt_of_le hblt hb5.size
          have HOE := Lib.hid (own_empty w5 w5.heap.size w5.heap.size 3 rfl (Nat.le_refl _))
          have HBE := Lib.hid ((Below.refl w5.heap.size w5).alloc (Nat.le_refl _) (.cells #[] 3))
          clear hb5 kL
          go_wp2_with (first
            | (at_builtin; refine wpList_append_to (wr := w5) rfl (.tmp 33) (.tmp 36) rfl HBE.out (.slice (some ⟨w5.heap.size, 0, none⟩) 0 0) 0 [] rfl HOE.out (O) t co (out.take t) rfl (HT5.out.alloc _) (by omega) t (by omega) (out.take t) rfl ?_; intro A8 c8 w8 ho8 hb8; have HO8 := Lib.hid ho8; have HB8 := Lib.hid hb8; have hci8 := (hb8.cell (p := ⟨b, off + i, none⟩) hbl5).trans hci5; clear ho8 hb8)
            | (at_builtin; refine wpList_append_to (wr := w5) rfl (.tmp 38) (.tmp 43) rfl (HB8.out.alloc HB8.out.size _) (.slice A8 t c8) t (out.take t) rfl (HO8.out.alloc _) (some ⟨w8.heap.size, 0, none⟩) 1 1 [x] rfl (RI.lit w8 [x] 1 _ rfl rfl (by omega)) (by omega) (t + 1) rfl (out.take t ++ [x]) rfl ?_; intro A9 c9 w9 ho9 hb9; have HO9 := Lib.hid ho9; have HB9 := Lib.hid hb9; clear ho9 hb9)
            | (at_builtin; refine wpList_append_to (wr := w5) rfl (.tmp 45) (.tmp 48) rfl HB9.out (.slice A9 (t + 1) c9) (t + 1) (out.take t ++ [x]) rfl HO9.out _ _ _ (out.drop t) rfl (by first | exact HD5.out.below HB9.out | exact RI.zero (by omega) (by rw [List.length_drop, HN.out.len]; omega) (by unfold maxLen; omega)) (by omega) (t + 1) (by omega) (insV x out) (by rw [HI.out, List.append_assoc]; rfl) ?_; intro A10 c10 w10 ho10 hb10; have HO10 := Lib.hid ho10; have HB10 := Lib.hid hb10; clear ho10 hb10))
          all_goals go_roundw
          all_goals first
            | exact ⟨i + 1, A10, t + 1, c10, insV x out, by omega, by have := HLI.out; omega, by go_num, rfl, E.out, by rw [len_insV, HN.out.len], RI.of_own HO10.out (by omega), HN.out.below.trans ((HB5.out.trans (HB10.out.mono HB5.out.size)).mono HN.out.below.size)⟩
            | (simp [intOf]; omega)
    · obtain rfl : i = n := by omega
      have e1 : risL zs = out := by have := HN.out.eq; rwa [List.take_of_length_le (by rw [H.out.len]; omega)] at this
      have E1 := Lib.hid e1
      clear e1
      subst hLi
      go_wp2
      go_ret
      exact ⟨O, co, rfl, by rw [E1.out]; exact HN.out.ri, HN.out.below⟩

end Go.Proofs.Ytenpenelikpeeaa
