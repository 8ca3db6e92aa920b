/-
  The reference function Rising of layer 20. No condition.
  What First answers, in plain words; the reference's loop stays on the derivation's road. No program in sight. No condition.
-/
import Derived.Test.YtenpenelikpeeaaZC7

namespace Go.Proofs.Ytenpenelikpeeaa
open Go.RowKit Go.Shelf
set_option linter.unusedVariables false
set_option linter.unusedSimpArgs false

theorem snoc_ind {P : List Int → Prop} (h0 : P []) (h1 : ∀ l x, P l → P (l ++ [x])) (l : List Int) : P l := by
  have h : ∀ l : List Int, P l.reverse := fun l => by
    induction l with
    | nil => exact h0
    | cons x l ih => rw [List.reverse_cons]; exact h1 _ _ ih
  have := h l.reverse
  rwa [List.reverse_reverse] at this

/-- put into its place by variable -/
def insV (x : Int) : List Int → List Int
  | [] => [x]
  | y :: l => if absI y < absI x then y :: insV x l else x :: y :: l
def risL (l : List Int) : List Int := l.foldl (fun a x => insV x a) []
theorem risL_snoc (l : List Int) (x : Int) : risL (l ++ [x]) = insV x (risL l) := by unfold risL; rw [List.foldl_append]; rfl
theorem mem_insV {x y : Int} : ∀ {l : List Int}, y ∈ insV x l ↔ y = x ∨ y ∈ l
  | [] => by simp [insV]
  | z :: l => by
    rw [insV]
    split
    · rw [List.mem_cons, mem_insV, List.mem_cons]
      constructor
      · rintro (h | h | h)
        · exact Or.inr (Or.inl h)
        · exact Or.inl h
        · exact Or.inr (Or.inr h)
      · rintro (h | h | h)
        · exact Or.inr (Or.inl h)
        · exact Or.inl h
        · exact Or.inr (Or.inr h)
    · rw [List.mem_cons]
theorem len_insV (x : Int) : ∀ (l : List Int), (insV x l).length = l.length + 1
  | [] => rfl
  | y :: l => by rw [insV]; split <;> simp [len_insV x l]
theorem mem_risL {y : Int} : ∀ {l : List Int}, y ∈ risL l ↔ y ∈ l := by
  intro l
  refine snoc_ind (P := fun l => y ∈ risL l ↔ y ∈ l) (by simp [risL]) (fun l x ih => ?_) l
  rw [risL_snoc, mem_insV, ih, List.mem_append, List.mem_singleton]; exact Or.comm
theorem len_risL (l : List Int) : (risL l).length = l.length := by
  refine snoc_ind (P := fun l => (risL l).length = l.length) rfl (fun l x ih => ?_) l
  rw [risL_snoc, len_insV, ih, List.length_append]; rfl
theorem asc_insV {x : Int} : ∀ {l : List Int}, AscV l → (∀ y ∈ l, absI y ≠ absI x) → AscV (insV x l)
  | [], _, _ => List.pairwise_singleton _ _
  | z :: l, h, hx => by
    have h' := List.pairwise_cons.1 h
    rw [insV]
    split
    · rename_i hz
      refine List.pairwise_cons.2 ⟨fun y hy => ?_, asc_insV h'.2 fun y hy => hx y (by simp [hy])⟩
      rcases mem_insV.1 hy with e | e
      · rw [e]; exact hz
      · exact h'.1 y e
    · rename_i hz
      refine List.pairwise_cons.2 ⟨fun y hy => ?_, h⟩
      have h1 := hx z (by simp)
      rcases List.mem_cons.1 hy with e | e
      · rw [e]; omega
      · have := h'.1 y e; omega
theorem asc_risL {l : List Int} : l.Nodup → Cons l → AscV (risL l) := by
  refine snoc_ind (P := fun l => l.Nodup → Cons l → AscV (risL l)) (fun _ _ => List.Pairwise.nil) (fun l x ih hn hc => ?_) l
  · rw [risL_snoc]
    rw [List.nodup_append] at hn
    refine asc_insV (ih hn.1 ⟨fun y hy => hc.1 y (by simp [hy]), fun y hy h => hc.2 y (by simp [hy]) (by simp [h])⟩) fun y hy e => ?_
    rw [mem_risL] at hy
    have := hc.inj (x := y) (y := x) (by simp [hy]) (by simp) e
    exact hn.2.2 y hy x (by simp) this

theorem insV_at {x : Int} : ∀ (l : List Int) (k : Nat), k ≤ l.length → (∀ j, j < k → absI (elt l j) < absI x) → (k < l.length → ¬ absI (elt l k) < absI x) → insV x l = l.take k ++ x :: l.drop k
  | [], k, hk, _, _ => by
    have : k = 0 := by simpa using hk
    subst this; rfl
  | y :: l, 0, _, _, h2 => by
    have := h2 (by simp)
    rw [insV, if_neg (by have e : elt (y :: l) 0 = y := rfl; rw [e] at this; exact this)]
    rfl
  | y :: l, k + 1, hk, h1, h2 => by
    have h0 : absI y < absI x := h1 0 (by omega)
    rw [insV, if_pos h0, insV_at l k (by simpa using hk) (fun j hj => h1 (j + 1) (by omega)) (fun h => h2 (by simpa using h))]
    rfl

/-- the loop of Rising -/
structure Rh (w W : World) (zs : List Int) (i : Nat) (O : Option Addr) (L co : Nat) (out : List Int) : Prop where
  eq : risL (zs.take i) = out
  len : out.length = L
  ri : RI W O L co out
  below : Below w.heap.size w W

theorem var20_val (r : Int) (x : Int) (w : World) (h0 : -65536 ≤ x) (h1 : x ≤ 65536) (hr : absI x = r) : Calls Try.prog 76 #[.int .i64 x] w fun e w' => e = .returned (.int .i64 r) ∧ w = w' := by
  have := var20_any x w h0 h1
  rw [hr] at this; exact this

set_option maxRecDepth 100000 in
set_option maxHeartbeats 4000000 in
theorem rising_any (A : Option Addr) (n c : Nat) (zs : List Int) (w : World) (h : RI w A n c zs) (hz : Okl zs) (hn : n ≤ 1000000) :
    Calls Try.prog 45 #[.slice A n c] w (Freshd (risL zs) n w) := by
  have H := Lib.hid h
  have HZ := Lib.hid hz
  have HB0 := Lib.hid ((Below.refl w.heap.size w).alloc (Nat.le_refl _) (.cells #[] 3))
  clear h hz
  go_enter Try.func45, Try.ntmps45
  go_wp2
  go_loopw [3, 4] (fun s3 s4 W => ∃ (i : Nat) (O : Option Addr) (L co : Nat) (out : List Int), i ≤ n ∧ L = i ∧ s4 = .int .i64 i ∧ s3 = .slice O L co ∧ Rh w W zs i O L co out) (fun _ i _ => n - (intOf i).toNat)
  case atStart => exact ⟨0, _, 0, 0, [], Nat.zero_le _, rfl, rfl, rfl, rfl, rfl, RI.nil _ _ _ (Nat.zero_le _), HB0.out⟩
  case round =>
    obtain ⟨i, O, L, co, out, hi, hLi, rfl, rfl, hnh⟩ := hrel
    have HN := Lib.hid hnh
    clear hnh
    by_cases hlt : i < n
    · obtain ⟨b, off, rfl, hbl, hc⟩ := (H.out.below HN.out.below).cells (by omega)
      have hci := hc i hlt
      clear hc
      have hl : i < zs.length := by rw [H.out.len]; exact hlt
      have hsn : risL (zs.take (i + 1)) = insV (elt zs i) out := by rw [take_snoc zs i hl, risL_snoc, HN.out.eq]
      have hx := HZ.out.at hl
      have hol : Okl out := fun y hy => by
        rw [← HN.out.eq, mem_risL] at hy
        exact HZ.out y (List.mem_of_mem_take hy)
      have HOL := Lib.hid hol
      have HXB := Lib.hid hx
      have E := Lib.hid hsn
      clear hsn hx hol hl
      generalize elt zs i = x at *
      obtain ⟨vx, hvx⟩ : ∃ vx, absI x = vx := ⟨_, rfl⟩
      have HVX := Lib.hid hvx
      have hLn : L ≤ 1000000 := by omega
      have HLI := Lib.hid hLi
      clear hvx hLi
      go_wp2_with fail
      go_loopw [5] (fun s5 W => ∃ t : Nat, t ≤ L ∧ s5 = .int .i64 t ∧ (∀ j, j < t → absI (elt out j) < vx) ∧ Below wr.heap.size wr W) (fun t _ => L - (intOf t).toNat)
      case atStart => exact ⟨0, Nat.zero_le _, rfl, fun j hj => absurd hj (by omega), Below.refl _ _⟩
      case round =>
        obtain ⟨t, ht, rfl, hall, hbt⟩ := hrel
        have HALL := Lib.hid hall
        have HBT := Lib.hid hbt
        clear hall hbt
        have hci2 := (HBT.out.cell (p := ⟨b, off + i, none⟩) hbl).trans hci
        have hblt := Nat.lt_of_lt_of_le hbl HBT.out.size
        have htc : t ≤ co := by have := HN.out.ri.cap; omega
        by_cases hat : t < L
        · obtain ⟨b4, off4, rfl, hbl4, hc4⟩ := (HN.out.ri.below HBT.out).cells (by omega)
          have hct := hc4 t hat
          have hk4 : t ≤ L := by omega
          clear hc4
          have hto : t < out.length := by rw [HN.out.len]; exact hat
          have hxt := HOL.out.at hto
          have g1 := fun u : Gr wr => u.cell (p := ⟨b, off + i, none⟩) hblt hci2
          have g2 := fun u : Gr wr => u.cell (p := ⟨b4, off4 + t, none⟩) hbl4 hct
          have k1 : (i : Int) < (n : Int) := by omega
          have k2 : (t : Int) < (L : Int) := by omega
          have HXT := Lib.hid hxt
          have HTO := Lib.hid hto
          obtain ⟨vt, hvt⟩ : ∃ vt, absI (elt out t) = vt := ⟨_, rfl⟩
          have HVT := Lib.hid hvt
          clear hxt hto hvt
          by_cases hll : vt < vx
          · have HLL := Lib.hid hll
            go_wp2_with fail
            refine wp_region_grow (by kernel_rfl) (by kernel_rfl) ?_
            repeat (go_big_quiet_step ((go_at_call 76; exact Gr.same _ (var20_val _ _ _ (by first | exact HXT.out.2.1 | exact HXB.out.2.1) (by first | exact HXT.out.2.2 | exact HXB.out.2.2) (by first | exact HVT.out | exact HVX.out)))))
            refine wpQuiet_nil ?_
            rintro w5 ⟨⟨_, hb5⟩, rfl⟩
            have HB5 := Lib.hid hb5
            clear hb5
            go_wp2_with fail
            go_roundw
            case rel =>
              refine ⟨t + 1, by omega, by go_num, fun j hj => ?_, HBT.out.trans (HB5.out.mono HBT.out.size)⟩
              rcases Nat.lt_or_ge j t with h1 | h1
              · exact HALL.out j h1
              · obtain rfl : j = t := by omega
                rw [HVT.out]; exact HLL.out
            case measure => simp [intOf]; omega
          · have HI : Hid (insV x out = out.take t ++ x :: out.drop t) := Lib.hid (insV_at out t (by rw [HN.out.len]; omega) (fun j hj => by rw [HVX.out]; exact HALL.out j hj) (fun _ => by rw [HVX.out, HVT.out]; exact hll))
            have HT := Lib.hid ((HN.out.ri.below HBT.out).take hk4)
            have hd := (HN.out.ri.below HBT.out).cut hk4
            rw [Option.map_some, Addr.add_lit] at hd
            have HD := Lib.hid hd
            have hne : ¬ co = t := by have := HN.out.ri.cap; omega
            clear hd
            go_wp2_with fail
            refine wp_region_grow (by kernel_rfl) (by kernel_rfl) ?_
            repeat (go_big_quiet_step ((go_at_call 76; exact Gr.same _ (var20_val _ _ _ (by first | exact HXT.out.2.1 | exact HXB.out.2.1) (by first | exact HXT.out.2.2 | exact HXB.out.2.2) (by first | exact HVT.out | exact HVX.out)))))
            refine wpQuiet_nil ?_
            rintro w5 ⟨⟨_, hb5⟩, rfl⟩
            have HB5 := Lib.hid (HBT.out.trans (hb5.mono HBT.out.size))
            have HT5 := Lib.hid (HT.out.below hb5)
            have HD5 := Lib.hid (HD.out.below hb5)
            have hci5 := (hb5.cell (p := ⟨b, off + i, none⟩) hblt).trans hci2
            have hbl5 := Nat.lt_of_lt_of_le hblt hb5.size
            have HOE := Lib.hid (own_empty w5 w5.heap.size w5.heap.size 3 rfl (Nat.le_refl _))
            have HBE := Lib.hid ((Below.refl w5.heap.size w5).alloc (Nat.le_refl _) (.cells #[] 3))
            clear hb5 g1 g2
            go_wp2_with (first
              | (at_builtin; refine wpList_append_to (wr := w5) rfl (.tmp 33) (.tmp 36) rfl HBE.out (.slice (some ⟨w5.heap.size, 0, none⟩) 0 0) 0 [] rfl HOE.out (some ⟨b4, off4, none⟩) t co (out.take t) rfl (HT5.out.alloc _) (by omega) t (by omega) (out.take t) rfl ?_; intro A8 c8 w8 ho8 hb8; have HO8 := Lib.hid ho8; have HB8 := Lib.hid hb8; have hci8 := (hb8.cell (p := ⟨b, off + i, none⟩) hbl5).trans hci5; clear ho8 hb8)
              | (at_builtin; refine wpList_append_to (wr := w5) rfl (.tmp 38) (.tmp 43) rfl (HB8.out.alloc HB8.out.size _) (.slice A8 t c8) t (out.take t) rfl (HO8.out.alloc _) (some ⟨w8.heap.size, 0, none⟩) 1 1 [x] rfl (RI.lit w8 [x] 1 _ rfl rfl (by omega)) (by omega) (t + 1) rfl (out.take t ++ [x]) rfl ?_; intro A9 c9 w9 ho9 hb9; have HO9 := Lib.hid ho9; have HB9 := Lib.hid hb9; clear ho9 hb9)
              | (at_builtin; refine wpList_append_to (wr := w5) rfl (.tmp 45) (.tmp 48) rfl HB9.out (.slice A9 (t + 1) c9) (t + 1) (out.take t ++ [x]) rfl HO9.out _ _ _ (out.drop t) rfl (by first | exact HD5.out.below HB9.out | exact RI.zero (by omega) (by rw [List.length_drop, HN.out.len]; omega) (by unfold maxLen; omega)) (by omega) (L + 1) (by omega) (insV x out) (by rw [HI.out, List.append_assoc]; rfl) ?_; intro A10 c10 w10 ho10 hb10; have HO10 := Lib.hid ho10; have HB10 := Lib.hid hb10; clear ho10 hb10))
            all_goals go_roundw
            all_goals first
              | exact ⟨i + 1, A10, L + 1, c10, insV x out, by omega, by have := HLI.out; omega, by go_num, rfl, E.out, by rw [len_insV, HN.out.len], RI.of_own HO10.out (by omega), HN.out.below.trans ((HB5.out.trans (HB10.out.mono HB5.out.size)).mono HN.out.below.size)⟩
              | (simp [intOf]; omega)
        · obtain rfl : t = L := by omega
          have HI : Hid (insV x out = out.take t ++ x :: out.drop t) := Lib.hid (insV_at out t (by rw [HN.out.len]; omega) (fun j hj => by rw [HVX.out]; exact HALL.out j hj) (fun h => absurd h (by rw [HN.out.len]; omega)))
          have HT := Lib.hid ((HN.out.ri.below HBT.out).take (Nat.le_refl t))
          have HD := Lib.hid ((HN.out.ri.below HBT.out).cut (Nat.le_refl t))
          have hcm := HN.out.ri.cmax
          unfold maxLen at hcm
          have kL : ¬ (t : Int) < (t : Int) := by omega
          have k1 : (i : Int) < (n : Int) := by omega
          go_wp2_with fail
          refine wp_region_grow (by kernel_rfl) (by kernel_rfl) ?_
          repeat (go_big_quiet_step (fail))
          refine wpQuiet_nil ?_
          rintro w5 ⟨⟨_, hb5⟩, rfl⟩
          have HB5 := Lib.hid (HBT.out.trans (hb5.mono HBT.out.size))
          have HT5 := Lib.hid (HT.out.below hb5)
          have HD5 := Lib.hid (HD.out.below hb5)
          have hci5 := (hb5.cell (p := ⟨b, off + i, none⟩) hblt).trans hci2
          have hbl5 := Nat.lt_of_lt_of_le hblt hb5.size
          have HOE := Lib.hid (own_empty w5 w5.heap.size w5.heap.size 3 rfl (Nat.le_refl _))
          have HBE := Lib.hid ((Below.refl w5.heap.size w5).alloc (Nat.le_refl _) (.cells #[] 3))
          clear hb5 kL
          go_wp2_with (first
            | (at_builtin; refine wpList_append_to (wr := w5) rfl (.tmp 33) (.tmp 36) rfl HBE.out (.slice (some ⟨w5.heap.size, 0, none⟩) 0 0) 0 [] rfl HOE.out (O) t co (out.take t) rfl (HT5.out.alloc _) (by omega) t (by omega) (out.take t) rfl ?_; intro A8 c8 w8 ho8 hb8; have HO8 := Lib.hid ho8; have HB8 := Lib.hid hb8; have hci8 := (hb8.cell (p := ⟨b, off + i, none⟩) hbl5).trans hci5; clear ho8 hb8)
            | (at_builtin; refine wpList_append_to (wr := w5) rfl (.tmp 38) (.tmp 43) rfl (HB8.out.alloc HB8.out.size _) (.slice A8 t c8) t (out.take t) rfl (HO8.out.alloc _) (some ⟨w8.heap.size, 0, none⟩) 1 1 [x] rfl (RI.lit w8 [x] 1 _ rfl rfl (by omega)) (by omega) (t + 1) rfl (out.take t ++ [x]) rfl ?_; intro A9 c9 w9 ho9 hb9; have HO9 := Lib.hid ho9; have HB9 := Lib.hid hb9; clear ho9 hb9)
            | (at_builtin; refine wpList_append_to (wr := w5) rfl (.tmp 45) (.tmp 48) rfl HB9.out (.slice A9 (t + 1) c9) (t + 1) (out.take t ++ [x]) rfl HO9.out _ _ _ (out.drop t) rfl (by first | exact HD5.out.below HB9.out | exact RI.zero (by omega) (by rw [List.length_drop, HN.out.len]; omega) (by unfold maxLen; omega)) (by omega) (t + 1) (by omega) (insV x out) (by rw [HI.out, List.append_assoc]; rfl) ?_; intro A10 c10 w10 ho10 hb10; have HO10 := Lib.hid ho10; have HB10 := Lib.hid hb10; clear ho10 hb10))
          all_goals go_roundw
          all_goals first
            | exact ⟨i + 1, A10, t + 1, c10, insV x out, by omega, by have := HLI.out; omega, by go_num, rfl, E.out, by rw [len_insV, HN.out.len], RI.of_own HO10.out (by omega), HN.out.below.trans ((HB5.out.trans (HB10.out.mono HB5.out.size)).mono HN.out.below.size)⟩
            | (simp [intOf]; omega)
    · obtain rfl : i = n := by omega
      have e1 : risL zs = out := by have := HN.out.eq; rwa [List.take_of_length_le (by rw [H.out.len]; omega)] at this
      have E1 := Lib.hid e1
      clear e1
      subst hLi
      go_wp2
      go_ret
      exact ⟨O, co, rfl, by rw [E1.out]; exact HN.out.ri, HN.out.below⟩

end Go.Proofs.Ytenpenelikpeeaa

namespace Go.Proofs.Ytenpenelikpeeaa
set_option linter.unusedVariables false
set_option linter.unusedSimpArgs false

def lastT (ts : List Stp) : Int := (cntD ts : Int)
theorem lastT_lev {ts : List Stp} (h : 0 < ts.length) : lastT ts = levAt ts (ts.length - 1) := by
  unfold lastT levAt
  rw [show ts.length - 1 + 1 = ts.length by omega, List.take_length]
def start (ls : List (List Int)) (q : Int) : List Int := moreL [] 0 (ell ls q.toNat)
def firstE (x : Int) (ls : List (List Int)) (ts : List Stp) (q : Int) : Int :=
  if propE x ls ts ≠ 0 then propE x ls ts
  else if q < 0 ∨ (ls.length : Int) ≤ q ∨ deadB ts (ell ls q.toNat) = false then 1
  else if lastT ts = 0 ∨ hiN ts (lastT ts) (start ls q) = 0 then 200 else 0
def roadEnd (ls : List (List Int)) (ts : List Stp) (q : Int) : List Int := uipL ls ts (lastT ts) ts.length (start ls q)
def firstX (ls : List (List Int)) (ts : List Stp) (q : Int) : Int := (latT ts (lastT ts) (roadEnd ls ts q)).1
def highs (ts : List Stp) (S : List Int) : List Int := S.filter fun y => decide (0 < lvlT ts y)
def backG (ts : List Stp) (x : Int) (b : Int) : List Int → Int
  | [] => b
  | y :: l => backG ts x (if y = x then b else max b (lvlT ts y)) l
def backL (ts : List Stp) (x : Int) (S : List Int) : Int := backG ts x 0 S
theorem backG_snoc (ts : List Stp) (x y : Int) : ∀ (l : List Int) (b : Int), backG ts x b (l ++ [y]) = if y = x then backG ts x b l else max (backG ts x b l) (lvlT ts y)
  | [], b => rfl
  | z :: l, b => by rw [List.cons_append, backG, backG, backG_snoc ts x y l]

theorem Under.mono {ts : List Stp} {i j : Nat} {S : List Int} (h : Under ts i S) (hij : i ≤ j) : Under ts j S := fun y hy => Nat.lt_of_lt_of_le (h y hy) hij
theorem dead_under {ts : List Stp} {l : List Int} : deadB ts l = true ↔ Under ts ts.length l := by
  unfold deadB Under
  rw [List.all_eq_true]
  exact ⟨fun h y hy => by simpa using h y hy, fun h y hy => by simpa using h y hy⟩

theorem lvl_le {ts : List Stp} {y : Int} (h : plc ts (-y) < ts.length) : lvlT ts y ≤ lastT ts := by
  rw [lvlT_of h, lastT_lev (by omega)]; exact levAt_mono (by omega)

theorem ref_step {x : Int} {ls : List (List Int)} {ts : List Stp} (h : Tr x ls ts) {S : List Int} (hu : Under ts ts.length S) (hnd : S.Nodup) (h2 : 2 ≤ hiN ts (lastT ts) S) :
    plc ts (-(latT ts (lastT ts) S).1) < ts.length ∧ 0 ≤ (stp ts (plc ts (-(latT ts (lastT ts) S).1))).why ∧ Under ts (plc ts (-(latT ts (lastT ts) S).1)) (stepU ls ts S (latT ts (lastT ts) S).1) ∧
    (stepU ls ts S (latT ts (lastT ts) S).1).Nodup ∧ 0 < hiN ts (lastT ts) (stepU ls ts S (latT ts (lastT ts) S).1) ∧ uipL ls ts (lastT ts) ts.length (stepU ls ts S (latT ts (lastT ts) S).1) = uipL ls ts (lastT ts) ts.length S := by
  obtain ⟨h3, h4, h5⟩ := latT_max (show 0 < hiN ts (lastT ts) S by omega)
  generalize hz : (latT ts (lastT ts) S).1 = z at *
  have hi := hu z h3
  generalize hpi : plc ts (-z) = i at *
  have hlit : (stp ts i).lit = -z := by have := (plc_lt (ts := ts) (x := -z) (by omega)).1; rwa [hpi] at this
  have hze : -(stp ts i).lit = z := by omega
  have hlen : 0 < ts.length := by omega
  have hui : Under ts (i + 1) S := by
    intro y hy
    have h6 := hu y hy
    rcases Nat.lt_or_ge (plc ts (-y)) (i + 1) with h7 | h7
    · exact h7
    · have h8 : lvlT ts y = lastT ts := by
        have h9 := lvl_le h6
        have h10 : levAt ts i ≤ levAt ts (plc ts (-y)) := levAt_mono (by omega)
        rw [lvlT_of h6] at h9 ⊢
        rw [lvlT_of (by omega), hpi] at h4
        omega
      have h11 := h5 y hy h8
      rw [plcI_of h6, plcI_of (by omega), hpi] at h11
      omega
  have hx : hasB S (-(stp ts i).lit) = true := by rw [hze]; exact hasB_iff.2 h3
  have hw := reason_is h hui hnd hi hx (by rw [hze]; exact h4) h2
  have hu' := hui.step h hi hw
  rw [hze] at hu'
  have hnd' : (stepU ls ts S z).Nodup := moreL_nodup _ _ _ (without_nodup hnd)
  refine ⟨hi, hw, hu', hnd', ?_, ?_⟩
  · have h12 := without_hi (ts := ts) (n := lastT ts) hnd h3 h4
    obtain ⟨y, hy, hly⟩ := hiN_pos.1 (show 0 < hiN ts (lastT ts) (without S z) by omega)
    exact hiN_pos.2 ⟨y, by unfold stepU; rw [mem_moreL]; exact Or.inl hy, hly⟩
  · have hn := lastT_lev hlen
    obtain ⟨f, hf⟩ : ∃ f, ts.length = f + 1 := ⟨ts.length - 1, by omega⟩
    rw [uipL_fuel h hn i ts.length _ (by omega) hu' hnd' (by omega)]
    conv => rhs; rw [hf, uipL, if_neg (by rw [latT_count]; omega), hz]
    rw [uipL_fuel h hn i f _ (by omega) hu' hnd' (by omega)]

/-- false literals of a trail: none beside its opposite -/
theorem under_cons {x : Int} {ls : List (List Int)} {ts : List Stp} (h : Tr x ls ts) (hx : x ≤ 65536) {S : List Int} (hu : Under ts ts.length S) : Cons S := by
  have hl : ∀ y ∈ S, (stp ts (plc ts (-y))).lit = -y ∧ plc ts (-y) < ts.length := fun y hy => ⟨(plc_lt (hu y hy)).1, hu y hy⟩
  refine ⟨fun y hy => ?_, fun y hy hn => ?_⟩
  · obtain ⟨h1, h2⟩ := hl y hy
    have := isB_iff.1 (h.lit _ h2)
    rw [h1] at this
    omega
  · obtain ⟨h1, h2⟩ := hl y hy
    obtain ⟨h3, h4⟩ := hl _ hn
    rw [Int.neg_neg] at h3 h4
    rcases Nat.lt_trichotomy (plc ts (-y)) (plc ts y) with h5 | h5 | h5
    · exact (h.apart _ _ h5 h4).2 (by rw [h1, h3])
    · have := isB_iff.1 (h.lit _ h2)
      rw [h5] at h1
      rw [h3] at h1
      rw [h5] at this
      rw [h3] at this
      omega
    · exact (h.apart _ _ h5 h2).2 (by rw [h1, h3, Int.neg_neg])
theorem start_under {ls : List (List Int)} {ts : List Stp} {q : Int} (h : deadB ts (ell ls q.toNat) = true) : Under ts ts.length (start ls q) := by
  intro y hy
  unfold start at hy
  rw [mem_moreL] at hy
  rcases hy with hy | hy
  · cases hy
  · exact dead_under.1 h y hy.1
theorem start_nodup (ls : List (List Int)) (q : Int) : (start ls q).Nodup := moreL_nodup _ _ _ List.nodup_nil

/-- the end of the road: one literal of the last level -/
theorem road_end {x : Int} {ls : List (List Int)} {ts : List Stp} (h : Tr x ls ts) : ∀ (m : Nat) (S : List Int), Under ts ts.length S → S.Nodup → 0 < hiN ts (lastT ts) S → Under ts m S → m ≤ ts.length →
    Under ts ts.length (uipL ls ts (lastT ts) ts.length S) ∧ (uipL ls ts (lastT ts) ts.length S).Nodup ∧ hiN ts (lastT ts) (uipL ls ts (lastT ts) ts.length S) = 1 := by
  intro m
  induction m using Nat.strongRecOn with
  | _ m ih =>
    intro S hu hnd hp hm hml
    by_cases h1 : hiN ts (lastT ts) S ≤ 1
    · rw [uipL_stop h1]; exact ⟨hu, hnd, by omega⟩
    · obtain ⟨h2, h3, h4, h5, h6, h7⟩ := ref_step h hu hnd (by omega)
      rw [← h7]
      obtain ⟨h8, h9, h10⟩ := latT_max (show 0 < hiN ts (lastT ts) S by omega)
      have := hm _ h8
      exact ih _ this _ (h4.mono (by omega)) h5 h6 h4 (by omega)

end Go.Proofs.Ytenpenelikpeeaa
