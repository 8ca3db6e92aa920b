/-
  The reference's Vivify. No condition.
  The reference functions ahead, Reduce and Same of learnt clauses. No condition.
-/
import Derived.Test.YtalcnkoidmoibaaZA11
import Derived.Test.YtalcnkoidmoibaaZA12
import Derived.Test.YtalcnkoidmoibaaZA9
import Derived.IntWalk
import Derived.Test.YtalcnkoidmoibaaZA8
import Derived.BigQuiet
import Derived.Deep.QuietTactic

namespace Go.Proofs.Ytalcnkoidmoibaa
open Go.RowKit Go.Shelf
set_option linter.unusedVariables false
set_option linter.unusedSimpArgs false

theorem RR.take {w : World} {A : Option Addr} {n c : Nat} {rs : List Row} (h : RR w A n c rs) {k : Nat} (hk : k ≤ n) : RR w A k c (rs.take k) := by
  have hb := h.big
  have hc := h.cap
  refine ⟨by simp [h.len]; omega, by omega, by omega, h.cmax, fun h0 => ?_, fun r hr => h.rows r (List.mem_of_mem_take hr)⟩
  obtain ⟨b, off, rfl, hlt, hcs⟩ := h.cells (by omega)
  refine ⟨b, off, rfl, hlt, fun j u hj => hcs j u ?_⟩
  rw [List.map_take] at hj
  have hj' : j < k := by have := (List.getElem?_eq_some_iff.1 hj).1; rw [List.length_take] at this; omega
  rwa [List.getElem?_take_of_lt hj'] at hj
theorem RR.cut {w : World} {b off n c : Nat} {rs : List Row} (h : RR w (some ⟨b, off, none⟩) n c rs) {k : Nat} (hk : k ≤ n) : RR w (some ⟨b, off + k, none⟩) (n - k) (c - k) (rs.drop k) := by
  have hb := h.big
  have hc := h.cap
  have hm := h.cmax
  refine ⟨by simp [h.len], by omega, by omega, by omega, fun h0 => ?_, fun r hr => h.rows r (List.mem_of_mem_drop hr)⟩
  obtain ⟨b', off', e, hlt, hcs⟩ := h.cells (by omega)
  cases e
  refine ⟨b, off + k, rfl, hlt, fun j u hj => ?_⟩
  have := hcs (k + j) u (by rw [List.map_drop, List.getElem?_drop] at hj; exact hj)
  rwa [show off + (k + j) = off + k + j by omega] at this
theorem RR.zero {w : World} {A : Option Addr} {m c : Nat} {rs : List Row} (hm : m = 0) (hz : rs.length = 0) (hc : c ≤ maxLen) : RR w A m c rs := by
  subst hm
  rw [List.eq_nil_of_length_eq_zero hz]
  exact ⟨rfl, Nat.zero_le _, by omega, hc, fun h => absurd h (by omega), fun r hr => by cases hr⟩

/-- the other clauses, laid anew -/
structure Oth (w W : World) (ls : List (List Int)) (k : Nat) (O : Option Addr) (m co : Nat) : Prop where
  rl : RL W O m co (ls.eraseIdx k)
  below : Below w.heap.size w W

theorem oth_of {Wb w3 w4 : World} {rs : List Row} {k n q : Nat} {A3 : Option Addr} {c3 : Nat} {v4 : Value} (h3 : w3.ownsRow Wb.heap.size 31 1 (.slice A3 k c3) k ((rs.take k).map rowV)) (hb3 : Below Wb.heap.size Wb w3) (h : Appd w3 Wb.heap.size 31 (.slice A3 k c3) (k + q) ((rs.take k ++ rs.drop (k + 1)).map rowV) v4 w4)
    (hr : ∀ r ∈ rs, RI Wb r.A r.n r.c r.zs) (hn : n ≤ 1000000) (hk : k < n) (hq : q = n - (k + 1)) : ∃ O co, v4 = .slice O (k + q) co ∧ Oth Wb w4 (rs.map (·.zs)) k O (k + q) co := by
  obtain ⟨h1, h2, _⟩ := h
  obtain ⟨O, co, rfl⟩ := own_form h1
  have hb4 : Below Wb.heap.size Wb w4 := hb3.grown h2 hb3.size (fun g hg => (own_lt h3 hg).1)
  refine ⟨O, co, rfl, ⟨?_, hb4⟩⟩
  have := RL.of_own h1 (fun r hr' => (hr r (by rcases List.mem_append.1 hr' with e | e; exact List.mem_of_mem_take e; exact List.mem_of_mem_drop e)).below hb4) (by omega)
  rw [List.map_append, List.map_take, List.map_drop] at this
  rw [List.eraseIdx_eq_take_drop_succ]
  exact this

theorem okl_neg {l : List Int} (h : Okl l) : Okl (l.map (-·)) := by
  intro x hx
  obtain ⟨y, hy, rfl⟩ := List.mem_map.1 hx
  have := h y hy
  refine ⟨?_, ?_, ?_⟩ <;> omega
theorem mem_neg {l : List Int} {x : Int} : x ∈ l.map (-·) ↔ -x ∈ l := by
  rw [List.mem_map]
  exact ⟨fun ⟨y, hy, e⟩ => by rw [← e, Int.neg_neg]; exact hy, fun h => ⟨-x, h, Int.neg_neg x⟩⟩
theorem con_neg {l : List Int} (h : Con l) : Con (l.map (-·)) := fun x hx hx' => by
  rw [mem_neg] at hx hx'
  exact h _ hx hx'
theorem con_next {cls : List (List Int)} {left S : List Int} {x : Int} (hz : ∀ l ∈ cls, Okl l) (h : Con left) (hx : x ≠ 0) (hc : closureT cls (left.map (-·)) = some S) (h1 : hasB S x = false) (h2 : hasB S (-x) = false) : Con (left ++ [x]) := by
  have hs := (closureT_good (fun l hl y hy => (hz l hl y hy).1) (con_neg h) hc).2
  refine con_snoc h hx (fun hh => ?_) (fun hh => ?_)
  · exact hasB_false.1 h1 (hs _ (mem_neg.2 hh))
  · exact hasB_false.1 h2 (hs _ (mem_neg.2 (by simpa using hh)))

def AllNo (w : World) (e : Ending) (w' : World) : Prop := ∃ A n c, e = .returned (.tuple #[.slice A n c, .bool false]) ∧ Below w.heap.size w w'
def AllYes (S : List Int) (w : World) (e : Ending) (w' : World) : Prop := ∃ A n c K, e = .returned (.tuple #[.slice A n c, .bool true]) ∧ RI w' A n c K ∧ Below w.heap.size w w' ∧ ∀ x, hasB K x = hasB S x

theorem all_no (A : Option Addr) (n c : Nat) (cls : List (List Int)) (A' : Option Addr) (n' c' : Nat) (S0 : List Int) (w : World) (h : RL w A n c cls) (h' : RI w A' n' c' S0) (hz : ∀ l ∈ cls, Okl l) (hs : Okl S0) (hc : Con S0) (hn : n ≤ 1000000) (hfew : n' + sumL cls ≤ 100000) (hcl : closureT cls S0 = none) :
    Calls Try.prog 40 #[.slice A n c, .slice A' n' c'] w (AllNo w) :=
  (all_any A n c cls A' n' c' S0 w h h' hz hs hc hn hfew).mono (by
    rintro e w' ⟨A1, n1, c1, K, ok, rfl, h1, h2, h3⟩
    rcases h3 with ⟨rfl, _⟩ | ⟨rfl, S, h4, _⟩
    · exact ⟨A1, n1, c1, rfl, h2⟩
    · rw [hcl] at h4; cases h4)
theorem all_yes (A : Option Addr) (n c : Nat) (cls : List (List Int)) (A' : Option Addr) (n' c' : Nat) (S0 S : List Int) (w : World) (h : RL w A n c cls) (h' : RI w A' n' c' S0) (hz : ∀ l ∈ cls, Okl l) (hs : Okl S0) (hc : Con S0) (hn : n ≤ 1000000) (hfew : n' + sumL cls ≤ 100000) (hcl : closureT cls S0 = some S) :
    Calls Try.prog 40 #[.slice A n c, .slice A' n' c'] w (AllYes S w) :=
  (all_any A n c cls A' n' c' S0 w h h' hz hs hc hn hfew).mono (by
    rintro e w' ⟨A1, n1, c1, K, ok, rfl, h1, h2, h3⟩
    rcases h3 with ⟨rfl, h4⟩ | ⟨rfl, S', h4, h5⟩
    · rw [hcl] at h4; cases h4
    · rw [hcl] at h4; cases h4; exact ⟨A1, n1, c1, K, rfl, h1, h2, h5⟩)

set_option maxHeartbeats 1000000 in
theorem vivifyR_bad (x : Int) (A : Option Addr) (n c : Nat) (ls : List (List Int)) (k : Int) (w : World) (h : RL w A n c ls) (he : vivE x ls k ≠ 0) :
    Calls Try.prog 17 #[.agg #[.int .i64 x, .slice A n c], .int .i64 k] w (Viv [] (vivE x ls k) w) := by
  have hcall := checkR_any x A n c ls (w.alloc (.cells #[.int .i64 x, .slice A n c] 29)) (h.alloc _)
  have hl := h.len
  by_cases h0 : checkE x ls = 0
  · rw [h0] at hcall
    have hv : k < 0 ∨ (n : Int) ≤ k := by
      unfold vivE at he; rw [if_neg (by simpa using h0)] at he
      split at he
      · rename_i h1; rw [hl] at h1; exact h1
      · exact absurd rfl he
    have hE : vivE x ls k = 1 := by unfold vivE; rw [if_neg (by simpa using h0), if_pos (by rw [hl]; exact hv)]
    rw [hE]
    clear he hE h0 h
    by_cases hk : k < 0
    · clear hv
      go_enter Try.func17, Try.ntmps17
      go_wp2_with (go_at_call 38; refine hcall.mono ?_; clear hcall; rintro e w1 ⟨rfl, hb⟩)
      go_ret2
      exact ⟨none, 0, rfl, RI.nil _ _ _ (Nat.zero_le _), ((Below.refl _ w).alloc (Nat.le_refl _) _).trans (hb.mono (by simp))⟩
    · have hk2 : (n : Int) ≤ k := by omega
      clear hv
      go_enter Try.func17, Try.ntmps17
      go_wp2_with (go_at_call 38; refine hcall.mono ?_; clear hcall; rintro e w1 ⟨rfl, hb⟩; have bx := (BoxC.new w x A n c).below hb; have p0 := bx.c0; have p1 := bx.c1)
      go_ret2
      exact ⟨none, 0, rfl, RI.nil _ _ _ (Nat.zero_le _), ((Below.refl _ w).alloc (Nat.le_refl _) _).trans (hb.mono (by simp))⟩
  · have hE : vivE x ls k = checkE x ls := by unfold vivE; rw [if_pos h0]
    rw [hE]
    generalize checkE x ls = r at hcall h0 ⊢
    have hr : (r != 0) = true := by simpa using h0
    clear he hE h h0
    go_enter Try.func17, Try.ntmps17
    go_wp2_with (go_at_call 38; refine hcall.mono ?_; clear hcall; rintro e w1 ⟨rfl, hb⟩)
    go_ret2
    exact ⟨none, 0, rfl, RI.nil _ _ _ (Nat.zero_le _), ((Below.refl _ w).alloc (Nat.le_refl _) _).trans (hb.mono (by simp))⟩

set_option maxRecDepth 100000 in
set_option maxHeartbeats 4000000 in
theorem vivifyR_ok (x : Int) (A : Option Addr) (n c : Nat) (ls : List (List Int)) (k : Nat) (w : World) (h : RL w A n c ls) (h0 : checkE x ls = 0) (hk : k < n) (hs : sumL ls ≤ 50000) (hn : n ≤ 1000000) :
    Calls Try.prog 17 #[.agg #[.int .i64 x, .slice A n c], .int .i64 (k : Int)] w (Viv (vivT (ls.eraseIdx k) (normP (ell ls k)) []) 0 w) := by
  obtain ⟨i0, hi, hz0, hz1, hz2⟩ := info_parts infoInt
  have hcall := checkR_any x A n c ls (w.alloc (.cells #[.int .i64 x, .slice A n c] 29)) (h.alloc _)
  rw [h0] at hcall
  obtain ⟨b, off, rfl, hbl, hc⟩ := h.cells (by omega)
  obtain ⟨a1, n1, c1, hck, hr1⟩ := hc k hk
  have hn1 : n1 ≤ 1000000 := by have := sumL_ell ls k; rw [← hr1.len]; omega
  have hlen : (normP (ell ls k)).length ≤ 50000 := Nat.le_trans (normP_len _) (Nat.le_trans (sumL_ell ls k) hs)
  have hokl : Okl (normP (ell ls k)) := normP_okl _
  have hsu := Nat.le_trans (sumL_erase ls k) hs
  have hnorm := fun (W : World) (hr : RI W a1 n1 c1 (ell ls k)) => normR_any a1 n1 c1 (ell ls k) W hr hn1
  unfold NormR at hnorm
  generalize normP (ell ls k) = l at hlen hokl hnorm ⊢
  obtain ⟨m, hm⟩ : ∃ m, l.length = m := ⟨_, rfl⟩
  rw [hm] at hlen hnorm
  obtain ⟨rs, hrs, hrr⟩ := h.rr
  have HK := Lib.hid (checkE_lits h0)
  have HRS := Lib.hid hrs
  have HRR := Lib.hid hrr
  have HR1 := Lib.hid hr1
  have HCK := Lib.hid hck
  have HM := Lib.hid hm
  have HO := Lib.hid hokl
  have hcc := h.cap
  have hcm := h.cmax
  unfold maxLen at hcm
  clear hc h hr1 h0 hrs hrr hck hm hokl
  have hkn : ¬ (n : Int) ≤ (k : Int) := by omega
  have hk0 : ¬ (k : Int) < 0 := by omega
  go_enter Try.func17, Try.ntmps17
  go_upto_region 6 with (go_at_call 38; refine hcall.mono ?_; clear hcall; rintro e w1 ⟨rfl, hb⟩; have bx := (Two.new w (.int .i64 x) (.slice (some ⟨b, off, none⟩) n c)).below hb; have p0 := bx.c0; have p1 := bx.c1; have BX := Lib.hid bx; have HB1 := Lib.hid (((Below.refl _ w).alloc (Nat.le_refl _) _).trans (hb.mono (by simp))); clear bx hb)
  have HRR1 := Lib.hid (HRR.out.below HB1.out)
  have HTK := Lib.hid (HRR1.out.take (k := k) (by omega))
  have HRW := Lib.hid HRR1.out.rows
  have hsz1 := BX.out.lt
  go_cut [7] (fun s W => ∃ (O : Option Addr) (m2 co : Nat), s = .slice O m2 co ∧ m2 ≤ 1000000 ∧ Oth w1 W ls k O m2 co)
  case first =>
    have VA : Hid (Below w1.heap.size w1 (w1.drew.alloc (.cells #[] 31))) := Lib.hid (((Below.refl _ _).drew).alloc (Nat.le_refl _) _)
    have hkc : k + 1 ≤ c := by omega
    have hkc2 : k ≤ c := by omega
    have hkn2 : k + 1 ≤ n := by omega
    have j1 : (k : Int) ≤ (k : Int) + 1 := by omega
    have j2 : 0 ≤ (k : Int) + 1 := by omega
    have j3 : (k : Int) + 1 ≤ (n : Int) := by omega
    have j4 : (k : Int) ≤ (c : Int) := by omega
    have B1 : Hid ((0 + k) * 24 ≤ 140737488355328) := Lib.hid (by omega)
    by_cases hce : c = k + 1
    · subst hce
      have hnk : n = k + 1 := by omega
      subst hnk
      have B2 : Hid ((k + 0) * 24 ≤ 140737488355328) := Lib.hid (by omega)
      have HDR : Hid ((rs.drop (k + 1)).length = 0) := Lib.hid (by rw [List.length_drop, HRR1.out.len]; omega)
      have ww1 : IntKind.i64.wrap ((k : Int) + 1) = ((k + 1 : Nat) : Int) := IntWalk.i64_in _ (by omega)
      go_region_law (first
        | (refine step_append_rr rfl (.tmp 28) (.tmp 32) rfl w1.heap.size (.slice (some ⟨w1.heap.size, 0, none⟩) 0 0) 0 [] rfl (own_empty w1.drew _ _ 31 rfl (Nat.le_refl _)) (some ⟨b, off, none⟩) k _ (rs.take k) rfl (HTK.out.below VA.out) B1.out (by simp) ?_; intro v3 w3 hap; obtain ⟨A3, c3, rfl, ho3, hb3, -⟩ := appd_rows hap VA.out (Nat.le_refl _); have HO3 := Lib.hid ho3; have HB3 := Lib.hid hb3; have q3 := (BX.out.below hb3).c1; clear ho3 hb3 hap)
        | (refine step_append_rr rfl (.tmp 33) (.tmp 38) rfl w1.heap.size (.slice A3 k c3) k (rs.take k) rfl HO3.out _ 0 _ (rs.drop (k + 1)) rfl (RR.zero rfl HDR.out (by simp)) B2.out HB3.out.size ?_; intro v4 w4 hap; obtain ⟨O, co, rfl, hoth⟩ := oth_of HO3.out HB3.out hap HRW.out hn hk (by simp); have HOT := Lib.hid hoth; clear hap hoth))
      all_goals clear ww1
      all_goals go_wp2_with fail
      all_goals go_meet
      all_goals exact ⟨O, _, co, rfl, by omega, by have := HOT.out; rw [HRS.out] at this; exact this⟩
    · have HCT := Lib.hid (HRR1.out.cut (k := k + 1) (by omega))
      have B2 : Hid ((k + (n - (k + 1))) * 24 ≤ 140737488355328) := Lib.hid (by omega)
      have ww1 : IntKind.i64.wrap ((k : Int) + 1) = ((k + 1 : Nat) : Int) := IntWalk.i64_in _ (by omega)
      go_region_law (first
        | (refine step_append_rr rfl (.tmp 28) (.tmp 32) rfl w1.heap.size (.slice (some ⟨w1.heap.size, 0, none⟩) 0 0) 0 [] rfl (own_empty w1.drew _ _ 31 rfl (Nat.le_refl _)) (some ⟨b, off, none⟩) k _ (rs.take k) rfl (HTK.out.below VA.out) B1.out (by simp) ?_; intro v3 w3 hap; obtain ⟨A3, c3, rfl, ho3, hb3, -⟩ := appd_rows hap VA.out (Nat.le_refl _); have HO3 := Lib.hid ho3; have HB3 := Lib.hid hb3; have q3 := (BX.out.below hb3).c1; clear ho3 hb3 hap)
        | (refine step_append_rr rfl (.tmp 33) (.tmp 38) rfl w1.heap.size (.slice A3 k c3) k (rs.take k) rfl HO3.out _ _ _ (rs.drop (k + 1)) rfl (HCT.out.below HB3.out) B2.out HB3.out.size ?_; intro v4 w4 hap; obtain ⟨O, co, rfl, hoth⟩ := oth_of HO3.out HB3.out hap HRW.out hn hk rfl; have HOT := Lib.hid hoth; clear hap hoth))
      all_goals clear ww1
      all_goals go_wp2_with fail
      all_goals go_meet
      all_goals exact ⟨O, _, co, rfl, by omega, by have := HOT.out; rw [HRS.out] at this; exact this⟩
  case rest =>
    obtain ⟨O, m2, co, rfl, hm2, hoth⟩ := hcut
    have HOT := Lib.hid hoth
    have HBc := Lib.hid (HB1.out.trans (hoth.below.mono HB1.out.size))
    have bx2 := BX.out.below hoth.below
    have r1 := bx2.c1
    have hckc := (HBc.out.cell (p := ⟨b, off + k, none⟩) hbl).trans HCK.out
    clear hoth bx2 p0 p1
    have hkl : (k : Int) < (n : Int) := by omega
    go_wp2_with (go_at_call 39; refine (hnorm _ (HR1.out.below HBc.out)).mono ?_; clear hnorm; rintro e w2 ⟨A2, c2, bo, rfl, hr2, hb2⟩; have HR2 := Lib.hid hr2; have HOT2 := Lib.hid (HOT.out.rl.below hb2); have HB2 := Lib.hid (HBc.out.trans (hb2.mono HBc.out.size)); clear hr2 hb2 r1 hckc)
    have HCL0 := Lib.hid (fun l (hl : l ∈ ls.eraseIdx k) => HK.out l (List.mem_of_mem_eraseIdx hl))
    go_loopw [10, 11] (fun s10 s11 wr => ∃ (j L : Nat) (O' : Option Addr) (co' : Nat) (left : List Int), left.length = L ∧ j ≤ m ∧ s11 = .int .i64 j ∧ s10 = .slice O' L co' ∧ wr.ownsRow w2.heap.size 3 1 (.slice O' L co') L (left.map (Value.int .i64)) ∧ Below w2.heap.size w2 wr ∧ vivT (ls.eraseIdx k) l [] = vivT (ls.eraseIdx k) (l.drop j) left ∧ Okl left ∧ Con left ∧ L ≤ j) (fun _ i _ => m - (intOf i).toNat)
    case atStart => exact ⟨0, 0, none, 0, [], rfl, Nat.zero_le _, rfl, rfl, World.ownsRow_nil _ _ _ _, Below.refl _ _, rfl, fun x h => (by cases h), fun x h => (by cases h), Nat.le_refl _⟩
    case round =>
      obtain ⟨j, L, O', co', left, hL, hj, rfl, rfl, hown, hb3, hv, hol, hcon, hLj⟩ := hrel
      have HB3 := Lib.hid hb3
      have HV := Lib.hid hv
      have HOL := Lib.hid hol
      have HLL := Lib.hid hL
      have HCON := Lib.hid hcon
      have HBw := Lib.hid (HB2.out.trans (hb3.mono HB2.out.size))
      have hL5 : L ≤ 50000 := by omega
      have RLF := Lib.hid (RI.of_own hown (by omega))
      have HOWN := Lib.hid hown
      have HOT3 := Lib.hid (HOT2.out.below hb3)
      have hsz3 := hb3.size
      clear hb3 hv hol hL hcon hown
      by_cases hlt : j < m
      · have hll : j < l.length := by rw [HM.out]; exact hlt
        obtain ⟨b2, off2, rfl, hb2', hc2⟩ := HR2.out.cells (by omega)
        have hcj := (HB3.out.cell (p := ⟨b2, off2 + j, none⟩) hb2').trans (hc2 j hlt)
        have hb2r := Nat.lt_of_lt_of_le hb2' HB3.out.size
        clear hc2
        have hxx := HO.out.at hll
        have hneg := lit_neg' hxx.2.1 hxx.2.2
        have HX := Lib.hid hxx
        have hv2 := HV.out
        rw [drop_at hll, vivT] at hv2
        generalize elt l j = x at hcj hneg HX hv2
        clear hxx hll
        cases hcl : closureT (ls.eraseIdx k) (left.map (-·)) with
        | none =>
          rw [hcl] at hv2
          have HV2 := Lib.hid hv2
          have HCL := Lib.hid hcl
          clear hcl hv2
          go_wp2_with (first
            | (go_at_call 41; refine (opposites_any O' L co' left _ RLF.out HOL.out (by omega)).mono ?_; rintro e w4 ⟨A4, c4, rfl, hr4, hb4⟩; have HR4 := Lib.hid hr4; have HB4 := Lib.hid hb4; clear hr4 hb4)
            | (go_at_call 40; refine (all_no O m2 co _ A4 L c4 _ _ (HOT3.out.below HB4.out) HR4.out HCL0.out (okl_neg HOL.out) (con_neg HCON.out) hm2 (by omega) HCL.out).mono ?_; rintro e w5 ⟨A5, n5, c5, rfl, hb5⟩; have HB5 := Lib.hid (HB4.out.trans (hb5.mono HB4.out.size)); clear hb5))
          go_ret2
          refine ⟨O', co', ret_viv (by rw [HV2.out, HLL.out]), ?_, HBw.out.trans (HB5.out.mono HBw.out.size)⟩
          rw [HV2.out, HLL.out]; exact RLF.out.below HB5.out
        | some S =>
          rw [hcl] at hv2
          dsimp only at hv2
          have HV2 := Lib.hid hv2
          have HCL := Lib.hid hcl
          clear hcl hv2
          by_cases h1 : hasB S x = true
          · have HV3 : Hid (vivT (ls.eraseIdx k) l [] = left ++ [x]) := Lib.hid (by rw [HV2.out, if_pos h1])
            have H1 := Lib.hid h1
            clear h1
            go_wp2_with (first
              | (go_at_call 41; refine (opposites_any O' L co' left _ RLF.out HOL.out (by omega)).mono ?_; rintro e w4 ⟨A4, c4, rfl, hr4, hb4⟩; have HR4 := Lib.hid hr4; have HB4 := Lib.hid hb4; clear hr4 hb4)
              | (go_at_call 40; refine (all_yes O m2 co _ A4 L c4 _ S _ (HOT3.out.below HB4.out) HR4.out HCL0.out (okl_neg HOL.out) (con_neg HCON.out) hm2 (by omega) HCL.out).mono ?_; rintro e w5 ⟨A5, n5, c5, K5, rfl, hr5, hb5, hk5⟩; have HB5 := Lib.hid (HB4.out.trans (hb5.mono HB4.out.size)); have HR5 := Lib.hid hr5; have HK5 := Lib.hid hk5; have hc5 := (HB5.out.cell (p := ⟨b2, off2 + j, none⟩) hb2r).trans hcj; have hs5 := Nat.le_trans hsz3 HB5.out.size; clear hb5 hr5 hk5)
              | (go_at_call 42; refine (has_val true A5 n5 c5 K5 x _ HR5.out ((HK5.out x).trans H1.out)).mono ?_; rintro e w6 ⟨rfl, rfl⟩)
              | (at_builtin; refine wpList_append_own_at _ rfl (.tmp 71) (.tmp 76) 31 rfl w2.heap.size 3 i0 (.int .i64 0) 1 8 Try.underlying31 hi hz0 hz1 hz2 rfl (by decide) (.slice O' L co') L _ rfl ((own_below HOWN.out HB5.out).alloc _) ⟨_, 0, none⟩ 1 1 [.int .i64 x] rfl rfl (cell_one_new _ _ _) (by simp [Value.oneCell']) (by unfold maxLen; omega) (by omega) (by simp; omega) ?_; intro v' w4 hown' hgrow hnil hloc; obtain ⟨g', cap', rfl⟩ := own_succ hown'; have G1 := Lib.hid (grown_below hgrow); have O1 := Lib.hid hown'; clear hown' hgrow hnil hloc))
            go_ret2
            have hB4 := HBw.out.trans (HB5.out.mono HBw.out.size)
            have el : (left ++ [x]).length = L + 1 := by rw [List.length_append, HLL.out]; rfl
            refine ⟨some ⟨g', 0, none⟩, cap', ret_viv (by rw [HV3.out, el]), ?_, hB4.grown G1.out hB4.size (fun g hg => Nat.le_trans HB2.out.size (own_lt HOWN.out hg).1)⟩
            rw [HV3.out, el]; exact RI.of_own (by rw [List.map_append]; exact O1.out) (by omega)
          · have h1' : hasB S x = false := by simpa using h1
            by_cases h2 : hasB S (-x) = true
            · have HV3 : Hid (vivT (ls.eraseIdx k) l [] = vivT (ls.eraseIdx k) (l.drop (j + 1)) left) := Lib.hid (by rw [HV2.out, if_neg h1, if_pos h2])
              have H1 := Lib.hid h1'
              have H2 := Lib.hid h2
              clear h1 h1' h2
              go_wp2_with (first
                | (go_at_call 41; refine (opposites_any O' L co' left _ RLF.out HOL.out (by omega)).mono ?_; rintro e w4 ⟨A4, c4, rfl, hr4, hb4⟩; have HR4 := Lib.hid hr4; have HB4 := Lib.hid hb4; clear hr4 hb4)
                | (go_at_call 40; refine (all_yes O m2 co _ A4 L c4 _ S _ (HOT3.out.below HB4.out) HR4.out HCL0.out (okl_neg HOL.out) (con_neg HCON.out) hm2 (by omega) HCL.out).mono ?_; rintro e w5 ⟨A5, n5, c5, K5, rfl, hr5, hb5, hk5⟩; have HB5 := Lib.hid (HB4.out.trans (hb5.mono HB4.out.size)); have HR5 := Lib.hid hr5; have HK5 := Lib.hid hk5; have hc5 := (HB5.out.cell (p := ⟨b2, off2 + j, none⟩) hb2r).trans hcj; have hs5 := Nat.le_trans hsz3 HB5.out.size; clear hb5 hr5 hk5)
                | (go_at_call 42; ((with_reducible refine (has_val true A5 n5 c5 K5 (-x) _ HR5.out ((HK5.out (-x)).trans H2.out)).mono ?_)); rintro e w6 ⟨rfl, rfl⟩)
                | (go_at_call 42; ((with_reducible refine (has_val false A5 n5 c5 K5 x _ HR5.out ((HK5.out x).trans H1.out)).mono ?_)); rintro e w6 ⟨rfl, rfl⟩))
              go_roundw
              case rel => exact ⟨j + 1, L, O', co', left, HLL.out, by omega, by go_num, rfl, own_below HOWN.out HB5.out, HB3.out.trans (HB5.out.mono HB3.out.size), HV3.out, HOL.out, HCON.out, by omega⟩
              case measure => simp [intOf]; omega
            · have h2' : hasB S (-x) = false := by simpa using h2
              have HV3 : Hid (vivT (ls.eraseIdx k) l [] = vivT (ls.eraseIdx k) (l.drop (j + 1)) (left ++ [x])) := Lib.hid (by rw [HV2.out, if_neg h1, if_neg h2])
              have H1 := Lib.hid h1'
              have H2 := Lib.hid h2'
              clear h1 h1' h2 h2'
              go_wp2_with (first
                | (go_at_call 41; refine (opposites_any O' L co' left _ RLF.out HOL.out (by omega)).mono ?_; rintro e w4 ⟨A4, c4, rfl, hr4, hb4⟩; have HR4 := Lib.hid hr4; have HB4 := Lib.hid hb4; clear hr4 hb4)
                | (go_at_call 40; refine (all_yes O m2 co _ A4 L c4 _ S _ (HOT3.out.below HB4.out) HR4.out HCL0.out (okl_neg HOL.out) (con_neg HCON.out) hm2 (by omega) HCL.out).mono ?_; rintro e w5 ⟨A5, n5, c5, K5, rfl, hr5, hb5, hk5⟩; have HB5 := Lib.hid (HB4.out.trans (hb5.mono HB4.out.size)); have HR5 := Lib.hid hr5; have HK5 := Lib.hid hk5; have hc5 := (HB5.out.cell (p := ⟨b2, off2 + j, none⟩) hb2r).trans hcj; have hs5 := Nat.le_trans hsz3 HB5.out.size; clear hb5 hr5 hk5)
                | (go_at_call 42; ((with_reducible refine (has_val false A5 n5 c5 K5 (-x) _ HR5.out ((HK5.out (-x)).trans H2.out)).mono ?_)); rintro e w6 ⟨rfl, rfl⟩)
                | (go_at_call 42; ((with_reducible refine (has_val false A5 n5 c5 K5 x _ HR5.out ((HK5.out x).trans H1.out)).mono ?_)); rintro e w6 ⟨rfl, rfl⟩)
                | (at_builtin; refine wpList_append_own_at _ rfl (.tmp 86) (.tmp 91) 31 rfl w2.heap.size 3 i0 (.int .i64 0) 1 8 Try.underlying31 hi hz0 hz1 hz2 rfl (by decide) (.slice O' L co') L _ rfl ((own_below HOWN.out HB5.out).alloc _) ⟨_, 0, none⟩ 1 1 [.int .i64 x] rfl rfl (cell_one_new _ _ _) (by simp [Value.oneCell']) (by unfold maxLen; omega) (by omega) (by simp; omega) ?_; intro v' w4 hown' hgrow hnil hloc; obtain ⟨g', cap', rfl⟩ := own_succ hown'; have G1 := Lib.hid (grown_below hgrow); have O1 := Lib.hid hown'; clear hown' hgrow hnil hloc))
              go_roundw
              case rel =>
                refine ⟨j + 1, L + 1, some ⟨g', 0, none⟩, cap', left ++ [x], by rw [List.length_append, HLL.out]; rfl, by omega, by go_num, rfl, by rw [List.map_append]; exact O1.out, ?_, HV3.out, ?_, con_next HCL0.out HCON.out HX.out.1 HCL.out H1.out H2.out, by omega⟩
                · have hB4 := HB3.out.trans (HB5.out.mono HB3.out.size)
                  exact hB4.grown G1.out hB4.size (fun g hg => (own_lt HOWN.out hg).1)
                · intro y hy
                  rcases List.mem_append.1 hy with hy | hy
                  · exact HOL.out y hy
                  · rw [List.mem_singleton.1 hy]; exact HX.out
              case measure => simp [intOf]; omega
      · have hvv := HV.out
        rw [List.drop_of_length_le (by rw [HM.out]; omega), vivT] at hvv
        have HVV := Lib.hid hvv
        clear hvv
        go_wp2
        go_ret2
        refine ⟨O', co', ret_viv (by rw [HVV.out, HLL.out]), ?_, HBw.out⟩
        rw [HVV.out, HLL.out]; exact RLF.out

theorem vivifyR_any (x : Int) (A : Option Addr) (n c : Nat) (ls : List (List Int)) (k : Int) (w : World) (h : RL w A n c ls) (hs : sumL ls ≤ 50000) (hn : n ≤ 1000000) :
    Calls Try.prog 17 #[.agg #[.int .i64 x, .slice A n c], .int .i64 k] w (Viv (vivL x ls k) (vivE x ls k) w) := by
  by_cases he : vivE x ls k = 0
  · obtain ⟨h1, h2, h3⟩ := vivE_zero he
    have hl := h.len
    obtain ⟨j, rfl⟩ : ∃ j : Nat, k = j := ⟨k.toNat, by omega⟩
    have := vivifyR_ok x A n c ls j w h h1 (by omega) hs hn
    unfold vivL
    rw [if_pos he, he]
    simpa using this
  · have := vivifyR_bad x A n c ls k w h he
    unfold vivL
    rw [if_neg he]
    exact this

end Go.Proofs.Ytalcnkoidmoibaa

namespace Go.Proofs.Ytalcnkoidmoibaa
open Go.RowKit Go.Shelf
set_option linter.unusedVariables false
set_option linter.unusedSimpArgs false

theorem aheadB_eq (es : List Lrn) (i k : Nat) : aheadB es i k = (if (lrn es i).act ≠ (lrn es k).act then decide ((lrn es k).act < (lrn es i).act) else if (lrn es i).lv ≠ (lrn es k).lv then decide ((lrn es i).lv < (lrn es k).lv) else decide (k < i)) := by
  unfold aheadB
  rw [Bool.eq_iff_iff, decide_eq_true_eq, ordI_neg]
  split
  · rw [decide_eq_true_eq]; omega
  · split
    · rw [decide_eq_true_eq]; omega
    · rw [decide_eq_true_eq]; omega

set_option maxHeartbeats 1000000 in
theorem ahead_any (A : Option Addr) (n c : Nat) (es : List Lrn) (i k : Nat) (w : World) (h : RE w A n c es) (hi : i < n) (hk : k < n) :
    Calls Try.prog 35 #[.slice A n c, .int .i64 i, .int .i64 k] w fun e w' => e = .returned (.bool (aheadB es i k)) ∧ ∃ q, w' = w.drewN q := by
  rw [aheadB_eq]
  have hn := h.small
  obtain ⟨b, off, rfl, hbl, hc⟩ := h.cells (by omega)
  obtain ⟨i0, i1, i2, -⟩ := hc i hi
  obtain ⟨k0, k1, k2, -⟩ := hc k hk
  clear hc
  have hi' : (i : Int) < (n : Int) := by omega
  have hk' : (k : Int) < (n : Int) := by omega
  by_cases ha : (lrn es i).act = (lrn es k).act
  · have ha' : ((lrn es i).act != (lrn es k).act) = false := by simpa using ha
    rw [if_neg (by simpa using ha)]
    have HA := Lib.hid ha
    clear ha
    by_cases hl : (lrn es i).lv = (lrn es k).lv
    · have hl' : ((lrn es i).lv != (lrn es k).lv) = false := by simpa using hl
      rw [if_neg (by simpa using hl)]
      have HL := Lib.hid hl
      clear hl
      go_enter Try.func35, Try.ntmps35
      go_wp2
      go_quiet (fail)
      go_wp2
      go_quiet (fail)
      go_wp2
      go_ret
      exact ⟨ret_bool (by simp), _, by first | rfl | (simp only [World.drewN_drewN]; rfl)⟩
    · have hl' : ((lrn es i).lv != (lrn es k).lv) = true := by simpa using hl
      rw [if_pos (by simpa using hl)]
      have HL := Lib.hid hl
      clear hl
      go_enter Try.func35, Try.ntmps35
      go_wp2
      go_quiet (fail)
      go_wp2
      go_quiet (fail)
      go_wp2
      go_quiet (fail)
      go_wp2
      go_ret
      exact ⟨ret_bool rfl, _, by first | rfl | (simp only [World.drewN_drewN]; rfl)⟩
  · have ha' : ((lrn es i).act != (lrn es k).act) = true := by simpa using ha
    rw [if_pos (by simpa using ha)]
    have HA := Lib.hid ha
    clear ha
    go_enter Try.func35, Try.ntmps35
    go_wp2
    go_quiet (fail)
    go_wp2
    go_quiet (fail)
    go_wp2
    go_ret
    exact ⟨ret_bool rfl, _, by first | rfl | (simp only [World.drewN_drewN]; rfl)⟩

theorem ahead_val (r : Bool) (A : Option Addr) (n c : Nat) (es : List Lrn) (i k : Nat) (w : World) (h : RE w A n c es) (hi : i < n) (hk : k < n) (hr : aheadB es i k = r) :
    Calls Try.prog 35 #[.slice A n c, .int .i64 i, .int .i64 k] w fun e w' => e = .returned (.bool r) ∧ Below w.heap.size w w' :=
  (ahead_any A n c es i k w h hi hk).mono fun _ _ ⟨he, q, hq⟩ => ⟨by rw [he, hr], by rw [hq]; exact drewN_below w q⟩

set_option maxRecDepth 100000 in
set_option maxHeartbeats 4000000 in
theorem reduceR_any (A : Option Addr) (n c : Nat) (es : List Lrn) (keep : Int) (w : World) (h : RE w A n c es) (hn : n ≤ 60000) :
    Calls Try.prog 14 #[.slice A n c, .int .i64 keep] w (Redd (redL es keep) w) := by
  obtain ⟨j0, gi, gz0, gz1, gz2⟩ := info_parts infoLrn
  have H := Lib.hid h
  have hnn : n ≤ 60000 := hn
  clear h
  go_enter Try.func14, Try.ntmps14
  go_wp2
  go_loopw [5, 6] (fun s5 s6 W => ∃ (i : Nat) (O : Option Addr) (L co : Nat), i ≤ n ∧ s6 = .int .i64 i ∧ s5 = .slice O L co ∧ W.ownsRow w.heap.size 44 3 (.slice O L co) L (cellsE (redTo es keep i)) ∧ (redTo es keep i).length = L ∧ Below w.heap.size w W) (fun _ i _ => n - (intOf i).toNat)
  case atStart => exact ⟨0, none, 0, 0, Nat.zero_le _, rfl, rfl, World.ownsRow_nil _ _ _ _, rfl, Below.refl _ _⟩
  case round =>
    obtain ⟨i, O, L, co, hi, rfl, rfl, hown, hl, hb⟩ := hrel
    have hLi : L ≤ i := by rw [← hl]; exact redTo_len es keep i
    have HB := Lib.hid hb
    have HL := Lib.hid hl
    have HO := Lib.hid hown
    have hsz := hb.size
    clear hb hl hown
    by_cases hil : i < n
    · go_wp2
      go_loopw [7, 8] (fun s7 s8 W => ∃ k : Nat, k ≤ n ∧ s8 = .int .i64 k ∧ s7 = .int .i64 (rankTo es i k : Nat) ∧ Below wr.heap.size wr W) (fun _ k _ => n - (intOf k).toNat)
      case atStart => exact ⟨0, Nat.zero_le _, rfl, rfl, Below.refl _ _⟩
      case round =>
        obtain ⟨k, hk, rfl, rfl, hbk⟩ := hrel
        have HBK := Lib.hid hbk
        clear hbk
        have hrk := rankTo_le es i k
        by_cases hkl : k < n
        · obtain ⟨b, off, rfl, hbl, hc⟩ := H.out.cells (by omega)
          have k1 := (hc k hkl).2.1
          clear hc
          have hW := HB.out.trans (HBK.out.mono hsz)
          have k1' := (hW.cell (p := ⟨b, off + k * 3 + 1, none⟩) hbl).trans k1
          have hsu := rankTo_succ es i k
          have hcall := fun r hr => ahead_val r (some ⟨b, off, none⟩) n c es k i _ (H.out.below hW) hkl hil hr
          clear k1 hW
          by_cases hlg : 2 < (lrn es k).lv
          · have hlb : longB (lrn es k) = true := by unfold longB; simpa using hlg
            rw [hlb, Bool.true_and] at hsu
            clear hlb
            cases ha : aheadB es k i
            all_goals
              rw [ha] at hsu
              have hc2 := hcall _ ha
              clear hcall ha
              simp only [Bool.false_eq_true, if_false, if_true, Nat.add_zero] at hsu
              have HSU := Lib.hid hsu
              clear hsu
              go_wp2_with (go_at_call 35; refine hc2.mono ?_; clear hc2; rintro e w3 ⟨rfl, hb3⟩; have HB3 := Lib.hid hb3; clear hb3)
              go_roundw
              all_goals first
                | exact ⟨k + 1, by omega, by go_num, by rw [HSU.out]; go_num, HBK.out.trans (HB3.out.mono HBK.out.size)⟩
                | exact ⟨k + 1, by omega, by go_num, by rw [HSU.out], HBK.out.trans (HB3.out.mono HBK.out.size)⟩
                | (simp [intOf]; omega)
          · have hlb : longB (lrn es k) = false := by unfold longB; simpa using hlg
            rw [hlb, Bool.false_and] at hsu
            simp only [Bool.false_eq_true, if_false, Nat.add_zero] at hsu
            have HSU := Lib.hid hsu
            clear hsu hcall hlb
            go_wp2
            go_roundw
            case rel => exact ⟨k + 1, by omega, by go_num, by rw [HSU.out], HBK.out⟩
            case measure => simp [intOf]; omega
        · obtain rfl : k = n := by omega
          obtain ⟨b, off, rfl, hbl, hc⟩ := H.out.cells (by omega)
          obtain ⟨c0, c1, c2, -⟩ := hc i hil
          clear hc
          have hW := HB.out.trans (HBK.out.mono hsz)
          have c0' := (hW.cell (p := ⟨b, off + i * 3, none⟩) hbl).trans c0
          have c1' := (hW.cell (p := ⟨b, off + i * 3 + 1, none⟩) hbl).trans c1
          have c2' := (hW.cell (p := ⟨b, off + i * 3 + 2, none⟩) hbl).trans c2
          have hps := redTo_succ es keep i
          have HO2 := Lib.hid (own_below HO.out HBK.out)
          have HW := Lib.hid hW
          have hs2 := hW.size
          have hkp : keptB es keep i = (!(longB (lrn es i)) || decide ((rankTo es i k : Int) < keep)) := by unfold keptB rank; rw [H.out.len]
          unfold longB at hkp
          clear c0 c1 c2 hW
          rcases hE : lrn es i with ⟨⟨A1, n1, c1, z1⟩, lv, act⟩
          rw [hE] at c0' c1' c2' hps hkp
          simp only [rowV] at c0' c1' c2' hkp
          clear hE
          by_cases hlg : lv ≤ 2
          · have hk1 : keptB es keep i = true := by rw [hkp]; simp; omega
            rw [hk1] at hps
            simp only [if_true] at hps
            have HP := Lib.hid hps
            clear hps hkp hk1
            go_wp2_with (at_builtin; refine wpList_append_own_at _ rfl (.tmp 46) (.tmp 51) 22 rfl w.heap.size 44 j0 (.agg #[.slice none 0 0, .int .i64 0, .int .i64 0]) 3 40 Try.underlying22 gi gz0 gz1 gz2 rfl (by decide) (.slice O L co) L _ rfl (HO2.out.alloc _) ⟨_, 0, none⟩ 1 1 [.slice A1 n1 c1, .int .i64 lv, .int .i64 act] rfl rfl (cell_three_at _ _ _ _ _ _ rfl) (by simp [Value.oneCell']) (by unfold maxLen; omega) (by omega) (by simp; omega) ?_; intro v' w6 hown' hgrow hnil hloc; obtain ⟨g', cap', rfl⟩ := own_succ hown'; have G1 := Lib.hid (grown_below hgrow); have O1 := Lib.hid hown'; clear hown' hgrow hnil hloc)
            go_roundw
            case rel => exact ⟨i + 1, some ⟨g', 0, none⟩, L + 1, cap', by omega, by go_num, rfl, by rw [HP.out, cellsE_snoc]; exact O1.out, by rw [HP.out, List.length_append, HL.out]; rfl, HW.out.grown G1.out hs2 (fun g hg => (own_lt HO2.out hg).1)⟩
            case measure => simp [intOf]; omega
          · by_cases hrk2 : (rankTo es i k : Int) < keep
            · have hk1 : keptB es keep i = true := by rw [hkp]; simp; omega
              rw [hk1] at hps
              simp only [if_true] at hps
              have HP := Lib.hid hps
              clear hps hkp hk1
              go_wp2_with (at_builtin; refine wpList_append_own_at _ rfl (.tmp 46) (.tmp 51) 22 rfl w.heap.size 44 j0 (.agg #[.slice none 0 0, .int .i64 0, .int .i64 0]) 3 40 Try.underlying22 gi gz0 gz1 gz2 rfl (by decide) (.slice O L co) L _ rfl (HO2.out.alloc _) ⟨_, 0, none⟩ 1 1 [.slice A1 n1 c1, .int .i64 lv, .int .i64 act] rfl rfl (cell_three_at _ _ _ _ _ _ rfl) (by simp [Value.oneCell']) (by unfold maxLen; omega) (by omega) (by simp; omega) ?_; intro v' w6 hown' hgrow hnil hloc; obtain ⟨g', cap', rfl⟩ := own_succ hown'; have G1 := Lib.hid (grown_below hgrow); have O1 := Lib.hid hown'; clear hown' hgrow hnil hloc)
              go_roundw
              case rel => exact ⟨i + 1, some ⟨g', 0, none⟩, L + 1, cap', by omega, by go_num, rfl, by rw [HP.out, cellsE_snoc]; exact O1.out, by rw [HP.out, List.length_append, HL.out]; rfl, HW.out.grown G1.out hs2 (fun g hg => (own_lt HO2.out hg).1)⟩
              case measure => simp [intOf]; omega
            · have hk1 : keptB es keep i = false := by rw [hkp]; simp; omega
              rw [hk1] at hps
              simp only [Bool.false_eq_true, if_false] at hps
              have HP := Lib.hid hps
              clear hps hkp hk1
              go_wp2
              go_roundw
              case rel => exact ⟨i + 1, O, L, co, by omega, by go_num, rfl, by rw [HP.out]; exact HO2.out, by rw [HP.out]; exact HL.out, HW.out⟩
              case measure => simp [intOf]; omega
    · obtain rfl : i = n := by omega
      go_wp2
      go_ret
      have hlen : (redL es keep).length = L := by unfold redL; rw [H.out.len]; exact HL.out
      have hre : redL es keep = redTo es keep i := by unfold redL; rw [H.out.len]
      refine ⟨O, co, by rw [hlen]; rfl, ?_, HB.out⟩
      rw [hlen, hre]
      refine RE.of_own HO.out HL.out ?_ (by omega)
      intro e he
      rw [← hre] at he
      obtain ⟨j, hj, _, rfl⟩ := mem_redL.1 he
      rw [H.out.len] at hj
      obtain ⟨b, off, _, _, hc⟩ := H.out.cells (by omega)
      exact (hc j hj).2.2.2.below HB.out

end Go.Proofs.Ytalcnkoidmoibaa
