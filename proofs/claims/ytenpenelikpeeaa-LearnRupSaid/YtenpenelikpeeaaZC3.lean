/-
  A slice of bools; lit.true, Holds, Value of the package cnf. Turned from this repo's texts of chapter 22. No condition.
  Words for a map with int keys of a function's own: what it holds is a function; looked up, written, struck, ranged over. No condition.
-/
import Derived.Test.YtenpenelikpeeaaZC2
import Derived.Maps.RangeWalk

namespace Go.Proofs.Ytenpenelikpeeaa
open Go.RowKit Go.Shelf
set_option linter.unusedVariables false
set_option linter.unusedSimpArgs false

/- YtalcnkoidmoibaaG1 -/
/-- a slice of bools that reads as a list -/
structure RB (w : World) (A : Option Addr) (n c : Nat) (bs : List Bool) : Prop where
  len : bs.length = n
  cap : n ≤ c
  big : n ≤ 140737488355328
  cmax : c ≤ maxLen
  cells : 0 < n → ∃ b off, A = some ⟨b, off, none⟩ ∧ b < w.heap.size ∧ ∀ j, j < n → w.cell? ⟨b, off + j, none⟩ = some (.bool (bs.getD j false))

theorem RB.below {w w' : World} {A : Option Addr} {n c : Nat} {bs : List Bool} (h : RB w A n c bs) (hb : Below w.heap.size w w') : RB w' A n c bs :=
  ⟨h.len, h.cap, h.big, h.cmax, fun hn => by
    obtain ⟨b, off, rfl, hlt, hc⟩ := h.cells hn
    exact ⟨b, off, rfl, Nat.lt_of_lt_of_le hlt hb.size, fun j hj => (hb.cell (p := ⟨b, off + j, none⟩) hlt).trans (hc j hj)⟩⟩

theorem RB.nil (w : World) (A : Option Addr) (c : Nat) (hc : c ≤ maxLen) : RB w A 0 c [] := ⟨rfl, Nat.zero_le _, by omega, hc, fun h => absurd h (by omega)⟩

/-- a literal's value -/
def varB (bs : List Bool) (v : Nat) : Bool := bs.getD v false

def litT (bs : List Bool) (x : Int) : Bool := if isB x 65536 = true then varB bs x.natAbs == decide (0 < x) else false

def holdsT (bs : List Bool) (l : List Int) : Bool := l.any (litT bs)

def valueT (x : Int) (ls : List (List Int)) (bs : List Bool) : Bool := checkE x ls == 0 && ls.all (holdsT bs)

theorem litT_no {bs : List Bool} {x : Int} (h : isB x 65536 = false) : litT bs x = false := by unfold litT; rw [if_neg (by simp [h])]

theorem litT_yes {bs : List Bool} {x : Int} (h : isB x 65536 = true) : litT bs x = (varB bs x.natAbs == decide (0 < x)) := by unfold litT; rw [if_pos h]

theorem may_val (r : Bool) (x n : Int) (w : World) (h0 : 0 ≤ n) (h1 : n ≤ 65536) (hr : isB x n = r) :
    Calls Try.prog 62 #[.int .i64 x, .int .i64 n] w fun e w' => e = .returned (.bool r) ∧ w = w' := by
  have := may_any x n w h0 h1
  rw [hr] at this; exact this

theorem absI_nat (x : Int) : absI x = (x.natAbs : Int) := by unfold absI; split <;> omega

theorem varB_out {bs : List Bool} {v n : Nat} (hl : bs.length = n) (h : ¬ v < n) : varB bs v = false := by
  unfold varB; rw [List.getD_eq_getElem?_getD, List.getElem?_eq_none (by omega)]; rfl

set_option maxHeartbeats 400000 in
theorem litTrue_any (x : Int) (A : Option Addr) (n c : Nat) (bs : List Bool) (w : World) (h : RB w A n c bs) :
    Calls Try.prog 60 #[.int .i64 x, .slice A n c] w fun e w' => e = .returned (.bool (litT bs x)) ∧ w = w' := by
  have hl := h.len
  cases hi : isB x 65536
  · rw [litT_no hi]
    have HI := Lib.hid hi
    clear hi h hl
    go_enter Try.func60, Try.ntmps60
    go_wp2_with (go_at_call 62; refine (may_val false x 65536 w (by omega) (by omega) HI.out).mono ?_; rintro e w' ⟨rfl, rfl⟩)
    go_ret
    exact ⟨rfl, rfl⟩
  · rw [litT_yes hi]
    have hb := isB_iff.1 hi
    have hof := of_any x w hb.2.1 hb.2.2
    rw [absI_nat] at hof
    have HI := Lib.hid hi
    clear hi hb
    generalize x.natAbs = k at hof ⊢
    have hb := h.big
    by_cases hlt : k < n
    · obtain ⟨b, off, rfl, hbl, hc⟩ := h.cells (by omega)
      have hck := hc k hlt
      have e : bs.getD k false = varB bs k := rfl
      rw [e] at hck
      generalize varB bs k = v at hck ⊢
      clear hc h hl e
      by_cases hp : 0 < x
      all_goals
        go_enter Try.func60, Try.ntmps60
        go_wp2_with (first | (go_at_call 62; refine (may_val true x 65536 w (by omega) (by omega) HI.out).mono ?_; rintro e w' ⟨rfl, rfl⟩) | (go_at_call 80; refine hof.mono ?_; clear hof; rintro e w' ⟨rfl, rfl⟩))
        go_ret
        exact ⟨ret_bool (by simp [hp]), rfl⟩
    · rw [varB_out hl hlt]
      clear h hl
      by_cases hp : 0 < x
      all_goals
        go_enter Try.func60, Try.ntmps60
        go_wp2_with (first | (go_at_call 62; refine (may_val true x 65536 w (by omega) (by omega) HI.out).mono ?_; rintro e w' ⟨rfl, rfl⟩) | (go_at_call 80; refine hof.mono ?_; clear hof; rintro e w' ⟨rfl, rfl⟩))
        go_ret
        exact ⟨ret_bool (by simp [hp]), rfl⟩

theorem enters59 : ∀ args w, (callFunc 59 args).run Try.prog w = .ok (.enter 59 args) w := enters_of Try.func59 (by kernel_rfl) rfl

theorem enters57 : ∀ args w, (callFunc 57 args).run Try.prog w = .ok (.enter 57 args) w := enters_of Try.func57 (by kernel_rfl) rfl

set_option maxHeartbeats 400000 in
theorem holds1_any (B : Nat) (x : Int) (A : Option Addr) (n c : Nat) (bs : List Bool) (w : World) (hc : w.cell? ⟨B, 0, none⟩ = some (.slice A n c)) (h : RB w A n c bs) :
    Calls Try.prog 59 #[.int .i64 x, .pointer (some ⟨B, 0, none⟩)] w fun e w' => e = .returned (.bool (litT bs x)) ∧ w = w' := by
  have H := Lib.hid h
  clear h
  go_enter Try.func59, Try.ntmps59
  go_wp2_with (go_at_call 60; refine (litTrue_any x A n c bs w H.out).mono ?_; rintro e w' ⟨rfl, rfl⟩)
  go_ret
  exact ⟨rfl, rfl⟩

set_option maxHeartbeats 400000 in
theorem holds_any (A : Option Addr) (n c : Nat) (zs : List Int) (A' : Option Addr) (n' c' : Nat) (bs : List Bool) (w : World) (h : RI w A n c zs) (h' : RB w A' n' c' bs) :
    Calls Try.prog 22 #[.slice A n c, .slice A' n' c'] w fun e w' => e = .returned (.bool (holdsT bs zs)) ∧ Below w.heap.size w w' := by
  have hb : Below w.heap.size w (w.alloc (.cells #[.slice A' n' c'] 43)) := (Below.refl _ _).alloc (Nat.le_refl _) _
  have hcall := containsI_any 59 #[.pointer (some ⟨w.heap.size, 0, none⟩)] (litT bs) enters59 A n c zs (w.alloc (.cells #[.slice A' n' c'] 43)) (h.alloc _) (fun y _ => holds1_any w.heap.size y A' n' c' bs _ (by simp) (h'.below hb))
  have HB := Lib.hid hb
  clear h h' hb
  go_enter Try.func22, Try.ntmps22
  go_wp2_with (go_at_call 49; refine hcall.mono ?_; clear hcall; rintro e w' ⟨rfl, rfl⟩)
  go_ret
  exact ⟨rfl, HB.out⟩

theorem holds_val (r : Bool) (A : Option Addr) (n c : Nat) (zs : List Int) (A' : Option Addr) (n' c' : Nat) (bs : List Bool) (w : World) (h : RI w A n c zs) (h' : RB w A' n' c' bs) (hr : holdsT bs zs = r) :
    Calls Try.prog 22 #[.slice A n c, .slice A' n' c'] w fun e w' => e = .returned (.bool r) ∧ Below w.heap.size w w' := by
  have := holds_any A n c zs A' n' c' bs w h h'
  rw [hr] at this; exact this

set_option maxHeartbeats 400000 in
theorem value1_any (B : Nat) (A : Option Addr) (n c : Nat) (zs : List Int) (A' : Option Addr) (n' c' : Nat) (bs : List Bool) (w : World) (hc : w.cell? ⟨B, 0, none⟩ = some (.slice A' n' c')) (h : RI w A n c zs) (h' : RB w A' n' c' bs) :
    Calls Try.prog 57 #[.slice A n c, .pointer (some ⟨B, 0, none⟩)] w fun e w' => e = .returned (.bool (!(holdsT bs zs))) ∧ Below w.heap.size w w' := by
  have H := Lib.hid h
  have H' := Lib.hid h'
  clear h h'
  generalize hv : holdsT bs zs = v
  have HV := Lib.hid hv
  clear hv
  go_enter Try.func57, Try.ntmps57
  go_wp2_with (go_at_call 22; refine (holds_val v A n c zs A' n' c' bs w H.out H'.out HV.out).mono ?_; rintro e w' ⟨rfl, hb⟩)
  go_ret
  exact ⟨rfl, hb⟩

theorem anyl_at {ls : List (List Int)} {p : List Int → Bool} {k : Nat} (h : k < ls.length) (e : p (ell ls k) = true) : ls.any p = true := by
  rw [List.any_eq_true]; exact ⟨_, ell_mem h, e⟩

theorem anyl_step {ls : List (List Int)} {p : List Int → Bool} {k : Nat} (h : k < ls.length) (e : p (ell ls k) = false) (h0 : (ls.take k).any p = false) : (ls.take (k + 1)).any p = false := by
  rw [takel_snoc ls k h, List.any_append, h0]; simp [e]

theorem anyl_full {ls : List (List Int)} {p : List Int → Bool} {k n : Nat} (hl : ls.length = n) (h : ¬ k < n) (h0 : (ls.take k).any p = false) : ls.any p = false := by
  rw [List.take_of_length_le (by omega)] at h0; exact h0

/-- a predicate on rows that makes memory only -/
def PredL (g : Nat) (lb : Array Value) (p : List Int → Bool) (w : World) : Prop :=
  ∀ (A : Option Addr) (n c : Nat) (zs : List Int) (W : World), Below w.heap.size w W → RI W A n c zs → Calls Try.prog g (#[.slice A n c] ++ lb) W fun e w' => e = .returned (.bool (p zs)) ∧ Below W.heap.size W w'

theorem PredL.val {g : Nat} {lb : Array Value} {p : List Int → Bool} {w : World} (h : PredL g lb p w) (r : Bool) (A : Option Addr) (n c : Nat) (zs : List Int) (W : World) (hb : Below w.heap.size w W) (hr : RI W A n c zs) (he : p zs = r) :
    Calls Try.prog g (#[.slice A n c] ++ lb) W fun e w' => e = .returned (.bool r) ∧ Below W.heap.size W w' := by
  have := h A n c zs W hb hr
  rw [he] at this; exact this

def IdxL (p : List Int → Bool) (ls : List (List Int)) (w : World) (e : Ending) (w' : World) : Prop := ∃ r : Int, e = .returned (.int .i64 r) ∧ (decide (0 ≤ r) = ls.any p) ∧ Below w.heap.size w w'

set_option maxHeartbeats 400000 in
theorem indexP_any (g : Nat) (lb : Array Value) (p : List Int → Bool) (eg : ∀ args w, (callFunc g args).run Try.prog w = .ok (.enter g args) w) (A : Option Addr) (n c : Nat) (ls : List (List Int)) (w : World) (h : RL w A n c ls)
    (hp : PredL g lb p w) : Calls Try.prog 79 #[.slice A n c, .func (.func g) #[] lb] w (IdxL p ls w) := by
  have hn := h.small
  have H := Lib.hid h
  clear h
  have HP := Lib.hid hp
  clear hp
  go_enter Try.func79, Try.ntmps79
  go_wp2
  go_loopw [8] (fun i W => ∃ k : Nat, k ≤ n ∧ i = .int .i64 k ∧ (ls.take k).any p = false ∧ Below w.heap.size w W) (fun i _ => n - (intOf i).toNat)
  case atStart => exact ⟨0, Nat.zero_le _, rfl, rfl, Below.refl _ _⟩
  case round =>
    obtain ⟨k, hk, rfl, hno, hb⟩ := hrel
    have HN := Lib.hid hno
    have HB := Lib.hid hb
    clear hno hb
    by_cases hlt : k < n
    · obtain ⟨b, off, rfl, hbl, hc⟩ := (H.out.below HB.out).cells (by omega)
      obtain ⟨a1, n1, c1, hck, hr1⟩ := hc k hlt
      clear hc
      have hl : k < ls.length := by rw [H.out.len]; exact hlt
      cases ho : p (ell ls k)
      · have hcall := HP.out.val false a1 n1 c1 (ell ls k) wr HB.out hr1 ho
        have HO := Lib.hid ho
        have HL := Lib.hid hl
        clear ho hr1 hl
        go_wp2_with (go_at_fn g; refine hcall.mono ?_; clear hcall; rintro e w' ⟨rfl, hb2⟩; have HB2 := Lib.hid hb2; clear hb2)
        go_roundw
        case rel => exact ⟨k + 1, by omega, by go_num, anyl_step HL.out HO.out HN.out, HB.out.trans (HB2.out.mono HB.out.size)⟩
        case measure => simp [intOf]; omega
      · have hcall := HP.out.val true a1 n1 c1 (ell ls k) wr HB.out hr1 ho
        have HO := Lib.hid ho
        have HL := Lib.hid hl
        clear ho hr1 hl
        go_wp2_with (go_at_fn g; refine hcall.mono ?_; clear hcall; rintro e w' ⟨rfl, hb2⟩; have HB2 := Lib.hid hb2; clear hb2)
        go_ret
        exact ⟨k, rfl, by rw [anyl_at HL.out HO.out]; simp, HB.out.trans (HB2.out.mono HB.out.size)⟩
    · go_wp2
      go_ret
      exact ⟨-1, rfl, by rw [anyl_full H.out.len hlt HN.out]; rfl, HB.out⟩

set_option maxHeartbeats 400000 in
theorem containsP_any (g : Nat) (lb : Array Value) (p : List Int → Bool) (eg : ∀ args w, (callFunc g args).run Try.prog w = .ok (.enter g args) w) (A : Option Addr) (n c : Nat) (ls : List (List Int)) (w : World) (h : RL w A n c ls)
    (hp : PredL g lb p w) : Calls Try.prog 58 #[.slice A n c, .func (.func g) #[] lb] w fun e w' => e = .returned (.bool (ls.any p)) ∧ Below w.heap.size w w' := by
  have hI := indexP_any g lb p eg A n c ls w h hp
  clear h hp
  go_enter Try.func58, Try.ntmps58
  go_wp2_with (go_at_call 79; refine hI.mono ?_; rintro e w' ⟨r, rfl, hr, hb⟩)
  all_goals
    go_ret
    exact ⟨ret_bool (by rw [← hr]), hb⟩

theorem containsP_val (r : Bool) (g : Nat) (lb : Array Value) (p : List Int → Bool) (eg : ∀ args w, (callFunc g args).run Try.prog w = .ok (.enter g args) w) (A : Option Addr) (n c : Nat) (ls : List (List Int)) (w : World) (h : RL w A n c ls)
    (hp : PredL g lb p w) (hr : ls.any p = r) : Calls Try.prog 58 #[.slice A n c, .func (.func g) #[] lb] w fun e w' => e = .returned (.bool r) ∧ Below w.heap.size w w' := by
  have := containsP_any g lb p eg A n c ls w h hp
  rw [hr] at this; exact this

theorem any_not_holds (bs : List Bool) (ls : List (List Int)) : ls.any (fun l => !(holdsT bs l)) = !(ls.all (holdsT bs)) := by rw [List.not_all_eq_any_not]

set_option maxHeartbeats 800000 in
theorem value_any (x : Int) (A : Option Addr) (n c : Nat) (ls : List (List Int)) (A' : Option Addr) (n' c' : Nat) (bs : List Bool) (w : World) (h : RL w A n c ls) (h' : RB w A' n' c' bs) :
    Calls Try.prog 21 #[.agg #[.int .i64 x, .slice A n c], .slice A' n' c'] w fun e w' => e = .returned (.bool (valueT x ls bs)) ∧ Below w.heap.size w w' := by
  have hbx : Below w.heap.size w ((w.alloc (.cells #[.int .i64 x, .slice A n c] 24)).alloc (.cells #[.slice A' n' c'] 43)) := ((Below.refl _ _).alloc (Nat.le_refl _) _).alloc (by simp) _
  have BX := Lib.hid ((Two.new w (.int .i64 x) (.slice A n c)).below ((Below.refl _ _).alloc (Nat.le_refl _) (.cells #[.slice A' n' c'] 43)))
  have hc0 : ((w.alloc (.cells #[.int .i64 x, .slice A n c] 24)).alloc (.cells #[.slice A' n' c'] 43)).cell? ⟨w.heap.size + 1, 0, none⟩ = some (.slice A' n' c') := by simp
  have HL := Lib.hid (h.below hbx)
  have HR := Lib.hid (h'.below hbx)
  have HBX := Lib.hid hbx
  have HC := Lib.hid hc0
  clear h h' hbx hc0
  have hP : ∀ W, Below ((w.alloc (.cells #[.int .i64 x, .slice A n c] 24)).alloc (.cells #[.slice A' n' c'] 43)).heap.size ((w.alloc (.cells #[.int .i64 x, .slice A n c] 24)).alloc (.cells #[.slice A' n' c'] 43)) W → PredL 57 #[.pointer (some ⟨w.heap.size + 1, 0, none⟩)] (fun l => !(holdsT bs l)) W := by
    intro W hW A1 n1 c1 zs W2 hW2 hr
    have hb2 := hW.trans (hW2.mono hW.size)
    exact value1_any (w.heap.size + 1) A1 n1 c1 zs A' n' c' bs W2 ((hb2.cell (p := ⟨w.heap.size + 1, 0, none⟩) (by simp)).trans HC.out) hr (HR.out.below hb2)
  have HP := Lib.hid hP
  clear hP
  cases hk : (checkE x ls == 0)
  · have hv : valueT x ls bs = false := by unfold valueT; rw [hk]; rfl
    rw [hv]
    have hcall := check_any x A n c ls _ HL.out
    generalize checkE x ls = e' at hcall hk
    clear hv
    go_enter Try.func21, Try.ntmps21
    go_upto_region 2 with fail
    generalize (w.alloc (.cells #[.int .i64 x, .slice A n c] 24)).alloc (.cells #[.slice A' n' c'] 43) = Wb at *
    have q0 := BX.out.c0
    have q1 := BX.out.c1
    go_wp2_with (go_at_call 23; refine hcall.mono ?_; clear hcall; rintro e w' ⟨rfl, hb⟩)
    go_ret
    exact ⟨rfl, HBX.out.trans (hb.mono HBX.out.size)⟩
  · have hv : valueT x ls bs = ls.all (holdsT bs) := by unfold valueT; rw [hk]; rfl
    rw [hv]
    have hcall := check_any x A n c ls _ HL.out
    have hk' : checkE x ls = 0 := by simpa using hk
    rw [hk'] at hcall
    clear hv hk hk'
    cases hr : ls.all (holdsT bs)
    all_goals
      have HR1 := Lib.hid ((any_not_holds bs ls).trans (congrArg (!·) hr))
      clear hr
      go_enter Try.func21, Try.ntmps21
      go_upto_region 2 with fail
      generalize (w.alloc (.cells #[.int .i64 x, .slice A n c] 24)).alloc (.cells #[.slice A' n' c'] 43) = Wb at *
      have q0 := BX.out.c0
      have q1 := BX.out.c1
      go_wp2_with (first
        | (go_at_call 23; refine hcall.mono ?_; clear hcall; rintro e w1 ⟨rfl, hb⟩; have HB := Lib.hid hb; have t1 := (BX.out.below hb).c1; clear hb)
        | (go_at_call 58; refine (containsP_val _ 57 _ _ enters57 A n c ls _ (HL.out.below HB.out) (HP.out _ HB.out) HR1.out).mono ?_; rintro e w2 ⟨rfl, hb2⟩; have HB2 := Lib.hid hb2; clear hb2))
      go_ret
      exact ⟨rfl, HBX.out.trans ((HB.out.trans (HB2.out.mono HB.out.size)).mono HBX.out.size)⟩

/- YtalcnkoidmoibaaG3 -/
theorem RB.of_own {w : World} {base : Nat} {A : Option Addr} {n c : Nat} {bs : List Bool} (h : w.ownsRow base 4 1 (.slice A n c) n (bs.map Value.bool)) (hbig : n ≤ 140737488355328) : RB w A n c bs := by
  obtain ⟨h1, h2⟩ := h
  have hl : bs.length = n := by simpa using h1
  rcases h2 with ⟨hv, hn⟩ | ⟨g, cap, cur, hv, hg, hh, hnc, hcm, hcs, htk⟩
  · simp only [Value.slice.injEq] at hv
    obtain ⟨rfl, _, rfl⟩ := hv
    subst hn
    exact ⟨hl, Nat.le_refl _, hbig, Nat.zero_le _, fun h => absurd h (by omega)⟩
  · simp only [Value.slice.injEq] at hv
    obtain ⟨rfl, _, rfl⟩ := hv
    refine ⟨hl, hnc, hbig, hcm, fun hn => ⟨g, 0, rfl, ?_, fun j hj => ?_⟩⟩
    · rcases Nat.lt_or_ge g w.heap.size with hlt | hge
      · exact hlt
      · rw [Array.getElem?_eq_none hge] at hh; cases hh
    · have e : cur[j]? = some (.bool (bs.getD j false)) := by
        have h3 : (cur.toList.take (n * 1))[j]? = (bs.map Value.bool)[j]? := by rw [htk]
        rw [List.getElem?_take_of_lt (by omega), List.getElem?_map, List.getElem?_eq_getElem (by omega : j < bs.length)] at h3
        rw [← Array.getElem?_toList, h3, List.getD_eq_getElem?_getD, List.getElem?_eq_getElem (by omega : j < bs.length)]
        rfl
      simp [World.cell?, hh, e]

/- YtalcnkoidmoibaaG2 -/
theorem litT_neg {bs : List Bool} {x : Int} (h : x ≠ 0 ∧ -65536 ≤ x ∧ x ≤ 65536) : litT bs (-x) = !(litT bs x) := by
  rw [litT_yes (isB_iff.2 ⟨by omega, by omega, by omega⟩), litT_yes (isB_iff.2 ⟨h.1, h.2.1, h.2.2⟩), Int.natAbs_neg]
  by_cases h0 : 0 < x
  · rw [decide_eq_true h0, decide_eq_false (by omega)]; cases varB bs x.natAbs <;> rfl
  · rw [decide_eq_false h0, decide_eq_true (by omega)]; cases varB bs x.natAbs <;> rfl

def Trues (bs : List Bool) (S : List Int) : Prop := ∀ x ∈ S, litT bs x = true

theorem holdsT_iff {bs : List Bool} {l : List Int} : holdsT bs l = true ↔ ∃ x ∈ l, litT bs x = true := by unfold holdsT; rw [List.any_eq_true]

end Go.Proofs.Ytenpenelikpeeaa

namespace Go.Proofs.Ytenpenelikpeeaa
open Go.RowKit Go.Shelf
set_option linter.unusedVariables false
set_option linter.unusedSimpArgs false

def wfI (x : Int) : Bool := (Lit.int .i64 x).wf
theorem wfI_of {x : Int} (h0 : -9223372036854775808 ≤ x) (h1 : x ≤ 9223372036854775807) : wfI x = true := by
  have a : IntKind.i64.min = -9223372036854775808 := by decide
  have b : IntKind.i64.max = 9223372036854775807 := by decide
  unfold wfI Lit.wf; simp [a, b]; omega

/-- what an element's type asks -/
structure EK {β : Type} (e : TypeId) (ev : β → Value) (ed : β → DataW Unit) (ok : β → Prop) (z0 : β) : Prop where
  mkV : ∀ x, ok x → plainElem (H := Unit) Try.prog e (ev x) = some (ed x, [])
  inv : ∀ v x ps, plainElem (H := Unit) Try.prog e v = some (ed x, ps) → v = ev x
  all : ∀ v y, plainElem (H := Unit) Try.prog e v = some y → ∃ x, v = ev x ∧ y.1 = ed x
  zero : ∀ w, (zeroValue e).run Try.prog w = .ok (ev z0) w
  okz : ok z0

def edB (v : Bool) : DataW Unit := .lit (.bool v)
def edI (v : Int) : DataW Unit := .lit (.int .i64 v)
theorem ekB : EK 4 Value.bool edB (fun _ => True) false where
  mkV x _ := plainElem_bool Try.underlying4 x
  inv v x ps h := elem_bool_inv Try.underlying4 h
  all v y h := by
    have hu := Try.underlying4
    generalize Try.prog = P at h hu
    unfold plainElem at h
    rw [hu] at h
    cases v <;> simp at h
    subst h
    exact ⟨_, rfl, rfl⟩
  zero := Try.zeroValue4
  okz := trivial
theorem ekI : EK 3 (Value.int .i64) edI (fun x => wfI x = true) 0 where
  mkV x h := plainElem_int Try.underlying3 h
  inv v x ps h := by
    obtain ⟨a, rfl, h2, _⟩ := plainElem_int_inv Try.underlying3 h
    simp only [edI, Prod.mk.injEq, DataW.lit.injEq, Lit.int.injEq, true_and] at h2
    rw [h2.1]
  all v y h := by
    obtain ⟨a, rfl, h2, _⟩ := plainElem_int_inv Try.underlying3 h
    exact ⟨a, rfl, by rw [h2]; rfl⟩
  zero := Try.zeroValue3
  okz := wfI_of (by omega) (by omega)

section
variable {β : Type} {e : TypeId} {ev : β → Value} {ed : β → DataW Unit} {ok : β → Prop} {z0 : β}

/-- the datum holds what f says -/
def Holdsf (ed : β → DataW Unit) (D : DataW Unit) (f : Int → Option β) : Prop :=
  (∀ x, wfI x = true → Maps.has D (.int .i64 x) = (f x).isSome) ∧ ∀ x v, wfI x = true → f x = some v → ∀ zd, D.atKey (.int .i64 x) zd = ed v

/-- the block is a map that holds what f says -/
def MF (e : TypeId) (ed : β → DataW Unit) (w : World) (b n : Nat) (f : Int → Option β) : Prop :=
  ∃ D : DataW Unit, w.ownsMap Try.prog 3 (plainElem Try.prog e) b n D ∧ Holdsf ed D f

def emptyF : Int → Option β := fun _ => none
def putF (f : Int → Option β) (x : Int) (v : β) : Int → Option β := fun y => if y = x then some v else f y
def dropF (f : Int → Option β) (x : Int) : Int → Option β := fun y => if y = x then none else f y

theorem MF.made (w : World) : MF e ed (w.alloc (.map #[] 0)) w.heap.size 0 emptyF :=
  ⟨_, World.ownsMap_made w _ _ _, fun x _ => rfl, fun x v _ h => by cases h⟩
theorem MF.mono {w : World} {b n n' : Nat} {f : Int → Option β} (h : MF e ed w b n f) (hn : n ≤ n') : MF e ed w b n' f := by
  obtain ⟨D, h1, h2⟩ := h; exact ⟨D, h1.mono hn, h2⟩
theorem MF.lt {w : World} {b n : Nat} {f : Int → Option β} (h : MF e ed w b n f) : b < w.heap.size := by
  obtain ⟨D, h1, h2⟩ := h; exact h1.lt
theorem MF.kept {w w' : World} {b n : Nat} {f : Int → Option β} {row : Option Nat} (h : MF e ed w b n f) (hg : w.grownBy w' row) (hne : some b ≠ row) : MF e ed w' b n f := by
  obtain ⟨D, h1, h2⟩ := h; exact ⟨D, h1.kept hg hne, h2⟩
theorem MF.alloc {w : World} {b n : Nat} {f : Int → Option β} (h : MF e ed w b n f) (o : Obj) : MF e ed (w.alloc o) b n f := by
  obtain ⟨D, h1, h2⟩ := h; exact ⟨D, h1.alloc o, h2⟩
theorem MF.below {w w' : World} {b n B : Nat} {f : Int → Option β} (h : MF e ed w b n f) (hb : Below B w w') (hB : b < B) : MF e ed w' b n f := by
  obtain ⟨D, ⟨es, clock, h1, h3⟩, h2⟩ := h; exact ⟨D, ⟨es, clock, (hb.block b hB).trans h1, h3⟩, h2⟩
theorem MF.same {w : World} {b n : Nat} {f g : Int → Option β} (h : MF e ed w b n f) (hg : ∀ x, wfI x = true → f x = g x) : MF e ed w b n g := by
  obtain ⟨D, h1, h2, h3⟩ := h
  exact ⟨D, h1, fun x hx => by rw [← hg x hx]; exact h2 x hx, fun x v hx hv => h3 x v hx (by rw [hg x hx]; exact hv)⟩
theorem MF.setCell {w : World} {b n : Nat} {f : Int → Option β} (h : MF e ed w b n f) {a : Addr} (ha : b ≠ a.block) (u : Value) : MF e ed (w.setCell a u) b n f := by
  obtain ⟨D, h1, h2⟩ := h; exact ⟨D, h1.setCell ha u, h2⟩

theorem MF.look (E : EK e ev ed ok z0) {t : TypeId} (ht : Try.prog.underlying t = some (.map 3 e)) {w : World} {b n : Nat} {f : Int → Option β} (h : MF e ed w b n f) {x : Int} (hx : wfI x = true) :
    (Instr.lookup t (.map (some b)) (.int .i64 x) false).run Try.prog w = .ok (ev ((f x).getD z0)) w := by
  obtain ⟨D, h1, h2, h3⟩ := h
  obtain ⟨v, ps, hrun, hv⟩ := h1.lookup (Maps.int_keyed Try.underlying3) ht (E.zero w) (E.mkV _ E.okz) (Maps.keyOf_int_mk Try.underlying3 hx)
  rw [hrun]
  cases hf : f x with
  | none =>
    rw [Maps.atKey_of_not_has (by rw [h2 x hx, hf]; rfl)] at hv
    rw [E.inv _ _ _ hv]; rfl
  | some y =>
    rw [h3 x y hx hf] at hv
    rw [E.inv _ _ _ hv]; rfl
theorem MF.lookOk (E : EK e ev ed ok z0) {t : TypeId} (ht : Try.prog.underlying t = some (.map 3 e)) {w : World} {b n : Nat} {f : Int → Option β} (h : MF e ed w b n f) {x : Int} (hx : wfI x = true) :
    (Instr.lookup t (.map (some b)) (.int .i64 x) true).run Try.prog w = .ok (.tuple #[ev ((f x).getD z0), .bool (f x).isSome]) w := by
  obtain ⟨D, h1, h2, h3⟩ := h
  obtain ⟨v, ps, hrun, hv⟩ := h1.look_ok (Maps.int_keyed Try.underlying3) ht (E.zero w) (E.mkV _ E.okz) (Maps.keyOf_int_mk Try.underlying3 hx)
  rw [hrun, h2 x hx]
  cases hf : f x with
  | none =>
    rw [Maps.atKey_of_not_has (by rw [h2 x hx, hf]; rfl)] at hv
    rw [E.inv _ _ _ hv]; rfl
  | some y =>
    rw [h3 x y hx hf] at hv
    rw [E.inv _ _ _ hv]; rfl

theorem key_ne {x y : Int} (h : y ≠ x) : (Lit.int .i64 y) ≠ (Lit.int .i64 x) := by simpa using h
theorem Holdsf.put {D : DataW Unit} {f : Int → Option β} (hD : Maps.IsMap D) (h : Holdsf ed D f) (x : Int) (v : β) : Holdsf ed (D.put (.int .i64 x) (ed v)) (putF f x v) := by
  refine ⟨fun y hy => ?_, fun y u hy hu zd => ?_⟩
  · by_cases e1 : y = x
    · subst e1
      rw [Maps.has_put_same hD (by simp [WideAt.IsKeyLit])]
      simp [putF]
    · rw [Maps.has_put_other (key_ne e1), h.1 y hy]
      simp [putF, e1]
  · by_cases e1 : y = x
    · subst e1
      rw [Maps.atKey_put_same hD (by simp [WideAt.IsKeyLit])]
      simp [putF] at hu
      rw [hu]
    · rw [Maps.atKey_put_other (key_ne e1)]
      simp [putF, e1] at hu
      exact h.2 y u hy hu zd
theorem Holdsf.del {D : DataW Unit} {f : Int → Option β} (h : Holdsf ed D f) (x : Int) : Holdsf ed (D.del (.int .i64 x)) (dropF f x) := by
  refine ⟨fun y hy => ?_, fun y u hy hu zd => ?_⟩
  · by_cases e1 : y = x
    · subst e1
      rw [Maps.has_del_same]
      simp [dropF]
    · rw [Maps.has_del_other (key_ne e1), h.1 y hy]
      simp [dropF, e1]
  · by_cases e1 : y = x
    · subst e1
      simp [dropF] at hu
    · rw [Maps.atKey_del_other (key_ne e1)]
      simp [dropF, e1] at hu
      exact h.2 y u hy hu zd

theorem MF.put (E : EK e ev ed ok z0) {t : TypeId} (ht : Try.prog.underlying t = some (.map 3 e)) {w : World} {b n : Nat} {f : Int → Option β} (h : MF e ed w b n f) (hn : n < maxLen) {x : Int} (hx : wfI x = true) {v : β} (hv : ok v) :
    ∃ w', (Instr.mapUpdate t (.map (some b)) (.int .i64 x) (ev v)).run Try.prog w = .ok () w' ∧ MF e ed w' b (n + 1) (putF f x v) ∧ w.mapTurned w' b := by
  obtain ⟨D, h1, h2⟩ := h
  obtain ⟨w', hrun, ho, hg⟩ := h1.store (Maps.int_keyed Try.underlying3) ht hn (Maps.keyOf_int_mk Try.underlying3 hx) (E.mkV v hv)
  exact ⟨w', hrun, ⟨_, ho, h2.put h1.isMap x v⟩, hg⟩
theorem MF.drop {t : TypeId} (ht : Try.prog.underlying t = some (.map 3 e)) {w : World} {b n : Nat} {f : Int → Option β} (h : MF e ed w b n f) {x : Int} (hx : wfI x = true) (ty : TypeId) :
    ∃ w', (Builtin.delete_ #[t, 3] ty #[.map (some b), .int .i64 x]).run Try.prog w = .ok (.tuple #[]) w' ∧ MF e ed w' b n (dropF f x) ∧ w.mapTurned w' b := by
  obtain ⟨D, h1, h2⟩ := h
  obtain ⟨w', hrun, ho, hg⟩ := h1.drop (Maps.int_keyed Try.underlying3) ht (Maps.keyOf_int_mk Try.underlying3 hx) ty
  exact ⟨w', hrun, ⟨_, ho, h2.del x⟩, hg⟩

/-- a range over the map under way -/
def MR (e : TypeId) (ed : β → DataW Unit) (w : World) (b r n : Nat) (f : Int → Option β) (left : Int → Bool) (cnt : Nat) : Prop :=
  ∃ (D : DataW Unit) (lf : Lit → Bool), w.ranges Try.prog 3 (plainElem Try.prog e) b r n D lf cnt ∧ Holdsf ed D f ∧ ∀ x, wfI x = true → lf (.int .i64 x) = left x
theorem MR.owns {w : World} {b r n cnt : Nat} {f : Int → Option β} {left : Int → Bool} (h : MR e ed w b r n f left cnt) : MF e ed w b n f := by
  obtain ⟨D, lf, h1, h2, _⟩ := h; exact ⟨D, h1.owns, h2⟩
theorem MR.left_eq {w : World} {b r n cnt : Nat} {f : Int → Option β} {left : Int → Bool} (h : MR e ed w b r n f left cnt) : w.rangeLeft b r = cnt := by
  obtain ⟨D, lf, h1, _⟩ := h; exact h1.left_eq
theorem MR.ne {w : World} {b r n cnt : Nat} {f : Int → Option β} {left : Int → Bool} (h : MR e ed w b r n f left cnt) : r ≠ b := by
  obtain ⟨D, lf, h1, _⟩ := h; exact h1.ne
theorem MR.lt {w : World} {b r n cnt : Nat} {f : Int → Option β} {left : Int → Bool} (h : MR e ed w b r n f left cnt) : r < w.heap.size := by
  obtain ⟨D, lf, h1, _⟩ := h; exact h1.lt
theorem MR.kept {w w' : World} {b r n cnt : Nat} {f : Int → Option β} {left : Int → Bool} {row : Option Nat} (h : MR e ed w b r n f left cnt) (hg : w.grownBy w' row) (hb : some b ≠ row) (hr : some r ≠ row) : MR e ed w' b r n f left cnt := by
  obtain ⟨D, lf, h1, h2⟩ := h; exact ⟨D, lf, h1.kept hg hb hr, h2⟩
theorem MR.alloc {w : World} {b r n cnt : Nat} {f : Int → Option β} {left : Int → Bool} (h : MR e ed w b r n f left cnt) (o : Obj) : MR e ed (w.alloc o) b r n f left cnt := by
  obtain ⟨D, lf, h1, h2⟩ := h; exact ⟨D, lf, h1.alloc o, h2⟩

theorem lit_left {lf : Lit → Bool} {left : Int → Bool} (h : ∀ x, wfI x = true → lf (.int .i64 x) = left x) (y : Int) :
    ∀ x, wfI x = true → (fun z : Lit => lf z && !z.sameKey (.int .i64 y)) (.int .i64 x) = (left x && !(x == y)) := fun x hx => by
  show (lf (.int .i64 x) && !(Lit.sameKey (.int .i64 x) (.int .i64 y))) = _
  rw [h x hx]
  congr 2
  by_cases e1 : x = y
  · subst e1
    rw [WideAt.sameKey_self (by simp [WideAt.IsKeyLit])]
    simp
  · rw [Maps.sameKey_ne (key_ne e1)]
    simpa using e1

variable {ops : Array Oper} {rest : List Oper} {o : Oper} {a : Act} {Q : Exit → Act → World → Prop}
theorem wpList_range_mf (w : World) (hg : o.guard = none) (m : Operand) (t : TypeId) (hop : o.op = Op.range t m) (ht : Try.prog.underlying t = some (.map 3 e)) (b n : Nat) (f : Int → Option β)
    (hm : a.eval m = .map (some b)) (hown : MF e ed w b n f)
    (hK : ∀ w' cnt, MR e ed w' b w.heap.size n f (fun x => (f x).isSome) cnt → cnt ≤ n → w.grownBy w' none → w'.heap.size = w.heap.size + 1 → wpList Try.prog ops Q rest (a.put o.dst (.pointer (some ⟨w.heap.size, 0, none⟩))) w') :
    wpList Try.prog ops Q (o :: rest) a w := by
  obtain ⟨D, h1, h2⟩ := hown
  exact wpList_range_own w hg m t hop 3 e (Maps.int_keyed Try.underlying3) ht _ b n D hm h1 fun w' hr hgr hs => hK w' _ ⟨D, _, hr, h2, fun x hx => h2.1 x hx⟩ h1.size_le hgr hs

theorem wpList_next_mf (w : World) (E : EK e ev ed ok z0) (hg : o.guard = none) (it : Operand) (hop : o.op = Op.next it false) (b r n : Nat) (f : Int → Option β) (left : Int → Bool) (cnt : Nat)
    (hit : a.eval it = .pointer (some ⟨r, 0, none⟩)) (h : MR e ed w b r n f left cnt)
    (hDone : cnt = 0 → (∀ x, wfI x = true → left x = false) → wpList Try.prog ops Q rest (a.put o.dst (.tuple #[.bool false])) w)
    (hMore : ∀ (x : Int) (c : β) (w' : World) (cnt' : Nat), wfI x = true → left x = true → f x = some c → MR e ed w' b r n f (fun y => left y && !(y == x)) cnt' → cnt' < cnt →
      w.grownBy w' (some r) → w'.heap.size = w.heap.size → (Instr.entry (.pointer (some ⟨r, 0, none⟩))).run Try.prog w' = .ok (.tuple #[.int .i64 x, ev c]) w' → wpList Try.prog ops Q rest (a.put o.dst (.tuple #[.bool true, .int .i64 x, ev c])) w')
    (hsub : ∀ x, wfI x = true → left x = true → (f x).isSome = true) :
    wpList Try.prog ops Q (o :: rest) a w := by
  obtain ⟨D, lf, h1, h2, h3⟩ := h
  refine wpList_next_ranges w hg it hop 3 (Maps.int_keyed Try.underlying3) (plainElem Try.prog e) (Value.int .i64) ev (fun key kl hkey => by obtain ⟨x, rfl, _⟩ := Maps.keyOf_int_inv Try.underlying3 hkey; exact ⟨x, rfl⟩) (fun v y hv => by obtain ⟨x, h4, _⟩ := E.all v y hv; exact ⟨x, h4⟩)
    b r n D lf cnt hit h1 (fun h0 hl => hDone h0 fun x hx => by rw [← h3 x hx]; exact hl _) (fun x c kl y w' cnt' hkey hlk hv hat hrg hlt hgr hsz hen => ?_)
  obtain ⟨x', ex, rfl, hwx⟩ := Maps.keyOf_int_inv Try.underlying3 hkey
  cases ex
  have hx : wfI x = true := hwx
  have hlx : left x = true := by rw [← h3 x hx]; exact hlk
  cases hf : f x with
  | none => have := hsub x hx hlx; rw [hf] at this; cases this
  | some c' =>
    have e1 := h2.2 x c' hx hf (ed c')
    have e2 := hat (ed c')
    rw [e1] at e2
    obtain ⟨y1, y2⟩ := y
    have e3 : plainElem (H := Unit) Try.prog e (ev c) = some (ed c', y2) := by rw [hv, e2]
    have e4 := E.inv _ _ _ e3
    rw [e4] at hen ⊢
    exact hMore x c' w' cnt' hx hlx hf ⟨D, _, hrg, h2, lit_left h3 x⟩ hlt hgr hsz hen

theorem wpList_delete_mr (w : World) (hg : o.guard = none) (m x : Operand) (t : TypeId) (hop : o.op = Op.call { callee := Callee.builtin Builtin.delete, args := #[m, x], argTypes := #[t, 3] })
    (ht : Try.prog.underlying t = some (.map 3 e)) (b r n : Nat) (f : Int → Option β) (left : Int → Bool) (cnt : Nat)
    (hm : a.eval m = .map (some b)) (h : MR e ed w b r n f left cnt) (y : Int) (hx : a.eval x = .int .i64 y) (hy : wfI y = true)
    (hK : ∀ w' cnt', MR e ed w' b r n (dropF f y) (fun z => left z && !(z == y)) cnt' → cnt' ≤ cnt → w.mapTurned w' b → wpList Try.prog ops Q rest (a.put o.dst (.tuple #[])) w') :
    wpList Try.prog ops Q (o :: rest) a w := by
  obtain ⟨D, lf, h1, h2, h3⟩ := h
  exact wpList_delete_ranges w hg m x t 3 hop e (Maps.int_keyed Try.underlying3) ht _ b r n D lf cnt hm h1 (.int .i64 y) (.int .i64 y) hx (Maps.keyOf_int_mk Try.underlying3 hy) fun w' cnt' hr hle ht' => hK w' cnt' ⟨_, _, hr, h2.del y, lit_left h3 y⟩ hle ht'
end

/-- a set -/
def setF (S : List Int) : Int → Option Bool := fun x => if hasB S x = true then some true else none
theorem setF_get (S : List Int) (x : Int) : (setF S x).getD false = hasB S x := by
  unfold setF; cases h : hasB S x <;> simp [h]
theorem setF_some (S : List Int) (x : Int) : (setF S x).isSome = hasB S x := by
  unfold setF; cases h : hasB S x <;> simp [h]
theorem setF_put (S : List Int) (x : Int) : putF (setF S) x true = setF (S ++ [x]) := by
  funext y
  unfold putF setF
  rw [hasB_snoc]
  by_cases e1 : y = x
  · subst e1; simp
  · have e2 : (x == y) = false := by simpa using Ne.symm e1
    simp [e1, e2]
theorem setF_drop (S : List Int) (x : Int) : dropF (setF S) x = setF (S.filter (fun y => !(y == x))) := by
  funext y
  unfold dropF setF
  by_cases e1 : y = x
  · subst e1
    have : hasB (S.filter (fun z => !(z == y))) y = false := by rw [← Bool.not_eq_true, hasB_iff]; simp
    simp [this]
  · have : hasB (S.filter (fun z => !(z == x))) y = hasB S y := by
      rw [Bool.eq_iff_iff, hasB_iff, hasB_iff]; simp [e1]
    simp [e1, this]
theorem emptyF_set : (emptyF : Int → Option Bool) = setF [] := rfl

end Go.Proofs.Ytenpenelikpeeaa
