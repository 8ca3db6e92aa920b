/-
  A slice of bools; lit.true, Holds, Value of the package cnf. Turned from this repo's texts of chapter 22. No condition.
-/
import Derived.Test.YtenpenelikpeeaaL3
namespace Go.Proofs.Ytenpenelikpeeaa
open Go.RowKit Go.Shelf
set_option linter.unusedVariables false
set_option linter.unusedSimpArgs false

/- YtalcnkoidmoibaaG1 -/
/-- a slice of bools that reads as a list -/
structure RB (w : World) (A : Option Addr) (n c : Nat) (bs : List Bool) : Prop where
  len : bs.length = n
  cap : n ≤ c
  big : n ≤ 140737488355328
  cmax : c ≤ maxLen
  cells : 0 < n → ∃ b off, A = some ⟨b, off, none⟩ ∧ b < w.heap.size ∧ ∀ j, j < n → w.cell? ⟨b, off + j, none⟩ = some (.bool (bs.getD j false))

theorem RB.below {w w' : World} {A : Option Addr} {n c : Nat} {bs : List Bool} (h : RB w A n c bs) (hb : Below w.heap.size w w') : RB w' A n c bs :=
  ⟨h.len, h.cap, h.big, h.cmax, fun hn => by
    obtain ⟨b, off, rfl, hlt, hc⟩ := h.cells hn
    exact ⟨b, off, rfl, Nat.lt_of_lt_of_le hlt hb.size, fun j hj => (hb.cell (p := ⟨b, off + j, none⟩) hlt).trans (hc j hj)⟩⟩

theorem RB.nil (w : World) (A : Option Addr) (c : Nat) (hc : c ≤ maxLen) : RB w A 0 c [] := ⟨rfl, Nat.zero_le _, by omega, hc, fun h => absurd h (by omega)⟩

/-- a literal's value -/
def varB (bs : List Bool) (v : Nat) : Bool := bs.getD v false

def litT (bs : List Bool) (x : Int) : Bool := if isB x 65536 = true then varB bs x.natAbs == decide (0 < x) else false

def holdsT (bs : List Bool) (l : List Int) : Bool := l.any (litT bs)

def valueT (x : Int) (ls : List (List Int)) (bs : List Bool) : Bool := checkE x ls == 0 && ls.all (holdsT bs)

theorem litT_no {bs : List Bool} {x : Int} (h : isB x 65536 = false) : litT bs x = false := by unfold litT; rw [if_neg (by simp [h])]

theorem litT_yes {bs : List Bool} {x : Int} (h : isB x 65536 = true) : litT bs x = (varB bs x.natAbs == decide (0 < x)) := by unfold litT; rw [if_pos h]

theorem may_val (r : Bool) (x n : Int) (w : World) (h0 : 0 ≤ n) (h1 : n ≤ 65536) (hr : isB x n = r) :
    Calls Try.prog 62 #[.int .i64 x, .int .i64 n] w fun e w' => e = .returned (.bool r) ∧ w = w' := by
  have := may_any x n w h0 h1
  rw [hr] at this; exact this

theorem absI_nat (x : Int) : absI x = (x.natAbs : Int) := by unfold absI; split <;> omega

theorem varB_out {bs : List Bool} {v n : Nat} (hl : bs.length = n) (h : ¬ v < n) : varB bs v = false := by
  unfold varB; rw [List.getD_eq_getElem?_getD, List.getElem?_eq_none (by omega)]; rfl

set_option maxHeartbeats 400000 in
theorem litTrue_any (x : Int) (A : Option Addr) (n c : Nat) (bs : List Bool) (w : World) (h : RB w A n c bs) :
    Calls Try.prog 60 #[.int .i64 x, .slice A n c] w fun e w' => e = .returned (.bool (litT bs x)) ∧ w = w' := by
  have hl := h.len
  cases hi : isB x 65536
  · rw [litT_no hi]
    have HI := Lib.hid hi
    clear hi h hl
    go_enter Try.func60, Try.ntmps60
    go_wp2_with (go_at_call 62; refine (may_val false x 65536 w (by omega) (by omega) HI.out).mono ?_; rintro e w' ⟨rfl, rfl⟩)
    go_ret
    exact ⟨rfl, rfl⟩
  · rw [litT_yes hi]
    have hb := isB_iff.1 hi
    have hof := of_any x w hb.2.1 hb.2.2
    rw [absI_nat] at hof
    have HI := Lib.hid hi
    clear hi hb
    generalize x.natAbs = k at hof ⊢
    have hb := h.big
    by_cases hlt : k < n
    · obtain ⟨b, off, rfl, hbl, hc⟩ := h.cells (by omega)
      have hck := hc k hlt
      have e : bs.getD k false = varB bs k := rfl
      rw [e] at hck
      generalize varB bs k = v at hck ⊢
      clear hc h hl e
      by_cases hp : 0 < x
      all_goals
        go_enter Try.func60, Try.ntmps60
        go_wp2_with (first | (go_at_call 62; refine (may_val true x 65536 w (by omega) (by omega) HI.out).mono ?_; rintro e w' ⟨rfl, rfl⟩) | (go_at_call 80; refine hof.mono ?_; clear hof; rintro e w' ⟨rfl, rfl⟩))
        go_ret
        exact ⟨ret_bool (by simp [hp]), rfl⟩
    · rw [varB_out hl hlt]
      clear h hl
      by_cases hp : 0 < x
      all_goals
        go_enter Try.func60, Try.ntmps60
        go_wp2_with (first | (go_at_call 62; refine (may_val true x 65536 w (by omega) (by omega) HI.out).mono ?_; rintro e w' ⟨rfl, rfl⟩) | (go_at_call 80; refine hof.mono ?_; clear hof; rintro e w' ⟨rfl, rfl⟩))
        go_ret
        exact ⟨ret_bool (by simp [hp]), rfl⟩

theorem enters59 : ∀ args w, (callFunc 59 args).run Try.prog w = .ok (.enter 59 args) w := enters_of Try.func59 (by kernel_rfl) rfl

theorem enters57 : ∀ args w, (callFunc 57 args).run Try.prog w = .ok (.enter 57 args) w := enters_of Try.func57 (by kernel_rfl) rfl

set_option maxHeartbeats 400000 in
theorem holds1_any (B : Nat) (x : Int) (A : Option Addr) (n c : Nat) (bs : List Bool) (w : World) (hc : w.cell? ⟨B, 0, none⟩ = some (.slice A n c)) (h : RB w A n c bs) :
    Calls Try.prog 59 #[.int .i64 x, .pointer (some ⟨B, 0, none⟩)] w fun e w' => e = .returned (.bool (litT bs x)) ∧ w = w' := by
  have H := Lib.hid h
  clear h
  go_enter Try.func59, Try.ntmps59
  go_wp2_with (go_at_call 60; refine (litTrue_any x A n c bs w H.out).mono ?_; rintro e w' ⟨rfl, rfl⟩)
  go_ret
  exact ⟨rfl, rfl⟩

set_option maxHeartbeats 400000 in
theorem holds_any (A : Option Addr) (n c : Nat) (zs : List Int) (A' : Option Addr) (n' c' : Nat) (bs : List Bool) (w : World) (h : RI w A n c zs) (h' : RB w A' n' c' bs) :
    Calls Try.prog 22 #[.slice A n c, .slice A' n' c'] w fun e w' => e = .returned (.bool (holdsT bs zs)) ∧ Below w.heap.size w w' := by
  have hb : Below w.heap.size w (w.alloc (.cells #[.slice A' n' c'] 43)) := (Below.refl _ _).alloc (Nat.le_refl _) _
  have hcall := containsI_any 59 #[.pointer (some ⟨w.heap.size, 0, none⟩)] (litT bs) enters59 A n c zs (w.alloc (.cells #[.slice A' n' c'] 43)) (h.alloc _) (fun y _ => holds1_any w.heap.size y A' n' c' bs _ (by simp) (h'.below hb))
  have HB := Lib.hid hb
  clear h h' hb
  go_enter Try.func22, Try.ntmps22
  go_wp2_with (go_at_call 49; refine hcall.mono ?_; clear hcall; rintro e w' ⟨rfl, rfl⟩)
  go_ret
  exact ⟨rfl, HB.out⟩

theorem holds_val (r : Bool) (A : Option Addr) (n c : Nat) (zs : List Int) (A' : Option Addr) (n' c' : Nat) (bs : List Bool) (w : World) (h : RI w A n c zs) (h' : RB w A' n' c' bs) (hr : holdsT bs zs = r) :
    Calls Try.prog 22 #[.slice A n c, .slice A' n' c'] w fun e w' => e = .returned (.bool r) ∧ Below w.heap.size w w' := by
  have := holds_any A n c zs A' n' c' bs w h h'
  rw [hr] at this; exact this

set_option maxHeartbeats 400000 in
theorem value1_any (B : Nat) (A : Option Addr) (n c : Nat) (zs : List Int) (A' : Option Addr) (n' c' : Nat) (bs : List Bool) (w : World) (hc : w.cell? ⟨B, 0, none⟩ = some (.slice A' n' c')) (h : RI w A n c zs) (h' : RB w A' n' c' bs) :
    Calls Try.prog 57 #[.slice A n c, .pointer (some ⟨B, 0, none⟩)] w fun e w' => e = .returned (.bool (!(holdsT bs zs))) ∧ Below w.heap.size w w' := by
  have H := Lib.hid h
  have H' := Lib.hid h'
  clear h h'
  generalize hv : holdsT bs zs = v
  have HV := Lib.hid hv
  clear hv
  go_enter Try.func57, Try.ntmps57
  go_wp2_with (go_at_call 22; refine (holds_val v A n c zs A' n' c' bs w H.out H'.out HV.out).mono ?_; rintro e w' ⟨rfl, hb⟩)
  go_ret
  exact ⟨rfl, hb⟩

theorem anyl_at {ls : List (List Int)} {p : List Int → Bool} {k : Nat} (h : k < ls.length) (e : p (ell ls k) = true) : ls.any p = true := by
  rw [List.any_eq_true]; exact ⟨_, ell_mem h, e⟩

theorem anyl_step {ls : List (List Int)} {p : List Int → Bool} {k : Nat} (h : k < ls.length) (e : p (ell ls k) = false) (h0 : (ls.take k).any p = false) : (ls.take (k + 1)).any p = false := by
  rw [takel_snoc ls k h, List.any_append, h0]; simp [e]

theorem anyl_full {ls : List (List Int)} {p : List Int → Bool} {k n : Nat} (hl : ls.length = n) (h : ¬ k < n) (h0 : (ls.take k).any p = false) : ls.any p = false := by
  rw [List.take_of_length_le (by omega)] at h0; exact h0

/-- a predicate on rows that makes memory only -/
def PredL (g : Nat) (lb : Array Value) (p : List Int → Bool) (w : World) : Prop :=
  ∀ (A : Option Addr) (n c : Nat) (zs : List Int) (W : World), Below w.heap.size w W → RI W A n c zs → Calls Try.prog g (#[.slice A n c] ++ lb) W fun e w' => e = .returned (.bool (p zs)) ∧ Below W.heap.size W w'

theorem PredL.val {g : Nat} {lb : Array Value} {p : List Int → Bool} {w : World} (h : PredL g lb p w) (r : Bool) (A : Option Addr) (n c : Nat) (zs : List Int) (W : World) (hb : Below w.heap.size w W) (hr : RI W A n c zs) (he : p zs = r) :
    Calls Try.prog g (#[.slice A n c] ++ lb) W fun e w' => e = .returned (.bool r) ∧ Below W.heap.size W w' := by
  have := h A n c zs W hb hr
  rw [he] at this; exact this

def IdxL (p : List Int → Bool) (ls : List (List Int)) (w : World) (e : Ending) (w' : World) : Prop := ∃ r : Int, e = .returned (.int .i64 r) ∧ (decide (0 ≤ r) = ls.any p) ∧ Below w.heap.size w w'

set_option maxHeartbeats 400000 in
theorem indexP_any (g : Nat) (lb : Array Value) (p : List Int → Bool) (eg : ∀ args w, (callFunc g args).run Try.prog w = .ok (.enter g args) w) (A : Option Addr) (n c : Nat) (ls : List (List Int)) (w : World) (h : RL w A n c ls)
    (hp : PredL g lb p w) : Calls Try.prog 79 #[.slice A n c, .func (.func g) #[] lb] w (IdxL p ls w) := by
  have hn := h.small
  have H := Lib.hid h
  clear h
  have HP := Lib.hid hp
  clear hp
  go_enter Try.func79, Try.ntmps79
  go_wp2
  go_loopw [8] (fun i W => ∃ k : Nat, k ≤ n ∧ i = .int .i64 k ∧ (ls.take k).any p = false ∧ Below w.heap.size w W) (fun i _ => n - (intOf i).toNat)
  case atStart => exact ⟨0, Nat.zero_le _, rfl, rfl, Below.refl _ _⟩
  case round =>
    obtain ⟨k, hk, rfl, hno, hb⟩ := hrel
    have HN := Lib.hid hno
    have HB := Lib.hid hb
    clear hno hb
    by_cases hlt : k < n
    · obtain ⟨b, off, rfl, hbl, hc⟩ := (H.out.below HB.out).cells (by omega)
      obtain ⟨a1, n1, c1, hck, hr1⟩ := hc k hlt
      clear hc
      have hl : k < ls.length := by rw [H.out.len]; exact hlt
      cases ho : p (ell ls k)
      · have hcall := HP.out.val false a1 n1 c1 (ell ls k) wr HB.out hr1 ho
        have HO := Lib.hid ho
        have HL := Lib.hid hl
        clear ho hr1 hl
        go_wp2_with (go_at_fn g; refine hcall.mono ?_; clear hcall; rintro e w' ⟨rfl, hb2⟩; have HB2 := Lib.hid hb2; clear hb2)
        go_roundw
        case rel => exact ⟨k + 1, by omega, by go_num, anyl_step HL.out HO.out HN.out, HB.out.trans (HB2.out.mono HB.out.size)⟩
        case measure => simp [intOf]; omega
      · have hcall := HP.out.val true a1 n1 c1 (ell ls k) wr HB.out hr1 ho
        have HO := Lib.hid ho
        have HL := Lib.hid hl
        clear ho hr1 hl
        go_wp2_with (go_at_fn g; refine hcall.mono ?_; clear hcall; rintro e w' ⟨rfl, hb2⟩; have HB2 := Lib.hid hb2; clear hb2)
        go_ret
        exact ⟨k, rfl, by rw [anyl_at HL.out HO.out]; simp, HB.out.trans (HB2.out.mono HB.out.size)⟩
    · go_wp2
      go_ret
      exact ⟨-1, rfl, by rw [anyl_full H.out.len hlt HN.out]; rfl, HB.out⟩

set_option maxHeartbeats 400000 in
theorem containsP_any (g : Nat) (lb : Array Value) (p : List Int → Bool) (eg : ∀ args w, (callFunc g args).run Try.prog w = .ok (.enter g args) w) (A : Option Addr) (n c : Nat) (ls : List (List Int)) (w : World) (h : RL w A n c ls)
    (hp : PredL g lb p w) : Calls Try.prog 58 #[.slice A n c, .func (.func g) #[] lb] w fun e w' => e = .returned (.bool (ls.any p)) ∧ Below w.heap.size w w' := by
  have hI := indexP_any g lb p eg A n c ls w h hp
  clear h hp
  go_enter Try.func58, Try.ntmps58
  go_wp2_with (go_at_call 79; refine hI.mono ?_; rintro e w' ⟨r, rfl, hr, hb⟩)
  all_goals
    go_ret
    exact ⟨ret_bool (by rw [← hr]), hb⟩

theorem containsP_val (r : Bool) (g : Nat) (lb : Array Value) (p : List Int → Bool) (eg : ∀ args w, (callFunc g args).run Try.prog w = .ok (.enter g args) w) (A : Option Addr) (n c : Nat) (ls : List (List Int)) (w : World) (h : RL w A n c ls)
    (hp : PredL g lb p w) (hr : ls.any p = r) : Calls Try.prog 58 #[.slice A n c, .func (.func g) #[] lb] w fun e w' => e = .returned (.bool r) ∧ Below w.heap.size w w' := by
  have := containsP_any g lb p eg A n c ls w h hp
  rw [hr] at this; exact this

theorem any_not_holds (bs : List Bool) (ls : List (List Int)) : ls.any (fun l => !(holdsT bs l)) = !(ls.all (holdsT bs)) := by rw [List.not_all_eq_any_not]

set_option maxHeartbeats 800000 in
theorem value_any (x : Int) (A : Option Addr) (n c : Nat) (ls : List (List Int)) (A' : Option Addr) (n' c' : Nat) (bs : List Bool) (w : World) (h : RL w A n c ls) (h' : RB w A' n' c' bs) :
    Calls Try.prog 21 #[.agg #[.int .i64 x, .slice A n c], .slice A' n' c'] w fun e w' => e = .returned (.bool (valueT x ls bs)) ∧ Below w.heap.size w w' := by
  have hbx : Below w.heap.size w ((w.alloc (.cells #[.int .i64 x, .slice A n c] 24)).alloc (.cells #[.slice A' n' c'] 43)) := ((Below.refl _ _).alloc (Nat.le_refl _) _).alloc (by simp) _
  have BX := Lib.hid ((Two.new w (.int .i64 x) (.slice A n c)).below ((Below.refl _ _).alloc (Nat.le_refl _) (.cells #[.slice A' n' c'] 43)))
  have hc0 : ((w.alloc (.cells #[.int .i64 x, .slice A n c] 24)).alloc (.cells #[.slice A' n' c'] 43)).cell? ⟨w.heap.size + 1, 0, none⟩ = some (.slice A' n' c') := by simp
  have HL := Lib.hid (h.below hbx)
  have HR := Lib.hid (h'.below hbx)
  have HBX := Lib.hid hbx
  have HC := Lib.hid hc0
  clear h h' hbx hc0
  have hP : ∀ W, Below ((w.alloc (.cells #[.int .i64 x, .slice A n c] 24)).alloc (.cells #[.slice A' n' c'] 43)).heap.size ((w.alloc (.cells #[.int .i64 x, .slice A n c] 24)).alloc (.cells #[.slice A' n' c'] 43)) W → PredL 57 #[.pointer (some ⟨w.heap.size + 1, 0, none⟩)] (fun l => !(holdsT bs l)) W := by
    intro W hW A1 n1 c1 zs W2 hW2 hr
    have hb2 := hW.trans (hW2.mono hW.size)
    exact value1_any (w.heap.size + 1) A1 n1 c1 zs A' n' c' bs W2 ((hb2.cell (p := ⟨w.heap.size + 1, 0, none⟩) (by simp)).trans HC.out) hr (HR.out.below hb2)
  have HP := Lib.hid hP
  clear hP
  cases hk : (checkE x ls == 0)
  · have hv : valueT x ls bs = false := by unfold valueT; rw [hk]; rfl
    rw [hv]
    have hcall := check_any x A n c ls _ HL.out
    generalize checkE x ls = e' at hcall hk
    clear hv
    go_enter Try.func21, Try.ntmps21
    go_upto_region 2 with fail
    generalize (w.alloc (.cells #[.int .i64 x, .slice A n c] 24)).alloc (.cells #[.slice A' n' c'] 43) = Wb at *
    have q0 := BX.out.c0
    have q1 := BX.out.c1
    go_wp2_with (go_at_call 23; refine hcall.mono ?_; clear hcall; rintro e w' ⟨rfl, hb⟩)
    go_ret
    exact ⟨rfl, HBX.out.trans (hb.mono HBX.out.size)⟩
  · have hv : valueT x ls bs = ls.all (holdsT bs) := by unfold valueT; rw [hk]; rfl
    rw [hv]
    have hcall := check_any x A n c ls _ HL.out
    have hk' : checkE x ls = 0 := by simpa using hk
    rw [hk'] at hcall
    clear hv hk hk'
    cases hr : ls.all (holdsT bs)
    all_goals
      have HR1 := Lib.hid ((any_not_holds bs ls).trans (congrArg (!·) hr))
      clear hr
      go_enter Try.func21, Try.ntmps21
      go_upto_region 2 with fail
      generalize (w.alloc (.cells #[.int .i64 x, .slice A n c] 24)).alloc (.cells #[.slice A' n' c'] 43) = Wb at *
      have q0 := BX.out.c0
      have q1 := BX.out.c1
      go_wp2_with (first
        | (go_at_call 23; refine hcall.mono ?_; clear hcall; rintro e w1 ⟨rfl, hb⟩; have HB := Lib.hid hb; have t1 := (BX.out.below hb).c1; clear hb)
        | (go_at_call 58; refine (containsP_val _ 57 _ _ enters57 A n c ls _ (HL.out.below HB.out) (HP.out _ HB.out) HR1.out).mono ?_; rintro e w2 ⟨rfl, hb2⟩; have HB2 := Lib.hid hb2; clear hb2))
      go_ret
      exact ⟨rfl, HBX.out.trans ((HB.out.trans (HB2.out.mono HB.out.size)).mono HBX.out.size)⟩

/- YtalcnkoidmoibaaG3 -/
theorem RB.of_own {w : World} {base : Nat} {A : Option Addr} {n c : Nat} {bs : List Bool} (h : w.ownsRow base 4 1 (.slice A n c) n (bs.map Value.bool)) (hbig : n ≤ 140737488355328) : RB w A n c bs := by
  obtain ⟨h1, h2⟩ := h
  have hl : bs.length = n := by simpa using h1
  rcases h2 with ⟨hv, hn⟩ | ⟨g, cap, cur, hv, hg, hh, hnc, hcm, hcs, htk⟩
  · simp only [Value.slice.injEq] at hv
    obtain ⟨rfl, _, rfl⟩ := hv
    subst hn
    exact ⟨hl, Nat.le_refl _, hbig, Nat.zero_le _, fun h => absurd h (by omega)⟩
  · simp only [Value.slice.injEq] at hv
    obtain ⟨rfl, _, rfl⟩ := hv
    refine ⟨hl, hnc, hbig, hcm, fun hn => ⟨g, 0, rfl, ?_, fun j hj => ?_⟩⟩
    · rcases Nat.lt_or_ge g w.heap.size with hlt | hge
      · exact hlt
      · rw [Array.getElem?_eq_none hge] at hh; cases hh
    · have e : cur[j]? = some (.bool (bs.getD j false)) := by
        have h3 : (cur.toList.take (n * 1))[j]? = (bs.map Value.bool)[j]? := by rw [htk]
        rw [List.getElem?_take_of_lt (by omega), List.getElem?_map, List.getElem?_eq_getElem (by omega : j < bs.length)] at h3
        rw [← Array.getElem?_toList, h3, List.getD_eq_getElem?_getD, List.getElem?_eq_getElem (by omega : j < bs.length)]
        rfl
      simp [World.cell?, hh, e]

/- YtalcnkoidmoibaaG2 -/
theorem litT_neg {bs : List Bool} {x : Int} (h : x ≠ 0 ∧ -65536 ≤ x ∧ x ≤ 65536) : litT bs (-x) = !(litT bs x) := by
  rw [litT_yes (isB_iff.2 ⟨by omega, by omega, by omega⟩), litT_yes (isB_iff.2 ⟨h.1, h.2.1, h.2.2⟩), Int.natAbs_neg]
  by_cases h0 : 0 < x
  · rw [decide_eq_true h0, decide_eq_false (by omega)]; cases varB bs x.natAbs <;> rfl
  · rw [decide_eq_false h0, decide_eq_true (by omega)]; cases varB bs x.natAbs <;> rfl

def Trues (bs : List Bool) (S : List Int) : Prop := ∀ x ∈ S, litT bs x = true

theorem holdsT_iff {bs : List Bool} {l : List Int} : holdsT bs l = true ↔ ∃ x ∈ l, litT bs x = true := by unfold holdsT; rw [List.any_eq_true]

end Go.Proofs.Ytenpenelikpeeaa
