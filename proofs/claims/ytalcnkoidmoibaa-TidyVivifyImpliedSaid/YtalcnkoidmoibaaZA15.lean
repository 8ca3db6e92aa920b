/-
  A slice of bools; lit.true, Holds, Value of the package cnf. No condition.
  Putting the vivified clause in a clause's place keeps every model; no program in sight. No condition.
  The reference's Truths. No condition.
-/
import Derived.Test.YtalcnkoidmoibaaZA12
import Derived.Test.YtalcnkoidmoibaaZA10
import Derived.Test.YtalcnkoidmoibaaZA9
import Derived.Laws.MakeOwn
import Derived.Laws.Shifts

namespace Go.Proofs.Ytalcnkoidmoibaa
open Go.RowKit Go.Shelf
set_option linter.unusedVariables false
set_option linter.unusedSimpArgs false

/-- a slice of bools that reads as a list -/
structure RB (w : World) (A : Option Addr) (n c : Nat) (bs : List Bool) : Prop where
  len : bs.length = n
  cap : n ≤ c
  big : n ≤ 140737488355328
  cmax : c ≤ maxLen
  cells : 0 < n → ∃ b off, A = some ⟨b, off, none⟩ ∧ b < w.heap.size ∧ ∀ j, j < n → w.cell? ⟨b, off + j, none⟩ = some (.bool (bs.getD j false))
theorem RB.below {w w' : World} {A : Option Addr} {n c : Nat} {bs : List Bool} (h : RB w A n c bs) (hb : Below w.heap.size w w') : RB w' A n c bs :=
  ⟨h.len, h.cap, h.big, h.cmax, fun hn => by
    obtain ⟨b, off, rfl, hlt, hc⟩ := h.cells hn
    exact ⟨b, off, rfl, Nat.lt_of_lt_of_le hlt hb.size, fun j hj => (hb.cell (p := ⟨b, off + j, none⟩) hlt).trans (hc j hj)⟩⟩
theorem RB.nil (w : World) (A : Option Addr) (c : Nat) (hc : c ≤ maxLen) : RB w A 0 c [] := ⟨rfl, Nat.zero_le _, by omega, hc, fun h => absurd h (by omega)⟩

/-- a literal's value -/
def varB (bs : List Bool) (v : Nat) : Bool := bs.getD v false
def litT (bs : List Bool) (x : Int) : Bool := if isB x 65536 = true then varB bs x.natAbs == decide (0 < x) else false
def holdsT (bs : List Bool) (l : List Int) : Bool := l.any (litT bs)
def valueT (x : Int) (ls : List (List Int)) (bs : List Bool) : Bool := checkE x ls == 0 && ls.all (holdsT bs)

theorem litT_no {bs : List Bool} {x : Int} (h : isB x 65536 = false) : litT bs x = false := by unfold litT; rw [if_neg (by simp [h])]
theorem litT_yes {bs : List Bool} {x : Int} (h : isB x 65536 = true) : litT bs x = (varB bs x.natAbs == decide (0 < x)) := by unfold litT; rw [if_pos h]

theorem may_val (r : Bool) (x n : Int) (w : World) (h0 : 0 ≤ n) (h1 : n ≤ 65536) (hr : isB x n = r) :
    Calls Try.prog 49 #[.int .i64 x, .int .i64 n] w fun e w' => e = .returned (.bool r) ∧ w = w' := by
  have := may_any x n w h0 h1
  rw [hr] at this; exact this

theorem absI_nat (x : Int) : absI x = (x.natAbs : Int) := by unfold absI; split <;> omega
theorem varB_out {bs : List Bool} {v n : Nat} (hl : bs.length = n) (h : ¬ v < n) : varB bs v = false := by
  unfold varB; rw [List.getD_eq_getElem?_getD, List.getElem?_eq_none (by omega)]; rfl

set_option maxHeartbeats 400000 in
theorem litTrue_any (x : Int) (A : Option Addr) (n c : Nat) (bs : List Bool) (w : World) (h : RB w A n c bs) :
    Calls Try.prog 77 #[.int .i64 x, .slice A n c] w fun e w' => e = .returned (.bool (litT bs x)) ∧ w = w' := by
  have hl := h.len
  cases hi : isB x 65536
  · rw [litT_no hi]
    have HI := Lib.hid hi
    clear hi h hl
    go_enter Try.func77, Try.ntmps77
    go_wp2_with (go_at_call 49; refine (may_val false x 65536 w (by omega) (by omega) HI.out).mono ?_; rintro e w' ⟨rfl, rfl⟩)
    go_ret
    exact ⟨rfl, rfl⟩
  · rw [litT_yes hi]
    have hb := isB_iff.1 hi
    have hof := of_any x w hb.2.1 hb.2.2
    rw [absI_nat] at hof
    have HI := Lib.hid hi
    clear hi hb
    generalize x.natAbs = k at hof ⊢
    have hb := h.big
    by_cases hlt : k < n
    · obtain ⟨b, off, rfl, hbl, hc⟩ := h.cells (by omega)
      have hck := hc k hlt
      have e : bs.getD k false = varB bs k := rfl
      rw [e] at hck
      generalize varB bs k = v at hck ⊢
      clear hc h hl e
      by_cases hp : 0 < x
      all_goals
        go_enter Try.func77, Try.ntmps77
        go_wp2_with (first | (go_at_call 49; refine (may_val true x 65536 w (by omega) (by omega) HI.out).mono ?_; rintro e w' ⟨rfl, rfl⟩) | (go_at_call 51; refine hof.mono ?_; clear hof; rintro e w' ⟨rfl, rfl⟩))
        go_ret
        exact ⟨ret_bool (by simp [hp]), rfl⟩
    · rw [varB_out hl hlt]
      clear h hl
      by_cases hp : 0 < x
      all_goals
        go_enter Try.func77, Try.ntmps77
        go_wp2_with (first | (go_at_call 49; refine (may_val true x 65536 w (by omega) (by omega) HI.out).mono ?_; rintro e w' ⟨rfl, rfl⟩) | (go_at_call 51; refine hof.mono ?_; clear hof; rintro e w' ⟨rfl, rfl⟩))
        go_ret
        exact ⟨ret_bool (by simp [hp]), rfl⟩

theorem enters76 : ∀ args w, (callFunc 76 args).run Try.prog w = .ok (.enter 76 args) w := enters_of Try.func76 (by kernel_rfl) rfl
theorem enters56 : ∀ args w, (callFunc 56 args).run Try.prog w = .ok (.enter 56 args) w := enters_of Try.func56 (by kernel_rfl) rfl

set_option maxHeartbeats 400000 in
theorem holds1_any (B : Nat) (x : Int) (A : Option Addr) (n c : Nat) (bs : List Bool) (w : World) (hc : w.cell? ⟨B, 0, none⟩ = some (.slice A n c)) (h : RB w A n c bs) :
    Calls Try.prog 76 #[.int .i64 x, .pointer (some ⟨B, 0, none⟩)] w fun e w' => e = .returned (.bool (litT bs x)) ∧ w = w' := by
  have H := Lib.hid h
  clear h
  go_enter Try.func76, Try.ntmps76
  go_wp2_with (go_at_call 77; refine (litTrue_any x A n c bs w H.out).mono ?_; rintro e w' ⟨rfl, rfl⟩)
  go_ret
  exact ⟨rfl, rfl⟩

set_option maxHeartbeats 400000 in
theorem holds_any (A : Option Addr) (n c : Nat) (zs : List Int) (A' : Option Addr) (n' c' : Nat) (bs : List Bool) (w : World) (h : RI w A n c zs) (h' : RB w A' n' c' bs) :
    Calls Try.prog 57 #[.slice A n c, .slice A' n' c'] w fun e w' => e = .returned (.bool (holdsT bs zs)) ∧ Below w.heap.size w w' := by
  have hb : Below w.heap.size w (w.alloc (.cells #[.slice A' n' c'] 47)) := (Below.refl _ _).alloc (Nat.le_refl _) _
  have hcall := containsI_any 76 #[.pointer (some ⟨w.heap.size, 0, none⟩)] (litT bs) enters76 A n c zs (w.alloc (.cells #[.slice A' n' c'] 47)) (h.alloc _) (fun y _ => holds1_any w.heap.size y A' n' c' bs _ (by simp) (h'.below hb))
  have HB := Lib.hid hb
  clear h h' hb
  go_enter Try.func57, Try.ntmps57
  go_wp2_with (go_at_call 53; refine hcall.mono ?_; clear hcall; rintro e w' ⟨rfl, rfl⟩)
  go_ret
  exact ⟨rfl, HB.out⟩

theorem holds_val (r : Bool) (A : Option Addr) (n c : Nat) (zs : List Int) (A' : Option Addr) (n' c' : Nat) (bs : List Bool) (w : World) (h : RI w A n c zs) (h' : RB w A' n' c' bs) (hr : holdsT bs zs = r) :
    Calls Try.prog 57 #[.slice A n c, .slice A' n' c'] w fun e w' => e = .returned (.bool r) ∧ Below w.heap.size w w' := by
  have := holds_any A n c zs A' n' c' bs w h h'
  rw [hr] at this; exact this

set_option maxHeartbeats 400000 in
theorem value1_any (B : Nat) (A : Option Addr) (n c : Nat) (zs : List Int) (A' : Option Addr) (n' c' : Nat) (bs : List Bool) (w : World) (hc : w.cell? ⟨B, 0, none⟩ = some (.slice A' n' c')) (h : RI w A n c zs) (h' : RB w A' n' c' bs) :
    Calls Try.prog 56 #[.slice A n c, .pointer (some ⟨B, 0, none⟩)] w fun e w' => e = .returned (.bool (!(holdsT bs zs))) ∧ Below w.heap.size w w' := by
  have H := Lib.hid h
  have H' := Lib.hid h'
  clear h h'
  generalize hv : holdsT bs zs = v
  have HV := Lib.hid hv
  clear hv
  go_enter Try.func56, Try.ntmps56
  go_wp2_with (go_at_call 57; refine (holds_val v A n c zs A' n' c' bs w H.out H'.out HV.out).mono ?_; rintro e w' ⟨rfl, hb⟩)
  go_ret
  exact ⟨rfl, hb⟩

theorem anyl_at {ls : List (List Int)} {p : List Int → Bool} {k : Nat} (h : k < ls.length) (e : p (ell ls k) = true) : ls.any p = true := by
  rw [List.any_eq_true]; exact ⟨_, ell_mem h, e⟩
theorem anyl_step {ls : List (List Int)} {p : List Int → Bool} {k : Nat} (h : k < ls.length) (e : p (ell ls k) = false) (h0 : (ls.take k).any p = false) : (ls.take (k + 1)).any p = false := by
  rw [takel_snoc ls k h, List.any_append, h0]; simp [e]
theorem anyl_full {ls : List (List Int)} {p : List Int → Bool} {k n : Nat} (hl : ls.length = n) (h : ¬ k < n) (h0 : (ls.take k).any p = false) : ls.any p = false := by
  rw [List.take_of_length_le (by omega)] at h0; exact h0

/-- a predicate on rows that makes memory only -/
def PredL (g : Nat) (lb : Array Value) (p : List Int → Bool) (w : World) : Prop :=
  ∀ (A : Option Addr) (n c : Nat) (zs : List Int) (W : World), Below w.heap.size w W → RI W A n c zs → Calls Try.prog g (#[.slice A n c] ++ lb) W fun e w' => e = .returned (.bool (p zs)) ∧ Below W.heap.size W w'
theorem PredL.val {g : Nat} {lb : Array Value} {p : List Int → Bool} {w : World} (h : PredL g lb p w) (r : Bool) (A : Option Addr) (n c : Nat) (zs : List Int) (W : World) (hb : Below w.heap.size w W) (hr : RI W A n c zs) (he : p zs = r) :
    Calls Try.prog g (#[.slice A n c] ++ lb) W fun e w' => e = .returned (.bool r) ∧ Below W.heap.size W w' := by
  have := h A n c zs W hb hr
  rw [he] at this; exact this

def IdxL (p : List Int → Bool) (ls : List (List Int)) (w : World) (e : Ending) (w' : World) : Prop := ∃ r : Int, e = .returned (.int .i64 r) ∧ (decide (0 ≤ r) = ls.any p) ∧ Below w.heap.size w w'

set_option maxHeartbeats 400000 in
theorem indexP_any (g : Nat) (lb : Array Value) (p : List Int → Bool) (eg : ∀ args w, (callFunc g args).run Try.prog w = .ok (.enter g args) w) (A : Option Addr) (n c : Nat) (ls : List (List Int)) (w : World) (h : RL w A n c ls)
    (hp : PredL g lb p w) : Calls Try.prog 73 #[.slice A n c, .func (.func g) #[] lb] w (IdxL p ls w) := by
  have hn := h.small
  have H := Lib.hid h
  clear h
  have HP := Lib.hid hp
  clear hp
  go_enter Try.func73, Try.ntmps73
  go_wp2
  go_loopw [8] (fun i W => ∃ k : Nat, k ≤ n ∧ i = .int .i64 k ∧ (ls.take k).any p = false ∧ Below w.heap.size w W) (fun i _ => n - (intOf i).toNat)
  case atStart => exact ⟨0, Nat.zero_le _, rfl, rfl, Below.refl _ _⟩
  case round =>
    obtain ⟨k, hk, rfl, hno, hb⟩ := hrel
    have HN := Lib.hid hno
    have HB := Lib.hid hb
    clear hno hb
    by_cases hlt : k < n
    · obtain ⟨b, off, rfl, hbl, hc⟩ := (H.out.below HB.out).cells (by omega)
      obtain ⟨a1, n1, c1, hck, hr1⟩ := hc k hlt
      clear hc
      have hl : k < ls.length := by rw [H.out.len]; exact hlt
      cases ho : p (ell ls k)
      · have hcall := HP.out.val false a1 n1 c1 (ell ls k) wr HB.out hr1 ho
        have HO := Lib.hid ho
        have HL := Lib.hid hl
        clear ho hr1 hl
        go_wp2_with (go_at_fn g; refine hcall.mono ?_; clear hcall; rintro e w' ⟨rfl, hb2⟩; have HB2 := Lib.hid hb2; clear hb2)
        go_roundw
        case rel => exact ⟨k + 1, by omega, by go_num, anyl_step HL.out HO.out HN.out, HB.out.trans (HB2.out.mono HB.out.size)⟩
        case measure => simp [intOf]; omega
      · have hcall := HP.out.val true a1 n1 c1 (ell ls k) wr HB.out hr1 ho
        have HO := Lib.hid ho
        have HL := Lib.hid hl
        clear ho hr1 hl
        go_wp2_with (go_at_fn g; refine hcall.mono ?_; clear hcall; rintro e w' ⟨rfl, hb2⟩; have HB2 := Lib.hid hb2; clear hb2)
        go_ret
        exact ⟨k, rfl, by rw [anyl_at HL.out HO.out]; simp, HB.out.trans (HB2.out.mono HB.out.size)⟩
    · go_wp2
      go_ret
      exact ⟨-1, rfl, by rw [anyl_full H.out.len hlt HN.out]; rfl, HB.out⟩

set_option maxHeartbeats 400000 in
theorem containsP_any (g : Nat) (lb : Array Value) (p : List Int → Bool) (eg : ∀ args w, (callFunc g args).run Try.prog w = .ok (.enter g args) w) (A : Option Addr) (n c : Nat) (ls : List (List Int)) (w : World) (h : RL w A n c ls)
    (hp : PredL g lb p w) : Calls Try.prog 43 #[.slice A n c, .func (.func g) #[] lb] w fun e w' => e = .returned (.bool (ls.any p)) ∧ Below w.heap.size w w' := by
  have hI := indexP_any g lb p eg A n c ls w h hp
  clear h hp
  go_enter Try.func43, Try.ntmps43
  go_wp2_with (go_at_call 73; refine hI.mono ?_; rintro e w' ⟨r, rfl, hr, hb⟩)
  all_goals
    go_ret
    exact ⟨ret_bool (by rw [← hr]), hb⟩

theorem containsP_val (r : Bool) (g : Nat) (lb : Array Value) (p : List Int → Bool) (eg : ∀ args w, (callFunc g args).run Try.prog w = .ok (.enter g args) w) (A : Option Addr) (n c : Nat) (ls : List (List Int)) (w : World) (h : RL w A n c ls)
    (hp : PredL g lb p w) (hr : ls.any p = r) : Calls Try.prog 43 #[.slice A n c, .func (.func g) #[] lb] w fun e w' => e = .returned (.bool r) ∧ Below w.heap.size w w' := by
  have := containsP_any g lb p eg A n c ls w h hp
  rw [hr] at this; exact this

theorem any_not_holds (bs : List Bool) (ls : List (List Int)) : ls.any (fun l => !(holdsT bs l)) = !(ls.all (holdsT bs)) := by rw [List.not_all_eq_any_not]

set_option maxHeartbeats 800000 in
theorem value_any (x : Int) (A : Option Addr) (n c : Nat) (ls : List (List Int)) (A' : Option Addr) (n' c' : Nat) (bs : List Bool) (w : World) (h : RL w A n c ls) (h' : RB w A' n' c' bs) :
    Calls Try.prog 27 #[.agg #[.int .i64 x, .slice A n c], .slice A' n' c'] w fun e w' => e = .returned (.bool (valueT x ls bs)) ∧ Below w.heap.size w w' := by
  have hbx : Below w.heap.size w ((w.alloc (.cells #[.int .i64 x, .slice A n c] 29)).alloc (.cells #[.slice A' n' c'] 47)) := ((Below.refl _ _).alloc (Nat.le_refl _) _).alloc (by simp) _
  have BX := Lib.hid ((Two.new w (.int .i64 x) (.slice A n c)).below ((Below.refl _ _).alloc (Nat.le_refl _) (.cells #[.slice A' n' c'] 47)))
  have hc0 : ((w.alloc (.cells #[.int .i64 x, .slice A n c] 29)).alloc (.cells #[.slice A' n' c'] 47)).cell? ⟨w.heap.size + 1, 0, none⟩ = some (.slice A' n' c') := by simp
  have HL := Lib.hid (h.below hbx)
  have HR := Lib.hid (h'.below hbx)
  have HBX := Lib.hid hbx
  have HC := Lib.hid hc0
  clear h h' hbx hc0
  have hP : ∀ W, Below ((w.alloc (.cells #[.int .i64 x, .slice A n c] 29)).alloc (.cells #[.slice A' n' c'] 47)).heap.size ((w.alloc (.cells #[.int .i64 x, .slice A n c] 29)).alloc (.cells #[.slice A' n' c'] 47)) W → PredL 56 #[.pointer (some ⟨w.heap.size + 1, 0, none⟩)] (fun l => !(holdsT bs l)) W := by
    intro W hW A1 n1 c1 zs W2 hW2 hr
    have hb2 := hW.trans (hW2.mono hW.size)
    exact value1_any (w.heap.size + 1) A1 n1 c1 zs A' n' c' bs W2 ((hb2.cell (p := ⟨w.heap.size + 1, 0, none⟩) (by simp)).trans HC.out) hr (HR.out.below hb2)
  have HP := Lib.hid hP
  clear hP
  cases hk : (checkE x ls == 0)
  · have hv : valueT x ls bs = false := by unfold valueT; rw [hk]; rfl
    rw [hv]
    have hcall := check_any x A n c ls _ HL.out
    generalize checkE x ls = e' at hcall hk
    clear hv
    go_enter Try.func27, Try.ntmps27
    go_upto_region 2 with fail
    generalize (w.alloc (.cells #[.int .i64 x, .slice A n c] 29)).alloc (.cells #[.slice A' n' c'] 47) = Wb at *
    have q0 := BX.out.c0
    have q1 := BX.out.c1
    go_wp2_with (go_at_call 25; refine hcall.mono ?_; clear hcall; rintro e w' ⟨rfl, hb⟩)
    go_ret
    exact ⟨rfl, HBX.out.trans (hb.mono HBX.out.size)⟩
  · have hv : valueT x ls bs = ls.all (holdsT bs) := by unfold valueT; rw [hk]; rfl
    rw [hv]
    have hcall := check_any x A n c ls _ HL.out
    have hk' : checkE x ls = 0 := by simpa using hk
    rw [hk'] at hcall
    clear hv hk hk'
    cases hr : ls.all (holdsT bs)
    all_goals
      have HR1 := Lib.hid ((any_not_holds bs ls).trans (congrArg (!·) hr))
      clear hr
      go_enter Try.func27, Try.ntmps27
      go_upto_region 2 with fail
      generalize (w.alloc (.cells #[.int .i64 x, .slice A n c] 29)).alloc (.cells #[.slice A' n' c'] 47) = Wb at *
      have q0 := BX.out.c0
      have q1 := BX.out.c1
      go_wp2_with (first
        | (go_at_call 25; refine hcall.mono ?_; clear hcall; rintro e w1 ⟨rfl, hb⟩; have HB := Lib.hid hb; have t1 := (BX.out.below hb).c1; clear hb)
        | (go_at_call 43; refine (containsP_val _ 56 _ _ enters56 A n c ls _ (HL.out.below HB.out) (HP.out _ HB.out) HR1.out).mono ?_; rintro e w2 ⟨rfl, hb2⟩; have HB2 := Lib.hid hb2; clear hb2))
      go_ret
      exact ⟨rfl, HBX.out.trans ((HB.out.trans (HB2.out.mono HB.out.size)).mono HBX.out.size)⟩

end Go.Proofs.Ytalcnkoidmoibaa

namespace Go.Proofs.Ytalcnkoidmoibaa
set_option linter.unusedVariables false
set_option linter.unusedSimpArgs false

theorem litT_neg {bs : List Bool} {x : Int} (h : x ≠ 0 ∧ -65536 ≤ x ∧ x ≤ 65536) : litT bs (-x) = !(litT bs x) := by
  rw [litT_yes (isB_iff.2 ⟨by omega, by omega, by omega⟩), litT_yes (isB_iff.2 ⟨h.1, h.2.1, h.2.2⟩), Int.natAbs_neg]
  by_cases h0 : 0 < x
  · rw [decide_eq_true h0, decide_eq_false (by omega)]; cases varB bs x.natAbs <;> rfl
  · rw [decide_eq_false h0, decide_eq_true (by omega)]; cases varB bs x.natAbs <;> rfl

def Trues (bs : List Bool) (S : List Int) : Prop := ∀ x ∈ S, litT bs x = true
theorem holdsT_iff {bs : List Bool} {l : List Int} : holdsT bs l = true ↔ ∃ x ∈ l, litT bs x = true := by unfold holdsT; rw [List.any_eq_true]

theorem Trues.unit {bs : List Bool} {S l : List Int} (h : Trues bs S) (hz : Okl l) (hl : holdsT bs l = true) :
    (unitT S l 0).2 = false ∧ ((unitT S l 0).1 ≠ 0 → litT bs (unitT S l 0).1 = true) := by
  have hz' : Nz l := fun y hy => (hz y hy).1
  obtain ⟨x, hx, hxt⟩ := holdsT_iff.1 hl
  have key : ¬ -x ∈ S := fun hh => by
    have := h _ hh
    rw [litT_neg (hz x hx), hxt] at this; cases this
  constructor
  · cases hw : (unitT S l 0).2 with
    | false => rfl
    | true => exact absurd ((unitT_wrong l 0 hz' hw).2 x hx).2 key
  · intro h0
    rcases ((unitT_val l 0 hz' h0).1 x hx).2 with e | e
    · exact absurd e key
    · rw [← e]; exact hxt

theorem Trues.snoc {bs : List Bool} {S : List Int} {u : Int} (h : Trues bs S) (hu : litT bs u = true) : Trues bs (S ++ [u]) := fun x hx => by
  rcases List.mem_append.1 hx with a | a
  · exact h x a
  · rw [List.mem_singleton.1 a]; exact hu

theorem passT_true {bs : List Bool} : ∀ (cls : List (List Int)) (S : List Int) (m : Bool), (∀ l ∈ cls, Okl l) → (∀ l ∈ cls, holdsT bs l = true) → Trues bs S → ∃ S' m', passT S m cls = some (S', m') ∧ Trues bs S'
  | [], S, m, _, _, h => ⟨S, m, rfl, h⟩
  | l :: cls, S, m, hz, hh, h => by
    obtain ⟨h1, h2⟩ := h.unit (hz l (by simp)) (hh l (by simp))
    rw [passT, if_neg (by rw [h1]; simp)]
    have hz' : ∀ l ∈ cls, Okl l := fun x hx => hz x (by simp [hx])
    have hh' : ∀ l ∈ cls, holdsT bs l = true := fun x hx => hh x (by simp [hx])
    split
    · rename_i h3
      exact passT_true cls _ _ hz' hh' (h.snoc (h2 h3))
    · exact passT_true cls _ _ hz' hh' h

theorem closeT_true {bs : List Bool} (cls : List (List Int)) (hz : ∀ l ∈ cls, Okl l) (hh : ∀ l ∈ cls, holdsT bs l = true) : ∀ (f : Nat) (S : List Int), Trues bs S → ∃ S', closeT cls f S = some S' ∧ Trues bs S'
  | 0, S, h => ⟨S, rfl, h⟩
  | f + 1, S, h => by
    obtain ⟨S1, m, hp, h1⟩ := passT_true cls S false hz hh h
    rw [closeT, hp]
    cases m with
    | false => exact ⟨S1, rfl, h1⟩
    | true => exact closeT_true cls hz hh f S1 h1
theorem closureT_true {bs : List Bool} {cls : List (List Int)} (hz : ∀ l ∈ cls, Okl l) (hh : ∀ l ∈ cls, holdsT bs l = true) {S : List Int} (h : Trues bs S) : ∃ S', closureT cls S = some S' ∧ Trues bs S' := closeT_true cls hz hh _ S h

/-- what holds of the clause holds of the vivified one -/
theorem vivT_true {bs : List Bool} {cls : List (List Int)} (hz : ∀ l ∈ cls, Okl l) (hh : ∀ l ∈ cls, holdsT bs l = true) : ∀ (l left : List Int), Okl l → Okl left → holdsT bs (left ++ l) = true → holdsT bs (vivT cls l left) = true
  | [], left, _, _, h => by rw [vivT]; simpa using h
  | x :: l, left, hl, hlf, h => by
    have hxo := hl x (by simp)
    have hl' : Okl l := fun y hy => hl y (by simp [hy])
    cases hlt : holdsT bs left with
    | true =>
      obtain ⟨y, hy, hyt⟩ := holdsT_iff.1 hlt
      obtain ⟨r, h1, _⟩ := vivT_sub cls (x :: l) left
      rw [h1]
      exact holdsT_iff.2 ⟨y, List.mem_append.2 (Or.inl hy), hyt⟩
    | false =>
      have hT : Trues bs (left.map (-·)) := fun z hz' => by
        obtain ⟨y, hy, rfl⟩ := List.mem_map.1 hz'
        rw [litT_neg (hlf y hy)]
        cases hq : litT bs y with
        | false => rfl
        | true => rw [holdsT_iff.2 ⟨y, hy, hq⟩] at hlt; cases hlt
      obtain ⟨S, hc, hS⟩ := closureT_true hz hh hT
      rw [vivT, hc]
      dsimp only
      obtain ⟨y, hy, hyt⟩ := holdsT_iff.1 h
      split
      · rename_i h1
        exact holdsT_iff.2 ⟨x, by simp, hS x (hasB_iff.1 h1)⟩
      · split
        · rename_i h1 h2
          have hnx := hS _ (hasB_iff.1 h2)
          rw [litT_neg hxo] at hnx
          refine vivT_true hz hh l left hl' hlf (holdsT_iff.2 ⟨y, ?_, hyt⟩)
          rcases List.mem_append.1 hy with a | a
          · exact List.mem_append.2 (Or.inl a)
          · rcases List.mem_cons.1 a with e | e
            · rw [e] at hyt; rw [hyt] at hnx; cases hnx
            · exact List.mem_append.2 (Or.inr e)
        · refine vivT_true hz hh l (left ++ [x]) hl' (fun z hz' => ?_) (by rw [List.append_assoc]; exact h)
          rcases List.mem_append.1 hz' with a | a
          · exact hlf z a
          · rw [List.mem_singleton.1 a]; exact hxo

theorem all_erase {p : List Int → Bool} : ∀ (ls : List (List Int)) (k : Nat), k < ls.length → ls.all p = (p (ell ls k) && (ls.eraseIdx k).all p)
  | [], k, h => by simp at h
  | l :: ls, 0, _ => by simp [ell]
  | l :: ls, k + 1, h => by
    have := all_erase (p := p) ls k (by simpa using h)
    have e : ell (l :: ls) (k + 1) = ell ls k := by simp [ell]
    rw [e, List.eraseIdx_cons_succ, List.all_cons, List.all_cons, this]
    cases p l <;> simp

theorem holdsT_norm {bs : List Bool} {l : List Int} : holdsT bs (normP l) = holdsT bs l := by
  rw [Bool.eq_iff_iff, holdsT_iff, holdsT_iff]
  constructor
  · rintro ⟨x, hx, ht⟩; exact ⟨x, (mem_normP.1 hx).1, ht⟩
  · rintro ⟨x, hx, ht⟩
    refine ⟨x, mem_normP.2 ⟨hx, ?_⟩, ht⟩
    cases hb : isB x 65536 with
    | true => rfl
    | false => rw [litT_no hb] at ht; cases ht

theorem viv_value {x : Int} {ls : List (List Int)} {k : Nat} (hE : vivE x ls k = 0) (bs : List Bool) : valueT x (ls.set k (vivL x ls k)) bs = valueT x ls bs := by
  obtain ⟨h1, h2, h3⟩ := vivE_zero hE
  have hk : k < ls.length := by omega
  have e1 : vivL x ls k = vivT (ls.eraseIdx k) (normP (ell ls k)) [] := by unfold vivL; rw [if_pos hE]; simp
  obtain ⟨_, _, _, hm⟩ := viv_again hE
  have hc := checkE_set h1 hk hm
  have ho := checkE_lits h1
  unfold valueT
  rw [hc, h1, all_erase (ls.set k _) k (by simpa using hk), all_erase ls k hk, ell_set hk, erase_set]
  cases ha : (ls.eraseIdx k).all (holdsT bs) with
  | false => simp
  | true =>
    congr 2
    have hz : ∀ l ∈ ls.eraseIdx k, Okl l := fun l hl => ho l (List.mem_of_mem_eraseIdx hl)
    have hh : ∀ l ∈ ls.eraseIdx k, holdsT bs l = true := List.all_eq_true.1 ha
    rw [Bool.eq_iff_iff]
    constructor
    · intro h
      obtain ⟨y, hy, ht⟩ := holdsT_iff.1 h
      exact holdsT_iff.2 ⟨y, hm y hy, ht⟩
    · intro h
      rw [e1]
      exact vivT_true hz hh _ [] (normP_okl _) (fun y hy => by cases hy) (by rw [List.nil_append, holdsT_norm]; exact h)

theorem vivL_bad {x : Int} {ls : List (List Int)} {k : Int} (h : vivE x ls k ≠ 0) : vivL x ls k = [] := by unfold vivL; rw [if_neg h]
theorem vivE_in {x : Int} {ls : List (List Int)} {k : Int} (h0 : 0 ≤ k) (h1 : k < ls.length) : vivE x ls k = checkE x ls := by
  unfold vivE
  split
  · rfl
  · rename_i h; rw [if_neg (by omega)]; have : checkE x ls = 0 := by simpa using h
    exact this.symm
theorem viv_subB {x : Int} {ls : List (List Int)} {k : Nat} (hE : vivE x ls k = 0) : subB (vivL x ls k) (ell ls k) = true := subB_iff.2 (viv_again hE).2.2.2

end Go.Proofs.Ytalcnkoidmoibaa

namespace Go.Proofs.Ytalcnkoidmoibaa
open Go.RowKit Go.Shelf
set_option linter.unusedVariables false
set_option linter.unusedSimpArgs false

theorem infoBool : (Try.prog.info? 4).map (fun i => (i.zero, i.size, i.bytes)) = some (some (.bool false), 1, 1) := by kernel_rfl
theorem underlying47 : Try.prog.underlying 47 = some (.slice 4) := by kernel_rfl

theorem RB.of_own {w : World} {base : Nat} {A : Option Addr} {n c : Nat} {bs : List Bool} (h : w.ownsRow base 4 1 (.slice A n c) n (bs.map Value.bool)) (hbig : n ≤ 140737488355328) : RB w A n c bs := by
  obtain ⟨h1, h2⟩ := h
  have hl : bs.length = n := by simpa using h1
  rcases h2 with ⟨hv, hn⟩ | ⟨g, cap, cur, hv, hg, hh, hnc, hcm, hcs, htk⟩
  · simp only [Value.slice.injEq] at hv
    obtain ⟨rfl, _, rfl⟩ := hv
    subst hn
    exact ⟨hl, Nat.le_refl _, hbig, Nat.zero_le _, fun h => absurd h (by omega)⟩
  · simp only [Value.slice.injEq] at hv
    obtain ⟨rfl, _, rfl⟩ := hv
    refine ⟨hl, hnc, hbig, hcm, fun hn => ⟨g, 0, rfl, ?_, fun j hj => ?_⟩⟩
    · rcases Nat.lt_or_ge g w.heap.size with hlt | hge
      · exact hlt
      · rw [Array.getElem?_eq_none hge] at hh; cases hh
    · have e : cur[j]? = some (.bool (bs.getD j false)) := by
        have h3 : (cur.toList.take (n * 1))[j]? = (bs.map Value.bool)[j]? := by rw [htk]
        rw [List.getElem?_take_of_lt (by omega), List.getElem?_map, List.getElem?_eq_getElem (by omega : j < bs.length)] at h3
        rw [← Array.getElem?_toList, h3, List.getD_eq_getElem?_getD, List.getElem?_eq_getElem (by omega : j < bs.length)]
        rfl
      simp [World.cell?, hh, e]

/-- some truths -/
def Truthd (n : Nat) (w : World) (e : Ending) (w' : World) : Prop := ∃ A c bs, e = .returned (.slice A n c) ∧ RB w' A n c bs ∧ Below w.heap.size w w'

theorem own_bools {w : World} {base g n k : Nat} {bs : List Bool} (h : w.ownsRow base 4 1 (.slice (some ⟨g, 0, none⟩) n n) n (bs.map Value.bool)) (hk : k < n) :
    w.cell? ⟨g, k, none⟩ = some (.bool (bs.getD k false)) ∧ w.frozen? ⟨g, k, none⟩ = false := by
  have hl : bs.length = n := by simpa using h.1
  refine ⟨?_, ?_⟩
  · have hlk : k < (bs.map Value.bool).length := by simp; omega
    have := h.cells (g := g) rfl k _ (List.getElem?_eq_getElem hlk)
    rw [Addr.add_lit, Nat.zero_add] at this
    rw [this, List.getElem_map, List.getD_eq_getElem?_getD, List.getElem?_eq_getElem (by omega : k < bs.length)]
    rfl
  · rcases h.2 with ⟨hv, _⟩ | ⟨g', cap, cur, hv, _, hg, _⟩
    · cases hv
    · cases hv
      simp [World.frozen?, hg]

set_option maxRecDepth 100000 in
set_option maxHeartbeats 1000000 in
theorem truths_any (n : Nat) (bits : Int) (w : World) (hn : n ≤ 60) :
    Calls Try.prog 26 #[.int .i64 n, .int .i64 bits] w (Truthd (n + 1) w) := by
  obtain ⟨i0, hi, hz0, hz1, hz2⟩ := info_parts infoBool
  have hmk : ∀ W : World, (Instr.makeSlice 47 (.int .i64 ((n : Int) + 1)) (.int .i64 ((n : Int) + 1))).run Try.prog W = .ok (.slice (some ⟨W.heap.size, 0, none⟩) (n + 1) (n + 1)) (W.alloc (.cells (madeCells (Value.bool false).cells (n + 1)) 4)) := fun W => by
    have := run_make (P := Try.prog) W 47 4 i0 (.bool false) underlying47 hi hz0 .i64 .i64 ((n : Int) + 1) ((n : Int) + 1) (by omega) (by omega) (by rw [hz2]; omega) (by omega)
    rw [hz1, show ((n : Int) + 1).toNat = n + 1 by omega, Nat.mul_one] at this
    exact this
  have hown0 : (w.alloc (.cells (madeCells (Value.bool false).cells (n + 1)) 4)).ownsRow w.heap.size 4 1 (.slice (some ⟨w.heap.size, 0, none⟩) (n + 1) (n + 1)) (n + 1) ((List.replicate (n + 1) false).map Value.bool) := by
    refine ⟨by simp, Or.inr ⟨w.heap.size, n + 1, _, rfl, Nat.le_refl _, heap_alloc_new _ _, Nat.le_refl _, by unfold maxLen; omega, by rw [size_madeCells]; omega, ?_⟩⟩
    show (madeCells #[Value.bool false] (n + 1)).toList.take ((n + 1) * 1) = _
    rw [toList_madeCells_one]; simp
  have HOWN0 := Lib.hid hown0
  have HB0 := Lib.hid ((Below.refl w.heap.size w).alloc (Nat.le_refl _) (.cells (madeCells (Value.bool false).cells (n + 1)) 4))
  clear hown0
  generalize madeCells (Value.bool false).cells (n + 1) = cs at hmk HOWN0 HB0
  go_enter Try.func26, Try.ntmps26
  go_wp2
  go_loopw [6] (fun i wr => ∃ (k : Nat) (bs : List Bool), 1 ≤ k ∧ k ≤ n + 1 ∧ i = .int .i64 k ∧ wr.ownsRow w.heap.size 4 1 (.slice (some ⟨w.heap.size, 0, none⟩) (n + 1) (n + 1)) (n + 1) (bs.map Value.bool) ∧ Below w.heap.size w wr) (fun i _ => n + 1 - (intOf i).toNat)
  case atStart => exact ⟨1, _, Nat.le_refl _, by omega, rfl, HOWN0.out, HB0.out⟩
  case round =>
    obtain ⟨k, bs, hk1, hk, rfl, hown, hb⟩ := hrel
    have HO := Lib.hid hown
    have HB := Lib.hid hb
    clear hown hb
    by_cases hlt : k ≤ n
    · obtain ⟨hc, hf⟩ := own_bools (k := k) HO.out (by omega)
      have z1 : 1 ≤ (k : Int) := by omega
      have z2 : 0 ≤ (k : Int) - 1 := by omega
      have z3 : (k : Int) - 1 ≤ 64 := by omega
      go_wp2
      go_roundw
      case rel => exact ⟨k + 1, bs.set k _, by omega, by omega, by go_num, by rw [List.map_set]; exact own_set HO.out _, HB.out.setCell (by simp) _⟩
      case measure => simp [intOf]; omega
    · go_wp2
      go_ret
      exact ⟨_, _, bs, rfl, RB.of_own HO.out (by omega), HB.out⟩

end Go.Proofs.Ytalcnkoidmoibaa
