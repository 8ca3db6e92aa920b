/-
  The closure of a set of literals under clauses: it is the least one, whatever the order. No program in sight. No condition.
  The reference functions opposites and All. No condition.
-/
import Derived.Test.YtalcnkoidmoibaaZA4
import Derived.Test.YtalcnkoidmoibaaZA9
import Derived.Test.YtalcnkoidmoibaaZA2

namespace Go.Proofs.Ytalcnkoidmoibaa
set_option linter.unusedVariables false
set_option linter.unusedSimpArgs false

/-- no literal beside its opposite -/
def Con (S : List Int) : Prop := ∀ x, x ∈ S → ¬ (-x) ∈ S
def Sub (S T : List Int) : Prop := ∀ x, x ∈ S → x ∈ T
theorem Sub.refl (S : List Int) : Sub S S := fun _ h => h
theorem Sub.trans {S T U : List Int} (h : Sub S T) (k : Sub T U) : Sub S U := fun x hx => k x (h x hx)
theorem Con.mono {S T : List Int} (h : Con T) (hs : Sub S T) : Con S := fun x hx hn => h x (hs x hx) (hs _ hn)

theorem hasB_false {S : List Int} {x : Int} : hasB S x = false ↔ ¬ x ∈ S := by
  rw [← Bool.not_eq_true, hasB_iff]

def Nz (l : List Int) : Prop := ∀ x ∈ l, x ≠ 0
theorem Nz.tail {x : Int} {l : List Int} (h : Nz (x :: l)) : Nz l := fun y hy => h y (by simp [hy])

/-- unit's first answer: the only literal that is not false -/
theorem unitT_val {S : List Int} : ∀ (l : List Int) (one : Int), Nz l → (unitT S l one).1 ≠ 0 →
    (∀ x ∈ l, ¬ x ∈ S ∧ (-x ∈ S ∨ x = (unitT S l one).1)) ∧ (one ≠ 0 → (unitT S l one).1 = one)
  | [], one, _, h => ⟨fun x hx => (by cases hx), fun _ => rfl⟩
  | x :: l, one, hz, h => by
    rw [unitT] at h ⊢
    split at h
    · exact absurd rfl h
    · rename_i h1
      rw [if_neg h1]
      have h1' : ¬ x ∈ S := fun hh => h1 (hasB_iff.2 hh)
      have hx0 : x ≠ 0 := hz x (by simp)
      split at h
      · rename_i h2
        rw [if_pos h2]
        obtain ⟨h3, h4⟩ := unitT_val l one hz.tail h
        refine ⟨fun y hy => ?_, h4⟩
        rcases List.mem_cons.1 hy with e | e
        · subst e
          refine ⟨h1', ?_⟩
          rcases h2 with h2 | h2
          · exact Or.inl (hasB_iff.1 h2)
          · right; rw [h4 (by rw [← h2]; exact hx0)]; exact h2
        · exact h3 y e
      · rename_i h2
        rw [if_neg h2]
        split at h
        · exact absurd rfl h
        · rename_i h3
          rw [if_neg h3]
          have h3' : one = 0 := by simpa using h3
          obtain ⟨h4, h5⟩ := unitT_val l x hz.tail h
          refine ⟨fun y hy => ?_, fun h => absurd h3' h⟩
          rcases List.mem_cons.1 hy with e | e
          · subst e; exact ⟨h1', Or.inr (h5 hx0).symm⟩
          · exact h4 y e

theorem unitT_wrong {S : List Int} : ∀ (l : List Int) (one : Int), Nz l → (unitT S l one).2 = true → one = 0 ∧ ∀ x ∈ l, ¬ x ∈ S ∧ -x ∈ S
  | [], one, _, h => ⟨by simpa [unitT] using h, fun x hx => by cases hx⟩
  | x :: l, one, hz, h => by
    rw [unitT] at h
    split at h
    · cases h
    · rename_i h1
      have h1' : ¬ x ∈ S := fun hh => h1 (hasB_iff.2 hh)
      have hx0 : x ≠ 0 := hz x (by simp)
      split at h
      · rename_i h2
        obtain ⟨h3, h4⟩ := unitT_wrong l one hz.tail h
        refine ⟨h3, fun y hy => ?_⟩
        rcases List.mem_cons.1 hy with e | e
        · subst e
          rcases h2 with h2 | h2
          · exact ⟨h1', hasB_iff.1 h2⟩
          · rw [h3] at h2; exact absurd h2 hx0
        · exact h4 y e
      · split at h
        · cases h
        · have := (unitT_wrong l x hz.tail h).1
          exact absurd this hx0

theorem unitT_false {S : List Int} : ∀ (l : List Int) (one : Int), (∀ x ∈ l, ¬ x ∈ S ∧ -x ∈ S) → unitT S l one = (one, one == 0)
  | [], one, h => rfl
  | x :: l, one, h => by
    rw [unitT, if_neg (fun hh => (h x (by simp)).1 (hasB_iff.1 hh)), if_pos (Or.inl (hasB_iff.2 (h x (by simp)).2))]
    exact unitT_false l one fun y hy => h y (by simp [hy])

theorem unitT_unit {S : List Int} {u : Int} (hu : ¬ -u ∈ S) (h0 : u ≠ 0) : ∀ (l : List Int) (one : Int), (∀ x ∈ l, ¬ x ∈ S ∧ (-x ∈ S ∨ x = u)) → (one = u ∨ (one = 0 ∧ u ∈ l)) → (unitT S l one).1 = u
  | [], one, h, ho => by
    rcases ho with ho | ho
    · exact ho
    · cases ho.2
  | x :: l, one, h, ho => by
    have hx := h x (by simp)
    have ht : ∀ y ∈ l, ¬ y ∈ S ∧ (-y ∈ S ∨ y = u) := fun y hy => h y (by simp [hy])
    rw [unitT, if_neg (fun hh => hx.1 (hasB_iff.1 hh))]
    split
    · rename_i h2
      refine unitT_unit hu h0 l one ht ?_
      rcases ho with ho | ⟨ho, hm⟩
      · exact Or.inl ho
      · right
        refine ⟨ho, ?_⟩
        rcases List.mem_cons.1 hm with e | e
        · subst e
          rcases h2 with h2 | h2
          · exact absurd (hasB_iff.1 h2) hu
          · rw [ho] at h2; exact absurd h2 h0
        · exact e
    · rename_i h2
      have hxu : x = u := by
        rcases hx.2 with h3 | h3
        · exact absurd (Or.inl (hasB_iff.2 h3)) h2
        · exact h3
      have hone : one = 0 := by
        rcases ho with ho | ho
        · exact absurd (Or.inr (by rw [hxu, ho])) h2
        · exact ho.1
      rw [if_neg (by simpa using hone)]
      exact unitT_unit hu h0 l x ht (Or.inl hxu)

theorem unitR_eq (S : List Int) : ∀ (l : List Int) (one : Int), unitR S l one = (unitT S l one).1
  | [], one => rfl
  | x :: l, one => by
    rw [unitR, unitT]
    split
    · rfl
    · split
      · exact unitR_eq S l one
      · split
        · rfl
        · exact unitR_eq S l x

theorem falseB_iff {l S : List Int} : falseB l S = true ↔ ∀ x ∈ l, -x ∈ S := by
  unfold falseB; rw [List.all_eq_true]
  exact ⟨fun h x hx => hasB_iff.1 (h x hx), fun h x hx => hasB_iff.2 (h x hx)⟩

/-- closed under the clauses, and at peace with them -/
structure Good (cls : List (List Int)) (T : List Int) : Prop where
  con : Con T
  no : ∀ l ∈ cls, falseB l T = false
  fix : ∀ l ∈ cls, (unitT T l 0).1 = 0

def Nzs (cls : List (List Int)) : Prop := ∀ l ∈ cls, Nz l

theorem Good.stay {cls : List (List Int)} {T S l : List Int} (h : Good cls T) (hz : Nzs cls) (hs : Sub S T) (hl : l ∈ cls) :
    (unitT S l 0).2 = false ∧ ((unitT S l 0).1 ≠ 0 → (unitT S l 0).1 ∈ T) := by
  constructor
  · cases hw : (unitT S l 0).2 with
    | false => rfl
    | true =>
      have h1 := (unitT_wrong l 0 (hz l hl) hw).2
      have : falseB l T = true := falseB_iff.2 fun x hx => hs _ (h1 x hx).2
      rw [h.no l hl] at this; cases this
  · intro h0
    obtain ⟨hm, _, _⟩ := unitT_mem h0
    have hv := (unitT_val l 0 (hz l hl) h0).1
    generalize (unitT S l 0).1 = u at *
    cases hc : hasB T u with
    | true => exact hasB_iff.1 hc
    | false =>
      have hu : ¬ u ∈ T := hasB_false.1 hc
      have hn : ¬ -u ∈ T := fun hh => by
        have : falseB l T = true := falseB_iff.2 fun x hx => by
          rcases (hv x hx).2 with e | e
          · exact hs _ e
          · rw [e]; exact hh
        rw [h.no l hl] at this; cases this
      have := unitT_unit hn h0 l 0 (fun x hx => by
        rcases (hv x hx).2 with e | e
        · exact ⟨fun hh => h.con x hh (hs _ e), Or.inl (hs _ e)⟩
        · exact ⟨by rw [e]; exact hu, Or.inr e⟩) (Or.inr ⟨rfl, hm⟩)
      rw [h.fix l hl] at this
      exact absurd this.symm h0

theorem con_snoc {S : List Int} {u : Int} (h : Con S) (h0 : u ≠ 0) (hn : ¬ -u ∈ S) (hu : ¬ u ∈ S) : Con (S ++ [u]) := by
  intro x hx hx'
  rcases List.mem_append.1 hx with a | a <;> rcases List.mem_append.1 hx' with b | b
  · exact h x a b
  · have hb := List.mem_singleton.1 b
    exact hn (by rw [← hb]; simpa using a)
  · have ha := List.mem_singleton.1 a
    rw [ha] at b; exact hn b
  · have ha := List.mem_singleton.1 a
    have hb := List.mem_singleton.1 b
    omega

theorem sub_snoc {S : List Int} (u : Int) : Sub S (S ++ [u]) := fun x hx => List.mem_append.2 (Or.inl hx)

/-- a pass stays inside every good set; it keeps what was, and at peace -/
theorem passT_stay {all : List (List Int)} {T : List Int} (h : Good all T) (hz : Nzs all) : ∀ (cls : List (List Int)) (S : List Int) (m : Bool), (∀ l ∈ cls, l ∈ all) → Sub S T → ∃ S' m', passT S m cls = some (S', m') ∧ Sub S' T
  | [], S, m, _, hs => ⟨S, m, rfl, hs⟩
  | l :: cls, S, m, hin, hs => by
    obtain ⟨h1, h2⟩ := h.stay hz hs (hin l (by simp))
    have hin' : ∀ l ∈ cls, l ∈ all := fun x hx => hin x (by simp [hx])
    rw [passT, if_neg (by rw [h1]; simp)]
    split
    · rename_i h3
      refine passT_stay h hz cls _ _ hin' ?_
      intro x hx
      rcases List.mem_append.1 hx with a | a
      · exact hs x a
      · rw [List.mem_singleton.1 a]; exact h2 h3
    · exact passT_stay h hz cls _ _ hin' hs

theorem passT_con : ∀ (cls : List (List Int)) (S : List Int) (m : Bool) (S' : List Int) (m' : Bool), Con S → passT S m cls = some (S', m') → Con S' ∧ Sub S S'
  | [], S, m, S', m', hc, h => by cases h; exact ⟨hc, Sub.refl _⟩
  | l :: cls, S, m, S', m', hc, h => by
    rw [passT] at h
    split at h
    · cases h
    · split at h
      · rename_i h2
        obtain ⟨_, hn, hn'⟩ := unitT_mem h2
        obtain ⟨a, b⟩ := passT_con cls _ _ S' m' (con_snoc hc h2 (hasB_false.1 hn') (hasB_false.1 hn)) h
        exact ⟨a, (sub_snoc _).trans b⟩
      · exact passT_con cls _ _ S' m' hc h

theorem passT_fix : ∀ (cls : List (List Int)) (S : List Int) (S' : List Int), passT S false cls = some (S', false) → S' = S ∧ ∀ l ∈ cls, (unitT S l 0).2 = false ∧ (unitT S l 0).1 = 0
  | [], S, S', h => by cases h; exact ⟨rfl, fun l hl => by cases hl⟩
  | l :: cls, S, S', h => by
    rw [passT] at h
    split at h
    · cases h
    · rename_i h1
      split at h
      · rename_i h2
        have := ((passT_open cls cls _ _ _ _ (fun l h => h) h).2.2.1 rfl).1
        cases this
      · rename_i h2
        obtain ⟨a, b⟩ := passT_fix cls S S' h
        refine ⟨a, fun x hx => ?_⟩
        rcases List.mem_cons.1 hx with e | e
        · subst e; exact ⟨by simpa using h1, by simpa using h2⟩
        · exact b x e

theorem closeT_good (cls : List (List Int)) (hz : Nzs cls) : ∀ (f : Nat) (S S' : List Int), openT cls S + 1 ≤ f → Con S → closeT cls f S = some S' → Good cls S' ∧ Sub S S'
  | 0, S, S', hf, _, _ => by omega
  | f + 1, S, S', hf, hc, h => by
    rw [closeT] at h
    cases hp : passT S false cls with
    | none => rw [hp] at h; cases h
    | some r =>
      obtain ⟨S1, m⟩ := r
      rw [hp] at h
      cases m with
      | false =>
        have h' : some S1 = some S' := h
        cases h'
        obtain ⟨e, h2⟩ := passT_fix cls S _ hp
        rw [e]
        refine ⟨⟨hc, fun l hl => ?_, fun l hl => (h2 l hl).2⟩, Sub.refl _⟩
        cases hF : falseB l S with
        | false => rfl
        | true =>
          have hf2 := falseB_iff.1 hF
          have := unitT_false l 0 (S := S) (fun x hx => ⟨fun hh => hc x hh (hf2 x hx), hf2 x hx⟩)
          have h3 := (h2 l hl).1
          rw [this] at h3; cases h3
      | true =>
        have hlt := (passT_open cls cls S false S1 true (fun l h => h) hp).2.2.2 rfl rfl
        obtain ⟨hc1, hs1⟩ := passT_con cls S false S1 true hc hp
        obtain ⟨a, b⟩ := closeT_good cls hz f S1 S' (by omega) hc1 h
        exact ⟨a, hs1.trans b⟩
theorem closureT_good {cls : List (List Int)} (hz : Nzs cls) {S S' : List Int} (hc : Con S) (h : closureT cls S = some S') : Good cls S' ∧ Sub S S' := closeT_good cls hz _ S S' (Nat.le_refl _) hc h

theorem closeT_stay {cls : List (List Int)} {T : List Int} (h : Good cls T) (hz : Nzs cls) : ∀ (f : Nat) (S : List Int), Sub S T → ∃ S', closeT cls f S = some S' ∧ Sub S' T
  | 0, S, hs => ⟨S, rfl, hs⟩
  | f + 1, S, hs => by
    obtain ⟨S1, m, hp, hs1⟩ := passT_stay h hz cls S false (fun l h => h) hs
    rw [closeT, hp]
    cases m with
    | false => exact ⟨S1, rfl, hs1⟩
    | true => exact closeT_stay h hz f S1 hs1
theorem closureT_stay {cls : List (List Int)} {T : List Int} (h : Good cls T) (hz : Nzs cls) {S : List Int} (hs : Sub S T) : ∃ S', closureT cls S = some S' ∧ Sub S' T := closeT_stay h hz _ S hs

theorem closureT_no {cls : List (List Int)} (hz : Nzs cls) {S T : List Int} (h : closureT cls S = none) (hT : Good cls T) : ¬ Sub S T := fun hs => by
  obtain ⟨S', h1, _⟩ := closureT_stay hT hz hs
  rw [h] at h1; cases h1

/-- a good set that lies in every good set above S is the closure of S -/
theorem closureT_least {cls : List (List Int)} (hz : Nzs cls) {S T : List Int} (hc : Con S) (hT : Good cls T) (hs : Sub S T) (hl : ∀ U, Good cls U → Sub S U → Sub T U) : ∃ S', closureT cls S = some S' ∧ ∀ x, hasB T x = hasB S' x := by
  obtain ⟨S', h1, h2⟩ := closureT_stay hT hz hs
  obtain ⟨h3, h4⟩ := closureT_good hz hc h1
  have h5 := hl S' h3 h4
  refine ⟨S', h1, fun x => ?_⟩
  rw [Bool.eq_iff_iff, hasB_iff, hasB_iff]
  exact ⟨h5 x, h2 x⟩
theorem closureT_never {cls : List (List Int)} (hz : Nzs cls) {S : List Int} (hc : Con S) (hn : ∀ U, Good cls U → ¬ Sub S U) : closureT cls S = none := by
  cases h : closureT cls S with
  | none => rfl
  | some S' =>
    obtain ⟨h3, h4⟩ := closureT_good hz hc h
    exact absurd h4 (hn S' h3)

end Go.Proofs.Ytalcnkoidmoibaa

namespace Go.Proofs.Ytalcnkoidmoibaa
open Go.RowKit Go.Shelf
set_option linter.unusedVariables false
set_option linter.unusedSimpArgs false

/-- a slice of the call's own that reads as a list -/
def Fresh (zs : List Int) (n : Nat) (w : World) (e : Ending) (w' : World) : Prop :=
  ∃ A c, e = .returned (.slice A n c) ∧ RI w' A n c zs ∧ Below w.heap.size w w'

set_option maxRecDepth 100000 in
set_option maxHeartbeats 1000000 in
theorem opposites_any (A : Option Addr) (n c : Nat) (zs : List Int) (w : World) (h : RI w A n c zs) (hz : Okl zs) (hn : n ≤ 1000000) :
    Calls Try.prog 41 #[.slice A n c] w (Fresh (zs.map (-·)) n w) := by
  obtain ⟨i0, hi, hz0, hz1, hz2⟩ := info_parts infoInt
  have H := Lib.hid h
  have HZ := Lib.hid hz
  clear h hz
  go_enter Try.func41, Try.ntmps41
  go_wp2
  go_loopw [3, 4] (fun s3 s4 W => ∃ (k : Nat) (O : Option Addr) (co : Nat), k ≤ n ∧ s4 = .int .i64 k ∧ s3 = .slice O k co ∧ W.ownsRow w.heap.size 3 1 (.slice O k co) k (((zs.take k).map (-·)).map (Value.int .i64)) ∧ Below w.heap.size w W) (fun _ i _ => n - (intOf i).toNat)
  case atStart => exact ⟨0, none, 0, Nat.zero_le _, rfl, rfl, World.ownsRow_nil _ _ _ _, Below.refl _ _⟩
  case round =>
    obtain ⟨k, O, co, hk, rfl, rfl, hown, hb⟩ := hrel
    have HO := Lib.hid hown
    have HB := Lib.hid hb
    have hsz := hb.size
    clear hown hb
    by_cases hlt : k < n
    · obtain ⟨b, off, rfl, hbl, hc⟩ := (H.out.below HB.out).cells (by omega)
      have hck := hc k hlt
      clear hc
      have hl : k < zs.length := by rw [H.out.len]; exact hlt
      have hx := HZ.out.at hl
      have hneg := lit_neg' hx.2.1 hx.2.2
      have e1 : (zs.take (k + 1)).map (-·) = (zs.take k).map (-·) ++ [-(elt zs k)] := by rw [take_snoc zs k hl, List.map_append]; rfl
      have E1 := Lib.hid e1
      clear hx e1 hl
      go_wp2_with (at_builtin; refine wpList_append_own_at _ rfl (.tmp 11) (.tmp 17) 31 rfl w.heap.size 3 i0 (.int .i64 0) 1 8 Try.underlying31 hi hz0 hz1 hz2 rfl (by decide) (.slice O k co) k _ rfl (HO.out.alloc _) ⟨_, 0, none⟩ 1 1 [.int .i64 (-(elt zs k))] rfl rfl (cell_one_new _ _ _) (by simp [Value.oneCell']) (by unfold maxLen; omega) (by omega) (by simp; omega) ?_; intro v' w4 hown' hgrow hnil hloc; obtain ⟨g', cap', rfl⟩ := own_succ hown'; have G1 := Lib.hid (grown_below hgrow); have O1 := Lib.hid hown'; clear hown' hgrow hnil hloc)
      go_roundw
      case rel => exact ⟨k + 1, some ⟨g', 0, none⟩, cap', by omega, by go_num, rfl, by rw [E1.out, List.map_append]; exact O1.out, HB.out.grown G1.out hsz (fun g hg => (own_lt HO.out hg).1)⟩
      case measure => simp [intOf]; omega
    · obtain rfl : k = n := by omega
      go_wp2
      go_ret
      refine ⟨O, co, rfl, RI.of_own (base := w.heap.size) ?_ (by omega), HB.out⟩
      have := HO.out
      rw [List.take_of_length_le (by rw [H.out.len]; omega)] at this
      exact this

/-- what All hands back -/
def Alld (cls : List (List Int)) (S0 : List Int) (w : World) (e : Ending) (w' : World) : Prop :=
  ∃ A n c K ok, e = .returned (.tuple #[.slice A n c, .bool ok]) ∧ RI w' A n c K ∧ Below w.heap.size w w' ∧
    ((ok = false ∧ closureT cls S0 = none) ∨ (ok = true ∧ ∃ S, closureT cls S0 = some S ∧ ∀ x, hasB K x = hasB S x))

/-- the head of All's loop -/
structure Ah (cls : List (List Int)) (S0 K : List Int) (k : Nat) : Prop where
  sub : Sub S0 K
  con : Con K
  okl : Okl K
  least : ∀ T, Good cls T → Sub S0 T → Sub K T
  done : ∀ j, j < k → falseB (ell cls j) K = false ∧ (unitT K (ell cls j) 0).1 = 0
  few : K.length + openT cls K ≤ S0.length + openT cls S0

theorem Ah.next {cls : List (List Int)} {S0 K : List Int} {k : Nat} (h : Ah cls S0 K k) (hk : k < cls.length) (hz : ∀ l ∈ cls, Okl l) (h0 : (unitT K (ell cls k) 0).1 ≠ 0) : Ah cls S0 (K ++ [(unitT K (ell cls k) 0).1]) 0 ∧ openT cls (K ++ [(unitT K (ell cls k) 0).1]) < openT cls K := by
  obtain ⟨hm, hn, hn'⟩ := unitT_mem h0
  have hz' : Nzs cls := fun l hl y hy => (hz l hl y hy).1
  have hlt := openT_lt (ell_mem hk) hm hn
  refine ⟨⟨h.sub.trans (sub_snoc _), con_snoc h.con h0 (hasB_false.1 hn') (hasB_false.1 hn), fun x hx => ?_, fun T hT hs x hx => ?_, fun j hj => by omega, ?_⟩, hlt⟩
  · rcases List.mem_append.1 hx with a | a
    · exact h.okl x a
    · rw [List.mem_singleton.1 a]; exact hz _ (ell_mem hk) _ hm
  · rcases List.mem_append.1 hx with a | a
    · exact h.least T hT hs x a
    · rw [List.mem_singleton.1 a]; exact (hT.stay hz' (h.least T hT hs) (ell_mem hk)).2 h0
  · rw [List.length_append, List.length_singleton]; have := h.few; omega

theorem Ah.wrong {cls : List (List Int)} {S0 K : List Int} {k : Nat} (h : Ah cls S0 K k) (hc : Con S0) (hk : k < cls.length) (hz : ∀ l ∈ cls, Okl l) (hF : falseB (ell cls k) K = true) : closureT cls S0 = none := by
  have hz' : Nzs cls := fun l hl y hy => (hz l hl y hy).1
  refine closureT_never hz' hc fun U hU hs => ?_
  have h1 := h.least U hU hs
  have : falseB (ell cls k) U = true := falseB_iff.2 fun x hx => h1 _ (falseB_iff.1 hF x hx)
  rw [hU.no _ (ell_mem hk)] at this; cases this

theorem Ah.all {cls : List (List Int)} {S0 K : List Int} {k : Nat} (h : Ah cls S0 K k) (hc : Con S0) (hk : cls.length ≤ k) (hz : ∀ l ∈ cls, Okl l) : ∃ S, closureT cls S0 = some S ∧ ∀ x, hasB K x = hasB S x := by
  have hz' : Nzs cls := fun l hl y hy => (hz l hl y hy).1
  refine closureT_least hz' hc ⟨h.con, fun l hl => ?_, fun l hl => ?_⟩ h.sub h.least
  · obtain ⟨j, hj, rfl⟩ := List.mem_iff_getElem.1 hl
    have := (h.done j (by omega)).1
    rwa [ell_lt hj] at this
  · obtain ⟨j, hj, rfl⟩ := List.mem_iff_getElem.1 hl
    have := (h.done j (by omega)).2
    rwa [ell_lt hj] at this

def lenOf : Value → Nat
  | .slice _ n _ => n
  | _ => 0

theorem false_val (r : Bool) (A : Option Addr) (n c : Nat) (zs : List Int) (A' : Option Addr) (n' c' : Nat) (zs' : List Int) (w : World) (h : RI w A n c zs) (h' : RI w A' n' c' zs') (hz : Okl zs) (hr : falseB zs zs' = r) :
    Calls Try.prog 71 #[.slice A n c, .slice A' n' c'] w fun e w' => e = .returned (.bool r) ∧ Below w.heap.size w w' := by
  have := false_any A n c zs A' n' c' zs' w h h' hz
  rw [hr] at this
  exact this.mono fun _ _ h => ⟨h.1, by have := h.2; first | exact this | (rw [← this]; exact Below.refl _ _) | (obtain ⟨q, hq⟩ := this; rw [hq]; exact drewN_below _ _)⟩
theorem unitR_val (r : Int) (A : Option Addr) (n c : Nat) (zs : List Int) (A' : Option Addr) (n' c' : Nat) (zs' : List Int) (w : World) (h : RI w A n c zs) (h' : RI w A' n' c' zs') (hz : Okl zs) (hr : (unitT zs' zs 0).1 = r) :
    Calls Try.prog 72 #[.slice A n c, .slice A' n' c'] w fun e w' => e = .returned (.int .i64 r) ∧ Below w.heap.size w w' := by
  have := unitR_any A n c zs A' n' c' zs' w h h' hz
  rw [unitR_eq, hr] at this
  exact this.mono fun _ _ h => ⟨h.1, by have := h.2; first | exact this | (rw [← this]; exact Below.refl _ _) | (obtain ⟨q, hq⟩ := this; rw [hq]; exact drewN_below _ _)⟩

theorem meas_next {M L n k : Nat} (h : L + 1 ≤ M) : (M + 1 - (L + 1)) * (n + 1) + (n - 0) < (M + 1 - L) * (n + 1) + (n - k) := by
  obtain ⟨b, hb⟩ : ∃ b, M + 1 - L = b + 1 := ⟨M - L, by omega⟩
  have : M + 1 - (L + 1) = b := by omega
  rw [hb, this, Nat.succ_mul]
  omega

theorem appd_first {w : World} {n1 : Nat} {l : List Int} {v3 : Value} {w3 : World} (h : Appd (w.alloc (.cells #[] 3)) w.heap.size 3 (.slice (some ⟨w.heap.size, 0, none⟩) 0 0) (0 + n1) (([] ++ l).map (Value.int .i64)) v3 w3) :
    ∃ A3 c3, v3 = .slice A3 n1 c3 ∧ w3.ownsRow w.heap.size 3 1 (.slice A3 n1 c3) n1 (l.map (Value.int .i64)) ∧ Below w.heap.size w w3 := by
  obtain ⟨h1, h2, h3⟩ := h
  rw [Nat.zero_add, List.nil_append] at h1
  obtain ⟨A3, c3, rfl⟩ := own_form h1
  have hb : Below w.heap.size w (w.alloc (.cells #[] 3)) := (Below.refl _ w).alloc (Nat.le_refl _) _
  exact ⟨A3, c3, rfl, h1, hb.grown h2 hb.size (fun g hg => by simp [Value.ownBlock] at hg; omega)⟩

set_option maxRecDepth 100000 in
set_option maxHeartbeats 2000000 in
theorem all_any (A : Option Addr) (n c : Nat) (cls : List (List Int)) (A' : Option Addr) (n' c' : Nat) (S0 : List Int) (w : World) (h : RL w A n c cls) (h' : RI w A' n' c' S0) (hz : ∀ l ∈ cls, Okl l) (hs : Okl S0) (hc : Con S0) (hn : n ≤ 1000000) (hfew : n' + sumL cls ≤ 100000) :
    Calls Try.prog 40 #[.slice A n c, .slice A' n' c'] w (Alld cls S0 w) := by
  obtain ⟨i0, hi, hz0, hz1, hz2⟩ := info_parts infoInt
  have hM : S0.length + openT cls S0 ≤ 100000 := by have := openT_le cls S0; rw [h'.len]; omega
  have hl' := h'.len
  have H := Lib.hid h
  have H' := Lib.hid h'
  have HZ := Lib.hid hz
  have HS := Lib.hid hs
  have HC := Lib.hid hc
  clear h h' hz hs hc
  go_enter Try.func40, Try.ntmps40
  go_wp2_with (at_builtin; refine wpList_append_ri rfl (.tmp 8) (.tmp 9) rfl w.heap.size (.slice (some ⟨w.heap.size, 0, none⟩) 0 0) 0 [] rfl (own_empty w _ _ 3 rfl (Nat.le_refl _)) A' n' c' S0 rfl (H'.out.alloc _) (by omega) (by simp) ?_; intro v3 w3 hap; obtain ⟨A3, c3, rfl, ho3, hb3⟩ := appd_first hap; have HO3 := Lib.hid ho3; have HB3 := Lib.hid hb3; clear hap ho3 hb3)
  go_loopw [1, 6] (fun s1 s6 W => ∃ (k L : Nat) (O : Option Addr) (co : Nat) (K : List Int), k ≤ n ∧ s6 = .int .i64 k ∧ s1 = .slice O L co ∧ K.length = L ∧ W.ownsRow w.heap.size 3 1 (.slice O L co) L (K.map (Value.int .i64)) ∧ Below w.heap.size w W ∧ Ah cls S0 K k) (fun s1 s6 _ => ((S0.length + openT cls S0) + 1 - lenOf s1) * (n + 1) + (n - (intOf s6).toNat))
  case atStart => exact ⟨0, n', A3, c3, S0, Nat.zero_le _, rfl, rfl, hl', HO3.out, HB3.out, ⟨Sub.refl _, HC.out, HS.out, fun T _ h => h, fun j hj => absurd hj (by omega), Nat.le_refl _⟩⟩
  case round =>
    obtain ⟨k, L, O, co, K, hk, rfl, rfl, hKL, hown, hb, hah⟩ := hrel
    have hLM : L + openT cls K ≤ S0.length + openT cls S0 := by rw [← hKL]; exact hah.few
    have HO := Lib.hid hown
    have HB := Lib.hid hb
    have HA := Lib.hid hah
    have HKL := Lib.hid hKL
    have hsz := hb.size
    clear hown hb hah hKL
    by_cases hlt : k < n
    · obtain ⟨b, off, rfl, hbl, hcc⟩ := (H.out.below HB.out).cells (by omega)
      obtain ⟨a1, n1, c1, hck, hr1⟩ := hcc k hlt
      clear hcc
      have HR1 := Lib.hid hr1
      have HRK := Lib.hid (RI.of_own HO.out (by omega))
      have hkc : k < cls.length := by rw [H.out.len]; exact hlt
      have HOK := Lib.hid (HZ.out _ (ell_mem hkc))
      have HKC := Lib.hid hkc
      clear hr1 hkc
      cases hF : falseB (ell cls k) K
      · have HF := Lib.hid hF
        clear hF
        generalize hu : (unitT K (ell cls k) 0).1 = u
        have HU := Lib.hid hu
        have hnx := fun h0 => HA.out.next HKC.out HZ.out h0
        rw [hu] at hnx
        clear hu
        by_cases h0 : u = 0
        · have h0' : (u != 0) = false := by simpa using h0
          have HU0 : Hid ((unitT K (ell cls k) 0).1 = 0) := Lib.hid (HU.out.trans h0)
          have hcu := fun W (h1 : RI W a1 n1 c1 (ell cls k)) (h2 : RI W O L co K) => unitR_val u a1 n1 c1 (ell cls k) O L co K W h1 h2 HOK.out HU.out
          clear hnx h0
          go_wp2_with (first
            | (go_at_call 71; refine (false_val false a1 n1 c1 (ell cls k) O L co K _ HR1.out HRK.out HOK.out HF.out).mono ?_; rintro e w4 ⟨rfl, hb4⟩; have HB4 := Lib.hid hb4; have hck4 := (hb4.cell (p := ⟨b, off + k, none⟩) hbl).trans hck; clear hb4)
            | (go_at_call 72; refine (hcu _ (HR1.out.below HB4.out) (HRK.out.below HB4.out)).mono ?_; clear hcu; rintro e w5 ⟨rfl, hb5⟩; have HB5 := Lib.hid (HB4.out.trans (hb5.mono HB4.out.size)); clear hb5))
          go_roundw
          case rel =>
            refine ⟨k + 1, L, O, co, K, by omega, by go_num, rfl, HKL.out, own_below HO.out HB5.out, HB.out.trans (HB5.out.mono HB.out.size), ⟨HA.out.sub, HA.out.con, HA.out.okl, HA.out.least, fun j hj => ?_, HA.out.few⟩⟩
            rcases Nat.lt_or_ge j k with h1 | h1
            · exact HA.out.done j h1
            · obtain rfl : j = k := by omega
              exact ⟨HF.out, HU0.out⟩
          case measure => simp [intOf, lenOf]; omega
        · have h0' : (u != 0) = true := by simpa using h0
          obtain ⟨ha2, ho2⟩ := hnx h0
          have HA2 := Lib.hid ha2
          have hcu := fun W (h1 : RI W a1 n1 c1 (ell cls k)) (h2 : RI W O L co K) => unitR_val u a1 n1 c1 (ell cls k) O L co K W h1 h2 HOK.out HU.out
          have HM := Lib.hid (meas_next (M := S0.length + openT cls S0) (L := L) (n := n) (k := k) (by omega))
          clear hnx h0 ha2
          go_wp2_with (first
            | (go_at_call 71; refine (false_val false a1 n1 c1 (ell cls k) O L co K _ HR1.out HRK.out HOK.out HF.out).mono ?_; rintro e w4 ⟨rfl, hb4⟩; have HB4 := Lib.hid hb4; have hck4 := (hb4.cell (p := ⟨b, off + k, none⟩) hbl).trans hck; clear hb4)
            | (go_at_call 72; refine (hcu _ (HR1.out.below HB4.out) (HRK.out.below HB4.out)).mono ?_; clear hcu; rintro e w5 ⟨rfl, hb5⟩; have HB5 := Lib.hid (HB4.out.trans (hb5.mono HB4.out.size)); have hs5 := Nat.le_trans hsz HB5.out.size; clear hb5)
            | (at_builtin; refine wpList_append_own_at _ rfl (.tmp 32) (.tmp 34) 31 rfl w.heap.size 3 i0 (.int .i64 0) 1 8 Try.underlying31 hi hz0 hz1 hz2 rfl (by decide) (.slice O L co) L _ rfl ((own_below HO.out HB5.out).alloc _) ⟨_, 0, none⟩ 1 1 [.int .i64 u] rfl rfl (cell_one_new _ _ _) (by simp [Value.oneCell']) (by unfold maxLen; omega) (by omega) (by simp; omega) ?_; intro v' w6 hown' hgrow hnil hloc; obtain ⟨g', cap', rfl⟩ := own_succ hown'; have G1 := Lib.hid (grown_below hgrow); have O1 := Lib.hid hown'; clear hown' hgrow hnil hloc))
          go_roundw
          case rel =>
            refine ⟨0, L + 1, some ⟨g', 0, none⟩, cap', K ++ [u], Nat.zero_le _, by go_num, rfl, by rw [List.length_append, HKL.out]; rfl, by rw [List.map_append]; exact O1.out, ?_, HA2.out⟩
            have hB := HB.out.trans (HB5.out.mono HB.out.size)
            exact hB.grown G1.out hB.size (fun g hg => (own_lt HO.out hg).1)
          case measure => have := HM.out; simpa [intOf, lenOf] using this
      · have HF := Lib.hid (HA.out.wrong HC.out HKC.out HZ.out hF)
        have HF2 := Lib.hid hF
        clear hF
        go_wp2_with (go_at_call 71; refine (false_val true a1 n1 c1 (ell cls k) O L co K _ HR1.out HRK.out HOK.out HF2.out).mono ?_; rintro e w4 ⟨rfl, hb4⟩; have HB4 := Lib.hid hb4; clear hb4)
        go_ret2
        exact ⟨O, L, co, K, false, rfl, HRK.out.below HB4.out, HB.out.trans (HB4.out.mono HB.out.size), Or.inl ⟨rfl, HF.out⟩⟩
    · have HF := Lib.hid (HA.out.all HC.out (by rw [H.out.len]; omega) HZ.out)
      have HRK := Lib.hid (RI.of_own HO.out (by omega))
      go_wp2
      go_ret2
      exact ⟨O, L, co, K, true, rfl, HRK.out, HB.out, Or.inr ⟨rfl, HF.out⟩⟩

end Go.Proofs.Ytalcnkoidmoibaa
