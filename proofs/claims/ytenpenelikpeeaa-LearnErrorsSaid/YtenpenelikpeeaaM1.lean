/-
  Words for a map with int keys of a function's own: what it holds is a function; looked up, written, struck, ranged over. No condition.
-/
import Derived.Test.YtenpenelikpeeaaL4
import Derived.Maps.RangeWalk
namespace Go.Proofs.Ytenpenelikpeeaa
open Go.RowKit Go.Shelf
set_option linter.unusedVariables false
set_option linter.unusedSimpArgs false

def wfI (x : Int) : Bool := (Lit.int .i64 x).wf
theorem wfI_of {x : Int} (h0 : -9223372036854775808 ≤ x) (h1 : x ≤ 9223372036854775807) : wfI x = true := by
  have a : IntKind.i64.min = -9223372036854775808 := by decide
  have b : IntKind.i64.max = 9223372036854775807 := by decide
  unfold wfI Lit.wf; simp [a, b]; omega

/-- what an element's type asks -/
structure EK {β : Type} (e : TypeId) (ev : β → Value) (ed : β → DataW Unit) (ok : β → Prop) (z0 : β) : Prop where
  mkV : ∀ x, ok x → plainElem (H := Unit) Try.prog e (ev x) = some (ed x, [])
  inv : ∀ v x ps, plainElem (H := Unit) Try.prog e v = some (ed x, ps) → v = ev x
  all : ∀ v y, plainElem (H := Unit) Try.prog e v = some y → ∃ x, v = ev x ∧ y.1 = ed x
  zero : ∀ w, (zeroValue e).run Try.prog w = .ok (ev z0) w
  okz : ok z0

def edB (v : Bool) : DataW Unit := .lit (.bool v)
def edI (v : Int) : DataW Unit := .lit (.int .i64 v)
theorem ekB : EK 4 Value.bool edB (fun _ => True) false where
  mkV x _ := plainElem_bool Try.underlying4 x
  inv v x ps h := elem_bool_inv Try.underlying4 h
  all v y h := by
    have hu := Try.underlying4
    generalize Try.prog = P at h hu
    unfold plainElem at h
    rw [hu] at h
    cases v <;> simp at h
    subst h
    exact ⟨_, rfl, rfl⟩
  zero := Try.zeroValue4
  okz := trivial
theorem ekI : EK 3 (Value.int .i64) edI (fun x => wfI x = true) 0 where
  mkV x h := plainElem_int Try.underlying3 h
  inv v x ps h := by
    obtain ⟨a, rfl, h2, _⟩ := plainElem_int_inv Try.underlying3 h
    simp only [edI, Prod.mk.injEq, DataW.lit.injEq, Lit.int.injEq, true_and] at h2
    rw [h2.1]
  all v y h := by
    obtain ⟨a, rfl, h2, _⟩ := plainElem_int_inv Try.underlying3 h
    exact ⟨a, rfl, by rw [h2]; rfl⟩
  zero := Try.zeroValue3
  okz := wfI_of (by omega) (by omega)

section
variable {β : Type} {e : TypeId} {ev : β → Value} {ed : β → DataW Unit} {ok : β → Prop} {z0 : β}

/-- the datum holds what f says -/
def Holdsf (ed : β → DataW Unit) (D : DataW Unit) (f : Int → Option β) : Prop :=
  (∀ x, wfI x = true → Maps.has D (.int .i64 x) = (f x).isSome) ∧ ∀ x v, wfI x = true → f x = some v → ∀ zd, D.atKey (.int .i64 x) zd = ed v

/-- the block is a map that holds what f says -/
def MF (e : TypeId) (ed : β → DataW Unit) (w : World) (b n : Nat) (f : Int → Option β) : Prop :=
  ∃ D : DataW Unit, w.ownsMap Try.prog 3 (plainElem Try.prog e) b n D ∧ Holdsf ed D f

def emptyF : Int → Option β := fun _ => none
def putF (f : Int → Option β) (x : Int) (v : β) : Int → Option β := fun y => if y = x then some v else f y
def dropF (f : Int → Option β) (x : Int) : Int → Option β := fun y => if y = x then none else f y

theorem MF.made (w : World) : MF e ed (w.alloc (.map #[] 0)) w.heap.size 0 emptyF :=
  ⟨_, World.ownsMap_made w _ _ _, fun x _ => rfl, fun x v _ h => by cases h⟩
theorem MF.mono {w : World} {b n n' : Nat} {f : Int → Option β} (h : MF e ed w b n f) (hn : n ≤ n') : MF e ed w b n' f := by
  obtain ⟨D, h1, h2⟩ := h; exact ⟨D, h1.mono hn, h2⟩
theorem MF.lt {w : World} {b n : Nat} {f : Int → Option β} (h : MF e ed w b n f) : b < w.heap.size := by
  obtain ⟨D, h1, h2⟩ := h; exact h1.lt
theorem MF.kept {w w' : World} {b n : Nat} {f : Int → Option β} {row : Option Nat} (h : MF e ed w b n f) (hg : w.grownBy w' row) (hne : some b ≠ row) : MF e ed w' b n f := by
  obtain ⟨D, h1, h2⟩ := h; exact ⟨D, h1.kept hg hne, h2⟩
theorem MF.alloc {w : World} {b n : Nat} {f : Int → Option β} (h : MF e ed w b n f) (o : Obj) : MF e ed (w.alloc o) b n f := by
  obtain ⟨D, h1, h2⟩ := h; exact ⟨D, h1.alloc o, h2⟩
theorem MF.below {w w' : World} {b n B : Nat} {f : Int → Option β} (h : MF e ed w b n f) (hb : Below B w w') (hB : b < B) : MF e ed w' b n f := by
  obtain ⟨D, ⟨es, clock, h1, h3⟩, h2⟩ := h; exact ⟨D, ⟨es, clock, (hb.block b hB).trans h1, h3⟩, h2⟩
theorem MF.same {w : World} {b n : Nat} {f g : Int → Option β} (h : MF e ed w b n f) (hg : ∀ x, wfI x = true → f x = g x) : MF e ed w b n g := by
  obtain ⟨D, h1, h2, h3⟩ := h
  exact ⟨D, h1, fun x hx => by rw [← hg x hx]; exact h2 x hx, fun x v hx hv => h3 x v hx (by rw [hg x hx]; exact hv)⟩
theorem MF.setCell {w : World} {b n : Nat} {f : Int → Option β} (h : MF e ed w b n f) {a : Addr} (ha : b ≠ a.block) (u : Value) : MF e ed (w.setCell a u) b n f := by
  obtain ⟨D, h1, h2⟩ := h; exact ⟨D, h1.setCell ha u, h2⟩

theorem MF.look (E : EK e ev ed ok z0) {t : TypeId} (ht : Try.prog.underlying t = some (.map 3 e)) {w : World} {b n : Nat} {f : Int → Option β} (h : MF e ed w b n f) {x : Int} (hx : wfI x = true) :
    (Instr.lookup t (.map (some b)) (.int .i64 x) false).run Try.prog w = .ok (ev ((f x).getD z0)) w := by
  obtain ⟨D, h1, h2, h3⟩ := h
  obtain ⟨v, ps, hrun, hv⟩ := h1.lookup (Maps.int_keyed Try.underlying3) ht (E.zero w) (E.mkV _ E.okz) (Maps.keyOf_int_mk Try.underlying3 hx)
  rw [hrun]
  cases hf : f x with
  | none =>
    rw [Maps.atKey_of_not_has (by rw [h2 x hx, hf]; rfl)] at hv
    rw [E.inv _ _ _ hv]; rfl
  | some y =>
    rw [h3 x y hx hf] at hv
    rw [E.inv _ _ _ hv]; rfl
theorem MF.lookOk (E : EK e ev ed ok z0) {t : TypeId} (ht : Try.prog.underlying t = some (.map 3 e)) {w : World} {b n : Nat} {f : Int → Option β} (h : MF e ed w b n f) {x : Int} (hx : wfI x = true) :
    (Instr.lookup t (.map (some b)) (.int .i64 x) true).run Try.prog w = .ok (.tuple #[ev ((f x).getD z0), .bool (f x).isSome]) w := by
  obtain ⟨D, h1, h2, h3⟩ := h
  obtain ⟨v, ps, hrun, hv⟩ := h1.look_ok (Maps.int_keyed Try.underlying3) ht (E.zero w) (E.mkV _ E.okz) (Maps.keyOf_int_mk Try.underlying3 hx)
  rw [hrun, h2 x hx]
  cases hf : f x with
  | none =>
    rw [Maps.atKey_of_not_has (by rw [h2 x hx, hf]; rfl)] at hv
    rw [E.inv _ _ _ hv]; rfl
  | some y =>
    rw [h3 x y hx hf] at hv
    rw [E.inv _ _ _ hv]; rfl

theorem key_ne {x y : Int} (h : y ≠ x) : (Lit.int .i64 y) ≠ (Lit.int .i64 x) := by simpa using h
theorem Holdsf.put {D : DataW Unit} {f : Int → Option β} (hD : Maps.IsMap D) (h : Holdsf ed D f) (x : Int) (v : β) : Holdsf ed (D.put (.int .i64 x) (ed v)) (putF f x v) := by
  refine ⟨fun y hy => ?_, fun y u hy hu zd => ?_⟩
  · by_cases e1 : y = x
    · subst e1
      rw [Maps.has_put_same hD (by simp [WideAt.IsKeyLit])]
      simp [putF]
    · rw [Maps.has_put_other (key_ne e1), h.1 y hy]
      simp [putF, e1]
  · by_cases e1 : y = x
    · subst e1
      rw [Maps.atKey_put_same hD (by simp [WideAt.IsKeyLit])]
      simp [putF] at hu
      rw [hu]
    · rw [Maps.atKey_put_other (key_ne e1)]
      simp [putF, e1] at hu
      exact h.2 y u hy hu zd
theorem Holdsf.del {D : DataW Unit} {f : Int → Option β} (h : Holdsf ed D f) (x : Int) : Holdsf ed (D.del (.int .i64 x)) (dropF f x) := by
  refine ⟨fun y hy => ?_, fun y u hy hu zd => ?_⟩
  · by_cases e1 : y = x
    · subst e1
      rw [Maps.has_del_same]
      simp [dropF]
    · rw [Maps.has_del_other (key_ne e1), h.1 y hy]
      simp [dropF, e1]
  · by_cases e1 : y = x
    · subst e1
      simp [dropF] at hu
    · rw [Maps.atKey_del_other (key_ne e1)]
      simp [dropF, e1] at hu
      exact h.2 y u hy hu zd

theorem MF.put (E : EK e ev ed ok z0) {t : TypeId} (ht : Try.prog.underlying t = some (.map 3 e)) {w : World} {b n : Nat} {f : Int → Option β} (h : MF e ed w b n f) (hn : n < maxLen) {x : Int} (hx : wfI x = true) {v : β} (hv : ok v) :
    ∃ w', (Instr.mapUpdate t (.map (some b)) (.int .i64 x) (ev v)).run Try.prog w = .ok () w' ∧ MF e ed w' b (n + 1) (putF f x v) ∧ w.mapTurned w' b := by
  obtain ⟨D, h1, h2⟩ := h
  obtain ⟨w', hrun, ho, hg⟩ := h1.store (Maps.int_keyed Try.underlying3) ht hn (Maps.keyOf_int_mk Try.underlying3 hx) (E.mkV v hv)
  exact ⟨w', hrun, ⟨_, ho, h2.put h1.isMap x v⟩, hg⟩
theorem MF.drop {t : TypeId} (ht : Try.prog.underlying t = some (.map 3 e)) {w : World} {b n : Nat} {f : Int → Option β} (h : MF e ed w b n f) {x : Int} (hx : wfI x = true) (ty : TypeId) :
    ∃ w', (Builtin.delete_ #[t, 3] ty #[.map (some b), .int .i64 x]).run Try.prog w = .ok (.tuple #[]) w' ∧ MF e ed w' b n (dropF f x) ∧ w.mapTurned w' b := by
  obtain ⟨D, h1, h2⟩ := h
  obtain ⟨w', hrun, ho, hg⟩ := h1.drop (Maps.int_keyed Try.underlying3) ht (Maps.keyOf_int_mk Try.underlying3 hx) ty
  exact ⟨w', hrun, ⟨_, ho, h2.del x⟩, hg⟩

/-- a range over the map under way -/
def MR (e : TypeId) (ed : β → DataW Unit) (w : World) (b r n : Nat) (f : Int → Option β) (left : Int → Bool) (cnt : Nat) : Prop :=
  ∃ (D : DataW Unit) (lf : Lit → Bool), w.ranges Try.prog 3 (plainElem Try.prog e) b r n D lf cnt ∧ Holdsf ed D f ∧ ∀ x, wfI x = true → lf (.int .i64 x) = left x
theorem MR.owns {w : World} {b r n cnt : Nat} {f : Int → Option β} {left : Int → Bool} (h : MR e ed w b r n f left cnt) : MF e ed w b n f := by
  obtain ⟨D, lf, h1, h2, _⟩ := h; exact ⟨D, h1.owns, h2⟩
theorem MR.left_eq {w : World} {b r n cnt : Nat} {f : Int → Option β} {left : Int → Bool} (h : MR e ed w b r n f left cnt) : w.rangeLeft b r = cnt := by
  obtain ⟨D, lf, h1, _⟩ := h; exact h1.left_eq
theorem MR.ne {w : World} {b r n cnt : Nat} {f : Int → Option β} {left : Int → Bool} (h : MR e ed w b r n f left cnt) : r ≠ b := by
  obtain ⟨D, lf, h1, _⟩ := h; exact h1.ne
theorem MR.lt {w : World} {b r n cnt : Nat} {f : Int → Option β} {left : Int → Bool} (h : MR e ed w b r n f left cnt) : r < w.heap.size := by
  obtain ⟨D, lf, h1, _⟩ := h; exact h1.lt
theorem MR.kept {w w' : World} {b r n cnt : Nat} {f : Int → Option β} {left : Int → Bool} {row : Option Nat} (h : MR e ed w b r n f left cnt) (hg : w.grownBy w' row) (hb : some b ≠ row) (hr : some r ≠ row) : MR e ed w' b r n f left cnt := by
  obtain ⟨D, lf, h1, h2⟩ := h; exact ⟨D, lf, h1.kept hg hb hr, h2⟩
theorem MR.alloc {w : World} {b r n cnt : Nat} {f : Int → Option β} {left : Int → Bool} (h : MR e ed w b r n f left cnt) (o : Obj) : MR e ed (w.alloc o) b r n f left cnt := by
  obtain ⟨D, lf, h1, h2⟩ := h; exact ⟨D, lf, h1.alloc o, h2⟩

theorem lit_left {lf : Lit → Bool} {left : Int → Bool} (h : ∀ x, wfI x = true → lf (.int .i64 x) = left x) (y : Int) :
    ∀ x, wfI x = true → (fun z : Lit => lf z && !z.sameKey (.int .i64 y)) (.int .i64 x) = (left x && !(x == y)) := fun x hx => by
  show (lf (.int .i64 x) && !(Lit.sameKey (.int .i64 x) (.int .i64 y))) = _
  rw [h x hx]
  congr 2
  by_cases e1 : x = y
  · subst e1
    rw [WideAt.sameKey_self (by simp [WideAt.IsKeyLit])]
    simp
  · rw [Maps.sameKey_ne (key_ne e1)]
    simpa using e1

variable {ops : Array Oper} {rest : List Oper} {o : Oper} {a : Act} {Q : Exit → Act → World → Prop}
theorem wpList_range_mf (w : World) (hg : o.guard = none) (m : Operand) (t : TypeId) (hop : o.op = Op.range t m) (ht : Try.prog.underlying t = some (.map 3 e)) (b n : Nat) (f : Int → Option β)
    (hm : a.eval m = .map (some b)) (hown : MF e ed w b n f)
    (hK : ∀ w' cnt, MR e ed w' b w.heap.size n f (fun x => (f x).isSome) cnt → cnt ≤ n → w.grownBy w' none → w'.heap.size = w.heap.size + 1 → wpList Try.prog ops Q rest (a.put o.dst (.pointer (some ⟨w.heap.size, 0, none⟩))) w') :
    wpList Try.prog ops Q (o :: rest) a w := by
  obtain ⟨D, h1, h2⟩ := hown
  exact wpList_range_own w hg m t hop 3 e (Maps.int_keyed Try.underlying3) ht _ b n D hm h1 fun w' hr hgr hs => hK w' _ ⟨D, _, hr, h2, fun x hx => h2.1 x hx⟩ h1.size_le hgr hs

theorem wpList_next_mf (w : World) (E : EK e ev ed ok z0) (hg : o.guard = none) (it : Operand) (hop : o.op = Op.next it false) (b r n : Nat) (f : Int → Option β) (left : Int → Bool) (cnt : Nat)
    (hit : a.eval it = .pointer (some ⟨r, 0, none⟩)) (h : MR e ed w b r n f left cnt)
    (hDone : cnt = 0 → (∀ x, wfI x = true → left x = false) → wpList Try.prog ops Q rest (a.put o.dst (.tuple #[.bool false])) w)
    (hMore : ∀ (x : Int) (c : β) (w' : World) (cnt' : Nat), wfI x = true → left x = true → f x = some c → MR e ed w' b r n f (fun y => left y && !(y == x)) cnt' → cnt' < cnt →
      w.grownBy w' (some r) → w'.heap.size = w.heap.size → (Instr.entry (.pointer (some ⟨r, 0, none⟩))).run Try.prog w' = .ok (.tuple #[.int .i64 x, ev c]) w' → wpList Try.prog ops Q rest (a.put o.dst (.tuple #[.bool true, .int .i64 x, ev c])) w')
    (hsub : ∀ x, wfI x = true → left x = true → (f x).isSome = true) :
    wpList Try.prog ops Q (o :: rest) a w := by
  obtain ⟨D, lf, h1, h2, h3⟩ := h
  refine wpList_next_ranges w hg it hop 3 (Maps.int_keyed Try.underlying3) (plainElem Try.prog e) (Value.int .i64) ev (fun key kl hkey => by obtain ⟨x, rfl, _⟩ := Maps.keyOf_int_inv Try.underlying3 hkey; exact ⟨x, rfl⟩) (fun v y hv => by obtain ⟨x, h4, _⟩ := E.all v y hv; exact ⟨x, h4⟩)
    b r n D lf cnt hit h1 (fun h0 hl => hDone h0 fun x hx => by rw [← h3 x hx]; exact hl _) (fun x c kl y w' cnt' hkey hlk hv hat hrg hlt hgr hsz hen => ?_)
  obtain ⟨x', ex, rfl, hwx⟩ := Maps.keyOf_int_inv Try.underlying3 hkey
  cases ex
  have hx : wfI x = true := hwx
  have hlx : left x = true := by rw [← h3 x hx]; exact hlk
  cases hf : f x with
  | none => have := hsub x hx hlx; rw [hf] at this; cases this
  | some c' =>
    have e1 := h2.2 x c' hx hf (ed c')
    have e2 := hat (ed c')
    rw [e1] at e2
    obtain ⟨y1, y2⟩ := y
    have e3 : plainElem (H := Unit) Try.prog e (ev c) = some (ed c', y2) := by rw [hv, e2]
    have e4 := E.inv _ _ _ e3
    rw [e4] at hen ⊢
    exact hMore x c' w' cnt' hx hlx hf ⟨D, _, hrg, h2, lit_left h3 x⟩ hlt hgr hsz hen

theorem wpList_delete_mr (w : World) (hg : o.guard = none) (m x : Operand) (t : TypeId) (hop : o.op = Op.call { callee := Callee.builtin Builtin.delete, args := #[m, x], argTypes := #[t, 3] })
    (ht : Try.prog.underlying t = some (.map 3 e)) (b r n : Nat) (f : Int → Option β) (left : Int → Bool) (cnt : Nat)
    (hm : a.eval m = .map (some b)) (h : MR e ed w b r n f left cnt) (y : Int) (hx : a.eval x = .int .i64 y) (hy : wfI y = true)
    (hK : ∀ w' cnt', MR e ed w' b r n (dropF f y) (fun z => left z && !(z == y)) cnt' → cnt' ≤ cnt → w.mapTurned w' b → wpList Try.prog ops Q rest (a.put o.dst (.tuple #[])) w') :
    wpList Try.prog ops Q (o :: rest) a w := by
  obtain ⟨D, lf, h1, h2, h3⟩ := h
  exact wpList_delete_ranges w hg m x t 3 hop e (Maps.int_keyed Try.underlying3) ht _ b r n D lf cnt hm h1 (.int .i64 y) (.int .i64 y) hx (Maps.keyOf_int_mk Try.underlying3 hy) fun w' cnt' hr hle ht' => hK w' cnt' ⟨_, _, hr, h2.del y, lit_left h3 y⟩ hle ht'
end

/-- a set -/
def setF (S : List Int) : Int → Option Bool := fun x => if hasB S x = true then some true else none
theorem setF_get (S : List Int) (x : Int) : (setF S x).getD false = hasB S x := by
  unfold setF; cases h : hasB S x <;> simp [h]
theorem setF_some (S : List Int) (x : Int) : (setF S x).isSome = hasB S x := by
  unfold setF; cases h : hasB S x <;> simp [h]
theorem setF_put (S : List Int) (x : Int) : putF (setF S) x true = setF (S ++ [x]) := by
  funext y
  unfold putF setF
  rw [hasB_snoc]
  by_cases e1 : y = x
  · subst e1; simp
  · have e2 : (x == y) = false := by simpa using Ne.symm e1
    simp [e1, e2]
theorem setF_drop (S : List Int) (x : Int) : dropF (setF S) x = setF (S.filter (fun y => !(y == x))) := by
  funext y
  unfold dropF setF
  by_cases e1 : y = x
  · subst e1
    have : hasB (S.filter (fun z => !(z == y))) y = false := by rw [← Bool.not_eq_true, hasB_iff]; simp
    simp [this]
  · have : hasB (S.filter (fun z => !(z == x))) y = hasB S y := by
      rw [Bool.eq_iff_iff, hasB_iff, hasB_iff]; simp [e1]
    simp [e1, this]
theorem emptyF_set : (emptyF : Int → Option Bool) = setF [] := rfl

end Go.Proofs.Ytenpenelikpeeaa
