/-
  A range over a function whose rounds come in a known order: a round is told that its element is the next one. No condition.
-/
import Derived.RangeFuncNested
import Derived.RangeFuncBound
import Derived.RangeFuncCalls
import Derived.RangeFuncLeaves
import Derived.StillTailTactics
import Derived.Deep.Quiet
import Derived.OrdersIn
import Derived.Test.YtenpenelikpeeaaRows
namespace Go.Proofs.Ytenpenelikpeeaa
open Go.RowKit
set_option linter.unusedVariables false

variable {F : Fence} {n : Nat} {P : Program}

/-- an iterator that hands out its elements in a known order, until it is stopped -/
def SeqNext {α : Type} (F : Fence) (n : Nat) (P : Program) (g : Nat) (lb : Array Value) (encs : α → Array Value) (Kp : World → World → Prop) (Nx : List α → α → Prop) (S Sp : List α → Prop) (w : World) : Prop :=
  ∀ (l : Nat) (J Jx : List α → World → Prop) (W : World), Below w.heap.size w W →
    (∀ pre x W1, J pre W1 → Nx pre x → YieldAt F (n - 1) P l (encs x) W1 fun e W' =>
      (e = .returned (.bool true) ∧ J (pre ++ [x]) W' ∧ Kp W1 W') ∨ (e = .returned (.bool false) ∧ Jx (pre ++ [x]) W')) →
    J [] W →
    CallsIn F n P g (#[.func (.yield l) #[] #[]] ++ lb) W fun e W' => (∃ v, e = .returned v) ∧ ((∃ xs, S xs ∧ J xs W') ∨ (∃ pre, Sp pre ∧ Jx pre W'))

/-- the record of the loop under way -/
def recOf (fn : FuncId) (tmps : Array Value) (ps : Array Tmp) (assign body : Code) (D : Nat) (st : LoopState) (pe : Option Code) : Loop :=
  { state := st, pending := pe, fn, tmps, params := ps, assign, body, defers := D }

/-- the two blocks of the loop's own lie as they must -/
structure Books (W : World) (D : Nat) (r : Loop) : Prop where
  log : W.heap[D + 1]? = some (.loop r)
  dfr : W.heap[D]? = some (.deferred (some []))
theorem Books.put {W : World} {D : Nat} {r : Loop} (h : Books W D r) (r' : Loop) : Books (W.putObj (D + 1) (.loop r')) D r' :=
  ⟨World.putObj_heap_same (Array.getElem?_eq_some_iff.1 h.log).1, (World.putObj_heap_other (by omega)).trans h.dfr⟩
theorem Books.from {W W' : World} {D : Nat} {r : Loop} (h : Books W D r) (hk : KeepsFrom D W W') : Books W' D r :=
  ⟨hk.same _ _ (by omega) h.log rfl, hk.same _ _ (Nat.le_refl _) h.dfr rfl⟩

theorem wpIn_rangeFunc_next {α : Type} {g : Operand} {ps : Array Tmp} {assign body : Code} {Q : Exit → Act → World → Prop} {a : Act} {w : World}
    (hro : F.round = none) (h1 : 1 ≤ n) {gf : Nat} {lb : Array Value} (hg : a.eval g = .func (.func gf) #[] lb) (hFg : F.fn gf) (eg : ∀ args w, (callFunc gf args).run P w = .ok (.enter gf args) w)
    {encs : α → Array Value} {Kp : World → World → Prop} {Nx : List α → α → Prop} {S Sp : List α → Prop} {w0 : World} (hseq : SeqNext F (n - 1) P gf lb encs Kp Nx S Sp w0)
    (hKt : ∀ {A B C : World}, Kp A B → Kp B C → Kp A C) (hKb : ∀ (W : World) (l : Nat) (o o' : Obj), w.heap.size ≤ l → W.heap[l]? = some o → o.isCells = false → o.isWalk = false → Kp W (W.putObj l o')) (hb0 : Below w0.heap.size w0 w) (hps : ∀ x, (encs x).size = ps.size)
    (I : List α → World → Prop) (Ix : Code → List α → World → Prop) (hI : OwnFrom w.heap.size I) (hIx : ∀ c, OwnFrom w.heap.size (Ix c)) (h0 : I [] w) (a₁ : α → World → Act) (w₁ : α → World → World)
    (hassign : ∀ (l : Nat) (pre : List α) (x : α) (W : World) (K : Act → World → Prop), I pre W → Nx pre x → K (a₁ x W) (w₁ x W) →
      assign.wpIn (F.inRound l) (n - 1 - 1) P (Exit.then K (fun _ _ _ => False)) { tmps := (ps.zip (encs x)).foldl (fun t (p, v) => t.setIfInBounds p v) a.tmps, defers := [] } W)
    (hw₁ : ∀ (pre : List α) (x : α) (W : World), I pre W → KeepsFrom w.heap.size W (w₁ x W) ∧ Kp W (w₁ x W))
    (hbody : ∀ (l : Nat) (pre : List α) (x : α) (W0 W : World), I pre W0 → (∃ o : Obj, W = (w₁ x W0).putObj (w.heap.size + 1) o ∧ o.isCells = false) → Nx pre x → w.heap.size + 1 < W0.heap.size → body.wpIn (F.inRound l) (n - 1 - 1) P (ownPostG w.heap.size Kp I Ix (pre ++ [x]) W) (a₁ x W0) W)
    (hdone : ∀ (D : Nat) (xs : List α) (W : World), w.heap.size ≤ D → S xs → I xs W → W.heap[D]? = some (.deferred (some [])) → Q .normal { a with defers := { target := .collected D, args := #[] } :: a.defers } W)
    (hstop : ∀ (D : Nat) (c : Code) (pre : List α) (W : World), w.heap.size ≤ D → Sp pre → Ix c pre W → W.heap[D]? = some (.deferred (some [])) → c.wpIn F n P Q { a with defers := { target := .collected D, args := #[] } :: a.defers } W) :
    (Code.rangeFunc g ps assign body).wpIn F n P Q a w := by
  refine wpIn_rangeFunc fun fn hfn => ?_
  rw [hro]
  obtain ⟨R, hR⟩ : ∃ R : LoopState → Option Code → Loop, R = recOf fn a.tmps ps assign body w.heap.size := ⟨_, rfl⟩
  have hRp : ∀ st pe, (R st pe).params = ps := fun st pe => by rw [hR]; rfl
  have hRs : ∀ st pe, (R st pe).state = st := fun st pe => by rw [hR]; rfl
  obtain ⟨W1, hW1⟩ : ∃ W1, (w.alloc (.deferred (some []))).alloc (.loop (R .ready none)) = W1 := ⟨_, rfl⟩
  have hB1 : Books W1 w.heap.size (R .ready none) := by
    rw [← hW1]
    refine ⟨?_, (Below.heap_alloc _ _ _ (by simp)).trans (World.alloc_heap_new w _)⟩
    have := World.alloc_heap_new (w.alloc (.deferred (some []))) (.loop (R .ready none))
    rwa [World.size_alloc] at this
  refine ⟨w.heap.size + 1, [{ target := .collected w.heap.size, args := #[] }], W1, { target := .fn (.func gf) lb, args := #[.func (.yield (w.heap.size + 1)) #[] #[]] }, W1, gf,
    #[.func (.yield (w.heap.size + 1)) #[] #[]] ++ lb, W1, by rw [← hW1, hR]; exact run_enterLoop_outer _ _ _ _ _, by simp only [resolve, hg]; simp [go_sem], fun f' hf' => by simp [Target.leads] at hf'; subst hf'; exact hFg, by simp [invoke, go_sem, eg], fun _ => h1, ?_⟩
  refine (hseq (w.heap.size + 1) (fun pre W => I pre W ∧ Books W w.heap.size (R .ready none)) (fun pre W => ∃ c, Ix c pre W ∧ Books W w.heap.size (R .done (some c))) W1 (by
    rw [← hW1]; exact hb0.trans ((((Below.refl _ w).alloc (Nat.le_refl _) _).alloc (by simp) _).mono hb0.size)) ?_ ⟨by rw [← hW1]; exact hI.alloc _ (hI.alloc _ h0), hB1⟩).mono ?_
  · rintro pre x W ⟨hi, hbk⟩ hnx
    have hy := run_yield (P := P) (args := encs x) hbk.log (by rw [hRp]; exact hps x)
    rw [hR] at hy
    refine ⟨fn, _, assign, body, hy, roundIn_of_wpIn hfn ?_⟩
    have hk1 := hw₁ pre x W hi
    have hb1 := hbk.from hk1.1
    refine hassign _ pre x W _ hi hnx ⟨_, run_beginRound hb1.log (by rw [hRs]), ?_⟩
    have hb2 := hb1.put { R .ready none with state := .busy }
    refine wpIn_mono (hbody _ pre x W _ hi ⟨_, rfl, rfl⟩ hnx (Array.getElem?_eq_some_iff.1 hbk.log).1) ?_
    have hkp1 : Kp W ((w₁ x W).putObj (w.heap.size + 1) (.loop { R .ready none with state := .busy })) := hKt hk1.2 (hKb _ _ _ _ (by omega) hb1.log rfl rfl)
    have fin : ∀ (jump : Option Code) (W3 : World), KeepsFrom w.heap.size ((w₁ x W).putObj (w.heap.size + 1) (.loop { R .ready none with state := .busy })) W3 →
        ∃ W4, W4 = W3.putObj (w.heap.size + 1) (.loop (R (if jump.isNone then .ready else .done) jump)) ∧ (Instr.endRound (w.heap.size + 1) jump).run P W3 = .ok (.bool jump.isNone) W4 ∧
        W3.heap[w.heap.size + 1]? = some (.loop { R .ready none with state := .busy }) ∧ Books W4 w.heap.size (R (if jump.isNone then .ready else .done) jump) := fun jump W3 hk3 => by
      have hb3 := hb2.from hk3
      refine ⟨_, rfl, ?_, hb3.log, hb3.put _⟩
      have := run_endRound (P := P) jump hb3.log
      rw [hR] at this ⊢
      exact this
    rintro e a3 W3 hp
    cases e with
    | normal =>
      obtain ⟨hk3, hkp3, hi3⟩ := hp
      obtain ⟨_, rfl, hr, hl3, hb4⟩ := fin none W3 hk3
      exact ⟨_, _, hr, .inl ⟨rfl, ⟨hI.putObj _ hi3 (by omega) hl3 rfl, hb4⟩, hKt (hKt hkp1 hkp3) (hKb _ _ _ _ (by omega) hl3 rfl rfl)⟩⟩
    | ret =>
      obtain ⟨_, rfl, hr, hl3, hb4⟩ := fin (some .ret) W3 hp.1
      exact ⟨_, _, hr, .inr ⟨rfl, _, (hIx _).putObj _ hp.2 (by omega) hl3 rfl, hb4⟩⟩
    | exit id =>
      obtain ⟨_, rfl, hr, hl3, hb4⟩ := fin (some (.exit id)) W3 hp.1
      exact ⟨_, _, hr, .inr ⟨rfl, _, (hIx _).putObj _ hp.2 (by omega) hl3 rfl, hb4⟩⟩
    | goto t =>
      obtain ⟨_, rfl, hr, hl3, hb4⟩ := fin (some (.goto t)) W3 hp.1
      exact ⟨_, _, hr, .inr ⟨rfl, _, (hIx _).putObj _ hp.2 (by omega) hl3 rfl, hb4⟩⟩
    | panic ch => exact hp.elim
    | outgrown => exact hp.elim
  · rintro e W2 ⟨⟨v, rfl⟩, (⟨xs, hS, hi, hb⟩ | ⟨pre, hSp, c, hi, hb⟩)⟩
    · exact ⟨none, _, by have := run_endLoop (P := P) hb.log (by rw [hRs]; simp); rw [hR] at this; exact this, hdone _ xs _ (Nat.le_refl _) hS (hI.putObj _ hi (by omega) hb.log rfl) ((World.putObj_heap_other (by omega)).trans hb.dfr)⟩
    · exact ⟨some c, _, by have := run_endLoop (P := P) hb.log (by rw [hRs]; simp); rw [hR] at this; exact this, hstop _ c pre _ (Nat.le_refl _) hSp ((hIx c).putObj _ hi (by omega) hb.log rfl) ((World.putObj_heap_other (by omega)).trans hb.dfr)⟩

/- a region that draws its order, within a round -/
def noDeferB (ops : List Oper) : Bool := ops.all fun o => match o.op with | .defer _ => false | _ => true
theorem noDefer_at {ops : List Oper} (h : noDeferB ops = true) {i : Nat} {o : Oper} (ho : ops.toArray[i]? = some o) : ∀ c, o.op ≠ .defer c := by
  intro c e
  have hm : o ∈ ops := by
    rw [List.getElem?_toArray] at ho
    exact List.mem_of_getElem? ho
  have := List.all_eq_true.1 h o hm
  rw [e] at this
  cases this
theorem oper_round {o : Oper} (hd : ∀ c, o.op ≠ .defer c) {l : Nat} {a : Act} {w : World} {next : Act → World → Prop} {Q : Exit → Act → World → Prop} (hq : ¬ LetsOut Q) (h : o.wp P a w next Q) : o.wpIn (Fence.wide.inRound l) n P a w next Q := by
  unfold Oper.wp at h
  unfold Oper.wpIn
  refine ⟨fun _ _ => trivial, ?_⟩
  rw [Oper.semAt_eq _ _ _ hd]
  generalize (execOp a.eval o).run P w = r at *
  cases r with
  | ok x w' =>
    cases x with
    | enter f args => exact ⟨fun h => by simp [Fence.inRound, Fence.wide] at h, (callsIn_wide (n := n - 1)).2 (Calls.mono h fun e w'' he => by cases e <;> exact he)⟩
    | row r args => exact ⟨fun h => by simp [Fence.inRound, Fence.wide] at h, fun c cs _ => let ⟨v, w', r, s⟩ := h c cs; ⟨v, w', r, stepsIn_wide.2 s⟩⟩
    | round l f t s b => exact h.elim
    | value v => exact h
    | skip => exact h
    | defer d => exact h
    | _ => exact h.elim
  | halt x w' => cases x <;> exact h
theorem ops_round {ops : List Oper} {l : Nat} {Q : Exit → Act → World → Prop} (hd : noDeferB ops = true) (hq : ¬ LetsOut Q) : ∀ (L : List Nat) (a : Act) (w : World), wpOps P ops.toArray Q L a w → wpOpsIn (Fence.wide.inRound l) n P ops.toArray Q L a w
  | [], a, w, h => h
  | i :: rest, a, w, h => by
    simp only [wpOps] at h
    simp only [wpOpsIn]
    cases ho : ops.toArray[i]? with
    | none => rw [ho] at h; exact ops_round hd hq rest a w h
    | some o =>
      rw [ho] at h
      dsimp only at h ⊢
      split at h
      · rename_i hw
        rw [if_pos hw]
        rcases h with h | h
        · exact Oper.wpIn_mono (fun a w h => ops_round hd hq rest a w h) (oper_round (noDefer_at hd ho) hq h)
        · exact absurd h.2 hq
      · rename_i hw
        rw [if_neg hw]
        exact ⟨fun _ _ => trivial, ops_round hd hq rest _ w h⟩
theorem wpIn_round_any {id : Nat} {ops : List Oper} {l : Nat} {Q : Exit → Act → World → Prop} {a : Act} {w : World} (hm : P.follows .mixedOrders = true) (hd : noDeferB ops = true) (hq : ¬ LetsOut Q)
    (h : wpAny P .any ops.toArray Q ops.toArray.size (Array.replicate ops.toArray.size false) a { w with drawn := w.drawn + 1 }) : (Code.region id ops.toArray true).wpIn (Fence.wide.inRound l) n P Q a w :=
  wpIn_region_draw fun t => by
    simp only [Region.schedule, hm, Bool.true_or, if_true]
    exact ops_round hd hq _ _ _ (wpAny_sound ops.toArray.size t _ a _ h)
theorem wpIn_round_still_tail {id : Nat} {l : Nat} {Q : Exit → Act → World → Prop} {a : Act} {w : World} {ops : List Oper} (m : Nat) (hm : P.follows .mixedOrders = true) (hd : noDeferB ops = true) (hq : ¬ LetsOut Q) (hB : Region.lexTailB .any ops.toArray m = true)
    (h : wpStill P ops.toArray { w with drawn := w.drawn + 1 } (fun a' => wpList P ops.toArray Q (ops.drop m) a' { w with drawn := w.drawn + 1 }) (ops.take m) a) : (Code.region id ops.toArray true).wpIn (Fence.wide.inRound l) n P Q a w := by
  simp only [Region.lexTailB, Bool.and_eq_true, decide_eq_true_eq] at hB
  obtain ⟨⟨⟨⟨h1, h2⟩, h3⟩, h4⟩, h5⟩ := hB
  have h2' : m < ops.length := by simpa using h2
  have ht : (ops.take m).length = m := by simp; omega
  have hz : m + (ops.drop m).length = ops.toArray.size := by simp; omega
  have hr : ops.toArray.size - m = (ops.drop m).length := by simp
  rw [hr] at h5
  have H := wpAnyL_lex (md := .any) (g := (ops.drop m).length) h1 h3 h4 h2 (ops.take m) 0 _ a (fun j hj => by rw [ht] at hj; simp [hj]) (by simpa using ht)
    (show HeadInv .any ops.toArray m (Array.replicate ops.toArray.size false) from ⟨by simp, fun j oj _ hl => (by rw [getD_replicate_false] at hl; cases hl), fun t _ h6 => getD_in (by simpa using h6) (getD_replicate_false _ _)⟩) (by rw [ht]; exact h5) h
  refine wpIn_round_any hm hd hq ?_
  have K := wpAny_of_head (Q' := Q) (g := (ops.drop m).length) (fun listed a' hL => wpAny_of_seq (md := .any) (Q' := Q) (ops.drop m) m listed a' _ (fun j => by simp [List.getElem?_drop]) hL.1 hL.2) _ _ _ H
  rw [ht, hz] at K
  exact K

/- the marks -/
def coll (D : Nat) : Deferred := { target := .collected D, args := #[] }
/-- as it was, but for some blocks that are no cells -/
structure Shut (ds : List Nat) (W W' : World) : Prop where
  os : W'.os = W.os
  tape : W'.tape = W.tape
  output : W'.output = W.output
  size : W'.heap.size = W.heap.size
  block : ∀ k, k ∉ ds → W'.heap[k]? = W.heap[k]?
theorem Shut.below {ds : List Nat} {W W' w : World} {n₀ : Nat} (h : Shut ds W W') (hb : Below n₀ w W) (hd : ∀ D ∈ ds, n₀ ≤ D) : Below n₀ w W' :=
  ⟨h.os.trans hb.os, h.tape.trans hb.tape, h.output.trans hb.output, by rw [h.size]; exact hb.size, fun k hk => (h.block k (fun hm => by have := hd k hm; omega)).trans (hb.block k hk)⟩
theorem Shut.cell {ds : List Nat} {W W' : World} (h : Shut ds W W') {p : Addr} (hp : p.block ∉ ds) : W'.cell? p = W.cell? p := World.cell?_of_block (w := W) (h.block p.block hp)

theorem leaves_marks {F : Fence} {n : Nat} {P : Program} {fn : Func} {tmps : Array Value} {R : Ending → World → Prop} {u : FrameMode} (hu : u ≠ .run) : ∀ (ds : List Nat) (W : World), ds.Nodup → (∀ D ∈ ds, W.heap[D]? = some (.deferred (some []))) →
    (∀ W', Shut ds W W' → LeavesIn F n P fn tmps R [] u W') → LeavesInM F n P fn tmps R (ds.map coll) u W
  | [], W, _, _, h => h W ⟨rfl, rfl, rfl, rfl, fun _ _ => rfl⟩
  | D :: ds, W, hnd, hd, h => by
    have hnd' := List.nodup_cons.1 hnd
    refine ⟨hu, .inl ⟨D, _, rfl, run_takeDeferred (hd D (by simp)), leaves_marks hu ds _ hnd'.2 (fun E hE => ?_) (fun W' hs => h W' ?_)⟩⟩
    · rw [World.putObj_heap_other (by intro e; subst e; exact hnd'.1 hE)]
      exact hd E (by simp [hE])
    · refine ⟨hs.os, hs.tape, hs.output, hs.size.trans (by simp [World.putObj]), fun k hk => ?_⟩
      simp only [List.mem_cons, not_or] at hk
      rw [hs.block k hk.2, World.putObj_heap_other (by intro e; exact hk.1 e)]

theorem calls_of_wp_marks {f : FuncId} {fn : Func} {c : Code} {args : Array Value} {w : World} {R : Ending → World → Prop} (hf : P.funcs[f]? = some fn) (hb : fn.body = some c)
    (h : c.wp P (bodyPostM Fence.wide 6 P fn R) { tmps := args ++ Array.replicate (fn.ntmps - args.size) undef, defers := [] } w) : Calls P f args w R :=
  (callsIn_wide (n := 6)).1 (callsIn_of_wp_marks hf hb trivial (wpIn_wide.2 h) rfl)
theorem postM_ret {fn : Func} {R : Ending → World → Prop} {a : Act} {w : World} {v : Value} (hr : (results fn a.tmps).run P w = .ok v w) (hd : a.defers = []) (hR : R (.returned v) w) : bodyPostM Fence.wide 6 P fn R .ret a w := by
  show LeavesInM _ _ _ _ _ _ a.defers _ _
  rw [hd]
  exact ⟨v, hr, hR⟩
theorem postM_marks {fn : Func} {R : Ending → World → Prop} {a : Act} {w : World} (ds : List Nat) (hd : a.defers = ds.map coll) (hnd : ds.Nodup) (hD : ∀ D ∈ ds, w.heap[D]? = some (.deferred (some [])))
    (h : ∀ W', Shut ds w W' → ∃ v, (results fn a.tmps).run P W' = .ok v W' ∧ R (.returned v) W') : bodyPostM Fence.wide 6 P fn R .ret a w := by
  show LeavesInM _ _ _ _ _ _ a.defers _ _
  rw [hd]
  exact leaves_marks (by simp) ds _ hnd hD h

end Go.Proofs.Ytenpenelikpeeaa
