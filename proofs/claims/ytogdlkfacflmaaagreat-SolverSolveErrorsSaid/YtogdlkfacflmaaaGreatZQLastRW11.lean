/- Proved: chalklinelaw25.SolverSolveErrors returns true for every input, and leaves its arguments as they were. No condition. (The frame follows the kit's proof-skeleton.mjs.) -/
import Derived.Test.YtogdlkfacflmaaaGreatRows
import Derived.WalkKit
import Derived.ProofKit
import Derived.OpenShut
import Derived.Test.YtogdlkfacflmaaaGreatZQ7
import Derived.Test.YtogdlkfacflmaaaGreatZQ8
import Derived.Test.YtogdlkfacflmaaaGreatZQ1
namespace Go.Proofs.YtogdlkfacflmaaaGreat.solverSolveErrors
set_option linter.unusedVariables false
set_option linter.unusedSimpArgs false
set_option maxRecDepth 100000
set_option maxHeartbeats 8000000
open _root_.Go.Proofs.Tryz renaming prog→z_,checked→x_
open _root_.Go renaming trodAll_cons_mk→y_
section
open Go.ChangeShapes Go.WideShapes Go.ChangeAt Go.RowKit
theorem lifted(os:Os)(started:os.Started)(H:Type)(enc:TypeId×Value->H):
  ReturnsInHanded {} x_ os 11 .any (Rows.solverSolveErrorsSpec.pre6 enc z_ Tryz.f11 Rows.solverSolveErrorsRow.domain false) (Rows.solverSolveErrorsSpec.post enc z_ Tryz.f11 false true false false):=by
 refine returnsInHanded_of_change_sized (C:=x_) NX started (by kernel_rfl) Tryz.func11
  (ChangeSpec.witness6 (enc:=enc) (C:=x_) false ⟨#[], #[.agg #[.int .i64 0,.slice none 0 0,.slice none 0 0,.slice none 0 0,.slice none 0 0,.int .i64 0,.slice none 0 0,.slice none 0 0],.slice none 0 0,.int .i64 0],[]⟩ 8 (by kernel_rfl) (by kernel_rfl) (by kernel_rfl) (by kernel_rfl)) ?_
 intro W base args ds gs before k d M l _;have f:(DataW.weightsEach z_ (Tryz.f11.params.toList++Rows.solverSolveErrorsSpec.plain.varTypes z_) (ds++gs)).all (·<=reachBytes)=true:=l;clear l;have c:∀(j:Nat) t v,Tryz.f11.params[j]? =some t->args[j]? =some v->Value.okWide z_ W .any base t v:=k;have m:=d;have g:=d.lt;obtain⟨p,q,n,s,rfl,N,O⟩:=d;have o:DataW.TrodAll enc z_ W 0 (λ _=>true) true Tryz.f11.params.toList args.toList ds p:=n;rw[Tryz.params11] at o c f;obtain⟨v0,P,d0,Q,u,R,S,rfl,rfl,r,w⟩:=trodAll_cons o;obtain⟨v1,T,d1,U,y,V,rfl,rfl,rfl,h1,z⟩:=trodAll_cons w;obtain⟨v2,X,d2,Y,Z,aa,rfl,rfl,rfl,A,B⟩:=trodAll_cons z;obtain⟨rfl,rfl,rfl⟩:=trodAll_nil B;obtain rfl:args= #[v0,v1,v2]:=by cases args;simp_all
 obtain⟨rfl,rfl⟩:=trodVars_none s;have g0:=r;obtain⟨D,E,rfl,F⟩:=Qu (c 0 47 v0 rfl rfl) r (HH f (j:=0) rfl rfl);have g1:=h1;obtain⟨G,nq,I,J,rfl,K,ab⟩:=N3 (c 1 25 v1 rfl rfl) h1 (HH f (j:=1) rfl rfl);obtain⟨a2,rfl,rfl,rfl,L⟩:=open_int Tryz.underlying3 (c 2 3 v2 rfl rfl) A;clear n k;simp only[List.append_nil] at m g;refine(Qe D E G nq I J a2 W F K).mono λ e W' ⟨he,i⟩=>?_
 subst he;exact⟨_,rfl,NW (pa:=(u++(y++([]++[])))) (pv:=[]) m (λ _ _ _=>(y_ (shut_bool Tryz.underlying4 _) trodAll_mk0)) (λ sp hs=>(y_ (Qq g0 i (λ x b=>g x (by simp[b])) (λ x b=>hs x (by simp[b]))) (y_ (N2 g1 i (λ x b=>g x (by simp[b])) (λ x b=>hs x (by simp[b]))) (y_ (shut_int Tryz.underlying3 L) trodAll_mk0)))) (λ _ _=>rfl) (by simp)
  i (ok_one (by kernel_rfl) rfl (okWide_bool_mk Tryz.underlying4 _))⟩
theorem closed:joinedFacts z_ 11 Tryz.f11 Rows.solverSolveErrorsSpec Rows.solverSolveErrorsRow=true:=by
 simp only[joinedFacts,Bool.and_eq_true,Oe,made,Of]
 repeat' apply And.intro
 all_goals first|(as_aux_lemma=>kernel_rfl)|trivial
theorem Qw:Rows.solverSolveErrorsRow.holds Tryz.pinned (OpenSpec.ofChange Rows.solverSolveErrorsSpec):=
 OpenClaim.holds_of_wide 11 Tryz.f11 rfl rfl rfl rfl rfl rfl rfl ⟨rfl,rfl,rfl,rfl,rfl⟩ rfl rfl rfl rfl rfl (by kernel_rfl) Tryz.func11 closed
  (of_decide_eq_true (by kernel_rfl)) (by unfold Func.isWrapper;first|(rw[if_pos (by decide+kernel)];kernel_rfl)|(rw[if_neg (by decide+kernel)];exact⟨rfl,rfl⟩))
  (λ os started H enc _=>lifted os started H enc)
theorem proved:Rows.SolverSolveErrorsSaid:=
 Qw
end
end Go.Proofs.YtogdlkfacflmaaaGreat.solverSolveErrors
set_option maxHeartbeats 8000000
