/- Proved: chalklinelaw25.SolverAnswerStable returns true for every input, and leaves its arguments as they were. No condition. (The frame follows the kit's proof-skeleton.mjs.) -/
import Derived.Test.YtogdlkfacflmaaaGreatRows
import Derived.WalkKit
import Derived.ProofKit
import Derived.OpenShut
import Derived.Test.YtogdlkfacflmaaaGreatZV9
import Derived.Test.YtogdlkfacflmaaaGreatZVSRW141
import Derived.Test.YtogdlkfacflmaaaGreatZV11
import Derived.Test.YtogdlkfacflmaaaGreatZV1
namespace Go.Proofs.YtogdlkfacflmaaaGreat.solverAnswerStable
set_option linter.unusedVariables false
set_option linter.unusedSimpArgs false
set_option maxRecDepth 100000
set_option maxHeartbeats 8000000
open _root_.Go.Proofs.Tryz renaming prog→z_,checked→x_
open _root_.Go renaming trodAll_cons_mk→y_
section
open Go.ChangeShapes Go.WideShapes Go.ChangeAt Go.RowKit
theorem lifted(os:Os)(started:os.Started)(H:Type)(enc:TypeId×Value->H):
  ReturnsInHanded {} x_ os 14 .any (Rows.solverAnswerStableSpec.pre6 enc z_ Tryz.f14 Rows.solverAnswerStableRow.domain false) (Rows.solverAnswerStableSpec.post enc z_ Tryz.f14 false true false false):=by
 refine returnsInHanded_of_change_sized (C:=x_) Ij started (by kernel_rfl) Tryz.func14
  (ChangeSpec.witness6 (enc:=enc) (C:=x_) false ⟨#[], #[.int .i64 0,.slice none 0 0,.slice none 0 0],[]⟩ 8 (by kernel_rfl) (by kernel_rfl) (by kernel_rfl) (by kernel_rfl)) ?_
 intro W base args ds gs before k d J l _;have f:(DataW.weightsEach z_ (Tryz.f14.params.toList++Rows.solverAnswerStableSpec.plain.varTypes z_) (ds++gs)).all (·<=reachBytes)=true:=l;clear l;have c:∀(j:Nat) t v,Tryz.f14.params[j]? =some t->args[j]? =some v->Value.okWide z_ W .any base t v:=k;have m:=d;have g:=d.lt;obtain⟨p,q,n,s,rfl,K,L⟩:=d;have o:DataW.TrodAll enc z_ W 0 (λ _=>true) true Tryz.f14.params.toList args.toList ds p:=n;rw[Tryz.params14] at o c f;obtain⟨v0,M,d0,N,O,P,Q,rfl,rfl,u,w⟩:=trodAll_cons o;obtain⟨v1,R,d1,S,y,T,rfl,rfl,rfl,h1,z⟩:=trodAll_cons w;obtain⟨v2,U,d2,V,A,X,rfl,rfl,rfl,r,B⟩:=trodAll_cons z;obtain⟨rfl,rfl,rfl⟩:=trodAll_nil B;obtain rfl:args= #[v0,v1,v2]:=by cases args;simp_all
 obtain⟨rfl,rfl⟩:=trodVars_none s;obtain⟨a0,rfl,rfl,rfl,w0⟩:=open_int Tryz.underlying3 (c 0 3 v0 rfl rfl) u;have g1:=h1;obtain⟨D,no,co,es,rfl,hO⟩:=I6 (c 1 66 v1 rfl rfl) h1 (Il f (j:=1) rfl rfl);have g2:=r;obtain⟨E,nq,F,G,rfl,I,Y⟩:=Is (c 2 25 v2 rfl rfl) r (Il f (j:=2) rfl rfl);clear n k;simp only[List.append_nil] at m g;refine(Q4 a0 D no co es E nq F G W hO I).mono λ e W' ⟨he,i⟩=>?_
 subst he;exact⟨_,rfl,Ii (pa:=([]++(y++(A++[])))) (pv:=[]) m (λ _ _ _=>(y_ (shut_bool Tryz.underlying4 _) trodAll_mk0)) (λ sp hs=>(y_ (shut_int Tryz.underlying3 w0) (y_ (I5 g1 i (λ x b=>g x (by simp[b])) (λ x b=>hs x (by simp[b]))) (y_ (Ir g2 i (λ x b=>g x (by simp[b])) (λ x b=>hs x (by simp[b]))) trodAll_mk0)))) (λ _ _=>rfl) (by simp)
  i (ok_one (by kernel_rfl) rfl (okWide_bool_mk Tryz.underlying4 _))⟩
theorem closed:joinedFacts z_ 14 Tryz.f14 Rows.solverAnswerStableSpec Rows.solverAnswerStableRow=true:=by
 simp only[joinedFacts,Bool.and_eq_true,Iw,made,Iy]
 repeat' apply And.intro
 all_goals first|(as_aux_lemma=>kernel_rfl)|trivial
theorem Qt:Rows.solverAnswerStableRow.holds Tryz.pinned (OpenSpec.ofChange Rows.solverAnswerStableSpec):=
 OpenClaim.holds_of_wide 14 Tryz.f14 rfl rfl rfl rfl rfl rfl rfl ⟨rfl,rfl,rfl,rfl,rfl⟩ rfl rfl rfl rfl rfl (by kernel_rfl) Tryz.func14 closed
  (of_decide_eq_true (by kernel_rfl)) (by unfold Func.isWrapper;first|(rw[if_pos (by decide+kernel)];kernel_rfl)|(rw[if_neg (by decide+kernel)];exact⟨rfl,rfl⟩))
  (λ os started H enc _=>lifted os started H enc)
theorem proved:Rows.SolverAnswerStableSaid:=
 Qt
end
end Go.Proofs.YtogdlkfacflmaaaGreat.solverAnswerStable
set_option maxHeartbeats 8000000
