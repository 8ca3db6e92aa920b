/- Proved: chalklinelaw25.SolverStatePreserved returns true for every input, and leaves its arguments as they were. No condition. (The frame follows the kit's proof-skeleton.mjs.) -/
import Derived.Test.YtogdlkfacflmaaaGreatRows
import Derived.WalkKit
import Derived.ProofKit
import Derived.OpenShut
import Derived.Test.YtogdlkfacflmaaaGreatZV9
import Derived.Test.YtogdlkfacflmaaaGreatZVSRW131
import Derived.Test.YtogdlkfacflmaaaGreatZV11
import Derived.Test.YtogdlkfacflmaaaGreatZV1
namespace Go.Proofs.YtogdlkfacflmaaaGreat.solverStatePreserved
set_option linter.unusedVariables false
set_option linter.unusedSimpArgs false
set_option maxRecDepth 100000
set_option maxHeartbeats 8000000
open _root_.Go renaming trodAll_cons_mk→z_
open _root_.Go.Proofs.Tryz renaming underlying3→y_,prog→x_,checked→w_
section
open Go.ChangeShapes Go.WideShapes Go.ChangeAt Go.RowKit
theorem lifted(os:Os)(started:os.Started)(H:Type)(enc:TypeId×Value->H):
  ReturnsInHanded {} w_ os 13 .any (Rows.solverStatePreservedSpec.pre6 enc x_ Tryz.f13 Rows.solverStatePreservedRow.domain false) (Rows.solverStatePreservedSpec.post enc x_ Tryz.f13 false true false false):=by
 refine returnsInHanded_of_change_sized (C:=w_) Ij started (by kernel_rfl) Tryz.func13
  (ChangeSpec.witness6 (enc:=enc) (C:=w_) false ⟨#[], #[.int .i64 0,.slice none 0 0,.slice none 0 0,.int .i64 0],[]⟩ 8 (by kernel_rfl) (by kernel_rfl) (by kernel_rfl) (by kernel_rfl)) ?_
 intro W base args ds gs before k d M l _;have f:(DataW.weightsEach x_ (Tryz.f13.params.toList++Rows.solverStatePreservedSpec.plain.varTypes x_) (ds++gs)).all (·<=reachBytes)=true:=l;clear l;have c:∀(j:Nat) t v,Tryz.f13.params[j]? =some t->args[j]? =some v->Value.okWide x_ W .any base t v:=k;have m:=d;have g:=d.lt;obtain⟨p,q,n,s,rfl,N,O⟩:=d;have o:DataW.TrodAll enc x_ W 0 (λ _=>true) true Tryz.f13.params.toList args.toList ds p:=n;rw[Tryz.params13] at o c f;obtain⟨v0,P,d0,Q,R,S,T,rfl,rfl,u,w⟩:=trodAll_cons o;obtain⟨v1,U,d1,V,y,X,rfl,rfl,rfl,h1,z⟩:=trodAll_cons w;obtain⟨v2,Y,d2,Z,A,ab,rfl,rfl,rfl,r,B⟩:=trodAll_cons z;obtain⟨v3,ad,d3,ae,al,ao,rfl,rfl,rfl,D,E⟩:=trodAll_cons B;obtain⟨rfl,rfl,rfl⟩:=trodAll_nil E;obtain rfl:args= #[v0,v1,v2,v3]:=by cases args;simp_all
 obtain⟨rfl,rfl⟩:=trodVars_none s;obtain⟨a0,rfl,rfl,rfl,w0⟩:=open_int y_ (c 0 3 v0 rfl rfl) u;have g1:=h1;obtain⟨F,no,co,es,rfl,hO⟩:=I6 (c 1 66 v1 rfl rfl) h1 (Il f (j:=1) rfl rfl);have g2:=r;obtain⟨G,nq,I,J,rfl,K,ar⟩:=Is (c 2 25 v2 rfl rfl) r (Il f (j:=2) rfl rfl);obtain⟨a3,rfl,rfl,rfl,L⟩:=open_int y_ (c 3 3 v3 rfl rfl) D;clear n k;simp only[List.append_nil] at m g;refine(Ra a0 F no co es G nq I J a3 W hO K).mono λ e W' ⟨he,i⟩=>?_
 subst he;exact⟨_,rfl,Ii (pa:=([]++(y++(A++([]++[]))))) (pv:=[]) m (λ _ _ _=>(z_ (shut_bool Tryz.underlying4 _) trodAll_mk0)) (λ sp hs=>(z_ (shut_int y_ w0) (z_ (I5 g1 i (λ x b=>g x (by simp[b])) (λ x b=>hs x (by simp[b]))) (z_ (Ir g2 i (λ x b=>g x (by simp[b])) (λ x b=>hs x (by simp[b]))) (z_ (shut_int y_ L) trodAll_mk0))))) (λ _ _=>rfl) (by simp)
  i (ok_one (by kernel_rfl) rfl (okWide_bool_mk Tryz.underlying4 _))⟩
theorem closed:joinedFacts x_ 13 Tryz.f13 Rows.solverStatePreservedSpec Rows.solverStatePreservedRow=true:=by
 simp only[joinedFacts,Bool.and_eq_true,Iw,made,Iy]
 repeat' apply And.intro
 all_goals first|(as_aux_lemma=>kernel_rfl)|trivial
theorem Qt:Rows.solverStatePreservedRow.holds Tryz.pinned (OpenSpec.ofChange Rows.solverStatePreservedSpec):=
 OpenClaim.holds_of_wide 13 Tryz.f13 rfl rfl rfl rfl rfl rfl rfl ⟨rfl,rfl,rfl,rfl,rfl⟩ rfl rfl rfl rfl rfl (by kernel_rfl) Tryz.func13 closed
  (of_decide_eq_true (by kernel_rfl)) (by unfold Func.isWrapper;first|(rw[if_pos (by decide+kernel)];kernel_rfl)|(rw[if_neg (by decide+kernel)];exact⟨rfl,rfl⟩))
  (λ os started H enc _=>lifted os started H enc)
theorem proved:Rows.SolverStatePreservedSaid:=
 Qt
end
end Go.Proofs.YtogdlkfacflmaaaGreat.solverStatePreserved
set_option maxHeartbeats 8000000
