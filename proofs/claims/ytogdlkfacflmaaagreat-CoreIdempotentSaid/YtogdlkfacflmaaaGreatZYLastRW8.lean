/- Proved: chalklinelaw27.CoreIdempotent returns true for every input, and leaves its arguments as they were. No condition. (The frame follows the kit's proof-skeleton.mjs.) -/
import Derived.Test.YtogdlkfacflmaaaGreatRows
import Derived.WalkKit
import Derived.ProofKit
import Derived.OpenShut
import Derived.Test.YtogdlkfacflmaaaGreatZY17
import Derived.Test.YtogdlkfacflmaaaGreatZYSRW81
import Derived.Test.YtogdlkfacflmaaaGreatZY1
namespace Go.Proofs.YtogdlkfacflmaaaGreat.coreIdempotent
set_option linter.unusedVariables false
set_option linter.unusedSimpArgs false
set_option maxRecDepth 100000
set_option maxHeartbeats 8000000
open _root_.Go.Proofs.Tryz renaming prog→z_,checked→x_
open _root_.Go renaming trodAll_cons_mk→y_
section
open Go.ChangeShapes Go.WideShapes Go.ChangeAt Go.RowKit
theorem yH{l:List Int}(h:∀z∈l,(Lit.int .i64 z).wf=true):mq l:=λ z b=>by
 have h1:=h z b;simp only[Lit.wf,Bool.and_eq_true,decide_eq_true_eq] at h1;have c:IntKind.i64.min= -9223372036854775808:=rfl;have d:IntKind.i64.max=9223372036854775807:=rfl;rw[c,d] at h1;exact h1
theorem lifted(os:Os)(started:os.Started)(H:Type)(enc:TypeId×Value->H):
  ReturnsInHanded {} x_ os 8 .any (Rows.coreIdempotentSpec.pre6 enc z_ Tryz.f8 Rows.coreIdempotentRow.domain false) (Rows.coreIdempotentSpec.post enc z_ Tryz.f8 false true false false):=by
 refine returnsInHanded_of_change_sized (C:=x_) Ev started (by kernel_rfl) Tryz.func8
  (ChangeSpec.witness6 (enc:=enc) (C:=x_) false ⟨#[], #[.agg #[.int .i64 0,.slice none 0 0],.slice none 0 0,.int .i64 0],[]⟩ 8 (by kernel_rfl) (by kernel_rfl) (by kernel_rfl) (by kernel_rfl)) ?_
 intro W base args ds gs before l f O m _;have g:(DataW.weightsEach z_ (Tryz.f8.params.toList++Rows.coreIdempotentSpec.plain.varTypes z_) (ds++gs)).all (·<=reachBytes)=true:=m;clear m;have d:∀(j:Nat) t v,Tryz.f8.params[j]? =some t->args[j]? =some v->Value.okWide z_ W .any base t v:=l;have o:=f;have i:=f.lt;obtain⟨p,q,r,w,rfl,P,Q⟩:=f;have s:DataW.TrodAll enc z_ W 0 (λ _=>true) true Tryz.f8.params.toList args.toList ds p:=r;rw[Tryz.params8] at s d g;obtain⟨v0,R,d0,S,y,T,U,rfl,rfl,u,z⟩:=trodAll_cons s;obtain⟨v1,V,d1,X,B,Y,rfl,rfl,rfl,h1,D⟩:=trodAll_cons z;obtain⟨v2,Z,d2,aa,ab,ad,rfl,rfl,rfl,E,F⟩:=trodAll_cons D;obtain⟨rfl,rfl,rfl⟩:=trodAll_nil F;obtain rfl:args= #[v0,v1,v2]:=by cases args;simp_all
 obtain⟨rfl,rfl⟩:=trodVars_none w;have g0:=u;obtain⟨x,A,n,c,ls,rfl,G,ae,af⟩:=Ew (d 0 24 v0 rfl rfl) u (xK g (j:=0) rfl rfl);have g1:=h1;obtain⟨I,nq,J,K,rfl,L,M⟩:=AT (d 1 25 v1 rfl rfl) h1 (xK g (j:=1) rfl rfl);obtain⟨a2,rfl,rfl,rfl,N⟩:=open_int Tryz.underlying3 (d 2 3 v2 rfl rfl) E;clear r l;simp only[List.append_nil] at o i;refine(I8 x A n c ls I nq J K a2 W G L (yH M)).mono λ e W' ⟨he,k⟩=>?_
 subst he;exact⟨_,rfl,Eu (pa:=(y++(B++([]++[])))) (pv:=[]) o (λ _ _ _=>(y_ (shut_bool Tryz.underlying4 _) trodAll_mk0)) (λ sp hs=>(y_ (Ex g0 k (λ x b=>i x (by simp[b])) (λ x b=>hs x (by simp[b]))) (y_ (AS g1 k (λ x b=>i x (by simp[b])) (λ x b=>hs x (by simp[b]))) (y_ (shut_int Tryz.underlying3 N) trodAll_mk0)))) (λ _ _=>rfl) (by simp)
  k (ok_one (by kernel_rfl) rfl (okWide_bool_mk Tryz.underlying4 _))⟩
theorem closed:joinedFacts z_ 8 Tryz.f8 Rows.coreIdempotentSpec Rows.coreIdempotentRow=true:=by
 simp only[joinedFacts,Bool.and_eq_true,EA,made,EB]
 repeat' apply And.intro
 all_goals first|(as_aux_lemma=>kernel_rfl)|trivial
theorem Bc:Rows.coreIdempotentRow.holds Tryz.pinned (OpenSpec.ofChange Rows.coreIdempotentSpec):=
 OpenClaim.holds_of_wide 8 Tryz.f8 rfl rfl rfl rfl rfl rfl rfl ⟨rfl,rfl,rfl,rfl,rfl⟩ rfl rfl rfl rfl rfl (by kernel_rfl) Tryz.func8 closed
  (of_decide_eq_true (by kernel_rfl)) (by unfold Func.isWrapper;first|(rw[if_pos (by decide+kernel)];kernel_rfl)|(rw[if_neg (by decide+kernel)];exact⟨rfl,rfl⟩))
  (λ os started H enc _=>lifted os started H enc)
theorem proved:Rows.CoreIdempotentSaid:=
 Bc
end
end Go.Proofs.YtogdlkfacflmaaaGreat.coreIdempotent
set_option maxHeartbeats 8000000
