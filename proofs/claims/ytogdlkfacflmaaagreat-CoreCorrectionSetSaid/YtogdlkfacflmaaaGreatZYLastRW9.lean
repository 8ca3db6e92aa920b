/- Proved: chalklinelaw27.CoreCorrectionSet returns true for every input, and leaves its arguments as they were. No condition. (The frame follows the kit's proof-skeleton.mjs.) -/
import Derived.Test.YtogdlkfacflmaaaGreatRows
import Derived.WalkKit
import Derived.ProofKit
import Derived.OpenShut
import Derived.Test.YtogdlkfacflmaaaGreatZY17
import Derived.Test.YtogdlkfacflmaaaGreatZYSRW91
import Derived.Test.YtogdlkfacflmaaaGreatZY1
namespace Go.Proofs.YtogdlkfacflmaaaGreat.coreCorrectionSet
set_option linter.unusedVariables false
set_option linter.unusedSimpArgs false
set_option maxRecDepth 100000
set_option maxHeartbeats 8000000
open _root_.Go renaming trodAll_cons_mk→z_
open _root_.Go.Proofs.Tryz renaming prog→y_,checked→x_
section
open Go.ChangeShapes Go.WideShapes Go.ChangeAt Go.RowKit
theorem yH{l:List Int}(h:∀z∈l,(Lit.int .i64 z).wf=true):mq l:=λ z b=>by
 have h1:=h z b;simp only[Lit.wf,Bool.and_eq_true,decide_eq_true_eq] at h1;have c:IntKind.i64.min= -9223372036854775808:=rfl;have d:IntKind.i64.max=9223372036854775807:=rfl;rw[c,d] at h1;exact h1
theorem lifted(os:Os)(started:os.Started)(H:Type)(enc:TypeId×Value->H):
  ReturnsInHanded {} x_ os 9 .any (Rows.coreCorrectionSetSpec.pre6 enc y_ Tryz.f9 Rows.coreCorrectionSetRow.domain false) (Rows.coreCorrectionSetSpec.post enc y_ Tryz.f9 false true false false):=by
 refine returnsInHanded_of_change_sized (C:=x_) Ev started (by kernel_rfl) Tryz.func9
  (ChangeSpec.witness6 (enc:=enc) (C:=x_) false ⟨#[], #[.agg #[.int .i64 0,.slice none 0 0],.slice none 0 0,.slice none 0 0,.int .i64 0],[]⟩ 8 (by kernel_rfl) (by kernel_rfl) (by kernel_rfl) (by kernel_rfl)) ?_
 intro W base args ds gs before l k Y m _;have f:(DataW.weightsEach y_ (Tryz.f9.params.toList++Rows.coreCorrectionSetSpec.plain.varTypes y_) (ds++gs)).all (·<=reachBytes)=true:=m;clear m;have d:∀(j:Nat) t v,Tryz.f9.params[j]? =some t->args[j]? =some v->Value.okWide y_ W .any base t v:=l;have o:=k;have g:=k.lt;obtain⟨p,q,r,y,rfl,Z,aa⟩:=k;have s:DataW.TrodAll enc y_ W 0 (λ _=>true) true Tryz.f9.params.toList args.toList ds p:=r;rw[Tryz.params9] at s d f;obtain⟨v0,ab,d0,ad,z,ae,af,rfl,rfl,u,B⟩:=trodAll_cons s;obtain⟨v1,ag,d1,ah,D,ai,rfl,rfl,rfl,h1,E⟩:=trodAll_cons B;obtain⟨v2,aj,d2,ak,F,al,rfl,rfl,rfl,w,G⟩:=trodAll_cons E;obtain⟨v3,an,d3,ao,aq,ar,rfl,rfl,rfl,I,J⟩:=trodAll_cons G;obtain⟨rfl,rfl,rfl⟩:=trodAll_nil J;obtain rfl:args= #[v0,v1,v2,v3]:=by cases args;simp_all
 obtain⟨rfl,rfl⟩:=trodVars_none y;have g0:=u;obtain⟨x,A,n,c,ls,rfl,K,au,av⟩:=Ew (d 0 24 v0 rfl rfl) u (xK f (j:=0) rfl rfl);have g1:=h1;obtain⟨L,M,N,O,rfl,P,Q⟩:=AT (d 1 25 v1 rfl rfl) h1 (xK f (j:=1) rfl rfl);have g2:=w;obtain⟨R,nq,S,T,rfl,U,V⟩:=AT (d 2 25 v2 rfl rfl) w (xK f (j:=2) rfl rfl);obtain⟨a3,rfl,rfl,rfl,X⟩:=open_int Tryz.underlying3 (d 3 3 v3 rfl rfl) I;clear r l;simp only[List.append_nil] at o g;refine(I9 x A n c ls L M N O R nq S T a3 W K P (yH Q) U (yH V)).mono λ e W' ⟨he,i⟩=>?_
 subst he;exact⟨_,rfl,Eu (pa:=(z++(D++(F++([]++[]))))) (pv:=[]) o (λ _ _ _=>(z_ (shut_bool Tryz.underlying4 _) trodAll_mk0)) (λ sp hs=>(z_ (Ex g0 i (λ x b=>g x (by simp[b])) (λ x b=>hs x (by simp[b]))) (z_ (AS g1 i (λ x b=>g x (by simp[b])) (λ x b=>hs x (by simp[b]))) (z_ (AS g2 i (λ x b=>g x (by simp[b])) (λ x b=>hs x (by simp[b]))) (z_ (shut_int Tryz.underlying3 X) trodAll_mk0))))) (λ _ _=>rfl) (by simp)
  i (ok_one (by kernel_rfl) rfl (okWide_bool_mk Tryz.underlying4 _))⟩
theorem closed:joinedFacts y_ 9 Tryz.f9 Rows.coreCorrectionSetSpec Rows.coreCorrectionSetRow=true:=by
 simp only[joinedFacts,Bool.and_eq_true,EA,made,EB]
 repeat' apply And.intro
 all_goals first|(as_aux_lemma=>kernel_rfl)|trivial
theorem Bc:Rows.coreCorrectionSetRow.holds Tryz.pinned (OpenSpec.ofChange Rows.coreCorrectionSetSpec):=
 OpenClaim.holds_of_wide 9 Tryz.f9 rfl rfl rfl rfl rfl rfl rfl ⟨rfl,rfl,rfl,rfl,rfl⟩ rfl rfl rfl rfl rfl (by kernel_rfl) Tryz.func9 closed
  (of_decide_eq_true (by kernel_rfl)) (by unfold Func.isWrapper;first|(rw[if_pos (by decide+kernel)];kernel_rfl)|(rw[if_neg (by decide+kernel)];exact⟨rfl,rfl⟩))
  (λ os started H enc _=>lifted os started H enc)
theorem proved:Rows.CoreCorrectionSetSaid:=
 Bc
end
end Go.Proofs.YtogdlkfacflmaaaGreat.coreCorrectionSet
set_option maxHeartbeats 8000000
