/- Proved: chalklinelaw27.CoreDecides returns true for every input, and leaves its arguments as they were. No condition. (The frame follows the kit's proof-skeleton.mjs.) -/
import Derived.Test.YtogdlkfacflmaaaGreatRows
import Derived.WalkKit
import Derived.ProofKit
import Derived.OpenShut
import Derived.Test.YtogdlkfacflmaaaGreatZY17
import Derived.Test.YtogdlkfacflmaaaGreatZYSRW61
import Derived.Test.YtogdlkfacflmaaaGreatZY1
namespace Go.Proofs.YtogdlkfacflmaaaGreat.coreDecides
set_option linter.unusedVariables false
set_option linter.unusedSimpArgs false
set_option maxRecDepth 100000
set_option maxHeartbeats 8000000
open _root_.Go.Proofs.Tryz renaming prog→z_,checked→x_
open _root_.Go renaming trodAll_cons_mk→y_
section
open Go.ChangeShapes Go.WideShapes Go.ChangeAt Go.RowKit
theorem yH{l:List Int}(h:∀z∈l,(Lit.int .i64 z).wf=true):mq l:=λ z b=>by
 have h1:=h z b;simp only[Lit.wf,Bool.and_eq_true,decide_eq_true_eq] at h1;have c:IntKind.i64.min= -9223372036854775808:=rfl;have d:IntKind.i64.max=9223372036854775807:=rfl;rw[c,d] at h1;exact h1
theorem lifted(os:Os)(started:os.Started)(H:Type)(enc:TypeId×Value->H):
  ReturnsInHanded {} x_ os 6 .any (Rows.coreDecidesSpec.pre6 enc z_ Tryz.f6 Rows.coreDecidesRow.domain false) (Rows.coreDecidesSpec.post enc z_ Tryz.f6 false true false false):=by
 refine returnsInHanded_of_change_sized (C:=x_) Ev started (by kernel_rfl) Tryz.func6
  (ChangeSpec.witness6 (enc:=enc) (C:=x_) false ⟨#[], #[.agg #[.int .i64 0,.slice none 0 0],.slice none 0 0,.slice none 0 0],[]⟩ 8 (by kernel_rfl) (by kernel_rfl) (by kernel_rfl) (by kernel_rfl)) ?_
 intro W base args ds gs before l k U m _;have d:(DataW.weightsEach z_ (Tryz.f6.params.toList++Rows.coreDecidesSpec.plain.varTypes z_) (ds++gs)).all (·<=reachBytes)=true:=m;clear m;have f:∀(j:Nat) t v,Tryz.f6.params[j]? =some t->args[j]? =some v->Value.okWide z_ W .any base t v:=l;have o:=k;have g:=k.lt;obtain⟨p,q,r,y,rfl,V,X⟩:=k;have s:DataW.TrodAll enc z_ W 0 (λ _=>true) true Tryz.f6.params.toList args.toList ds p:=r;rw[Tryz.params6] at s f d;obtain⟨v0,Y,d0,Z,z,aa,ab,rfl,rfl,u,B⟩:=trodAll_cons s;obtain⟨v1,ad,d1,ae,D,af,rfl,rfl,rfl,h1,E⟩:=trodAll_cons B;obtain⟨v2,ag,d2,ah,F,ai,rfl,rfl,rfl,w,G⟩:=trodAll_cons E;obtain⟨rfl,rfl,rfl⟩:=trodAll_nil G;obtain rfl:args= #[v0,v1,v2]:=by cases args;simp_all
 obtain⟨rfl,rfl⟩:=trodVars_none y;have g0:=u;obtain⟨x,A,n,c,ls,rfl,I,aj,ak⟩:=Ew (f 0 24 v0 rfl rfl) u (xK d (j:=0) rfl rfl);have g1:=h1;obtain⟨J,K,L,M,rfl,N,O⟩:=AT (f 1 25 v1 rfl rfl) h1 (xK d (j:=1) rfl rfl);have g2:=w;obtain⟨P,nq,Q,R,rfl,S,T⟩:=AT (f 2 25 v2 rfl rfl) w (xK d (j:=2) rfl rfl);clear r l;simp only[List.append_nil] at o g;refine(I7 x A n c ls J K L M P nq Q R W I N (yH O) S (yH T)).mono λ e W' ⟨he,i⟩=>?_
 subst he;exact⟨_,rfl,Eu (pa:=(z++(D++(F++[])))) (pv:=[]) o (λ _ _ _=>(y_ (shut_bool Tryz.underlying4 _) trodAll_mk0)) (λ sp hs=>(y_ (Ex g0 i (λ x b=>g x (by simp[b])) (λ x b=>hs x (by simp[b]))) (y_ (AS g1 i (λ x b=>g x (by simp[b])) (λ x b=>hs x (by simp[b]))) (y_ (AS g2 i (λ x b=>g x (by simp[b])) (λ x b=>hs x (by simp[b]))) trodAll_mk0)))) (λ _ _=>rfl) (by simp)
  i (ok_one (by kernel_rfl) rfl (okWide_bool_mk Tryz.underlying4 _))⟩
theorem closed:joinedFacts z_ 6 Tryz.f6 Rows.coreDecidesSpec Rows.coreDecidesRow=true:=by
 simp only[joinedFacts,Bool.and_eq_true,EA,made,EB]
 repeat' apply And.intro
 all_goals first|(as_aux_lemma=>kernel_rfl)|trivial
theorem Bc:Rows.coreDecidesRow.holds Tryz.pinned (OpenSpec.ofChange Rows.coreDecidesSpec):=
 OpenClaim.holds_of_wide 6 Tryz.f6 rfl rfl rfl rfl rfl rfl rfl ⟨rfl,rfl,rfl,rfl,rfl⟩ rfl rfl rfl rfl rfl (by kernel_rfl) Tryz.func6 closed
  (of_decide_eq_true (by kernel_rfl)) (by unfold Func.isWrapper;first|(rw[if_pos (by decide+kernel)];kernel_rfl)|(rw[if_neg (by decide+kernel)];exact⟨rfl,rfl⟩))
  (λ os started H enc _=>lifted os started H enc)
theorem proved:Rows.CoreDecidesSaid:=
 Bc
end
end Go.Proofs.YtogdlkfacflmaaaGreat.coreDecides
set_option maxHeartbeats 8000000
