/- Proved: chalklinelaw27.CoreAgreesWithSolver returns true for every input, and leaves its arguments as they were. No condition. (The frame follows the kit's proof-skeleton.mjs.) -/
import Derived.Test.YtogdlkfacflmaaaGreatRows
import Derived.WalkKit
import Derived.ProofKit
import Derived.OpenShut
import Derived.Test.YtogdlkfacflmaaaGreatZW17
import Derived.Test.YtogdlkfacflmaaaGreatZW21
import Derived.Test.YtogdlkfacflmaaaGreatZW1
namespace Go.Proofs.YtogdlkfacflmaaaGreat.coreAgreesWithSolver
set_option linter.unusedVariables false
set_option linter.unusedSimpArgs false
set_option maxRecDepth 100000
set_option maxHeartbeats 8000000
open _root_.Go.Proofs.Tryz renaming prog→z_,checked→x_
open _root_.Go renaming trodAll_cons_mk→y_
section
open Go.ChangeShapes Go.WideShapes Go.ChangeAt Go.RowKit
theorem PN{l:List Int}(h:∀z∈l,(Lit.int .i64 z).wf=true):tn l:=λ z b=>by
 have h1:=h z b;simp only[Lit.wf,Bool.and_eq_true,decide_eq_true_eq] at h1;have c:IntKind.i64.min= -9223372036854775808:=rfl;have d:IntKind.i64.max=9223372036854775807:=rfl;rw[c,d] at h1;exact h1
theorem lifted(os:Os)(started:os.Started)(H:Type)(enc:TypeId×Value->H):
  ReturnsInHanded {} x_ os 7 .any (Rows.coreAgreesWithSolverSpec.pre6 enc z_ Tryz.f7 Rows.coreAgreesWithSolverRow.domain false) (Rows.coreAgreesWithSolverSpec.post enc z_ Tryz.f7 false true false false):=by
 refine returnsInHanded_of_change_sized (C:=x_) N6 started (by kernel_rfl) Tryz.func7
  (ChangeSpec.witness6 (enc:=enc) (C:=x_) false ⟨#[], #[.agg #[.int .i64 0,.slice none 0 0],.slice none 0 0],[]⟩ 8 (by kernel_rfl) (by kernel_rfl) (by kernel_rfl) (by kernel_rfl)) ?_
 intro W base args ds gs before l d L m _;have f:(DataW.weightsEach z_ (Tryz.f7.params.toList++Rows.coreAgreesWithSolverSpec.plain.varTypes z_) (ds++gs)).all (·<=reachBytes)=true:=m;clear m;have g:∀(j:Nat) t v,Tryz.f7.params[j]? =some t->args[j]? =some v->Value.okWide z_ W .any base t v:=l;have o:=d;have i:=d.lt;obtain⟨p,q,r,w,rfl,M,N⟩:=d;have s:DataW.TrodAll enc z_ W 0 (λ _=>true) true Tryz.f7.params.toList args.toList ds p:=r;rw[Tryz.params7] at s g f;obtain⟨v0,O,d0,P,y,Q,R,rfl,rfl,u,z⟩:=trodAll_cons s;obtain⟨v1,S,d1,T,B,U,rfl,rfl,rfl,h1,D⟩:=trodAll_cons z;obtain⟨rfl,rfl,rfl⟩:=trodAll_nil D;obtain rfl:args= #[v0,v1]:=by cases args;simp_all
 obtain⟨rfl,rfl⟩:=trodVars_none w;have g0:=u;obtain⟨x,A,n,c,ls,rfl,E,V,X⟩:=Oe (g 0 24 v0 rfl rfl) u (HF f (j:=0) rfl rfl);have g1:=h1;obtain⟨F,nq,G,I,rfl,J,K⟩:=Oh (g 1 25 v1 rfl rfl) h1 (HF f (j:=1) rfl rfl);clear r l;simp only[List.append_nil] at o i;refine(PL x A n c ls F nq G I W E J (PN K)).mono λ e W' ⟨he,k⟩=>?_
 subst he;exact⟨_,rfl,N5 (pa:=(y++(B++[]))) (pv:=[]) o (λ _ _ _=>(y_ (shut_bool Tryz.underlying4 _) trodAll_mk0)) (λ sp hs=>(y_ (Of g0 k (λ x b=>i x (by simp[b])) (λ x b=>hs x (by simp[b]))) (y_ (Og g1 k (λ x b=>i x (by simp[b])) (λ x b=>hs x (by simp[b]))) trodAll_mk0))) (λ _ _=>rfl) (by simp)
  k (ok_one (by kernel_rfl) rfl (okWide_bool_mk Tryz.underlying4 _))⟩
theorem closed:joinedFacts z_ 7 Tryz.f7 Rows.coreAgreesWithSolverSpec Rows.coreAgreesWithSolverRow=true:=by
 simp only[joinedFacts,Bool.and_eq_true,Ou,made,Ov]
 repeat' apply And.intro
 all_goals first|(as_aux_lemma=>kernel_rfl)|trivial
theorem PO:Rows.coreAgreesWithSolverRow.holds Tryz.pinned (OpenSpec.ofChange Rows.coreAgreesWithSolverSpec):=
 OpenClaim.holds_of_wide 7 Tryz.f7 rfl rfl rfl rfl rfl rfl rfl ⟨rfl,rfl,rfl,rfl,rfl⟩ rfl rfl rfl rfl rfl (by kernel_rfl) Tryz.func7 closed
  (of_decide_eq_true (by kernel_rfl)) (by unfold Func.isWrapper;first|(rw[if_pos (by decide+kernel)];kernel_rfl)|(rw[if_neg (by decide+kernel)];exact⟨rfl,rfl⟩))
  (λ os started H enc _=>lifted os started H enc)
theorem proved:Rows.CoreAgreesWithSolverSaid:=
 PO
end
end Go.Proofs.YtogdlkfacflmaaaGreat.coreAgreesWithSolver
set_option maxHeartbeats 8000000
