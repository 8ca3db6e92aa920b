/- Proved: chalklinelaw25.SolverEnumeratesModels returns true for every input, and leaves its arguments as they were. No condition. (The frame follows the kit's proof-skeleton.mjs.) -/
import Derived.Test.YtogdlkfacflmaaaGreatRows
import Derived.WalkKit
import Derived.ProofKit
import Derived.OpenShut
import Derived.Test.YtogdlkfacflmaaaGreatZV9
import Derived.Test.YtogdlkfacflmaaaGreatZVSRW151
import Derived.Test.YtogdlkfacflmaaaGreatZV11
import Derived.Test.YtogdlkfacflmaaaGreatZV1
namespace Go.Proofs.YtogdlkfacflmaaaGreat.solverEnumeratesModels
set_option linter.unusedVariables false
set_option linter.unusedSimpArgs false
set_option maxRecDepth 100000
set_option maxHeartbeats 8000000
open _root_.Go.Proofs.Tryz renaming prog→z_,checked→x_
open _root_.Go renaming trodAll_cons_mk→y_
section
open Go.ChangeShapes Go.WideShapes Go.ChangeAt Go.RowKit
theorem lifted(os:Os)(started:os.Started)(H:Type)(enc:TypeId×Value->H):
  ReturnsInHanded {} x_ os 15 .any (Rows.solverEnumeratesModelsSpec.pre6 enc z_ Tryz.f15 Rows.solverEnumeratesModelsRow.domain false) (Rows.solverEnumeratesModelsSpec.post enc z_ Tryz.f15 false true false false):=by
 refine returnsInHanded_of_change_sized (C:=x_) Ij started (by kernel_rfl) Tryz.func15
  (ChangeSpec.witness6 (enc:=enc) (C:=x_) false ⟨#[], #[.int .i64 0,.slice none 0 0],[]⟩ 8 (by kernel_rfl) (by kernel_rfl) (by kernel_rfl) (by kernel_rfl)) ?_
 intro W base args ds gs before f b A g _;have i:(DataW.weightsEach z_ (Tryz.f15.params.toList++Rows.solverEnumeratesModelsSpec.plain.varTypes z_) (ds++gs)).all (·<=reachBytes)=true:=g;clear g;have c:∀(j:Nat) t v,Tryz.f15.params[j]? =some t->args[j]? =some v->Value.okWide z_ W .any base t v:=f;have k:=b;have l:=b.lt;obtain⟨p,q,m,r,rfl,B,D⟩:=b;have n:DataW.TrodAll enc z_ W 0 (λ _=>true) true Tryz.f15.params.toList args.toList ds p:=m;rw[Tryz.params15] at n c i;obtain⟨v0,E,d0,F,G,I,J,rfl,rfl,s,u⟩:=trodAll_cons n;obtain⟨v1,K,d1,L,w,M,rfl,rfl,rfl,h1,y⟩:=trodAll_cons u;obtain⟨rfl,rfl,rfl⟩:=trodAll_nil y;obtain rfl:args= #[v0,v1]:=by cases args;simp_all
 obtain⟨rfl,rfl⟩:=trodVars_none r;obtain⟨a0,rfl,rfl,rfl,w0⟩:=open_int Tryz.underlying3 (c 0 3 v0 rfl rfl) s;have g1:=h1;obtain⟨z,no,co,es,rfl,hO⟩:=I6 (c 1 66 v1 rfl rfl) h1 (Il i (j:=1) rfl rfl);clear m f;simp only[List.append_nil] at k l;refine(Q9 a0 z no co es W hO).mono λ e W' ⟨he,o⟩=>?_
 subst he;exact⟨_,rfl,Ii (pa:=([]++(w++[]))) (pv:=[]) k (λ _ _ _=>(y_ (shut_bool Tryz.underlying4 _) trodAll_mk0)) (λ sp hs=>(y_ (shut_int Tryz.underlying3 w0) (y_ (I5 g1 o (λ x d=>l x (by simp[d])) (λ x d=>hs x (by simp[d]))) trodAll_mk0))) (λ _ _=>rfl) (by simp)
  o (ok_one (by kernel_rfl) rfl (okWide_bool_mk Tryz.underlying4 _))⟩
theorem closed:joinedFacts z_ 15 Tryz.f15 Rows.solverEnumeratesModelsSpec Rows.solverEnumeratesModelsRow=true:=by
 simp only[joinedFacts,Bool.and_eq_true,Iw,made,Iy]
 repeat' apply And.intro
 all_goals first|(as_aux_lemma=>kernel_rfl)|trivial
theorem Qt:Rows.solverEnumeratesModelsRow.holds Tryz.pinned (OpenSpec.ofChange Rows.solverEnumeratesModelsSpec):=
 OpenClaim.holds_of_wide 15 Tryz.f15 rfl rfl rfl rfl rfl rfl rfl ⟨rfl,rfl,rfl,rfl,rfl⟩ rfl rfl rfl rfl rfl (by kernel_rfl) Tryz.func15 closed
  (of_decide_eq_true (by kernel_rfl)) (by unfold Func.isWrapper;first|(rw[if_pos (by decide+kernel)];kernel_rfl)|(rw[if_neg (by decide+kernel)];exact⟨rfl,rfl⟩))
  (λ os started H enc _=>lifted os started H enc)
theorem proved:Rows.SolverEnumeratesModelsSaid:=
 Qt
end
end Go.Proofs.YtogdlkfacflmaaaGreat.solverEnumeratesModels
set_option maxHeartbeats 8000000
