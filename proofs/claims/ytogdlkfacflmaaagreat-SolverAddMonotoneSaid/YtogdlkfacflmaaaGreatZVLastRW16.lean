/- Proved: chalklinelaw25.SolverAddMonotone returns true for every input, and leaves its arguments as they were. No condition. (The frame follows the kit's proof-skeleton.mjs.) -/
import Derived.Test.YtogdlkfacflmaaaGreatRows
import Derived.WalkKit
import Derived.ProofKit
import Derived.OpenShut
import Derived.Test.YtogdlkfacflmaaaGreatZV9
import Derived.Test.YtogdlkfacflmaaaGreatZVSRW161
import Derived.Test.YtogdlkfacflmaaaGreatZV11
import Derived.Test.YtogdlkfacflmaaaGreatZV1
namespace Go.Proofs.YtogdlkfacflmaaaGreat.solverAddMonotone
set_option linter.unusedVariables false
set_option linter.unusedSimpArgs false
set_option maxRecDepth 100000
set_option maxHeartbeats 8000000
open _root_.Go renaming trodAll_cons_mk→z_
open _root_.Go.Proofs.Tryz renaming prog→y_,checked→x_
section
open Go.ChangeShapes Go.WideShapes Go.ChangeAt Go.RowKit
theorem lifted(os:Os)(started:os.Started)(H:Type)(enc:TypeId×Value->H):
  ReturnsInHanded {} x_ os 16 .any (Rows.solverAddMonotoneSpec.pre6 enc y_ Tryz.f16 Rows.solverAddMonotoneRow.domain false) (Rows.solverAddMonotoneSpec.post enc y_ Tryz.f16 false true false false):=by
 refine returnsInHanded_of_change_sized (C:=x_) Ij started (by kernel_rfl) Tryz.func16
  (ChangeSpec.witness6 (enc:=enc) (C:=x_) false ⟨#[], #[.int .i64 0,.slice none 0 0,.slice none 0 0,.slice none 0 0],[]⟩ 8 (by kernel_rfl) (by kernel_rfl) (by kernel_rfl) (by kernel_rfl)) ?_
 intro W base args ds gs before k i Q l _;have d:(DataW.weightsEach y_ (Tryz.f16.params.toList++Rows.solverAddMonotoneSpec.plain.varTypes y_) (ds++gs)).all (·<=reachBytes)=true:=l;clear l;have c:∀(j:Nat) t v,Tryz.f16.params[j]? =some t->args[j]? =some v->Value.okWide y_ W .any base t v:=k;have m:=i;have f:=i.lt;obtain⟨p,q,n,u,rfl,R,S⟩:=i;have o:DataW.TrodAll enc y_ W 0 (λ _=>true) true Tryz.f16.params.toList args.toList ds p:=n;rw[Tryz.params16] at o c d;obtain⟨v0,T,d0,U,V,X,Y,rfl,rfl,w,y⟩:=trodAll_cons o;obtain⟨v1,Z,d1,ab,z,ad,rfl,rfl,rfl,h1,A⟩:=trodAll_cons y;obtain⟨v2,ae,d2,al,B,ao,rfl,rfl,rfl,r,D⟩:=trodAll_cons A;obtain⟨v3,ar,d3,aw,E,aE,rfl,rfl,rfl,s,F⟩:=trodAll_cons D;obtain⟨rfl,rfl,rfl⟩:=trodAll_nil F;obtain rfl:args= #[v0,v1,v2,v3]:=by cases args;simp_all
 obtain⟨rfl,rfl⟩:=trodVars_none u;obtain⟨a0,rfl,rfl,rfl,w0⟩:=open_int Tryz.underlying3 (c 0 3 v0 rfl rfl) w;have g1:=h1;obtain⟨G,no,co,es,rfl,hO⟩:=I6 (c 1 66 v1 rfl rfl) h1 (Il d (j:=1) rfl rfl);have g2:=r;obtain⟨I,J,K,lm,rfl,L,a6⟩:=Is (c 2 25 v2 rfl rfl) r (Il d (j:=2) rfl rfl);have g3:=s;obtain⟨M,nq,N,O,rfl,P,a7⟩:=Is (c 3 25 v3 rfl rfl) s (Il d (j:=3) rfl rfl);clear n k;simp only[List.append_nil] at m f;refine(QX a0 G no co es I J K lm M nq N O W hO L P).mono λ e W' ⟨he,g⟩=>?_
 subst he;exact⟨_,rfl,Ii (pa:=([]++(z++(B++(E++[]))))) (pv:=[]) m (λ _ _ _=>(z_ (shut_bool Tryz.underlying4 _) trodAll_mk0)) (λ sp hs=>(z_ (shut_int Tryz.underlying3 w0) (z_ (I5 g1 g (λ x b=>f x (by simp[b])) (λ x b=>hs x (by simp[b]))) (z_ (Ir g2 g (λ x b=>f x (by simp[b])) (λ x b=>hs x (by simp[b]))) (z_ (Ir g3 g (λ x b=>f x (by simp[b])) (λ x b=>hs x (by simp[b]))) trodAll_mk0))))) (λ _ _=>rfl) (by simp)
  g (ok_one (by kernel_rfl) rfl (okWide_bool_mk Tryz.underlying4 _))⟩
theorem closed:joinedFacts y_ 16 Tryz.f16 Rows.solverAddMonotoneSpec Rows.solverAddMonotoneRow=true:=by
 simp only[joinedFacts,Bool.and_eq_true,Iw,made,Iy]
 repeat' apply And.intro
 all_goals first|(as_aux_lemma=>kernel_rfl)|trivial
theorem Qt:Rows.solverAddMonotoneRow.holds Tryz.pinned (OpenSpec.ofChange Rows.solverAddMonotoneSpec):=
 OpenClaim.holds_of_wide 16 Tryz.f16 rfl rfl rfl rfl rfl rfl rfl ⟨rfl,rfl,rfl,rfl,rfl⟩ rfl rfl rfl rfl rfl (by kernel_rfl) Tryz.func16 closed
  (of_decide_eq_true (by kernel_rfl)) (by unfold Func.isWrapper;first|(rw[if_pos (by decide+kernel)];kernel_rfl)|(rw[if_neg (by decide+kernel)];exact⟨rfl,rfl⟩))
  (λ os started H enc _=>lifted os started H enc)
theorem proved:Rows.SolverAddMonotoneSaid:=
 Qt
end
end Go.Proofs.YtogdlkfacflmaaaGreat.solverAddMonotone
set_option maxHeartbeats 8000000
