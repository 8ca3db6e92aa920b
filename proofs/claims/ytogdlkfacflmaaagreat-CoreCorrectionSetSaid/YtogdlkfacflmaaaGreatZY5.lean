/- Parts of the walk of the solver and its core; no condition. -/
import Derived.Test.YtogdlkfacflmaaaGreatZY4
import Derived.Test.YtogdlkfacflmaaaGreatZY2
import Derived.OwnWalkIn
import Derived.TacticsInMore
import Derived.LoopNIn
import Derived.LoopIn
import Derived.Test.YtogdlkfacflmaaaGreatZY1
namespace Go.Proofs.YtogdlkfacflmaaaGreat
set_option linter.unusedVariables false
set_option linter.unusedSimpArgs false
set_option maxRecDepth 100000
set_option maxHeartbeats 4000000
open _root_.And renaming intro→z_
open _root_.Go.Proofs.Tryz renaming prog→y_
open _root_.Int renaming tdiv_eq_ediv_of_nonneg→x_,tdiv→f_
open _root_.List renaming getD_eq_getElem?_getD→w_,replicate→u_,mem_append_left→t_,getElem?_eq_some_iff→s_,length_append→r_,mem_map→p_,length_set→o_,eq_nil_of_length_eq_zero→n_,length_drop→m_,getElem?_replicate→k_,length_map→j_,getElem?_eq_none→i_,take_zero→h_,mem_cons_of_mem→g_
open _root_.Array renaming getElem?_eq_some_iff→v_
open _root_.Go.IntKind renaming i64→q_,wrap_i64→l_
open _root_.Go.Value renaming slice→e_
variable{n b p base G l k bL m:Nat}{w W W':World}{K:Nat->Prop}{hs:Nat->ay}{cb:Nat->Nat}{s s1:au}{A B A' x:Int}
section
def ya(a b:List Int):Prop:=∀x,x∈a↔x∈b
structure mF(F:List (List Int))(jW:List Int)(n fR:Nat)(s:au)(sp h:Nat):Prop where
 gV:kG F F s.c h []
 rg:mE n jK (jK*(1+16*(sp:Int))) s
 wg:ny s.c jW
 lb:qq s.c jW.length
 un:∀v,1<=v->v<=n->ak s.c.val v=0->0<=ak s.pl v
 aQ:s.aQ=u_ (n+1) false
 xk:(s.aO.map (az s.c.cl)).Pairwise λ a b=>¬ya a b
 qs:s.aO.length=fR+sp
 yX:∀l∈s.nl,∀x∈l,gP n x
 v0:ak s.c.val 0=0
 qK:o7 s.c
structure bD(level:Nat)(s s':au):Prop where
 c:s'.c=mN s.c level
 aO:s'.aO=s.aO
 aF:s'.aF=s.aF
 aQ:s'.aQ=s.aQ
 nl:s'.nl=s.nl
 jG:s'.jG=s.jG
 ci:s'.ci=s.ci
 bz:s'.bz=s.bz
 yY:∀v,0<=ak s.pl v->0<=ak s'.pl v
 Gb:∀v,1<=v->v<=s.c.n->ak s'.c.val v=0->ak s.c.val v=0\/0<=ak s'.pl v
theorem yZ(l:List r0)(x:r0)(d:Nat):(l++[x]).getD d ⟨false,0,0⟩=if d=l.length then x else l.getD d ⟨false,0,0⟩:=by
 simp only[w_]
 by_cases h:d<l.length
 ·rw[List.getElem?_append_left h,if_neg (by omega)]
 ·rw[List.getElem?_append_right (by omega)]
  by_cases b:d=l.length
  ·subst b;simp
  ·rw[if_neg b,i_ (by simp;omega),i_ (by omega)]
section
variable {F:List (List Int)}{jW:List Int}{n fR:Nat}{s s':au}{sp h h':Nat}
theorem qd{c:Core}(T:j9 c){v:Nat}(h1:1<=v)(b:v<=c.n):ak c.val v=0↔¬(v:Int)∈c.ax/\¬-(v:Int)∈c.ax:=by
 have hl:gP c.n (v:Int):=⟨by unfold aD;omega,by unfold aD;omega⟩
 rw[<-T.open hl];unfold ki aD;rw[if_neg (by omega),Int.natAbs_natCast]
theorem BH{f g:Nat->List Int}:∀(l:List Nat),(∀d∈l,ya (g d) (f d))->(l.map f).Pairwise (λ a b=>¬ya a b)->(l.map g).Pairwise (λ a b=>¬ya a b)
 |[],_,_=>List.Pairwise.nil
 |d::l,hs,hp=>by
  rw[List.map_cons,List.pairwise_cons] at hp⊢;refine⟨λ b c=>?_,BH l (λ e he=>hs e (g_ _ he)) hp.2⟩;obtain⟨e,he,rfl⟩:=p_.1 c;intro i;refine hp.1 (f e) (p_.2 ⟨e,he,rfl⟩) (λ x=>?_);have h1:=hs d List.mem_cons_self x;have j:=hs e (g_ _ he) x;exact h1.symm.trans ((i x).trans j)
theorem mF.run(S:mF F jW n fR s sp h){c':Core}(m:tO s.c c')(L:kG F F c' h' [])(A:ny c' jW):mF F jW n fR {s with c:=c'} sp h':=by
 have i:c'.n=n:=m.n.trans S.rg.jH;refine⟨L,⟨i,S.rg.lW,S.rg.lB,S.rg.qp,S.rg.a0,S.rg.rm,S.rg.oQ,S.rg.nM,S.rg.o8,?_,S.rg.qc,λ d j=>?_⟩,A,S.lb.grow m.st ?_,λ v h1 b k=>S.un v h1 b ?_,S.aQ,?_,S.qs,S.yX,m.v0.trans S.v0,m.qK S.qK⟩
 ·show s.ci.length=c'.cl.length;rw[m.len];exact S.rg.nN
 ·show d<c'.cl.length;rw[m.len];exact S.rg.k8 d j
 ·obtain⟨e,he⟩:=m.ax;rw[he,r_];omega
 ·have f:=(qd L.aN h1 (by rw[i];exact b)).1 k;obtain⟨e,he⟩:=m.ax;rw[he] at f;exact(qd S.gV.aN h1 (by rw[S.rg.jH];exact b)).2 ⟨λ g=>f.1 (t_ _ g),λ g=>f.2 (t_ _ g)⟩
 ·exact BH _ (λ d _ x=>m.cls d x) S.xk
theorem mF.back(S:mF F jW n fR s sp h){level:Nat}(hl:level<s.c.st.length)(k:bD level s s')(r:mE n jK (jK*(1+16*(sp:Int))) s'):mF F jW n fR s' sp (hU s.c.st level):=by
 have f:∀d,az s'.c.cl d=az s.c.cl d:=λ d=>by rw[k.c];rfl
 refine⟨by rw[k.c];exact S.gV.back hl,r,by rw[k.c];exact S.wg.back S.gV.aN hl,by rw[k.c];exact S.lb.back S.gV.aN hl,λ v h1 e g=>?_,k.aQ.trans S.aQ,?_,by rw[k.aO];exact S.qs,by rw[k.nl];exact S.yX,?_,by rw[k.c];exact S.qK.back level⟩
 ·rcases k.Gb v h1 (by rw[S.rg.jH];exact e) g with b|b
  ·exact k.yY v (S.un v h1 e b)
  ·exact b
 ·rw[k.aO];exact BH _ (λ d _ x=>by rw[f]) S.xk
 ·rw[k.c];show ak (zero s.c.val _) 0=0;rw[yN];split
  ·rfl
  ·exact S.v0
theorem mF.nA(S:mF F jW n fR s sp h):s.aO.length+1<=3^n:=by
 have:=FK (n:=n) (ls:=s.aO.map (az s.c.cl)) (λ l hl=>by
  obtain⟨d,b,rfl⟩:=p_.1 hl;have:=S.gV.jS.mM d (S.rg.k8 d b);rw[S.rg.jH] at this;exact this) (S.xk.imp λ h e=>h e)
 rwa[j_] at this
theorem mF.level(S:mF F jW n fR s sp h)(b:h=s.c.ax.length)(d:s.c.mm=false)(hk:s.c.st.length<jW.length)(e:ak jW s.c.st.length∈s.c.ax):mF F jW n fR {s with c:=nx s.c} sp h:=by
 subst b;refine⟨S.gV.level d,⟨S.rg.jH,S.rg.lW,S.rg.lB,S.rg.qp,S.rg.a0,S.rg.rm,S.rg.oQ,S.rg.nM,S.rg.o8,S.rg.nN,S.rg.qc,S.rg.k8⟩,S.wg.level S.gV.aN (λ _=>e),S.lb.level S.gV.aN hk,S.un,S.aQ,S.xk,S.qs,S.yX,S.v0,S.qK⟩
theorem mF.decide{aI:au}(S:mF F jW n fR s sp h)(b:h=s.c.ax.length)(o:s.c.mm=false){x:Int}(j:gP n x)(k:ki s.c x=0)(p:s.c.st.length<jW.length->x=ak jW s.c.st.length)
  (e:aI={s with ord:=aI.ord,pl:=aI.pl}) (q:mw n aI.ord aI.pl) (r:∀v:Nat,1<=v->v<=n->ak s.c.val v=0->v≠aD x->0<=ak aI.pl v):
  mF F jW n fR {aI with c:=lC (nx s.c) x none} sp h:=by
 subst b;rw[e];have l:gP s.c.n x:=by rw[S.rg.jH];exact j
 have G:=S.gV.decide o l k;refine⟨G,⟨S.rg.jH,q,S.rg.lB,S.rg.qp,S.rg.a0,S.rg.rm,S.rg.oQ,S.rg.nM,S.rg.o8,S.rg.nN,S.rg.qc,S.rg.k8⟩,S.wg.decide S.gV.aN l k p,S.lb.decide S.gV.aN x,λ v h1 g t=>?_,S.aQ,S.xk,S.qs,S.yX,by show ak (s.c.val.set _ _) 0=0;rw[oZ,if_neg (by have:=j.1;omega)];exact S.v0,o7.set (show o7 (nx s.c) from S.qK) none (λ d u=>by cases u)⟩;have f:=(qd G.aN h1 (by show v<=s.c.n;rw[S.rg.jH];exact g)).1 t;have w:(lC (nx s.c) x none).ax=s.c.ax++[x]:=rfl;rw[w] at f;have y:=(qd S.gV.aN h1 (by rw[S.rg.jH];exact g)).2 ⟨λ b=>f.1 (t_ _ b),λ b=>f.2 (t_ _ b)⟩;refine r v h1 g y (λ m=>?_);rcases Int.natAbs_eq x with i|i
 ·exact f.1 (by rw[m];unfold aD;rw[<-i];simp)
 ·exact f.2 (by rw[m];unfold aD;rw[<-i];simp)
end
end
section
def kr(b:List Bool)(x:Int):Bool:=if x<0 then !(iY b x.natAbs) else iY b x.natAbs
theorem wh(b:List Bool):Mod (kr b):=λ x c=>by
 unfold kr;rw[Int.natAbs_neg]
 by_cases h:x<0
 ·rw[if_pos h,if_neg (by omega)];simp
 ·rw[if_neg h,if_pos (by omega)]
def wj(s:au):List Bool:=(List.range (s.c.n+1)).map λ v=>decide (0<ak s.c.val v)
theorem KI(s:au):(wj s).length=s.c.n+1:=by simp[wj]
theorem Dr(s:au){v:Nat}(h:v<=s.c.n):iY (wj s) v=decide (0<ak s.c.val v):=by
 unfold wj iY;rw[w_,List.getElem?_map,List.getElem?_range (by omega)];rfl
section
variable {F:List (List Int)}{jW:List Int}{n fR:Nat}{s:au}{sp h:Nat}
theorem Gc(T:j9 s.c)(x:Int)(f:gP s.c.n x)(d:ki s.c x≠0):kr (wj s) x=true↔ki s.c x=1:=by
 have g:x.natAbs<=s.c.n:=f.2;have e:=T.range x;unfold ki at*;unfold kr;unfold aD at*;rw[Dr s g]
 by_cases b:x<0
 ·rw[if_pos b];rw[if_pos b] at d e⊢;simp only[Bool.not_eq_true',decide_eq_false_iff_not];omega
 ·rw[if_neg b];rw[if_neg b] at d e⊢;simp only[decide_eq_true_eq];omega
theorem mF.yes(S:mF F jW n fR s sp h)(j:h=s.c.ax.length)(k:s.c.mm=false)(p:s.ord.length=0)(hF:∀g∈F,∀x∈g,gP n x)(hl:jW.length<=s.c.st.length):
  (∀g∈F,sW (kr (wj s)) g)/\(∀x∈jW,kr (wj s) x=true):=by
 subst j;have T:=S.gV.aN;have e:∀x,gP s.c.n x->ki s.c x≠0:=λ x b i=>by
  have l:ak s.c.val (aD x)=0:=by unfold ki at i;split at i<;>omega
  have d:gP n x:=by rw[<-S.rg.jH];exact b
  have h1:=S.un (aD x) d.1 d.2 l;have q:=(S.rg.lW.o (aD x) d.1 d.2 h1).1;omega
 refine⟨Kb S.gV k e (wh _) (λ x b=>Gc T x b (e x b)) (λ g m x b=>by rw[S.rg.jH];exact hF g m x b),λ x b=>?_⟩;have hm:=S.wg.all hl x b;have f:=T.lit x hm;exact(Gc T x f (e x f)).2 ((T.pos x f).2 hm)
theorem mF.KJ(S:mF F jW n fR s sp h):iY (wj s) 0=false:=by
 rw[Dr s (Nat.zero_le _),S.v0];rfl
theorem mF.core(S:mF F jW n fR s sp h)(hk:s.c.st.length<jW.length){p:Int}(hp:ak jW s.c.st.length=p){out:List Int}
  (g:∀x∈out,x=p\/(x∈s.c.ax/\mH s.c.kF (aD x)=none)) (hu:∀M,sX M F->¬∀x∈p::out,M x=true) (j:p∈out):
  ∀M,sX M F->¬∀x∈jW.filter (λ x=>out.contains x),M x=true:=by
 intro M l m;refine hu M l (λ x b=>?_);have d:x∈out:=by
  rcases List.mem_cons.1 b with rfl|b
  ·exact j
  ·exact b
 refine m x (List.mem_filter.2 ⟨?_,by simpa using d⟩);rcases g x d with rfl|⟨h1,o⟩
 ·rw[<-hp];exact mc hk
 ·obtain⟨i,q,e⟩:=qn.1 h1;obtain⟨k,r,t,f⟩:=S.wg.dec i q (by rw[e];exact o);rw[e] at f;rw[f (by omega)];exact mc (by omega)
end
end
section
def oe(n:Nat):Core:=⟨n,u_ (2*n+2) [],u_ (n+1) 0,u_ (n+1) 0,u_ (n+1) none,[],[],0,false,[]⟩
theorem Ag(n:Nat)(k:Nat):ak (u_ n 0) k=0:=by
 unfold ak;rw[w_,k_];split<;>rfl
theorem BI{α:Type}(n:Nat)(k:Nat):az (u_ n ([]:List α)) k=[]:=by
 unfold az;rw[w_,k_];split<;>rfl
theorem kG.init(F:List (List Int))(n:Nat):kG F [] (oe n) 0 []:=by
 have f:∀x,ki (oe n) x=0:=λ x=>by
  unfold ki;have:∀k,ak (oe n).val k=0:=Ag _;rw[this];split<;>rfl
 refine⟨⟨by simp[oe],by simp[oe],by simp[oe],λ x e=>by simp[oe] at e,by simp[oe],λ v=>Or.inl (Ag _ _),λ x e=>?_,λ j k _ hk=>by simp[oe] at hk,λ k hk=>by simp[oe] at hk,λ i c=>by simp[oe] at c,λ i c=>by simp[oe] at c⟩,
  ⟨λ d b=>by simp[oe] at b,λ d b=>by simp[oe] at b,λ g l=>by simp at l,λ h=>by simp[oe] at h,Or.inr λ d b=>by simp[oe] at b⟩,
  ⟨by simp[oe],λ k d b=>?_,λ k=>?_,λ d b=>by simp[oe] at b⟩,λ d b=>by simp[oe] at b,λ k hk=>by simp[oe] at hk,λ k hk=>by simp[oe] at hk,Nat.zero_le _⟩
 ·rw[f];simp[oe]
 ·have:az (oe n).wt k=[]:=BI _ _;rw[this] at b;cases b
 ·have:az (oe n).wt k=[]:=BI _ _;rw[this];exact List.nodup_nil
structure Gd(n:Nat)(F:List (List Int))(g l:List Int)(both:Bool):Prop where
 ok:both=false->l≠ []->oN n l
 imp:both=false->rD F l
 mem:∀x,x∈l↔x∈g
 KK:both=true->vr g
def au.oE(s:au)(l:List Int)(both:Bool)(x:r0):au:={s with c:=pE s.c l both,ci:=if both=true\/l.length=0 then s.ci else s.ci++[x]}
section
variable {F Fd:List (List Int)}{c:Core}{n:Nat}
theorem ny.low(T:j9 c)(hs:c.st=[])(b:List Int):ny c b:=by
 refine⟨λ k hk=>by rw[hs] at hk;simp at hk,λ i d hw=>?_⟩;have:=T.p7 i d;rw[hw] at this;obtain⟨k,hk,_⟩:=this;rw[hs] at hk;simp at hk
theorem KL{l:List Int}{b:Bool}(h:ak c.val 0=0)(hl:b=false->l≠ []->oN n l):ak (pE c l b).val 0=0:=by
 unfold pE
 by_cases h1:b=true
 ·rw[if_pos h1];exact h
 ·rw[if_neg h1]
  by_cases d:l.length=0
  ·rw[if_pos d];exact h
  ·rw[if_neg d]
   by_cases f:l.length=1
   ·rw[if_pos f]
    by_cases g:ki c (ak l 0)= -1
    ·rw[if_pos g];exact h
    ·rw[if_neg g]
     by_cases i:ki c (ak l 0)=0
     ·rw[if_pos i];show ak (c.val.set _ _) 0=0;have:=((hl (by simpa using h1) (λ e=>d (by rw[e];rfl))).lt (ak l 0) (mc (by omega))).1;rw[oZ,if_neg (by omega)];exact h
     ·rw[if_neg i];exact h
   ·rw[if_neg f];exact h
end
structure y4(F Fd:List (List Int))(n:Nat)(s:au):Prop where
 gV:kG F Fd s.c 0 []
 jH:s.c.n=n
 st:s.c.st=[]
 ag:s.c.ag=0
 v0:ak s.c.val 0=0
 nN:s.ci.length=s.c.cl.length
 qc:∀d,0<=(lN s d).ac/\(lN s d).ac<=jK/\0<=(lN s d).bp/\(lN s d).bp<=jK
theorem y4.take{F Fd:List (List Int)}{n:Nat}{s:au}(h:y4 F Fd n s){g l:List Int}{both:Bool}(k:Gd n F g l both){x:r0}(b:0<=x.ac/\x.ac<=jK/\0<=x.bp/\x.bp<=jK):y4 F (Fd++[g]) n (s.oE l both x):=by
 refine⟨h.gV.take h.st rfl (by rw[h.jH];exact k.ok) k.imp k.mem k.KK,(Kw _ _ _).trans h.jH,(Kx _ _ _).trans h.st,(Ky _ _ _).trans h.ag,KL h.v0 k.ok,?_,λ d=>?_⟩
 ·show(if both=true\/l.length=0 then s.ci else s.ci++[x]).length=(pE s.c l both).cl.length;rw[BB];split
  ·exact h.nN
  ·rw[r_,r_,h.nN];rfl
 ·have e:lN (s.oE l both x) d=(if both=true\/l.length=0 then s.ci else s.ci++[x]).getD d ⟨false,0,0⟩:=rfl;rw[e];split
  ·exact h.qc d
  ·rw[yZ];split
   ·exact b
   ·exact h.qc d
theorem KM(s:au)(l:List Int)(both:Bool)(x:r0){d:Nat}(b:d<s.c.cl.length)(e:s.ci.length=s.c.cl.length):az (s.oE l both x).c.cl d=az s.c.cl d/\lN (s.oE l both x) d=lN s d:=by
 refine⟨?_,?_⟩
 ·show az (pE s.c l both).cl d=_;rw[BB];split
  ·rfl
  ·exact Bl b
 ·show(if both=true\/l.length=0 then s.ci else s.ci++[x]).getD d ⟨false,0,0⟩=_;split
  ·rfl
  ·rw[yZ,if_neg (by omega)];rfl
theorem KN(s:au)(l:List Int)(x:r0)(hl:l≠ [])(d:s.ci.length=s.c.cl.length):(s.oE l false x).c.cl.length=s.c.cl.length+1/\az (s.oE l false x).c.cl s.c.cl.length=l/\lN (s.oE l false x) s.c.cl.length=x:=by
 have b:¬(false=true\/l.length=0):=λ h=>h.elim (λ h=>by cases h) (λ h=>hl (n_ h))
 have e:(s.oE l false x).c.cl=s.c.cl++[l]:=by
  show(pE s.c l false).cl=_;rw[BB,if_neg b]
 refine⟨by rw[e];simp,by rw[e];exact uU _ _,?_⟩;show(if false=true\/l.length=0 then s.ci else s.ci++[x]).getD s.c.cl.length ⟨false,0,0⟩=x;rw[if_neg b,yZ,if_pos d.symm]
end
section
theorem mw.len{ord pl:List Int}(O:mw n ord pl):ord.length<=n:=by
 have h:=xY n (ord.map λ x=>x.toNat-1) ?_ ?_
 ·rwa[j_] at h
 ·rw[List.nodup_iff_pairwise_ne,List.pairwise_iff_getElem];intro i j c d l e;rw[j_] at c d;rw[List.getElem_map,List.getElem_map] at e;have a:=O.inv i c;have b:=O.inv j d;rw[nu c] at a;rw[nu d] at b;have:=O.inj c d (by rw[nu c,nu d];omega);omega
 ·intro x f;obtain⟨y,g,rfl⟩:=p_.1 f;obtain⟨k,hk,rfl⟩:=qn.1 g;have:=O.inv k hk;omega
structure pV(s:au)(xs:List Int)(j:Nat)(s1:au):Prop where
 c:s1.c={s.c with val:=zero s.c.val (xs.take j),kF:=sZ s.c.kF (xs.take j)}
 act:s1.act=s.act
 bz:s1.bz=s.bz
 ci:s1.ci=s.ci
 aO:s1.aO=s.aO
 aF:s1.aF=s.aF
 aQ:s1.aQ=s.aQ
 nl:s1.nl=s.nl
 jG:s1.jG=s.jG
 nM:s1.ia.length=s.ia.length
 o8:iY s1.ia 0=iY s.ia 0
 lW:mw s.c.n s1.ord s1.pl
 yY:∀v,0<=ak s.pl v->0<=ak s1.pl v
 Ds:∀x∈xs.take j,0<=ak s1.pl (aD x)
def au.vw(s:au)(x:Int):au:={s with ord:=s.ord++[x]}
def au.Ge(s:au)(x:Nat):au:={s with c:={s.c with st:=s.c.st++[x]}}
def au.uZ(s:au)(x:Nat):au:={s with aO:=s.aO++[x]}
def au.uB(s:au)(v:Nat)(b:Bool):au:=((s.uw v b).o5 v 0).qI v none
section
variable {s s1:au}{xs:List Int}{j:Nat}
theorem pV.start(O:mw s.c.n s.ord s.pl):pV s xs 0 s:=
 ⟨by simp[zero,sZ],rfl,rfl,rfl,rfl,rfl,rfl,rfl,rfl,rfl,rfl,O,λ _ h=>h,λ x b=>by simp at b⟩
theorem y5{xs:List Int}{j:Nat}(b:j<xs.length):xs.take (j+1)=xs.take j++[ak xs j]:=by
 rw[nu b,List.take_succ_eq_append_getElem b]
theorem Gf(h:pV s xs j s1)(d:j<xs.length)(b:Bool):(s1.uB (aD (ak xs j)) b).c={s.c with val:=zero s.c.val (xs.take (j+1)),kF:=sZ s.c.kF (xs.take (j+1))}:=by
 unfold au.uB au.uw au.o5 au.qI;dsimp only;rw[h.c,y5 d];simp[zero,sZ,List.foldl_append]
theorem pV.stay(h:pV s xs j s1)(c:j<xs.length)(d:1<=aD (ak xs j))(b:Bool)(hp:0<=ak s1.pl (aD (ak xs j))):pV s xs (j+1) (s1.uB (aD (ak xs j)) b):=
 ⟨Gf h c b,h.act,h.bz,h.ci,h.aO,h.aF,h.aQ,h.nl,h.jG,by show(s1.ia.set _ _).length=_;rw[o_];exact h.nM,
  by show iY (s1.ia.set _ _) 0=_;rw[zS,if_neg (by omega)];exact h.o8,h.lW,h.yY,λ x hm=>by
   rw[y5 c] at hm;rcases List.mem_append.1 hm with hm|hm
   ·exact h.Ds x hm
   ·rw[List.mem_singleton.1 hm];exact hp⟩
theorem pV.push(h:pV s xs j s1)(b:1<=aD (ak xs j))(d:aD (ak xs j)<=s.c.n)(hp:ak s1.pl (aD (ak xs j))<0):mw s.c.n (s1.ord++[(aD (ak xs j):Int)]) (s1.pl.set (aD (ak xs j)) (s1.ord.length:Int)):=h.lW.push b d hp
theorem pV.back(h:pV s xs j s1)(d:j<xs.length)(q:1<=aD (ak xs j))(r:aD (ak xs j)<=s.c.n)(b:Bool)(hp:ak s1.pl (aD (ak xs j))<0){jf:au}
   (hO:pU (((s1.uB (aD (ak xs j)) b).pS (aD (ak xs j)) (s1.ord.length:Int)).vw (aD (ak xs j):Int)) jf):pV s xs (j+1) jf:=by
 obtain⟨o,p,he⟩:=hO.eq;have f:∀u,ak (s1.pl.set (aD (ak xs j)) (s1.ord.length:Int)) u=if aD (ak xs j)=u then (s1.ord.length:Int) else ak s1.pl u:=λ u=>by
   rw[oZ]
   by_cases e:aD (ak xs j)=u
   ·rw[if_pos e,if_pos ⟨e,by rw[h.lW.sx];omega⟩]
   ·rw[if_neg e,if_neg (λ k=>e k.1)]
 have g:∀u,0<=ak jf.pl u↔0<=ak (s1.pl.set (aD (ak xs j)) (s1.ord.length:Int)) u:=hO.same;have l:jf.c={s.c with val:=zero s.c.val (xs.take (j+1)),kF:=sZ s.c.kF (xs.take (j+1))}:=by rw[<-Gf h d b,he];rfl
 refine⟨l,by rw[he];exact h.act,by rw[he];exact h.bz,by rw[he];exact h.ci,by rw[he];exact h.aO,by rw[he];exact h.aF,by rw[he];exact h.aQ,by rw[he];exact h.nl,by rw[he];exact h.jG,
  by rw[he];show(s1.ia.set _ _).length=_;rw[o_];exact h.nM,
  by rw[he];show iY (s1.ia.set _ _) 0=_;rw[zS,if_neg (by omega)];exact h.o8,?_,λ v m=>?_,λ x hm=>?_⟩
 · have:=hO.lW;have e:(((s1.uB (aD (ak xs j)) b).pS (aD (ak xs j)) (s1.ord.length:Int)).vw (aD (ak xs j):Int)).c.n=s.c.n:=by show s1.c.n=_;rw[h.c]
   rwa[e] at this
 · rw[g,f];split
   ·omega
   ·exact h.yY v m
 · rw[y5 d] at hm;rw[g,f];split
   ·omega
   ·rename_i i;rcases List.mem_append.1 hm with hm|hm
    ·exact h.Ds x hm
    ·rw[List.mem_singleton.1 hm] at i;exact absurd rfl i
def au.Ah(s:au)(m level:Nat):au:={s with c:={s.c with ax:=s.c.ax.take m,st:=s.c.st.take level,ag:=m}}
theorem pV.done{level:Nat}(h:pV s (s.c.ax.drop (hU s.c.st level)) (s.c.ax.drop (hU s.c.st level)).length s1):bD level s (s1.Ah (hU s.c.st level) level):=by
 have d:(s1.Ah (hU s.c.st level) level).c=mN s.c level:=by
  show({s1.c with ax:=s1.c.ax.take _,st:=s1.c.st.take _,ag:=_}:Core)=_;rw[h.c,List.take_length];rfl
 refine⟨d,h.aO,h.aF,h.aQ,h.nl,h.jG,h.ci,h.bz,h.yY,λ v h1 g e=>?_⟩;rw[d] at e;have b:ak (zero s.c.val (s.c.ax.drop (hU s.c.st level))) v=0:=e;rw[yN] at b;split at b
 ·rename_i hm;obtain⟨x,f,rfl⟩:=p_.1 hm;exact Or.inr (h.Ds x (by rw[List.take_length];exact f))
 ·exact Or.inl b
theorem pV.rg{n:Nat}{A B:Int}{m level:Nat}(h:pV s xs j s1)(r:mE n A B s)(f:1<=n):mE n A B (s1.Ah m level):=by
 have b:(s1.Ah m level).c.cl=s.c.cl:=by show s1.c.cl=_;rw[h.c]
 refine⟨by show s1.c.n=n;rw[h.c];exact r.jH,by have:=h.lW;rwa[r.jH] at this,by show s1.act.length=_;rw[h.act];exact r.lB,λ v=>by show 0<=ak s1.act v/\ak s1.act v<=A;rw[h.act];exact r.qp v,by show ak s1.act 0=0;rw[h.act];exact r.a0,by show 1<=s1.bz;rw[h.bz];exact r.rm,by show s1.bz<=A;rw[h.bz];exact r.oQ,h.nM.trans r.nM,h.o8.trans r.o8,by rw[b];show s1.ci.length=_;rw[h.ci];exact r.nN,λ d=>?_,λ d e=>?_⟩
 ·have:lN (s1.Ah m level) d=lN s d:=by show s1.ci.getD d _=_;rw[h.ci];rfl
  rw[this];exact r.qc d
 ·rw[b];exact r.k8 d (by rw[<-h.aO];exact e)
end
end
section
open Go.RowKit Go.Shelf
theorem Gg:(y_.info? 164).map (λ i=>(i.zero,i.size,i.bytes))=some (some (.pointer none),1,8):=by kernel_rfl
structure rq(w:World)(A:Option Addr)(m c:Nat)(ai:List Value):Prop where
 len:ai.length=m
 cells:0<m->∃b off,A=some ⟨b,off,none⟩/\∀j u,ai[j]? =some u->w.cell? ⟨b,off+j,none⟩=some u
 ptr:∀u∈ai,∃p,u=.pointer p
theorem rq.one{p:Option Addr}(h:w.cell? ⟨b,0,none⟩=some (.pointer p)):rq w (some ⟨b,0,none⟩) 1 1 [.pointer p]:=
 ⟨rfl,λ _=>⟨b,0,rfl,λ j u c=>by
  have:j=0:=by have:=(s_.1 c).1;simpa using this
  subst this;simp only[List.getElem?_cons_zero,Option.some.injEq] at c;subst c;exact h⟩,λ u hu=>⟨p,by simpa using hu⟩⟩
theorem Dt(w:World)(ty:TypeId)(base:Nat)(v:Value)(n:Nat)(xs:List Value)(f:w.ownsRow base 164 1 v n xs)
  (A:Option Addr) (m c:Nat) (e:List Value) (d:rq w A m c e) (o:(n+m)*8<=140737488355328) (q:base<=w.heap.size):
  ∃v' w',(Builtin.append_ #[160,160] ty #[v,.slice A m c]).run y_ w=.ok v' w'/\mY w base 164 v (n+m) (xs++e) v' w':=by
 obtain⟨i0,i,r,s,t⟩:=info_parts Gg
 cases A with
 |none=>
  have hm:m=0:=by
   rcases Nat.eq_zero_or_pos m with g|g
   ·exact g
   ·obtain⟨b,off,he,_⟩:=d.cells g;cases he
  subst hm;have y:e=[]:=n_ d.len;subst y;exact⟨v,w,CY Tryz.underlying160 w base ty i0 i v n 1 _ f c,by simpa using f,World.grownBy.refl w _,.inl rfl⟩
 |some k=>
  have z:∀j u,e[j]? =some u->w.cell? (k.add j)=some u:=by
   intro j u l;have F:j<m:=by have:=(s_.1 l).1;simpa[d.len] using this
   obtain⟨b,off,he,B⟩:=d.cells (by omega);injection he with he
   subst he;rw[Addr.add_lit];exact B j u l
  obtain⟨v',w',h1,C,D,_,E⟩:=run_append_own_at (P:=y_) w base 160 ty 164 i0 (.pointer none) 1 8 Tryz.underlying160 i r s t rfl (by decide) v n _ f k m c e (by rw[d.len,Nat.mul_one]) z (by intro u hu;obtain⟨p,rfl⟩:=d.ptr u hu;rfl) (by unfold maxLen;omega) o q;exact⟨v',w',h1,C,D,E⟩
theorem Gh{ops:Array Oper}{rest:List Oper}{o:Oper}{a:Act}{Q:Exit->Act->World->Prop}(d:o.guard=none)(s x:Operand)
  (e:o.op=.call {callee:=.builtin .append,args:= #[s,x],argTypes:= #[160,160]}) (base:Nat) (v:Value) (n:Nat) (xs:List Value) (hs:a.eval s=v) (f:w.ownsRow base 164 1 v n xs)
  (A:Option Addr) (m c:Nat) (b:List Value) (g:a.eval x=.slice A m c) (i:rq w A m c b) (j:(n+m)*8<=140737488355328) (k:base<=w.heap.size)
  (h:∀v' w',mY w base 164 v (n+m) (xs++b) v' w'->wpList y_ ops Q rest (a.put o.dst v') w'):
  wpList y_ ops Q (o::rest) a w:=by
 obtain⟨v',w',h1,l⟩:=Dt w o.type base v n xs f A m c b i j k;refine wpList_plain d λ K p=>?_
 unfold Oper.wp;simp only[execOp,e,resolve,invoke,builtin,Sem.run_bind,Sem.run_pure,Result.andThen_ok,List.map_toArray,List.map_cons,List.map_nil,hs,g,h1];exact p _ _ (h v' w' l)
section
variable {K:Nat->Prop}{base:Nat}{w bE W:World}{G:Nat}{hs:Nat->ay}{cb:Nat->Nat}{s:au}
theorem kA.yb{gr:List Value}{cls:Nat->List Value}{n:Nat}{X:Nat->List Value}(h:kA base w G hs cb gr cls n X){r g:Nat}(f:(hs r).b=some g):(hs r).n<=(hs r).c:=by
 obtain⟨_,i⟩:=h.rows.row r;rcases i with⟨d,_⟩|⟨j,k,cur,e,_,_,l,_⟩
 ·have:=(h.rows.form f).1;unfold ay.v at d;rw[this] at d
  cases d
 ·unfold ay.v at e;injection e with _ _ e
  omega
theorem bf.KO(h:bf K base w G hs cb s){v':Value}{x:Int}(c:mY w base 3 (hs 7).v (s.ord.length+1) ((s.ord++[x]).map (Value.int .i64)) v' bE):
  ∃h':ay,v'=h'.v/\h'.n=s.ord.length+1/\bE.cell? ⟨G,10,none⟩=some (hs 7).v/\bE.frozen? ⟨G,10,none⟩=false/\bf K base (bE.setCell ⟨G,10,none⟩ v') G (iV hs 7 h') cb (s.vw x)/\aG K w (bE.setCell ⟨G,10,none⟩ v'):=by
 obtain⟨f,b,i⟩:=c;obtain⟨a1,a2⟩:=h.e.after (r:=7) (by rw[<-ay.own];exact b) 10;obtain⟨h',rfl,j,k,l,m⟩:=kA.app h.e h.s (r:=7) f b i;refine⟨h',rfl,j,by rw[a1];exact h.e.kP rfl,a2,⟨?_,l.more (lq bE G 10 _).size⟩,m.trans (aG.set G 10 _ h.s.g)⟩;refine(k.field 10 h'.v).eq rfl rfl rfl (λ d _=>(v8 hs s (by omega) _ d).symm) rfl (λ r=>?_);rw[v7 hs cb _ (by omega)]
 by_cases e:r=7
 ·subst e;rw[jT];rfl
 ·rw[bq _ _ e];simp only[cont,if_neg e,au.vw]
theorem bf.Gi(h:bf K base w G hs cb s){v':Value}{x:Nat}(f:mY w base 3 (hs 5).v (s.c.st.length+1) (qo (s.c.st++[x])) v' bE):
  ∃h':ay,v'=h'.v/\h'.n=s.c.st.length+1/\bE.cell? ⟨G,6,none⟩=some (hs 5).v/\bE.frozen? ⟨G,6,none⟩=false/\bf K base (bE.setCell ⟨G,6,none⟩ v') G (iV hs 5 h') cb (s.Ge x)/\aG K w (bE.setCell ⟨G,6,none⟩ v'):=by
 obtain⟨i,b,j⟩:=f;obtain⟨a1,a2⟩:=h.e.after (r:=5) (by rw[<-ay.own];exact b) 6;obtain⟨h',rfl,k,l,m,o⟩:=kA.app h.e h.s (r:=5) i b j;refine⟨h',rfl,k,by rw[a1];exact h.e.kP rfl,a2,⟨?_,m.more (lq bE G 6 _).size⟩,o.trans (aG.set G 6 _ h.s.g)⟩;refine(l.field 6 h'.v).eq rfl rfl rfl (λ d _=>(v8 hs s (by omega) _ d).symm) rfl (λ r=>?_);rw[v7 hs cb _ (by omega)]
 by_cases e:r=5
 ·subst e;rw[jT];rfl
 ·rw[bq _ _ e];simp only[cont,if_neg e,au.Ge]
theorem bf.Gj(h:bf K base w G hs cb s){v':Value}{x:Nat}(c:mY w base 164 (hs 10).v (s.aO.length+1) (k7 cb (s.aO++[x])) v' bE):
  ∃h':ay,v'=h'.v/\h'.n=s.aO.length+1/\bE.cell? ⟨G,13,none⟩=some (hs 10).v/\bE.frozen? ⟨G,13,none⟩=false/\bf K base (bE.setCell ⟨G,13,none⟩ v') G (iV hs 10 h') cb (s.uZ x)/\aG K w (bE.setCell ⟨G,13,none⟩ v'):=by
 obtain⟨f,b,i⟩:=c;obtain⟨a1,a2⟩:=h.e.after (r:=10) (by rw[<-ay.own];exact b) 13;obtain⟨h',rfl,j,k,l,m⟩:=kA.app h.e h.s (r:=10) f b i;refine⟨h',rfl,j,by rw[a1];exact h.e.kP rfl,a2,⟨?_,l.more (lq bE G 13 _).size⟩,m.trans (aG.set G 13 _ h.s.g)⟩;refine(k.field 13 h'.v).eq rfl rfl rfl (λ d _=>(v8 hs s (by omega) _ d).symm) rfl (λ r=>?_);rw[v7 hs cb _ (by omega)]
 by_cases e:r=10
 ·subst e;rw[jT];rfl
 ·rw[bq _ _ e];simp only[cont,if_neg e,au.uZ]
end
end
section
open Go.RowKit Go.Shelf
def KP(K:Nat->Prop)(base:Nat)(w:World)(G:Nat)(cb:Nat->Nat)(n:Nat)(A B:Int)(level:Nat)(s:au)(e:Ending)(w':World):Prop:=
 e=.returned (.tuple #[])/\∃hs' s',bD level s s'/\mE n A B s'/\bf K base w' G hs' cb s'/\aG K w w'
theorem Gk(h:bf K base w G hs cb s)(r:mE n A B s)(T:j9 s.c)(ca:n<=60000)(level:Nat)(hl:level<s.c.st.length)(cc:s.c.st.length<=1000000)(cd:0<s.c.ax.length):
  Calls y_ 147 #[.pointer (some ⟨G,0,none⟩),.int .i64 level] w (KP K base w G cb n A B level s):=by
 obtain⟨from_,aA⟩:∃m,hU s.c.st level=m:=⟨_,rfl⟩
 have bd:from_<=s.c.ax.length:=by rw[<-aA];exact T.oz level hl
 have aL:=T.len;rw[r.jH] at aL;obtain⟨g5,aM,bg,f5⟩:=h.e.l7 6 5 rfl h.e.kj (by omega);have bL:=h.e.FU aM hl;rw[aA] at bL;have H:=U h;have D:=U r;have aN:=U T;have aa:=U aM;have cf:¬(s.c.st.length:Int)<=(level:Int):=by omega
 have cg:(level:Int)<(s.c.st.length:Int):=by omega
 obtain⟨g4,ab,bM,f4⟩:=h.e.l7 5 4 rfl h.e.kD (by omega);have bh:=h.e.yb ab;rw[h.e.kD] at bh;obtain⟨u,I⟩:∃u,(hs 4).c=u:=⟨_,rfl⟩
 rw[I] at bM bh;have ch:(from_:Int)<=(s.c.ax.length:Int):=by omega
 have cj:(s.c.ax.length:Int)<=(u:Int):=by omega
 have y:=U (z_ aA (z_ bd aL));have al:=U ab;clear h r T aM f5 f4 ab aA bd aL;go_enter Tryz.func147,Tryz.ntmps147
 go_wp2_with fail
 case inr hcf=>
  generalize hm:s.c.ax.length-from_=m;have ad:=U hm;clear hm
  go_loopw [6,7,29] (λ _ _ R W=>∃(k:Nat)(l:Nat->ay)(s1:au),k<=m/\R=.int .i64 k/\pV s (s.c.ax.drop from_) k s1/\bf K base W G l cb s1/\aG K w W/\∀r,r≠7->l r=hs r) (λ _ _ R _=>m-(intOf R).toNat)
  case atStart=>exact⟨0,hs,s,by omega,rfl,pV.start (D.o.jH▸D.o.lW),H.o,aG.refl,λ _ _=>rfl⟩
  case round=>
   obtain⟨k,l,s1,hk,rfl,an,J,hF,hH⟩:=hrel;have E:=U J;have F:=U hF;have j:=U an;have M:=U hH;clear J hF an hH
   by_cases aO:k<m
   ·have bj:(k:Int)<(m:Int):=by omega
    have aB:=U aO;have ck:k<60000:=by have:=y.o;have:=ad.o;omega
    obtain⟨bN,bO,bP⟩:=y.o;have hm:=ad.o;have aC:from_+k<s.c.ax.length:=by omega
    have aQ:k<(s.c.ax.drop from_).length:=by rw[m_];omega
    have bk:ak (s.c.ax.drop from_) k=ak s.c.ax (from_+k):=by
     rw[nu aQ,nu aC,List.getElem_drop]
    have z:s1.c.ax=s.c.ax:=by rw[j.o.c]
    have ae:s.c.n=n:=D.o.jH;obtain⟨x,aE⟩:∃x,ak s.c.ax (from_+k)=x:=⟨_,rfl⟩
    have aR:gP s.c.n x:=by rw[<-aE];exact aN.o.lit _ (mc aC)
    obtain⟨v,aF⟩:∃v:Nat,aD x=v:=⟨_,rfl⟩
    have bl:1<=v/\v<=n:=by have:=aR;unfold gP at this;rw[aF,ae] at this;exact this
    have cm: -60000<=x/\x<=60000:=by unfold aD at aF;omega
    have ab:(l 4).b=some g4:=by rw[M.o 4 (by omega)];exact al.o
    have c1:=E.o.e.Ac ab (k:=from_+k) (by rw[z];exact aC);rw[z,aE] at c1;have aS:s1.ia.length=n+1:=j.o.nM.trans D.o.nM;have aT:s1.c.val.length=n+1:=by rw[j.o.c];show(zero s.c.val _).length=_;rw[Dc,aN.o.rE,ae]
    have aU:s1.c.kF.length=n+1:=by rw[j.o.c];show(sZ s.c.kF _).length=_;rw[Dd,aN.o.pQ,ae]
    have bn:s1.pl.length=n+1:=by have:=j.o.lW.sx;rw[ae] at this;exact this
    obtain⟨g9,ao,bQ,f9⟩:=E.o.e.l7 12 9 rfl (E.o.e.kf.trans aS) (by omega);obtain⟨g1,aq,bR,f1⟩:=E.o.e.l7 2 1 rfl (E.o.e.jE.trans aT) (by omega);obtain⟨g3,ar,bS,f3⟩:=E.o.e.l7 4 3 rfl (E.o.e.nU.trans aU) (by omega);have d9:=E.o.e.FV ao (k:=v) (by omega);have d1:=E.o.e.Ab aq (k:=v) (by omega);have d3:=E.o.e.yT ar (k:=v) (by omega);obtain⟨pa,bo⟩:∃pa,qT cb (mH s1.c.kF v)=.pointer pa:=by cases mH s1.c.kF v with|none=>exact⟨_,rfl⟩|some d=>exact⟨_,rfl⟩
    rw[bo] at d3;have bT:=f9 v;have bU:=f1 v;have bV:=f3 v;have br:g9≠g1:=E.o.e.xe (r:=9) (r':=1) (by omega) ao aq;have bs:g9≠g3:=E.o.e.xe (r:=9) (r':=3) (by omega) ao ar;have n13:g1≠g3:=E.o.e.xe (r:=1) (r':=3) (by omega) aq ar;have n19:=br.symm;have n39:=bs.symm;have n31:=n13.symm;have bp:(v:Int)<((n+1:Nat):Int):=by omega
    have aV:=U ao;have bt:=U aq;have bW:=U ar;have f:=U (z_ aE (z_ aF (z_ bk (z_ aR aQ))));have N:=U (z_ aS (z_ aT (z_ aU (z_ bn ae))));have O:=U bl;clear ao aq ar ab f9 f1 f3 aE aF bk aR aQ aS aT aU bn ae bl bN bO bP hm aC z bo
    go_upto_region 6 with(go_at_call 97;refine(s7 x _ (by omega) (by omega)).mono ?_;rintro e w1 ⟨rfl,rfl⟩;rw[f.o.2.1])
    go_wp2_with fail
    go_region
    generalize bX:decide (0<x)=b;have C:=((E.o.Aa aV.o v b).1.x6 bt.o v 0).1.z8 bW.o v none;have av:=U (F.o.trans ((((E.o.Aa aV.o v b).2.trans (((E.o.Aa aV.o v b).1.x6 bt.o v 0).2.trans C.2)).trans aG.drew)));have C:bF (bf K base ((((wr.setCell ⟨g9,v,none⟩ (.bool b)).setCell ⟨g1,v,none⟩ (.int .i8 0)).setCell ⟨g3,v,none⟩ (.pointer none)).drew) G l cb (s1.uB v b)):=U C.1.drew;have av:bF (aG K w ((((wr.setCell ⟨g9,v,none⟩ (.bool b)).setCell ⟨g1,v,none⟩ (.int .i8 0)).setCell ⟨g3,v,none⟩ (.pointer none)).drew)):=av;generalize (((wr.setCell ⟨g9,v,none⟩ (.bool b)).setCell ⟨g1,v,none⟩ (.int .i8 0)).setCell ⟨g3,v,none⟩ (.pointer none)).drew=bu at C av;clear bQ bR bS d9 d1 d3 bT bU bV br bs n13 n19 n39 n31 c1 bX;obtain⟨g8,af,aW,f8⟩:=C.o.e.l7 11 8 rfl (C.o.e.n8.trans N.o.2.2.2.1) (by omega);have d8:=C.o.e.xg af (k:=v) (by show v<s1.pl.length;have:=N.o.2.2.2.1;have:=O.o;omega);rw[show(s1.uB v b).pl=s1.pl from rfl] at d8;obtain⟨pv,aX⟩:∃pv,ak s1.pl v=pv:=⟨_,rfl⟩
    rw[aX] at d8;have bY:=f8 v;have bZ:=U af;have rq:=U aX;clear af f8 aX
    by_cases hp:0<=pv
    ·have bw:¬pv<0:=by omega
     have aH:=U hp;clear hp
     go_wp2_with fail
     go_roundw
     case rel=>exact⟨k+1,l,_,by have:=aB.o;omega,by go_num,(by
       have:=pV.stay (b:=b) j.o f.o.2.2.2.2 (by rw[f.o.2.2.1,f.o.1,f.o.2.1];exact O.o.1) (by rw[f.o.2.2.1,f.o.1,f.o.2.1,rq.o];exact aH.o);rw[f.o.2.2.1,f.o.1,f.o.2.1] at this;exact this),C.o,av.o,M.o⟩
     case measure=>have:=aB.o;simp[intOf];omega
    ·have bw:pv<0:=by omega
     have aH:=U bw;clear hp;obtain⟨S,n7,V,aI⟩:∃S n7 V,l 7=⟨S,n7,V⟩:=⟨_,_,_,rfl⟩
     obtain⟨i,aJ⟩:∃i,s1.ord.length=i:=⟨_,rfl⟩
     have aY:n7=i:=by have:=C.o.e.n7;rw[aI] at this;exact this.trans aJ
     have aZ:bu.cell? ⟨G,10,none⟩=some (.slice S i V):=by have:=C.o.e.kP (k:=10) (v:=(l 7).v) rfl;rw[aI,aY] at this;exact this
     have bx:i<=n:=by have:=j.o.lW.len;rw[aJ,N.o.2.2.2.2] at this;exact this
     have q:=U (z_ aI (z_ aY (z_ aJ bx)));clear aI aY aJ bx
     go_wp2_with fail
     go_region
     have ag:=C.o.x7 bZ.o v (i:Int);have bz:=U (av.o.trans (ag.2.trans aG.drew));have ag:=U ag.1.drew;generalize (bu.setCell ⟨g8,v,none⟩ (.int .i64 (i:Int))).drew=aw at ag bz;clear aW d8 bY aZ;have aZ:aw.cell? ⟨G,10,none⟩=some (.slice S i V):=by have:=ag.o.e.kP (k:=10) (v:=(l 7).v) rfl;rw[q.o.1,q.o.2.1] at this;exact this
     have aK:=U (ag.o.below (bC aw (.cells #[.int .i64 (v:Int)] 3)));have bA:(aw.alloc (.cells #[.int .i64 (v:Int)] 3)).ownsRow base 3 1 (.slice S i V) i (s1.ord.map (Value.int .i64)):=by have:=aK.o.1.e.rows.row 7;rw[q.o.1,q.o.2.1] at this;exact this
     have b0:=U bA;have b1:=U aK.o.1.e.lt;have bB:(l 7).v=.slice S i V:=by rw[q.o.1,q.o.2.1];rfl
     have b2:=U bB;clear bA bB
     go_upto_region 10 with(at_builtin;refine rB rfl (.tmp 78) (.tmp 80) rfl base (.slice S i V) i s1.ord rfl b0.o (some ⟨aw.heap.size,0,none⟩) 1 1 [(v:Int)] rfl (aP.lit aw [(v:Int)] 1 _ rfl rfl (by omega)) (by have:=q.o;omega) (Nat.le_of_lt b1.o) ?_;intro v9 bE bD;obtain⟨⟨A',b3,c'⟩,b4,bG,bg,f5,P,ah⟩:=bf.KO (s:=(s1.uB v b).pS v (i:Int)) (x:=(v:Int)) aK.o.1 (by rw[b2.o];rw[show((s1.uB v b).pS v (i:Int)).ord.length=i from q.o.2.2.1];exact bD);obtain rfl:b3=i+1:=bG.trans (by rw[show((s1.uB v b).pS v (i:Int)).ord.length=i from q.o.2.2.1]);obtain rfl:v9=.slice A' (i+1) c':=b4)
     have ah:=U (bz.o.trans (aK.o.2.trans ah));have P:bF (bf K base (bE.setCell ⟨G,10,none⟩ (.slice A' (i+1) c')) G (iV l 7 ⟨A',i+1,c'⟩) cb (((s1.uB v b).pS v (i:Int)).vw (v:Int))):=U P;have ah:bF (aG K w (bE.setCell ⟨G,10,none⟩ (.slice A' (i+1) c'))):=ah;generalize bE.setCell ⟨G,10,none⟩ (.slice A' (i+1) c')=cn at P ah;clear aZ bg f5 bG bD;have ai:mw s.c.n (s1.ord++[(v:Int)]) (s1.pl.set v (i:Int)):=by
      have:=j.o.push (by rw[f.o.2.2.1,f.o.1,f.o.2.1];exact O.o.1) (by rw[f.o.2.2.1,f.o.1,f.o.2.1,N.o.2.2.2.2];exact O.o.2) (by rw[f.o.2.2.1,f.o.1,f.o.2.1,rq.o];exact aH.o);rw[f.o.2.2.1,f.o.1,f.o.2.1,q.o.2.2.1] at this;exact this
     obtain⟨jf,Q⟩:∃jf,jf=((s1.uB v b).pS v (i:Int)).vw (v:Int):=⟨_,rfl⟩
     rw[<-Q] at P;have kD:jf.c.n=n:=by rw[Q];show s1.c.n=n;rw[j.o.c];exact N.o.2.2.2.2
     have ai:mw jf.c.n jf.ord jf.pl:=by rw[kD,Q,<-N.o.2.2.2.2];exact ai
     have a4:jf.act.length=jf.c.n+1:=by rw[kD,Q];show s1.act.length=_;rw[j.o.act];exact D.o.lB
     have bH:jf.ord.length=i+1:=by rw[Q];show(s1.ord++[_]).length=_;rw[r_,q.o.2.2.1];rfl
     have bI:ak jf.pl v=i:=by rw[Q];show ak (s1.pl.set v _) v=_;rw[oZ,if_pos ⟨rfl,by have:=N.o.2.2.2.1;have:=O.o;omega⟩]
     obtain⟨cp,af,aW,f8⟩:=P.o.e.l7 11 8 rfl (P.o.e.n8.trans ai.sx) (by omega);rw[kD] at aW;have d8:=P.o.e.xg af (k:=v) (by rw[ai.sx,kD];have:=O.o;omega);rw[bI] at d8;have aj:=U (z_ Q (z_ kD (z_ ai (z_ a4 bH))));clear Q kD ai a4 bH bI f8 af
     go_wp2_with (go_at_call 187;refine(Dq P.o aj.o.2.2.1 aj.o.2.2.2.1 (by have:=aj.o.2.1;omega) i (by have:=aj.o.2.2.2.2;omega) (by have:=aj.o.2.2.2.2;have:=q.o;omega)).mono ?_;rintro e cq ⟨rfl,bJ,a6,a7,a8⟩;have a7:=U a7;have a8:=U a8;have a6:=U a6)
     go_roundw
     case rel=>exact⟨k+1,_,bJ,by have:=aB.o;omega,by go_num,(by
       have:=pV.back (b:=b) (jf:=bJ) j.o f.o.2.2.2.2 (by rw[f.o.2.2.1,f.o.1,f.o.2.1];exact O.o.1) (by rw[f.o.2.2.1,f.o.1,f.o.2.1,N.o.2.2.2.2];exact O.o.2) (by rw[f.o.2.2.1,f.o.1,f.o.2.1,rq.o];exact aH.o);rw[f.o.2.2.1,f.o.1,f.o.2.1,q.o.2.2.1] at this;refine this ?_;rw[<-aj.o.1];exact a6.o),a7.o,ah.o.trans a8.o,λ r bK=>by rw[bq _ _ bK];exact M.o r bK⟩
     case measure=>have:=aB.o;simp[intOf];omega
   ·obtain rfl:k=m:=by omega
    have bj:¬(k:Int)<(k:Int):=by omega
    go_upto_region 12 with fail
    have p:l 4=hs 4:=M.o 4 (by omega);have t:l 5=hs 5:=M.o 5 (by omega);have z:s1.c.ax.length=s.c.ax.length:=by rw[j.o.c]
    have X:s1.c.st.length=s.c.st.length:=by rw[j.o.c]
    have a':=E.o.e.ri 5 (r:=4) (by rw[p];exact al.o) (E.o.e.kD.trans z) rfl;have ba:=E.o.e.ri 6 (r:=5) (by rw[t];exact aa.o) (E.o.e.kj.trans X) rfl;have az:∃v,wr.cell? ⟨G,7,none⟩=some v:=⟨_,E.o.e.kP (k:=7) rfl⟩
    obtain⟨b5,az⟩:=az;rw[p,I] at a';rw[t] at ba;have b6:(level:Int)<=((hs 5).c:Int):=by have:=H.o.e.yb aa.o;rw[H.o.e.kj] at this;omega
    have b7:(from_:Int)<=(u:Int):=by omega
    have b8:=E.o.e.free 5;have b9:=E.o.e.free 6;have b':=E.o.e.free 7;have Y:=E.o.F7 (g:=g4) (m:=from_) (by rw[p];exact al.o) (by rw[z];exact y.o.2.1);have Z:=Y.1.F8 (g:=g5) (m:=level) (by rw[bq _ _ (by omega),t];exact aa.o) (by show level<=s1.c.st.length;rw[X];omega);have L:=Z.1.BG from_;rw[p,I,bq _ _ (show(5:Nat)≠4 by omega),t] at L;have hF:=U (F.o.trans ((by have:=Y.2;rw[p,I] at this;exact this:aG K wr _).trans ((by have:=Z.2;rw[p,I,bq _ _ (show(5:Nat)≠4 by omega),t] at this;exact this:aG K _ _).trans (L.2.trans aG.drew))));have J:=U L.1.drew;clear Y Z L p t z X
    go_wp2_with fail
    go_region
    go_wp2;go_end0;refine⟨rfl,_,_,?_,?_,J.o,hF.o⟩
    ·have bb:k=(s.c.ax.drop from_).length:=by rw[m_];exact ad.o.symm
     have bc:pV s (s.c.ax.drop (hU s.c.st level)) (s.c.ax.drop (hU s.c.st level)).length s1:=by rw[y.o.1,<-bb];exact j.o
     have:=bc.done;rw[y.o.1] at this;exact this
    ·exact j.o.rg (m:=from_) (level:=level) D.o (by have:=y.o;omega)
 case inl hcf=>
  subst h;generalize hm:s.c.ax.length-u=m;have ad:=U hm;clear hm
  go_loopw [6,7,29] (λ _ _ R W=>∃(k:Nat)(l:Nat->ay)(s1:au),k<=m/\R=.int .i64 k/\pV s (s.c.ax.drop u) k s1/\bf K base W G l cb s1/\aG K w W/\∀r,r≠7->l r=hs r) (λ _ _ R _=>m-(intOf R).toNat)
  case atStart=>exact⟨0,hs,s,by omega,rfl,pV.start (D.o.jH▸D.o.lW),H.o,aG.refl,λ _ _=>rfl⟩
  case round=>
   obtain⟨k,l,s1,hk,rfl,an,J,hF,hH⟩:=hrel;have E:=U J;have F:=U hF;have j:=U an;have M:=U hH;clear J hF an hH
   by_cases aO:k<m
   ·exact absurd aO (by have:=ad.o;have:=y.o;omega)
   ·obtain rfl:k=m:=by omega
    have bj:¬(k:Int)<(k:Int):=by omega
    go_upto_region 12 with fail
    have p:l 4=hs 4:=M.o 4 (by omega);have t:l 5=hs 5:=M.o 5 (by omega);have z:s1.c.ax.length=s.c.ax.length:=by rw[j.o.c]
    have X:s1.c.st.length=s.c.st.length:=by rw[j.o.c]
    have a':=E.o.e.ri 5 (r:=4) (by rw[p];exact al.o) (E.o.e.kD.trans z) rfl;have ba:=E.o.e.ri 6 (r:=5) (by rw[t];exact aa.o) (E.o.e.kj.trans X) rfl;have az:∃v,wr.cell? ⟨G,7,none⟩=some v:=⟨_,E.o.e.kP (k:=7) rfl⟩
    obtain⟨b5,az⟩:=az;rw[p,I] at a';rw[t] at ba;have b6:(level:Int)<=((hs 5).c:Int):=by have:=H.o.e.yb aa.o;rw[H.o.e.kj] at this;omega
    have b7:(u:Int)<=(u:Int):=by omega
    have b8:=E.o.e.free 5;have b9:=E.o.e.free 6;have b':=E.o.e.free 7;have Y:=E.o.F7 (g:=g4) (m:=u) (by rw[p];exact al.o) (by rw[z];exact y.o.2.1);have Z:=Y.1.F8 (g:=g5) (m:=level) (by rw[bq _ _ (by omega),t];exact aa.o) (by show level<=s1.c.st.length;rw[X];omega);have L:=Z.1.BG u;rw[p,I,bq _ _ (show(5:Nat)≠4 by omega),t] at L;have hF:=U (F.o.trans ((by have:=Y.2;rw[p,I] at this;exact this:aG K wr _).trans ((by have:=Z.2;rw[p,I,bq _ _ (show(5:Nat)≠4 by omega),t] at this;exact this:aG K _ _).trans (L.2.trans aG.drew))));have J:=U L.1.drew;clear Y Z L p t z X
    go_wp2_with fail
    go_region
    go_wp2;go_end0;refine⟨rfl,_,_,?_,?_,J.o,hF.o⟩
    ·have bb:k=(s.c.ax.drop u).length:=by rw[m_];exact ad.o.symm
     have bc:pV s (s.c.ax.drop (hU s.c.st level)) (s.c.ax.drop (hU s.c.st level)).length s1:=by rw[y.o.1,<-bb];exact j.o
     have:=bc.done;rw[y.o.1] at this;exact this
    ·exact j.o.rg (m:=u) (level:=level) D.o (by have:=y.o;omega)
end
section
open Go.RowKit Go.Shelf
section
variable {K:Nat->Prop}{base:Nat}{w w' W:World}{G:Nat}{hs:Nat->ay}{cb:Nat->Nat}{s:au}
theorem BJ{s:au}{d:Nat}:s.ci.getD d ⟨false,0,0⟩=lN s d:=rfl
theorem bf.Ai(h:bf K base w G hs cb s){d:Nat}(b:d<s.c.cl.length):w.cell? ⟨cb d,0,none⟩=some (hs (kO d)).v/\w.cell? ⟨cb d,1,none⟩=some (.bool (lN s d).k6)/\w.cell? ⟨cb d,2,none⟩=some (.int .i64 (lN s d).bp)/\w.cell? ⟨cb d,3,none⟩=some (.int .i64 (lN s d).ac)/\∀k,w.frozen? ⟨cb d,k,none⟩=false:=by
 have:=h.e.cls d b;exact⟨by rw[this.cell];rfl,by rw[this.cell];rfl,by rw[this.cell];rfl,by rw[this.cell];rfl,λ k=>this.free k⟩
theorem bf.Gl(h:bf K base w G hs cb s){d:Nat}(f:d<s.c.cl.length)(i:s.ci.length=s.c.cl.length)(x:Int):bf K base (w.setCell ⟨cb d,3,none⟩ (.int .i64 x)) G hs cb (s.xh d x)/\aG K w (w.setCell ⟨cb d,3,none⟩ (.int .i64 x)):=by
 refine⟨⟨(h.e.Kl f 3 (.int .i64 x)).eq rfl rfl rfl (λ e he=>?_) rfl (λ _=>rfl),h.s.more (lq w (cb d) 3 _).size⟩,aG.set (cb d) 3 _ (h.s.cl d f)⟩
 by_cases b:e=d
 ·subst b;rw[jT];unfold tL;rw[BJ,BJ,Af,if_pos ⟨rfl,by omega⟩];rfl
 ·rw[bq _ _ b];unfold tL;rw[BJ,BJ,Af,if_neg (λ g=>b g.1.symm)]
theorem jm.n10(h:jm base w G hs cb s):(hs 10).n=s.aO.length:=by
 have h1:=h.rows.len 10;rw[show(cont hs cb s 10).length=s.aO.length by simp[cont,k7],show nL 10=1 from rfl] at h1;omega
theorem jm.Gm(h:jm base w G hs cb s){g:Nat}(c:(hs 10).b=some g){k:Nat}(hk:k<s.aO.length):w.cell? ⟨g,k,none⟩=some (.pointer (some ⟨cb (hU s.aO k),0,none⟩)):=h.get c (by
 show(k7 cb s.aO)[k]? =_;rw[vt hk];simp[k7,hk,s5])
end
theorem Gn{l:List Nat}(h:k<l.length):hU l k∈l:=by rw[vt h];exact List.getElem_mem h
theorem KQ(h:l/2=p):f_ (l:Int) 2=(p:Int):=by rw[x_ (by omega)];omega
theorem wrap_small(p:Nat)(h:p<=65536):wrap64 (p:Int)=(p:Int):=by unfold wrap64;omega
theorem KR(p:Nat)(h:p<=65536):wrap64 ((p:Int)-1)=(p:Int)-1:=by unfold wrap64;omega
theorem half_start(h:p=0\/p-1<l): -1<=(p:Int)-1/\(p:Int)-1<l:=by omega
structure Aj(s:au)(A' B:Int)(k:Nat)(s1:au):Prop where
 eq:∃a,s1={s with act:=a}
 lB:s1.act.length=s.act.length
 iW:∀u,u<k->0<=ak s1.act u/\ak s1.act u<=A'
 aj:∀u,k<=u->ak s1.act u=ak s.act u
 a0:ak s1.act 0=0
structure Ak(s:au)(B:Int)(s1:au):Prop where
 eq:∃a,s1={s with ci:=a}
 lB:s1.ci.length=s.ci.length
 ci:∀d,(lN s1 d).k6=(lN s d).k6/\(lN s1 d).bp=(lN s d).bp/\0<=(lN s1 d).ac/\(lN s1 d).ac<=B
def KS(K:Nat->Prop)(base:Nat)(w:World)(G:Nat)(hs:Nat->ay)(cb:Nat->Nat)(n:Nat)(A' B:Int)(s:au)(e:Ending)(w':World):Prop:=
 e=.returned (.tuple #[])/\∃s',od s s'/\mE n A' B s'/\bf K base w' G hs cb s'/\aG K w w'
theorem Aj.step(h:Aj s A' B k s1)(hk:k<s.act.length){x:Int}(c:0<=x)(h1:x<=A')(d:k=0->x=0):Aj s A' B (k+1) (s1.p8 k x):=by
 have b:∀u,ak (s1.p8 k x).act u=if k=u then x else ak s1.act u:=λ u=>by
  show ak (s1.act.set k x) u=_;rw[oZ]
  by_cases e:k=u
  ·rw[if_pos e,if_pos ⟨e,by rw[h.lB];exact hk⟩]
  ·rw[if_neg e,if_neg (λ f=>e f.1)]
 obtain⟨a,g⟩:=h.eq;refine⟨⟨s1.act.set k x,by rw[g];rfl⟩,by show(s1.act.set k x).length=_;rw[o_];exact h.lB,λ u hu=>?_,λ u hu=>?_,?_⟩
 ·rw[b];split
  ·exact⟨c,h1⟩
  ·exact h.iW u (by omega)
 ·rw[b,if_neg (by omega)];exact h.aj u (by omega)
 ·rw[b];split
  ·exact d (by omega)
  ·exact h.a0
theorem Ak.step(h:Ak s B s1)(d:Nat){x:Int}(b:0<=x)(h1:x<=B):Ak s B (s1.xh d x):=by
 obtain⟨a,c⟩:=h.eq;refine⟨⟨(s1.xh d x).ci,by rw[c];rfl⟩,by show(s1.ci.set _ _).length=_;rw[o_];exact h.lB,λ e=>?_⟩;rw[Af];have:=h.ci e;split
 ·exact⟨this.1,this.2.1,b,h1⟩
 ·exact this
theorem KT{s2:au}(r:mE n A B s)(h1:Aj s A' B s.act.length s1)(b:Ak s1 B s2){x:Int}(k:1<=x)(l:x<=A'){s3:au}(i:pU (s2.we x) s3):od s s3/\mE n A' B s3:=by
 obtain⟨a,rfl⟩:=h1.eq;obtain⟨c,rfl⟩:=b.eq;have q:0<=A':=by omega
 have m:mE n A' B (({({s with act:=a}:au) with ci:=c}:au).we x):=by
  refine⟨r.jH,r.lW,h1.lB.trans r.lB,λ v=>?_,h1.a0,k,l,r.nM,r.o8,b.lB.trans r.nN,λ d=>?_,r.k8⟩
  ·rcases Nat.lt_or_ge v s.act.length with f|f
   ·exact h1.iW v f
   ·have e:=h1.aj v f;rw[KA f] at e;have t:ak a v=0:=e;show 0<=ak a v/\ak a v<=A';omega
  ·have g:=b.ci d;have j:=r.qc d;have o:lN ({s with act:=a}:au) d=lN s d:=rfl;rw[o] at g;exact⟨g.2.2.1,g.2.2.2,by have:=g.2.1;have p:(lN (({({s with act:=a}:au) with ci:=c}:au).we x) d).bp=(lN s d).bp:=this;rw[p];exact⟨j.2.2.1,j.2.2.2⟩⟩
 refine⟨?_,i.rg m⟩;refine od.trans ?_ i.hk;exact⟨rfl,rfl,rfl,rfl,rfl,rfl,rfl,rfl,.refl _,b.lB,λ d=>⟨(b.ci d).1,(b.ci d).2.1⟩⟩
theorem Gp(h:bf K base w G hs cb s)(r:mE n A B s)(bL:n<=60000)(bu:s.aO.length<=100000)(Y:A<=4398046511104)(bM:1<=A')(bN:A/1024<=A')(bO:0<=B)(bP:B<=4611686018427387904):
  Calls y_ 188 #[.pointer (some ⟨G,0,none⟩)] w (KS K base w G hs cb n A' B s):=by
 have ax:=r.lB;obtain⟨g6,aY,bQ,f6⟩:=h.e.l7 8 6 rfl (h.e.n6.trans ax) (by omega);have H:=U h;have l:=U r;have ai:=U aY;have aa:=U ax;clear h r aY f6 ax;go_enter Tryz.func188,Tryz.ntmps188
 go_wp2_with fail
 go_loopw [2,11] (λ _ az W=>∃(k:Nat)(s1:au),k<=n+1/\az=.int .i64 k/\Aj s A' B k s1/\bf K base W G hs cb s1/\aG K w W) (λ _ az _=>n+1-(intOf az).toNat)
 case atStart=>exact⟨0,s,by omega,rfl,⟨⟨_,rfl⟩,rfl,λ u hu=>by omega,λ u hu=>rfl,l.o.a0⟩,H.o,aG.refl⟩
 case round=>
  obtain⟨k,s1,hk,rfl,aZ,N,hF⟩:=hrel;have E:=U N;have F:=U hF;have g:=U aZ;clear N hF aZ
  by_cases aA:k<n+1
  ·have bw:(k:Int)<((n+1:Nat):Int):=by omega
   have bR:=E.o.e.ri 8 ai.o (E.o.e.n6.trans (g.o.lB.trans aa.o)) rfl;have I:=g.o.aj k (Nat.le_refl _);have T:=l.o.qp k;have a6:=l.o.a0;have c1:=E.o.e.yU ai.o (k:=k) (by rw[g.o.lB,aa.o];omega);rw[I] at c1;obtain⟨x,aB⟩:∃x,ak s.act k=x:=⟨_,rfl⟩
   rw[aB] at c1 T;have f6:=E.o.e.rows.free ai.o k;have Q:f_ x 1024=x/1024:=x_ T.1;have ab:x/1024<=A':=by omega
   have ad:0<=x/1024:=by omega
   have R:k=0->x/1024=0:=λ e=>by subst e;rw[aB] at a6;omega
   obtain⟨y,O⟩:∃y,x/1024=y:=⟨_,rfl⟩
   rw[O] at Q ab ad R;have aC:wrap64 y=y:=by unfold wrap64;omega
   have Z:=U (z_ ad (z_ ab (z_ R aA)));clear I a6 aB R O aA
   go_wp2_with fail
   have J:=E.o.Bz ai.o k y;have bx:=g.o.step (k:=k) (by rw[aa.o];exact Z.o.2.2.2) Z.o.1 Z.o.2.1 Z.o.2.2.1;go_roundw
   case rel=>exact⟨k+1,_,by have:=Z.o;omega,by go_num,bx,J.1,F.o.trans J.2⟩
   case measure=>have:=Z.o;simp[intOf];omega
  ·obtain rfl:k=n+1:=by omega
   obtain⟨al,n10,aD,an⟩:∃al n10 aD,hs 10=⟨al,n10,aD⟩:=⟨_,_,_,rfl⟩
   obtain⟨t,ao⟩:∃t,s.aO.length=t:=⟨_,rfl⟩
   have aE:s1.aO.length=t:=by obtain⟨a,f⟩:=g.o.eq;rw[f];exact ao
   have aF:n10=t:=by have:=E.o.e.n10;rw[an] at this;exact this.trans aE
   have bA:wr.cell? ⟨G,13,none⟩=some (.slice al t aD):=by have:=E.o.e.kP (k:=13) (v:=(hs 10).v) rfl;rw[an,aF] at this;exact this
   have bw:¬((n+1:Nat):Int)<((n+1:Nat):Int):=by omega
   rw[ao] at bu;have L:=U (z_ an (z_ ao (z_ aE aF)));clear an ao aE aF aA
   go_wp2_with fail
   go_loopw [4,29] (λ _ aH W=>∃(k:Nat)(s2:au),k<=t/\aH=.int .i64 k/\Ak s1 B s2/\bf K base W G hs cb s2/\aG K w W) (λ _ aH _=>t-(intOf aH).toNat)
   case atStart=>exact⟨0,s1,by omega,rfl,⟨⟨_,rfl⟩,rfl,λ d=>by
    obtain⟨a,f⟩:=g.o.eq;have:lN s1 d=lN s d:=by rw[f];rfl
    have ae:=l.o.qc d;rw[this];exact⟨rfl,rfl,ae.1,ae.2.1⟩⟩,E.o,F.o⟩
   case round=>
    obtain⟨j,s2,bS,rfl,a7,N,hF⟩:=hrel;have J:=U N;have a8:=U hF;have M:=U a7;clear N hF a7;have aI:s2.aO=s.aO:=by obtain⟨a,f⟩:=g.o.eq;obtain⟨b,C⟩:=M.o.eq;rw[C,f]
    have aJ:s2.c.cl=s.c.cl:=by obtain⟨a,f⟩:=g.o.eq;obtain⟨b,C⟩:=M.o.eq;rw[C,f]
    have a':s2.ci.length=s2.c.cl.length:=by rw[aJ,M.o.lB];obtain⟨a,f⟩:=g.o.eq;rw[f];exact l.o.nN
    by_cases aq:j<t
    ·have bB:(j:Int)<(t:Int):=by omega
     obtain⟨g10,Y,ba,-⟩:=J.o.e.xb (r:=10) (m:=t) (by rw[L.o.1];exact L.o.2.2.2) (by omega);rw[L.o.1] at Y;have Y:al=some ⟨g10,0,none⟩:=Y;subst Y;have c1:=J.o.e.Gm ba (k:=j) (by rw[aI,L.o.2.1];exact aq);obtain⟨d,aK⟩:∃d,hU s2.aO j=d:=⟨_,rfl⟩
     have aL:d<s2.c.cl.length:=by rw[aJ,<-aK,aI];exact l.o.k8 _ (Gn (by rw[L.o.2.1];exact aq))
     rw[aK] at c1;obtain⟨-,-,-,bC,f4⟩:=J.o.Ai aL;have T:=M.o.ci d;obtain⟨x,I⟩:∃x,(lN s2 d).ac=x:=⟨_,rfl⟩
     rw[I] at bC T;have f43:=f4 3;have Q:f_ x 1024=x/1024:=x_ T.2.2.1;have ab:x/1024<=B:=by omega
     have ad:0<=x/1024:=by omega
     obtain⟨y,O⟩:∃y,x/1024=y:=⟨_,rfl⟩
     rw[O] at Q ab ad;have aC:wrap64 y=y:=by unfold wrap64;omega
     have Z:=U (z_ ad (z_ ab (z_ aL (z_ a' aq))));clear T I O aq aK aL a' f4 aI aJ ba
     go_wp2_with fail
     have D:=J.o.Gl Z.o.2.2.1 Z.o.2.2.2.1 y;have bD:=M.o.step d Z.o.1 Z.o.2.1;go_roundw
     case rel=>exact⟨j+1,_,by have:=Z.o;omega,by go_num,bD,D.1,a8.o.trans D.2⟩
     case measure=>have:=Z.o;simp[intOf];omega
    ·obtain rfl:j=t:=by omega
     have bB:¬(j:Int)<(j:Int):=by omega
     clear bA;have bb:s2.bz=s.bz:=by obtain⟨a,f⟩:=g.o.eq;obtain⟨b,C⟩:=M.o.eq;rw[C,f]
     obtain⟨x,I⟩:∃x,s.bz=x:=⟨_,rfl⟩
     have bc:=J.o.e.kP (k:=9) (v:=.int .i64 s2.bz) rfl;rw[bb,I] at bc;have f9:=J.o.e.free 9;have bE:1<=x:=by rw[<-I];exact l.o.rm
     have bG:x<=A:=by rw[<-I];exact l.o.oQ
     have Q:f_ x 1024=x/1024:=x_ (by omega);obtain⟨y,O⟩:∃y,x/1024=y:=⟨_,rfl⟩
     have bH:0<=y/\y<=A':=by omega
     rw[O] at Q;have aC:wrap64 y=y:=by unfold wrap64;omega
     clear bb I O bE bG
     go_upto_region 11 with fail
     obtain⟨z,R⟩:∃z,(if 1<y then y else 1)=z:=⟨_,rfl⟩
     rw[R];have bd:1<=z/\z<=A':=by rw[<-R];split<;>omega
     have D:=J.o.F9 z;have bg:=U (a8.o.trans D.2);have D:=U D.1;generalize wr.setCell ⟨G,9,none⟩ (.int .i64 z)=bI at D bg;clear R Q aC bH bc f9;obtain⟨s3,V⟩:∃s3,s3=s2.we z:=⟨_,rfl⟩
     rw[<-V] at D;have aM:mw n s3.ord s3.pl:=by obtain⟨a,f⟩:=g.o.eq;obtain⟨b,C⟩:=M.o.eq;rw[V,C,f];exact l.o.lW
     have bh:s3.c.n=n:=by obtain⟨a,f⟩:=g.o.eq;obtain⟨b,C⟩:=M.o.eq;rw[V,C,f];exact l.o.jH
     have bj:s3.act.length=n+1:=by rw[V];show s2.act.length=_;obtain⟨b,C⟩:=M.o.eq;rw[C];exact g.o.lB.trans aa.o
     have aN:=aM.len;obtain⟨S,ar⟩:∃S,s3.ord.length=S:=⟨_,rfl⟩
     rw[ar] at aN;obtain⟨aP,n7,aQ,aR⟩:∃aP n7 aQ,hs 7=⟨aP,n7,aQ⟩:=⟨_,_,_,rfl⟩
     have bk:n7=S:=by have:=D.o.e.n7;rw[aR] at this;exact this.trans ar
     have bT:bI.cell? ⟨G,10,none⟩=some (.slice aP S aQ):=by have:=D.o.e.kP (k:=10) (v:=(hs 7).v) rfl;rw[aR,bk] at this;exact this
     obtain⟨p,hp⟩:∃p:Nat,S/2=p:=⟨_,rfl⟩
     have av:p<=65536/\(p=0\/p-1<S):=by omega
     have Q:=KQ hp;have bU:=wrap_small p av.1;have bV:=KR p av.1;have bl:=half_start av.2;have P:=U (z_ hp (z_ V (z_ aM (z_ bh (z_ bj (z_ aN (z_ ar bd)))))));have bn:=U bl;clear hp V aM bh bj aN ar bd aR bk av bl
     go_wp2_with fail
     go_loopw [5] (λ af W=>∃(i:Int)(jf:au),af=.int .i64 i/\ -1<=i/\i<S/\pU s3 jf/\bf K base W G hs cb jf/\aG K w W) (λ af _=>(intOf af+1).toNat)
     case atStart=>
      obtain⟨bo,aS,aT,ag,aU,bp,bq,aw⟩:=P.o;exact⟨(p:Int)-1,s3,rfl,bn.o.1,bn.o.2,pU.refl (by rw[ag];exact aT),D.o,bg.o⟩
     case round=>
      obtain⟨i,jf,rfl,bW,bX,hO,N,hF⟩:=hrel;have br:=U N;have bs:=U hF;have ah:=U hO;clear N hF hO
      by_cases bY:0<=i
      ·obtain⟨m,rfl⟩:∃m:Nat,i=m:=⟨i.toNat,by omega⟩
       have bZ:wrap64 ((m:Int)-1)=(m:Int)-1:=by have:=P.o;unfold wrap64;omega
       have X:bF (mw jf.c.n jf.ord jf.pl/\jf.act.length=jf.c.n+1/\jf.c.n<=65536/\m<jf.ord.length/\jf.ord.length<=65537):=U (by
        obtain⟨bo,aS,aT,ag,aU,bp,bq,aw⟩:=P.o;have h1:=ah.o.ol;have ae:=ah.o.lW;obtain⟨o,q,bt⟩:=ah.o.eq;have bJ:jf.c.n=n:=by rw[bt];exact ag
        have b0:jf.act.length=n+1:=by rw[bt];exact aU
        rw[ag] at ae;rw[bJ];exact⟨ae,by omega,by omega,by omega,by omega⟩)
       go_wp2_with (go_at_call 194;refine(F6 br.o X.o.1 X.o.2.1 X.o.2.2.1 m X.o.2.2.2.1 X.o.2.2.2.2).mono ?_;rintro e b1 ⟨rfl,af,aV,aW,aX⟩;have aW:=U aW;have aX:=U aX;have aV:=U aV)
       go_roundw
       case rel=>exact⟨(m:Int)-1,af,by go_num,by omega,by omega,ah.o.trans aV.o,aW.o,bs.o.trans aX.o⟩
       case measure=>simp[intOf];omega
      ·have bK:i= -1:=by omega
       subst bK
       go_wp2_with fail
       go_end0;obtain⟨bo,aS,aT,ag,aU,bp,bq,aw⟩:=P.o;have:=KT (s3:=jf) l.o (by have:=g.o;rwa[<-aa.o] at this) M.o aw.1 aw.2 (by rw[<-aS];exact ah.o);exact⟨rfl,jf,this.1,this.2,br.o,bs.o⟩
end
section
open Go.RowKit Go.Shelf
def pG(B bL m:Nat)(W W':World):Prop:=(∀v,W.cell? ⟨B,0,none⟩=some v->W'.cell? ⟨B,0,none⟩=some v)/\∀(k:Nat)(v:Value),k<m->W.cell? ⟨bL,k,none⟩=some v->W'.cell? ⟨bL,k,none⟩=some v
theorem pG.refl(B bL m:Nat)(W:World):pG B bL m W W:=⟨λ _ h=>h,λ _ _ _ h=>h⟩
theorem pG.trans{B:Nat}{iH kq kQ:World}(h:pG B bL m iH kq)(k:pG B bL m kq kQ):pG B bL m iH kQ:=⟨λ v e=>k.1 v (h.1 v e),λ j v b e=>k.2 j v b (h.2 j v b e)⟩
theorem pG.Gq{B:Nat}{row:Option Nat}(b:W.grownBy W' row)(h1:some B≠row)(c:some bL≠row):pG B bL m W W':=⟨λ v h=>b.cell h h1,λ k v _ h=>b.cell h c⟩
def others(l:List Int)(u:Int):List Int:=l.filter λ y=>y !=u
theorem KU{l:List Int}{u:Int}(hk:k<l.length):others (l.take (k+1)) u=if ak l k=u then others (l.take k) u else others (l.take k) u++[ak l k]:=by
 rw[y5 hk];unfold others;rw[List.filter_append]
 by_cases h:ak l k=u
 ·rw[if_pos h];simp[h]
 ·rw[if_neg h];simp[h]
theorem Gr(l:List Int)(u:Int)(k:Nat):others (l.take k) u<+:others l u:=by
 unfold others;exact(List.take_prefix k l).filter _
theorem Du:∀args w,(callFunc 224 args).run y_ w=.ok (.enter 224 args) w:=enters_of Tryz.func224 (by kernel_rfl) rfl
theorem KV(F:Fence)(n:Nat)(H:F.fn 224)(I:F.round=none)(R:1<=n)(l w f b bL m J:Nat)(cl:List Int)(u:Int)(hl:cl.length=m)(hm:m<=1000000)(c y:List Int->World->Prop)
  (K:∀pre (x:Int) W,c pre W->(pre++[x])<+:others cl u->YieldAt F (n-1) y_ l #[.int .i64 x] W λ e W'=>
   (e=.returned (.bool true)/\c (pre++[x]) W'/\pG f bL m W W')\/(e=.returned (.bool false)/\y (pre++[x]) W'))
  (W:World) (c1:W.cell? ⟨w,0,none⟩=some (.pointer (some ⟨b,0,none⟩))) (c2:W.cell? ⟨f,0,none⟩=some (.int .i64 u)) (c3:W.cell? ⟨b,0,none⟩=some (.slice (some ⟨bL,0,none⟩) m J))
  (z:∀k,k<m->W.cell? ⟨bL,k,none⟩=some (.int .i64 (ak cl k))) (L:c [] W):
  CallsIn F n y_ 224 #[.func (.yield l) #[] #[],.pointer (some ⟨w,0,none⟩),.pointer (some ⟨f,0,none⟩)] W λ e W'=>(∃v,e=.returned v)/\
   ((∃ys,ys=others cl u/\c ys W')\/(∃pre,pre<+:others cl u/\y pre W')):=by
 have M:=U z;have A:=U hl;clear z hl;refine callsIn_of_wp Tryz.func224 rfl H ?_ I;simp only[Tryz.ntmps224,List.size_toArray,List.length_cons,List.length_nil,Nat.reduceAdd,Nat.reduceSub,Array.replicate_succ,Array.replicate_zero,List.push_toArray,List.append_toArray,List.nil_append,List.cons_append]
 gi_wp2
 gi_loopw [11] (λ i wr=>∃k:Nat,k<=m/\i=.int .i64 k/\c (others (cl.take k) u) wr/\pG f bL m W wr) (λ i _=>m-(intOf i).toNat)
 case atStart=>exact⟨0,Nat.zero_le _,rfl,by rw[h_];exact L,pG.refl _ _ _ _⟩
 case round=>
  obtain⟨k,hk,rfl,B,j⟩:=hrel;have p:=U B;have q:=U j;have S:=j.1 _ c2;clear B j
  by_cases r:k<m
  ·have N:=q.o.2 k _ r (M.o k r);have s:k<cl.length:=by rw[A.o];exact r
   have d:=U (KU (u:=u) s);have T:q_.wrap ((k:Int)+1)=(k:Int)+1:=by rw[l_];omega
   have V:(k:Int)<(m:Int):=by omega
   have X:=U s;obtain⟨x,C⟩:∃x,ak cl k=x:=⟨_,rfl⟩
   rw[C] at N d;clear C s
   by_cases he:x=u
   ·have O:(x !=u)=false:=by simp[he]
    have g:=U he;clear he
    gi_wp2
    refine⟨λ _ h=>(by cases h),?_⟩
    gi_wp2
    go_roundw
    case rel=>exact⟨k+1,by omega,by go_num,by rw[d.o,if_pos g.o];exact p.o,q.o⟩
    case measure=>simp[intOf];omega
   ·have O:(x !=u)=true:=by simp[he]
    obtain⟨fn,tmps,assign,body,Y,P⟩:=K _ x wr p.o (by have:=d.o;rw[if_neg he] at this;rw[<-this];exact Gr _ _ _);have g:=U he;clear he
    gi_wp2
    refine P.mono ?_;rintro e Z (⟨rfl,D,E⟩|⟨rfl,G⟩)
    ·have t:=U D;have Q:=U E;clear D E
     gi_wp2
     go_roundw
     case rel=>exact⟨k+1,by omega,by go_num,by rw[d.o,if_neg g.o];exact t.o,q.o.trans Q.o⟩
     case measure=>simp[intOf];omega
    ·have t:=U G;clear G
     gi_wp2
     refine bodyPost_ret (results_none rfl _ _ _) rfl ?_;refine⟨⟨_,rfl⟩,.inr ⟨_,?_,t.o⟩⟩;have:=d.o;rw[if_neg g.o] at this;rw[<-this];exact Gr _ _ _
  ·obtain rfl:k=m:=by omega
   gi_wp2
   go_end0;exact⟨⟨_,rfl⟩,.inl ⟨_,by rw[List.take_of_length_le (by rw[A.o];exact Nat.le_refl _)],p.o⟩⟩
theorem Dv(p:Option Addr)(x:Int)(w:World):
  Calls y_ 183 #[.pointer p,.int .i64 x] w λ e w'=>e=.returned (.func (.func 224) #[] #[.pointer (some ⟨w.heap.size,0,none⟩),.pointer (some ⟨w.heap.size+1,0,none⟩)])/\
   w'=(w.alloc (.cells #[.pointer p] 164)).alloc (.cells #[.int .i64 x] 3):=by
 have b:∀(fn:Fn)(first cap:Array Value)(w:World),(Instr.makeFunc fn first cap).run y_ w=.ok (.func fn first cap) w:=λ _ _ _ _=>rfl
 go_enter Tryz.func183,Tryz.ntmps183
 go_wp2;go_ret;exact⟨rfl,rfl⟩
theorem Dw(n:Nat)(g:1<=n)(d c b bL m f:Nat)(cl:List Int)(u:Int)(hl:cl.length=m)(hm:m<=1000000)(w:World)(c1:w.cell? ⟨d,0,none⟩=some (.pointer (some ⟨b,0,none⟩)))(c2:w.cell? ⟨c,0,none⟩=some (.int .i64 u))
  (c3:w.cell? ⟨b,0,none⟩=some (.slice (some ⟨bL,0,none⟩) m f)) (i:∀k,k<m->w.cell? ⟨bL,k,none⟩=some (.int .i64 (ak cl k))) (h1:d<w.heap.size) (j:c<w.heap.size) (o:b<w.heap.size) (q:bL<w.heap.size):
  Fx Fence.wide n y_ 224 #[.pointer (some ⟨d,0,none⟩),.pointer (some ⟨c,0,none⟩)] (λ x:Int=> #[.int .i64 x]) (pG c bL m) (λ pre x=>(pre++[x])<+:others cl u) (λ ys=>ys=others cl u) (λ pre=>pre<+:others cl u) w:=
 λ l r s W e t v=>KV Fence.wide n trivial rfl g l d c b bL m f cl u hl hm r s t W ((e.cell (p:=⟨d,0,none⟩) h1).trans c1) ((e.cell (p:=⟨c,0,none⟩) j).trans c2) ((e.cell (p:=⟨b,0,none⟩) o).trans c3)
  (λ k hk=>(e.cell (p:=⟨bL,k,none⟩) q).trans (i k hk)) v
section
variable {base:Nat}{w w':World}{G:Nat}{hs:Nat->ay}{cb:Nat->Nat}{gr:List Value}{cls:Nat->List Value}{n:Nat}{X:Nat->List Value}{K:Nat->Prop}{s:au}
theorem kA.u0(h:kA base w G hs cb gr cls n X){row:Option Nat}(i:w.grownBy w' row)(l:∀r,row=some r->∃o:Obj,w.heap[r]? =some o/\o.isCells=false):kA base w' G hs cb gr cls n X:=by
 have f:∀b (t:TypeId) (cs:List Value),aR w b t cs->some b≠row:=λ b t cs f e=>by
  obtain⟨o,c,j⟩:=l b e.symm;have:w.heap[b]? =_:=f;rw[this] at c;cases c;cases j
 refine⟨h.box.kept i (f _ _ _ h.box),h.rows.kept i (λ r g m e=>?_),λ d p=>(h.cls d p).kept i (f _ _ _ (h.cls d p)),h.inj,h.q6,h.rL⟩;obtain⟨o,c,j⟩:=l g e;rcases(h.rows.row r).2 with⟨k,_⟩|⟨s,cap,cur,k,_,q,_⟩
 ·have:(hs r).v.ownBlock=some g:=by rw[ay.own];exact m
  rw[k] at this;cases this
 ·have:(hs r).v.ownBlock=some g:=by rw[ay.own];exact m
  rw[k] at this
  cases this
  rw[q] at c;cases c;cases j
theorem bf.u0(h:bf K base w G hs cb s){row:Option Nat}(b:w.grownBy w' row)(c:∀r,row=some r->∃o:Obj,w.heap[r]? =some o/\o.isCells=false):bf K base w' G hs cb s:=
 ⟨h.e.u0 b c,h.s.more b.size⟩
end
end
section
open Go.RowKit Go.Shelf
structure o9(kL:Nat)(W:World)(ds:List Nat):Prop where
 nt:ds.Nodup
 kR:∀D∈ds,kL<=D/\W.heap[D]? =some (.deferred (some []))
section
variable {kL:Nat}{W W':World}{ds:List Nat}{row:Option Nat}
theorem o9.lt(h:o9 kL W ds){D:Nat}(b:D∈ds):D<W.heap.size:=(v_.1 (h.kR D b).2).1
theorem o9.kept(h:o9 kL W ds)(c:W.grownBy W' row)(d:∀D∈ds,some D≠row):o9 kL W' ds:=
 ⟨h.nt,λ D b=>⟨(h.kR D b).1,(c.block D (h.lt b) (d D b)).trans (h.kR D b).2⟩⟩
theorem o9.below(h:o9 kL W ds)(c:Below W.heap.size W W'):o9 kL W' ds:=⟨h.nt,λ D b=>⟨(h.kR D b).1,(c.block D (h.lt b)).trans (h.kR D b).2⟩⟩
theorem o9.cons(h:o9 kL W ds){D:Nat}(c:kL<=D)(hm:W.heap[D]? =some (.deferred (some [])))(d:D∉ds):o9 kL W (D::ds):=
 ⟨List.nodup_cons.2 ⟨d,h.nt⟩,λ E b=>by exact(List.mem_cons.1 b).elim (λ e=>by subst e;exact⟨c,hm⟩) (λ b=>h.kR E b)⟩
theorem o9.KW(h:o9 kL W ds)(c:W.grownBy W' row)(d:∀r,row=some r->∃cs t b,W.heap[r]? =some (.cells cs t b)):o9 kL W' ds:=
 h.kept c (λ D f e=>by obtain⟨cs,t,b,h1⟩:=d D e.symm;rw[(h.kR D f).2] at h1;cases h1)
end
theorem BK{t:TypeId}{cs:List Value}(h:aR w b t cs):∃cs t c,w.heap[b]? =some (.cells cs t c):=⟨_,_,_,h⟩
theorem vz{e:TypeId}{size:Nat}{v:Value}{xs:List Value}(h:w.ownsRow base e size v n xs){g:Nat}(b:v.ownBlock=some g):∃cs,w.heap[g]? =some (.cells cs e (0,0)):=by
 rcases h.2 with⟨c,_⟩|⟨f,cap,cur,c,_,d,_⟩
 ·rw[c] at b;cases b
 ·rw[c] at b;cases b;exact⟨_,d⟩
theorem mb.block{S:List Int}(h:mb w b n S):∃es clock,w.heap[b]? =some (.map es clock):=by
 obtain⟨D,⟨es,clock,h1,c⟩,d⟩:=h;exact⟨es,clock,h1⟩
theorem Dx(w:World)(base:Nat)(b:List Int)(n:Nat)(c:b.length=n)(d:base<=w.heap.size)(hm:n<=1000):(w.alloc (.cells (jj b).toArray 3)).ownsRow base 3 1 (.slice (some ⟨w.heap.size,0,none⟩) n n) n (jj b):=by
 subst c;have:=World.ownsRow_lit (base:=base) (e:=3) (size:=1) w (jj b).toArray b.length d (by unfold maxLen;omega) (by simp[jj]);simpa[jj] using this
structure pX(w W:World)(G aH bD bm m:Nat)(S:List Int)(A:Option Addr)(n c:Nat)(out:List Int)(ds:List Nat):Prop where
 below:Below w.heap.size w W
 qf:aR W aH 115 [.pointer (some ⟨G,0,none⟩)]
 qu:aR W bD 114 [.map (some bm)]
 set:mb W bm m S
 row:W.ownsRow w.heap.size 3 1 (.slice A n c) n (jj out)
 u5:o9 w.heap.size W ds
 lm:w.heap.size<=bm
 gV:w.heap.size<=aH
 k9:w.heap.size<=bD
section
variable {w W W':World}{G aH bD bm m:Nat}{S:List Int}{A:Option Addr}{n c:Nat}{out:List Int}{ds:List Nat}
theorem pX.len(h:pX w W G aH bD bm m S A n c out ds):out.length=n:=by have:=h.row.1;simpa[jj] using this
theorem pX.grow(h:pX w W G aH bD bm m S A n c out ds)(b:Below W.heap.size W W'):pX w W' G aH bD bm m S A n c out ds:=
 ⟨h.below.trans (b.mono h.below.size),h.qf.below b,h.qu.below b,h.set.below b h.set.lt,mh h.row b,h.u5.below b,h.lm,h.gV,h.k9⟩
theorem pX.u0(h:pX w W G aH bD bm m S A n c out ds){B:Nat}{row:Option Nat}(d:W.grownBy W' row)(f:∀r,row=some r->B<=r/\∃o:Obj,W.heap[r]? =some o/\o.isCells=false)(y:w.heap.size<=B)(hm:bm<B)(l:∀D∈ds,D<B):pX w W' G aH bD bm m S A n c out ds:=by
 have i:∀b,(∃cs t j,W.heap[b]? =some (.cells cs t j))->some b≠row:=λ b ⟨cs,t,j,p⟩ e=>by
  obtain⟨_,o,k,q⟩:=f b e.symm;rw[p] at k;cases k;cases q
 refine⟨h.below.grown d h.below.size (λ g e=>by have:=(f g e).1;omega),h.qf.kept d (i _ (BK h.qf)),h.qu.kept d (i _ (BK h.qu)),h.set.kept d (λ e=>by have:=(f bm e.symm).1;omega),h.row.kept d ?_,h.u5.kept d (λ D s e=>by have:=(f D e.symm).1;have:=l D s;omega),h.lm,h.gV,h.k9⟩
 cases u:(e_ A n c).ownBlock with
 |none=>exact .inl rfl
 |some g=>
  obtain⟨cs,v⟩:=vz h.row u;exact .inr (i g ⟨_,_,_,v⟩)
theorem pX.put(h:pX w W G aH bD bm m S A n c out ds){lX:Nat}{oS:List Int}(hs:mb W' bm lX oS)(d:W.grownBy W' (some bm)):pX w W' G aH bD bm lX oS A n c out ds:=by
 obtain⟨es,cl,hm⟩:=h.set.block;have f:∀b,(∃cs t i,W.heap[b]? =some (.cells cs t i))->some b≠some bm:=λ b ⟨cs,t,i,j⟩ e=>by
  injection e with e;subst e;rw[j] at hm;cases hm
 refine⟨h.below.grown d h.below.size (λ g e=>by cases e;exact h.lm),h.qf.kept d (f _ (BK h.qf)),h.qu.kept d (f _ (BK h.qu)),hs,h.row.kept d ?_,h.u5.kept d (λ D k e=>by injection e with e;subst e;rw[(h.u5.kR D k).2] at hm;cases hm),h.lm,h.gV,h.k9⟩
 cases l:(e_ A n c).ownBlock with
 |none=>exact .inl rfl
 |some g=>
  obtain⟨cs,o⟩:=vz h.row l;exact .inr (f g ⟨_,_,_,o⟩)
theorem pX.app(h:pX w W G aH bD bm m S A n c out ds){x:Int}{v':Value}(i:mY W w.heap.size 3 (.slice A n c) (n+1) ((out++[x]).map (Value.int .i64)) v' W'):∃A' c',v'=.slice A' (n+1) c'/\pX w W' G aH bD bm m S A' (n+1) c' (out++[x]) ds:=by
 obtain⟨f,b,_⟩:=i;obtain⟨A',c',rfl⟩:=Fo f;have d:∀r,(e_ A n c).ownBlock=some r->∃cs,W.heap[r]? =some (.cells cs 3 (0,0)):=λ r e=>vz h.row e
 refine⟨A',c',rfl,h.below.grown b h.below.size (λ g e=>(h.row.lt g e).1),h.qf.kept b (λ e=>?_),h.qu.kept b (λ e=>?_),h.set.kept b (λ e=>?_),f,h.u5.KW b (λ r e=>by obtain⟨cs,h1⟩:=d r e;exact⟨_,_,_,h1⟩),h.lm,h.gV,h.k9⟩
 ·obtain⟨cs,h1⟩:=d aH e.symm;rw[show W.heap[aH]? =_ from h.qf] at h1;simp at h1
 ·obtain⟨cs,h1⟩:=d bD e.symm;rw[show W.heap[bD]? =_ from h.qu] at h1;simp at h1
 ·obtain⟨cs,h1⟩:=d bm e.symm;obtain⟨es,cl,j⟩:=h.set.block;rw[j] at h1;cases h1
theorem pX.mark(h:pX w W G aH bD bm m S A n c out ds){D:Nat}(b:w.heap.size<=D)(hm:W.heap[D]? =some (.deferred (some [])))(d:∀E∈ds,E<D):pX w W G aH bD bm m S A n c out (D::ds):=
 ⟨h.below,h.qf,h.qu,h.set,h.row,h.u5.cons b hm (λ e=>by have:=d D e;omega),h.lm,h.gV,h.k9⟩
end
end
section
open Go.RowKit Go.Shelf
section
variable {base:Nat}{w w':World}{G:Nat}{hs:Nat->ay}{cb:Nat->Nat}{gr:List Value}{cls:Nat->List Value}{n:Nat}{X:Nat->List Value}
theorem kA.off(h:kA base w G hs cb gr cls n X){row:Option Nat}(c:w.grownBy w' row)(f:∀g,row=some g->g≠G/\(∀r,(hs r).b≠some g)/\∀d,d<n->cb d≠g):kA base w' G hs cb gr cls n X:=
 ⟨h.box.kept c (λ e=>(f G e.symm).1 rfl),h.rows.kept c (λ r g j e=>(f g e).2.1 r j),λ d i=>(h.cls d i).kept c (λ e=>(f _ e.symm).2.2 d i rfl),h.inj,h.q6,h.rL⟩
theorem mu.others{mj:Type}{ty:mj->TypeId}{oa:mj->Nat}{ls:mj->ay}{Y:mj->List Value}(h:mu base ty oa w ls Y){K:Nat->Prop}(f:aG K w w')(hk:∀r g,(ls r).b=some g->K g):mu base ty oa w' ls Y:=
 ⟨λ r=>o6 (h.row r) (λ b c=>f.keep b (hk r b (by rw[<-ay.own];exact c))),h.apart⟩
theorem mu.Gs{mj:Type}{ty:mj->TypeId}{oa:mj->Nat}{ls:mj->ay}{Y:mj->List Value}(h:mu base ty oa w ls Y){r:mj}{g:Nat}(d:(ls r).b=some g){o:Obj}(c:w.heap[g]? =some o):o.isCells=true:=by
 obtain⟨cs,e⟩:=vz (h.row r) (g:=g) (by rw[ay.own];exact d);rw[e] at c;cases c;rfl
end
def yc(r:Nat):TypeId:=if r=0 then 115 else if r=1 then 25 else if r=2 then 25 else if r=4 then 170 else if r=7 then 114 else if r=8 then 129 else if r=10 then 164 else 3
structure lF(K:Nat->Prop)(base:Nat)(w W:World)(G:Nat)(hs:Nat->ay)(cb:Nat->Nat)(s:au)(ls:Nat->ay)(X:Nat->List Value):Prop where
 gK:bf (λ b=>K b\/∃r,(ls r).b=some b) base W G hs cb s
 rows:mu w.heap.size yc (λ _=>1) W ls X
 jB:aG K w W
 kl:∀b,K b->b<w.heap.size
def oq(B:Nat):ay:=⟨some ⟨B,0,none⟩,1,1⟩
section
variable {K:Nat->Prop}{base:Nat}{w W W':World}{G:Nat}{hs hs':Nat->ay}{cb r4:Nat->Nat}{s s':au}{ls:Nat->ay}{X:Nat->List Value}
theorem KeepsOthers.below{A B:World}(h:Below A.heap.size A B):KeepsOthers A B:=⟨h.size,λ k o hk _=>(h.block k (v_.1 hk).1).trans hk⟩
theorem KeepsOthers.grown{A B:World}{row:Option Nat}(h:A.grownBy B row)(c:∀g,row=some g->∃cs t b,A.heap[g]? =some (.cells cs t b)):KeepsOthers A B:=
 ⟨h.size,λ k o hk d=>(h.block k (v_.1 hk).1 (λ e=>by obtain⟨cs,t,b,h1⟩:=c k e.symm;rw[h1] at hk;cases hk;cases d)).trans hk⟩
theorem lF.call(h:lF K base w W G hs cb s ls X):bf (λ b=>(K b\/∃r,(ls r).b=some b)\/∃o:Obj,W.heap[b]? =some o/\o.isCells=false) base W G hs cb s:=by
 refine⟨h.gK.e,⟨λ b c=>?_,λ c=>?_,λ r b j c=>?_,λ d k c=>?_⟩⟩
 ·rcases c with c|⟨o,f,_⟩
  ·exact h.gK.s.lt b c
  ·exact(v_.1 f).1
 ·rcases c with c|⟨o,f,i⟩
  ·exact h.gK.s.g c
  ·have h1:W.heap[G]? =_:=h.gK.e.box;rw[h1] at f;cases f;cases i
 ·rcases c with c|⟨o,f,i⟩
  ·exact h.gK.s.row r b j c
  ·rw[h.gK.e.rows.Gs j f] at i;cases i
 ·rcases c with c|⟨o,f,i⟩
  ·exact h.gK.s.cl d k c
  ·have h1:W.heap[cb d]? =_:=h.gK.e.cls d k;rw[h1] at f;cases f;cases i
theorem lF.back(h:lF K base w W G hs cb s ls X)(e:bf (λ b=>(K b\/∃r,(ls r).b=some b)\/∃o:Obj,W.heap[b]? =some o/\o.isCells=false) base W' G hs' r4 s')(f:aG (λ b=>(K b\/∃r,(ls r).b=some b)\/∃o:Obj,W.heap[b]? =some o/\o.isCells=false) W W'):
  lF K base w W' G hs' r4 s' ls X/\KeepsOthers W W':=
 ⟨⟨e.BA (λ b c=>.inl c),h.rows.others f (λ r g d=>.inl (.inr ⟨r,d⟩)),h.jB.trans (f.mono (λ b c=>.inl (.inl c))),h.kl⟩,f.size,λ k o hk i=>(f.keep k (.inr ⟨o,hk,i⟩)).trans hk⟩
theorem lF.grow(h:lF K base w W G hs cb s ls X)(c:Below W.heap.size W W'):lF K base w W' G hs cb s ls X:=
 ⟨(h.gK.below c).1,h.rows.below c,h.jB.trans ((h.gK.below c).2.mono (λ b hk=>.inl hk)),h.kl⟩
theorem lF.drew(h:lF K base w W G hs cb s ls X):lF K base w W.drew G hs cb s ls X:=h.grow ((Below.refl _ W).drew)
theorem lF.u0(h:lF K base w W G hs cb s ls X){row:Option Nat}(c:W.grownBy W' row)(d:∀r,row=some r->w.heap.size<=r/\∃o:Obj,W.heap[r]? =some o/\o.isCells=false):lF K base w W' G hs cb s ls X:=
 ⟨h.gK.u0 c (λ r e=>(d r e).2),h.rows.kept c (λ r g j e=>by obtain⟨_,o,k,i⟩:=d g e;rw[h.rows.Gs j k] at i;cases i),
  h.jB.trans (aG.grown c (λ b f=>h.gK.s.lt b (.inl f)) (λ b e f=>by have:=(d b e).1;have:=h.kl b f;omega)),h.kl⟩
theorem lF.ji(h:lF K base w W G hs cb s ls X){r:Nat}{h':ay}{ys:List Value}(f:W.grownBy W' (ls r).b)(l:W'.ownsRow w.heap.size (yc r) 1 h'.v h'.n ys)(m:h'.b=(ls r).b\/∀g,h'.b=some g->W.heap.size<=g):
  lF K base w W' G hs cb s (iV ls r h') (iV X r ys)/\KeepsOthers W W':=by
 have p:∀g,(ls r).b=some g->w.heap.size<=g/\g<W.heap.size:=λ g e=>h.rows.lt e
 have q:∀g,(ls r).b=some g->g≠G/\(∀r',(hs r').b≠some g)/\∀d,d<s.c.cl.length->cb d≠g:=λ g e=>by
  refine⟨λ i=>?_,λ r' i=>?_,λ d j i=>?_⟩
  ·subst i;exact h.gK.s.g (.inr ⟨r,e⟩)
  ·exact h.gK.s.row r' g i (.inr ⟨r,e⟩)
  ·subst i;exact h.gK.s.cl d j (.inr ⟨r,e⟩)
 have t:=h.gK.e.off f q;refine⟨⟨⟨t,?_⟩,h.rows.ji (r:=r) f l m,h.jB.trans (aG.grown f (λ b hk=>h.gK.s.lt b (.inl hk)) (λ b e hk=>by have:=(p b e).1;have:=h.kl b hk;omega)),h.kl⟩,
  KeepsOthers.grown f (λ g e=>by obtain⟨cs,u⟩:=vz (h.rows.row r) (g:=g) (by rw[ay.own];exact e);exact⟨_,_,_,u⟩)⟩
 have k:∀b,(∃r',(iV ls r h' r').b=some b)->(∃r',(ls r').b=some b)\/(W.heap.size<=b/\h'.b=some b):=λ b ⟨r',e⟩=>by
  by_cases o:r'=r
  ·subst o;rw[jT] at e;rcases m with h1|h1
   ·exact .inl ⟨r',by rw[<-h1];exact e⟩
   ·exact .inr ⟨h1 b e,e⟩
  ·rw[bq _ _ o] at e;exact .inl ⟨r',e⟩
 have y:∀b,h'.b=some b->b<W'.heap.size:=λ b e=>(Bf l (g:=b) (by rw[ay.own];exact e)).2
 refine⟨λ b hk=>?_,λ hk=>?_,λ r' b e hk=>?_,λ d j hk=>?_⟩
 ·rcases hk with hk|hk
  ·exact Nat.lt_of_lt_of_le (h.gK.s.lt b (.inl hk)) f.size
  ·rcases k b hk with hk|⟨_,hk⟩
   ·exact Nat.lt_of_lt_of_le (h.gK.s.lt b (.inr hk)) f.size
   ·exact y b hk
 ·rcases hk with hk|hk
  ·exact h.gK.s.g (.inl hk)
  ·rcases k G hk with hk|⟨hk,_⟩
   ·exact h.gK.s.g (.inr hk)
   ·have:=h.gK.e.box.lt;omega
 ·rcases hk with hk|hk
  ·exact h.gK.s.row r' b e (.inl hk)
  ·rcases k b hk with hk|⟨hk,_⟩
   ·exact h.gK.s.row r' b e (.inr hk)
   ·have:=(h.gK.e.rows.lt e).2;omega
 ·rcases hk with hk|hk
  ·exact h.gK.s.cl d j (.inl hk)
  ·rcases k _ hk with hk|⟨hk,_⟩
   ·exact h.gK.s.cl d j (.inr hk)
   ·have:=(h.gK.e.cls d j).lt;omega
theorem lF.fresh(h:lF K base w W G hs cb s ls X){r:Nat}{h':ay}{ys:List Value}(c:Below W.heap.size W W')(d:W'.ownsRow w.heap.size (yc r) 1 h'.v h'.n ys)(e:∀g,h'.b=some g->W.heap.size<=g):
  lF K base w W' G hs cb s (iV ls r h') (iV X r ys):=
 (h.ji (r:=r) (h':=h') (ys:=ys) ⟨c.os,c.tape,c.output,c.size,λ k hk _=>c.block k hk⟩ d (.inr e)).1
theorem lF.box(h:lF K base w W G hs cb s ls X)(r:Nat)(v:Value):lF K base w (W.alloc (.cells #[v] (yc r))) G hs cb s (iV ls r (oq W.heap.size)) (iV X r [v]):=
 h.fresh (bC W _) (by
  have:=World.ownsRow_lit (base:=w.heap.size) (e:=yc r) (size:=1) W #[v] 1 h.jB.size (by unfold maxLen;omega) (by simp);simpa[oq,ay.v] using this) (λ g e=>by cases e;exact Nat.le_refl _)
theorem lF.set(h:lF K base w W G hs cb s ls X){r g:Nat}(c:(ls r).b=some g)(k:Nat)(v:Value):lF K base w (W.setCell ⟨g,k,none⟩ v) G hs cb s ls (iV X r ((X r).set k v))/\KeepsOthers W (W.setCell ⟨g,k,none⟩ v):=by
 have e:=h.rows.set c k v;have f:W.grownBy (W.setCell ⟨g,k,none⟩ v) (ls r).b:=by rw[c];exact lq W g k v
 have i:iV ls r (ls r)=ls:=by funext r';unfold iV;split<;>simp_all
 have d:=e.row r;rw[jT] at d;have:=h.ji (r:=r) (h':=ls r) (ys:=(X r).set k v) f d (.inl rfl);rw[i] at this;exact this
theorem lF.kR(h:lF K base w W G hs cb s ls X){r g:Nat}(c:(ls r).b=some g){k:Nat}{v:Value}(d:(X r)[k]? =some v):W.cell? ⟨g,k,none⟩=some v/\W.frozen? ⟨g,k,none⟩=false:=by
 refine⟨?_,h.rows.free c k⟩;have hk:k<(ls r).n*1:=by rw[<-h.rows.len r];exact(s_.1 d).1
 rw[h.rows.cell c hk,d]
theorem lF.lt(h:lF K base w W G hs cb s ls X){r g:Nat}(c:(ls r).b=some g):w.heap.size<=g/\g<W.heap.size:=h.rows.lt c
theorem lF.start(h:bf K base w G hs cb s):lF K base w w G hs cb s (λ _=>wO) (λ _=> []):=
 ⟨h.BA (λ b c=>by rcases c with c|⟨r,e⟩;exact c;cases e),⟨λ r=>World.ownsRow_nil _ _ _ _,λ r r' g _ e=>by cases e⟩,aG.refl,h.s.lt⟩
theorem lF.off(h:lF K base w W G hs cb s ls X){r g:Nat}(e:(ls r).b=some g):g≠G/\(∀r',(hs r').b≠some g)/\∀d,d<s.c.cl.length->cb d≠g:=
 ⟨λ f=>by subst f;exact h.gK.s.g (.inr ⟨r,e⟩),λ r' f=>h.gK.s.row r' g f (.inr ⟨r,e⟩),λ d i f=>by subst f;exact h.gK.s.cl d i (.inr ⟨r,e⟩)⟩
end
theorem o9.others{kL:Nat}{ds:List Nat}(h:o9 kL W ds)(k:KeepsOthers W W'):o9 kL W' ds:=⟨h.nt,λ D b=>⟨(h.kR D b).1,k.same D _ (h.kR D b).2 rfl⟩⟩
end
section
open Go.RowKit Go.Shelf
def Gt(K:Nat->Prop)(base:Nat)(w:World)(G:Nat)(hs:Nat->ay)(cb:Nat->Nat)(n:Nat)(B:Int)(s:au)(e:Ending)(w':World):Prop:=
 e=.returned (.tuple #[])/\∃s',od s s'/\mE n jK B s'/\bf K base w' G hs cb s'/\aG K w w'
theorem BL(b:0<=x)(h1:x<=4611686018427387904):wrap64 x=x:=by unfold wrap64;omega
theorem KX(h:bf K base w G hs cb s)(r:mE n jK B s)(ad:n<=60000)(ae:s.aO.length<=100000)(af:0<=B)(ag:B<=4611686018427387904)(v:Nat)(ah:1<=v/\v<=n):
  Calls y_ 184 #[.pointer (some ⟨G,0,none⟩),.int .i64 v] w (Gt K base w G hs cb n B s):=by
 obtain⟨g6,D,ai,f6⟩:=h.e.l7 8 6 rfl (h.e.n6.trans r.lB) (by omega);have R:=h.e.yU D (k:=v) (by rw[r.lB];omega);have aj:=f6 v;obtain⟨x,E⟩:∃x,ak s.act v=x:=⟨_,rfl⟩
 obtain⟨y,F⟩:∃y,s.bz=y:=⟨_,rfl⟩
 have S:=h.e.kP (k:=9) (v:=.int .i64 s.bz) rfl;rw[F] at S;rw[E] at R;have T:0<=x/\x<=jK:=by rw[<-E];exact r.qp v
 have W:1<=y/\y<=jK:=by rw[<-F];exact⟨r.rm,r.oQ⟩
 obtain⟨z,al⟩:∃z,x+y=z:=⟨_,rfl⟩
 have H:0<=z/\z<=2199023255552:=by unfold jK at T W;omega
 have Y:wrap64 z=z:=BL H.1 (by omega);have ar:q_.wrap z=z:=by rw[l_];unfold wrap64 at Y;omega
 have bp:(v:Int)<(n:Int)+1:=by omega
 have an:=U h;have I:=U r;have J:=U D;have V:=U ah;have Z:=U H;clear h r D f6 E F T W H;go_enter Tryz.func184,Tryz.ntmps184
 go_wp2_with fail
 refine wp_region_still_tail 13 (by kernel_rfl) (by kernel_rfl) ?_;simp only[List.take_succ_cons,h_,List.drop_succ_cons,List.drop_zero]
 iterate 13 still_step
 refine wpStill_nil ?_;change wpList _ _ _ _ _ w.drew
 go_upto_region 1 with fail
 have d:=an.o.Bz J.o v z;have L:=U (d.2.trans aG.drew);have d:=U d.1.drew;generalize (w.setCell ⟨g6,v,none⟩ (.int .i64 z)).drew=w1 at d L;have M:bF (mE n 2199023255552 B (s.p8 v z)):=U (I.o.act (by unfold jK;omega) V.o.1 Z.o.1 Z.o.2);have aa:=d.o.e.ri 8 J.o (d.o.e.n6.trans M.o.lB) rfl;have N:=d.o.e.yU J.o (k:=v) (by rw[M.o.lB];have:=V.o;omega);have ab:ak (s.p8 v z).act v=z:=by show ak (s.act.set v z) v=z;rw[oZ,if_pos ⟨rfl,by rw[I.o.lB];have:=V.o;omega⟩]
 rw[ab] at N;clear ai R S aj Y ab al
 by_cases av:1099511627776<z
 ·go_upto_region 3 with(go_at_call 188;refine(Gp (A:=2199023255552) (A':=jK) d.o M.o ad ae (by omega) (by unfold jK;omega) (by unfold jK;omega) af ag).mono ?_;rintro e aw ⟨rfl,s2,i,b,c,j⟩;have c:=U c;have j:=U (L.o.trans j);have i:=U ((od.act s v z).trans i);have b:=U b)
  clear aa N;have l:=b.o.lW.sx;obtain⟨g8,t,ao,f8⟩:=c.o.e.l7 11 8 rfl (c.o.e.n8.trans l) (by omega);have d8:=c.o.e.xg t (k:=v) (by rw[l];have:=V.o;omega);obtain⟨pv,f⟩:∃pv,ak s2.pl v=pv:=⟨_,rfl⟩
  rw[f] at d8;have u:0<=pv->pv<s2.ord.length:=λ O=>by rw[<-f];exact(b.o.lW.o v V.o.1 V.o.2 (by rw[f];exact O)).1
  have C:=b.o.lW.len;have X:=U (z_ u C);clear l t f8 f u C
  by_cases hp:0<=pv
  ·have P:(v:Int)<((n+1:Nat):Int):=by have:=V.o;omega
   obtain⟨p,rfl⟩:∃p:Nat,pv=p:=⟨pv.toNat,by omega⟩
   go_wp2_with (go_at_call 187;refine(Dq c.o (by have:=b.o.lW;rw[b.o.jH];exact this) (by rw[b.o.lB,b.o.jH]) (by rw[b.o.jH];omega) p (by have:=X.o.1 (by omega);omega) (by have:=X.o.2;omega)).mono ?_;rintro e aq ⟨rfl,Q,g,m,q⟩;have m:=U m;have q:=U q;have g:=U g)
   go_end0;exact⟨rfl,Q,i.o.trans g.o.hk,g.o.rg b.o,m.o,j.o.trans q.o⟩
  ·have P:(v:Int)<((n+1:Nat):Int):=by have:=V.o;omega
   go_wp2_with fail
   go_end0;exact⟨rfl,s2,i.o,b.o,c.o,j.o⟩
 ·have b:bF (mE n jK B (s.p8 v z)):=U (I.o.act (Int.le_refl _) V.o.1 Z.o.1 (by unfold jK;omega))
  go_upto_region 3 with fail
  have c:=d;have j:=L;have i:bF (od s (s.p8 v z)):=U (od.act s v z);clear aa N;have l:=b.o.lW.sx;obtain⟨g8,t,ao,f8⟩:=c.o.e.l7 11 8 rfl (c.o.e.n8.trans l) (by omega);have d8:=c.o.e.xg t (k:=v) (by rw[l];have:=V.o;omega);obtain⟨pv,f⟩:∃pv,ak (s.p8 v z).pl v=pv:=⟨_,rfl⟩
  rw[f] at d8;have u:0<=pv->pv<(s.p8 v z).ord.length:=λ O=>by rw[<-f];exact(b.o.lW.o v V.o.1 V.o.2 (by rw[f];exact O)).1
  have C:=b.o.lW.len;have X:=U (z_ u C);clear l t f8 f u C
  by_cases hp:0<=pv
  ·have P:(v:Int)<((n+1:Nat):Int):=by have:=V.o;omega
   obtain⟨p,rfl⟩:∃p:Nat,pv=p:=⟨pv.toNat,by omega⟩
   go_wp2_with (go_at_call 187;refine(Dq c.o (by have:=b.o.lW;rw[b.o.jH];exact this) (by rw[b.o.lB,b.o.jH]) (by rw[b.o.jH];omega) p (by have:=X.o.1 (by omega);omega) (by have:=X.o.2;omega)).mono ?_;rintro e aq ⟨rfl,Q,g,m,q⟩;have m:=U m;have q:=U q;have g:=U g)
   go_end0;exact⟨rfl,Q,i.o.trans g.o.hk,g.o.rg b.o,m.o,j.o.trans q.o⟩
  ·have P:(v:Int)<((n+1:Nat):Int):=by have:=V.o;omega
   go_wp2_with fail
   go_end0;exact⟨rfl,(s.p8 v z),i.o,b.o,c.o,j.o⟩
theorem Dy(b:0<=x)(h1:x<=4611686018427387904):q_.wrap x=x:=by rw[l_];omega
theorem KY{y:Int}(b:0<=x)(h:x/20=y):f_ x 20=y:=by rw[x_ b,h]
theorem KZ(h:bf K base w G hs cb s)(r:mE n jK B s)(E:n<=60000)(F:s.aO.length<=100000)(H:0<=B)(I:B<=4611686018427387904):
  Calls y_ 149 #[.pointer (some ⟨G,0,none⟩)] w (Gt K base w G hs cb n B s):=by
 obtain⟨y,d⟩:∃y,s.bz=y:=⟨_,rfl⟩
 have l:=h.e.kP (k:=9) (v:=.int .i64 s.bz) rfl;rw[d] at l;have f9:=h.e.free 9;have m:1<=y/\y<=jK:=by rw[<-d];exact⟨r.rm,r.oQ⟩
 obtain⟨q,t⟩:∃q,y/20=q:=⟨_,rfl⟩
 obtain⟨p,hp⟩:∃p,q+1=p:=⟨_,rfl⟩
 obtain⟨z,J⟩:∃z,y+p=z:=⟨_,rfl⟩
 have u:0<=q/\0<=p/\1<=z/\z<=2199023255552/\q<=z/\p<=z:=by unfold jK at m;omega
 have L:=KY (by omega) t;have w1:wrap64 z=z:=BL (by omega) (by omega);have M:q_.wrap z=z:=Dy (by omega) (by omega);have C:wrap64 q=q:=BL (by omega) (by omega);have N:q_.wrap q=q:=Dy (by omega) (by omega);have O:wrap64 p=p:=BL (by omega) (by omega);have P:q_.wrap p=p:=Dy (by omega) (by omega);have Q:=U h;have D:=U r;have Z:=U u;clear h r d m t u;go_enter Tryz.func149,Tryz.ntmps149
 go_wp2_with fail
 refine wp_region_still_tail 13 (by kernel_rfl) (by kernel_rfl) ?_;simp only[List.take_succ_cons,h_,List.drop_succ_cons,List.drop_zero]
 iterate 13 still_step
 refine wpStill_nil ?_;change wpList _ _ _ _ _ w.drew
 go_upto_region 1 with fail
 have b:=Q.o.F9 z;have f:=U (b.2.trans aG.drew);have b:=U b.1.drew;generalize (w.setCell ⟨G,9,none⟩ (.int .i64 z)).drew=S at b f;have R:bF (mE n 2199023255552 B (s.we z)):=U (D.o.Ae (by unfold jK;omega) Z.o.2.2.1 Z.o.2.2.2.1);have T:=b.o.e.kP (k:=9) (v:=.int .i64 z) rfl;clear l f9 w1 C O M N P L hp J
 by_cases V:1099511627776<z
 ·go_wp2_with (go_at_call 188;refine(Gp (A:=2199023255552) (A':=jK) b.o R.o E F (by omega) (by unfold jK;omega) (by unfold jK;omega) H I).mono ?_;rintro e C ⟨rfl,s2,g,c,i,j⟩;have i:=U i;have j:=U (f.o.trans j);have g:=U ((od.Ae s z).trans g);have c:=U c)
  go_end0;exact⟨rfl,s2,g.o,c.o,i.o,j.o⟩
 ·have c:bF (mE n jK B (s.we z)):=U (D.o.Ae (Int.le_refl _) Z.o.2.2.1 (by unfold jK;omega))
  go_wp2_with fail
  go_end0;exact⟨rfl,_,od.Ae s z,c.o,b.o,f.o⟩
end
end Go.Proofs.YtogdlkfacflmaaaGreat
