/- Parts of the walk of the solver and its core; no condition. -/
import Derived.Test.YtogdlkfacflmaaaGreatZZ4
import Derived.Test.YtogdlkfacflmaaaGreatZZ2
import Derived.OwnWalkIn
import Derived.TacticsInMore
import Derived.LoopNIn
import Derived.LoopIn
import Derived.Test.YtogdlkfacflmaaaGreatZZ1
namespace Go.Proofs.YtogdlkfacflmaaaGreat
set_option linter.unusedVariables false
set_option linter.unusedSimpArgs false
set_option maxRecDepth 100000
set_option maxHeartbeats 4000000
open _root_.And renaming intro→z_
open _root_.Go.Proofs.Tryz renaming prog→y_
open _root_.Int renaming tdiv_eq_ediv_of_nonneg→x_,tdiv→f_
open _root_.List renaming getD_eq_getElem?_getD→w_,replicate→u_,mem_append_left→t_,getElem?_eq_some_iff→s_,length_append→r_,mem_map→p_,length_set→o_,eq_nil_of_length_eq_zero→n_,length_drop→m_,getElem?_replicate→k_,length_map→j_,getElem?_eq_none→i_,take_zero→h_,mem_cons_of_mem→g_
open _root_.Array renaming getElem?_eq_some_iff→v_
open _root_.Go.IntKind renaming i64→q_,wrap_i64→l_
open _root_.Go.Value renaming slice→e_
variable{n b p base G l k bH m:Nat}{w W W':World}{K:Nat->Prop}{hs:Nat->ax}{cb:Nat->Nat}{s s1:aq}{A B A' x:Int}
section
def xM(a b:List Int):Prop:=∀x,x∈a↔x∈b
structure mq(F:List (List Int))(jS:List Int)(n fM:Nat)(s:aq)(sp h:Nat):Prop where
 gR:kC F F s.c h []
 rg:mo n jF (jF*(1+16*(sp:Int))) s
 vJ:nr s.c jS
 lb:qj s.c jS.length
 un:∀v,1<=v->v<=n->aj s.c.val v=0->0<=aj s.pl v
 aO:s.aO=u_ (n+1) false
 wK:(s.aM.map (ay s.c.cl)).Pairwise λ a b=>¬xM a b
 ql:s.aM.length=fM+sp
 yC:∀l∈s.nl,∀x∈l,gK n x
 v0:aj s.c.val 0=0
 qE:oT s.c
structure bx(level:Nat)(s s':aq):Prop where
 c:s'.c=mG s.c level
 aM:s'.aM=s.aM
 aF:s'.aF=s.aF
 aO:s'.aO=s.aO
 nl:s'.nl=s.nl
 jB:s'.jB=s.jB
 ci:s'.ci=s.ci
 bt:s'.bt=s.bt
 yD:∀v,0<=aj s.pl v->0<=aj s'.pl v
 FR:∀v,1<=v->v<=s.c.n->aj s'.c.val v=0->aj s.c.val v=0\/0<=aj s'.pl v
theorem yE(l:List rS)(x:rS)(d:Nat):(l++[x]).getD d ⟨false,0,0⟩=if d=l.length then x else l.getD d ⟨false,0,0⟩:=by
 simp only[w_]
 by_cases h:d<l.length
 ·rw[List.getElem?_append_left h,if_neg (by omega)]
 ·rw[List.getElem?_append_right (by omega)]
  by_cases a:d=l.length
  ·subst a;simp
  ·rw[if_neg a,i_ (by simp;omega),i_ (by omega)]
section
variable {F:List (List Int)}{jS:List Int}{n fM:Nat}{s s':aq}{sp h h':Nat}
theorem ve{c:Core}(T:j6 c){v:Nat}(h1:1<=v)(a:v<=c.n):aj c.val v=0↔¬(v:Int)∈c.av/\¬-(v:Int)∈c.av:=by
 have hl:gK c.n (v:Int):=⟨by unfold aC;omega,by unfold aC;omega⟩
 rw[<-T.open hl];unfold j9 aC;rw[if_neg (by omega),Int.natAbs_natCast]
theorem Bk{f g:Nat->List Int}:∀(l:List Nat),(∀d∈l,xM (g d) (f d))->(l.map f).Pairwise (λ a b=>¬xM a b)->(l.map g).Pairwise (λ a b=>¬xM a b)
 |[],_,_=>List.Pairwise.nil
 |d::l,hs,hp=>by
  rw[List.map_cons,List.pairwise_cons] at hp⊢;refine⟨λ b c=>?_,Bk l (λ e he=>hs e (g_ _ he)) hp.2⟩;obtain⟨e,he,rfl⟩:=p_.1 c;intro h;refine hp.1 (f e) (p_.2 ⟨e,he,rfl⟩) (λ x=>?_);have h1:=hs d List.mem_cons_self x;have i:=hs e (g_ _ he) x;exact h1.symm.trans ((h x).trans i)
theorem mq.run(S:mq F jS n fM s sp h){c':Core}(m:tA s.c c')(L:kC F F c' h' [])(A:nr c' jS):mq F jS n fM {s with c:=c'} sp h':=by
 have g:c'.n=n:=m.n.trans S.rg.iX;refine⟨L,⟨g,S.rg.lP,S.rg.lg,S.rg.qi,S.rg.a0,S.rg.q7,S.rg.oG,S.rg.nG,S.rg.oU,?_,S.rg.p5,λ d i=>?_⟩,A,S.lb.grow m.st ?_,λ v h1 a j=>S.un v h1 a ?_,S.aO,?_,S.ql,S.yC,m.v0.trans S.v0,m.qE S.qE⟩
 ·show s.ci.length=c'.cl.length;rw[m.len];exact S.rg.nH
 ·show d<c'.cl.length;rw[m.len];exact S.rg.k4 d i
 ·obtain⟨e,he⟩:=m.av;rw[he,r_];omega
 ·have b:=(ve L.aK h1 (by rw[g];exact a)).1 j;obtain⟨e,he⟩:=m.av;rw[he] at b;exact(ve S.gR.aK h1 (by rw[S.rg.iX];exact a)).2 ⟨λ f=>b.1 (t_ _ f),λ f=>b.2 (t_ _ f)⟩
 ·exact Bk _ (λ d _ x=>m.cls d x) S.wK
theorem mq.back(S:mq F jS n fM s sp h){level:Nat}(hl:level<s.c.st.length)(k:bx level s s')(r:mo n jF (jF*(1+16*(sp:Int))) s'):mq F jS n fM s' sp (gZ s.c.st level):=by
 have e:∀d,ay s'.c.cl d=ay s.c.cl d:=λ d=>by rw[k.c];rfl
 refine⟨by rw[k.c];exact S.gR.back hl,r,by rw[k.c];exact S.vJ.back S.gR.aK hl,by rw[k.c];exact S.lb.back S.gR.aK hl,λ v h1 b f=>?_,k.aO.trans S.aO,?_,by rw[k.aM];exact S.ql,by rw[k.nl];exact S.yC,?_,by rw[k.c];exact S.qE.back level⟩
 ·rcases k.FR v h1 (by rw[S.rg.iX];exact b) f with a|a
  ·exact k.yD v (S.un v h1 b a)
  ·exact a
 ·rw[k.aM];exact Bk _ (λ d _ x=>by rw[e]) S.wK
 ·rw[k.c];show aj (zero s.c.val _) 0=0;rw[yo];split
  ·rfl
  ·exact S.v0
theorem mq.nt(S:mq F jS n fM s sp h):s.aM.length+1<=3^n:=by
 have:=Fq (n:=n) (ls:=s.aM.map (ay s.c.cl)) (λ l hl=>by
  obtain⟨d,a,rfl⟩:=p_.1 hl;have:=S.gR.jN.mF d (S.rg.k4 d a);rw[S.rg.iX] at this;exact this) (S.wK.imp λ h b=>h b)
 rwa[j_] at this
theorem mq.level(S:mq F jS n fM s sp h)(a:h=s.c.av.length)(b:s.c.l9=false)(hk:s.c.st.length<jS.length)(d:aj jS s.c.st.length∈s.c.av):mq F jS n fM {s with c:=nk s.c} sp h:=by
 subst a;refine⟨S.gR.level b,⟨S.rg.iX,S.rg.lP,S.rg.lg,S.rg.qi,S.rg.a0,S.rg.q7,S.rg.oG,S.rg.nG,S.rg.oU,S.rg.nH,S.rg.p5,S.rg.k4⟩,S.vJ.level S.gR.aK (λ _=>d),S.lb.level S.gR.aK hk,S.un,S.aO,S.wK,S.ql,S.yC,S.v0,S.qE⟩
theorem mq.decide{aI:aq}(S:mq F jS n fM s sp h)(a:h=s.c.av.length)(m:s.c.l9=false){x:Int}(i:gK n x)(j:j9 s.c x=0)(o:s.c.st.length<jS.length->x=aj jS s.c.st.length)
  (e:aI={s with ord:=aI.ord,pl:=aI.pl}) (p:me n aI.ord aI.pl) (q:∀v:Nat,1<=v->v<=n->aj s.c.val v=0->v≠aC x->0<=aj aI.pl v):
  mq F jS n fM {aI with c:=lp (nk s.c) x none} sp h:=by
 subst a;rw[e];have k:gK s.c.n x:=by rw[S.rg.iX];exact i
 have G:=S.gR.decide m k j;refine⟨G,⟨S.rg.iX,p,S.rg.lg,S.rg.qi,S.rg.a0,S.rg.q7,S.rg.oG,S.rg.nG,S.rg.oU,S.rg.nH,S.rg.p5,S.rg.k4⟩,S.vJ.decide S.gR.aK k j o,S.lb.decide S.gR.aK x,λ v h1 f r=>?_,S.aO,S.wK,S.ql,S.yC,by show aj (s.c.val.set _ _) 0=0;rw[oP,if_neg (by have:=i.1;omega)];exact S.v0,oT.set (show oT (nk s.c) from S.qE) none (λ d t=>by cases t)⟩;have b:=(ve G.aK h1 (by show v<=s.c.n;rw[S.rg.iX];exact f)).1 r;have u:(lp (nk s.c) x none).av=s.c.av++[x]:=rfl;rw[u] at b;have w:=(ve S.gR.aK h1 (by rw[S.rg.iX];exact f)).2 ⟨λ a=>b.1 (t_ _ a),λ a=>b.2 (t_ _ a)⟩;refine q v h1 f w (λ l=>?_);rcases Int.natAbs_eq x with g|g
 ·exact b.1 (by rw[l];unfold aC;rw[<-g];simp)
 ·exact b.2 (by rw[l];unfold aC;rw[<-g];simp)
end
end
section
def lB(a:List Bool)(x:Int):Bool:=if x<0 then !(iE a x.natAbs) else iE a x.natAbs
theorem Da(a:List Bool):Mod (lB a):=λ x b=>by
 unfold lB;rw[Int.natAbs_neg]
 by_cases h:x<0
 ·rw[if_pos h,if_neg (by omega)];simp
 ·rw[if_neg h,if_pos (by omega)]
def vK(s:aq):List Bool:=(List.range (s.c.n+1)).map λ v=>decide (0<aj s.c.val v)
theorem Kn(s:aq):(vK s).length=s.c.n+1:=by simp[vK]
theorem Db(s:aq){v:Nat}(h:v<=s.c.n):iE (vK s) v=decide (0<aj s.c.val v):=by
 unfold vK iE;rw[w_,List.getElem?_map,List.getElem?_range (by omega)];rfl
section
variable {F:List (List Int)}{jS:List Int}{n fM:Nat}{s:aq}{sp h:Nat}
theorem FT(T:j6 s.c)(x:Int)(e:gK s.c.n x)(b:j9 s.c x≠0):lB (vK s) x=true↔j9 s.c x=1:=by
 have f:x.natAbs<=s.c.n:=e.2;have d:=T.range x;unfold j9 at*;unfold lB;unfold aC at*;rw[Db s f]
 by_cases a:x<0
 ·rw[if_pos a];rw[if_pos a] at b d⊢;simp only[Bool.not_eq_true',decide_eq_false_iff_not];omega
 ·rw[if_neg a];rw[if_neg a] at b d⊢;simp only[decide_eq_true_eq];omega
theorem mq.yes(S:mq F jS n fM s sp h)(i:h=s.c.av.length)(j:s.c.l9=false)(m:s.ord.length=0)(hF:∀g∈F,∀x∈g,gK n x)(hl:jS.length<=s.c.st.length):
  (∀g∈F,sN (lB (vK s)) g)/\(∀x∈jS,lB (vK s) x=true):=by
 subst i;have T:=S.gR.aK;have d:∀x,gK s.c.n x->j9 s.c x≠0:=λ x a f=>by
  have k:aj s.c.val (aC x)=0:=by unfold j9 at f;split at f<;>omega
  have b:gK n x:=by rw[<-S.rg.iX];exact a
  have h1:=S.un (aC x) b.1 b.2 k;have p:=(S.rg.lP.o (aC x) b.1 b.2 h1).1;omega
 refine⟨JR S.gR j d (Da _) (λ x a=>FT T x a (d x a)) (λ g l x a=>by rw[S.rg.iX];exact hF g l x a),λ x a=>?_⟩;have hm:=S.vJ.all hl x a;have e:=T.lit x hm;exact(FT T x e (d x e)).2 ((T.pos x e).2 hm)
theorem mq.Ko(S:mq F jS n fM s sp h):iE (vK s) 0=false:=by
 rw[Db s (Nat.zero_le _),S.v0];rfl
theorem mq.core(S:mq F jS n fM s sp h)(hk:s.c.st.length<jS.length){p:Int}(hp:aj jS s.c.st.length=p){out:List Int}
  (f:∀x∈out,x=p\/(x∈s.c.av/\mz s.c.kB (aC x)=none)) (hu:∀M,tQ M F->¬∀x∈p::out,M x=true) (g:p∈out):
  ∀M,tQ M F->¬∀x∈jS.filter (λ x=>out.contains x),M x=true:=by
 intro M j l;refine hu M j (λ x a=>?_);have b:x∈out:=by
  rcases List.mem_cons.1 a with rfl|a
  ·exact g
  ·exact a
 refine l x (List.mem_filter.2 ⟨?_,by simpa using b⟩);rcases f x b with rfl|⟨h1,m⟩
 ·rw[<-hp];exact lZ hk
 ·obtain⟨i,o,e⟩:=qf.1 h1;obtain⟨k,q,r,d⟩:=S.vJ.dec i o (by rw[e];exact m);rw[e] at d;rw[d (by omega)];exact lZ (by omega)
end
end
section
def nX(n:Nat):Core:=⟨n,u_ (2*n+2) [],u_ (n+1) 0,u_ (n+1) 0,u_ (n+1) none,[],[],0,false,[]⟩
theorem zP(n:Nat)(k:Nat):aj (u_ n 0) k=0:=by
 unfold aj;rw[w_,k_];split<;>rfl
theorem Bl{α:Type}(n:Nat)(k:Nat):ay (u_ n ([]:List α)) k=[]:=by
 unfold ay;rw[w_,k_];split<;>rfl
theorem kC.init(F:List (List Int))(n:Nat):kC F [] (nX n) 0 []:=by
 have e:∀x,j9 (nX n) x=0:=λ x=>by
  unfold j9;have:∀k,aj (nX n).val k=0:=zP _;rw[this];split<;>rfl
 refine⟨⟨by simp[nX],by simp[nX],by simp[nX],λ x c=>by simp[nX] at c,by simp[nX],λ v=>Or.inl (zP _ _),λ x c=>?_,λ j k _ hk=>by simp[nX] at hk,λ k hk=>by simp[nX] at hk,λ i b=>by simp[nX] at b,λ i b=>by simp[nX] at b⟩,
  ⟨λ d a=>by simp[nX] at a,λ d a=>by simp[nX] at a,λ g f=>by simp at f,λ h=>by simp[nX] at h,Or.inr λ d a=>by simp[nX] at a⟩,
  ⟨by simp[nX],λ k d a=>?_,λ k=>?_,λ d a=>by simp[nX] at a⟩,λ d a=>by simp[nX] at a,λ k hk=>by simp[nX] at hk,λ k hk=>by simp[nX] at hk,Nat.zero_le _⟩
 ·rw[e];simp[nX]
 ·have:ay (nX n).wt k=[]:=Bl _ _;rw[this] at a;cases a
 ·have:ay (nX n).wt k=[]:=Bl _ _;rw[this];exact List.nodup_nil
structure FU(n:Nat)(F:List (List Int))(g l:List Int)(both:Bool):Prop where
 ok:both=false->l≠ []->oD n l
 imp:both=false->rq F l
 mem:∀x,x∈l↔x∈g
 Kq:both=true->u9 g
def aq.ou(s:aq)(l:List Int)(both:Bool)(x:rS):aq:={s with c:=o9 s.c l both,ci:=if both=true\/l.length=0 then s.ci else s.ci++[x]}
section
variable {F Fd:List (List Int)}{c:Core}{n:Nat}
theorem nr.low(T:j6 c)(hs:c.st=[])(a:List Int):nr c a:=by
 refine⟨λ k hk=>by rw[hs] at hk;simp at hk,λ i b hw=>?_⟩;have:=T.pY i b;rw[hw] at this;obtain⟨k,hk,_⟩:=this;rw[hs] at hk;simp at hk
theorem Kr{l:List Int}{b:Bool}(h:aj c.val 0=0)(hl:b=false->l≠ []->oD n l):aj (o9 c l b).val 0=0:=by
 unfold o9
 by_cases h1:b=true
 ·rw[if_pos h1];exact h
 ·rw[if_neg h1]
  by_cases a:l.length=0
  ·rw[if_pos a];exact h
  ·rw[if_neg a]
   by_cases d:l.length=1
   ·rw[if_pos d]
    by_cases f:j9 c (aj l 0)= -1
    ·rw[if_pos f];exact h
    ·rw[if_neg f]
     by_cases g:j9 c (aj l 0)=0
     ·rw[if_pos g];show aj (c.val.set _ _) 0=0;have:=((hl (by simpa using h1) (λ e=>a (by rw[e];rfl))).lt (aj l 0) (lZ (by omega))).1;rw[oP,if_neg (by omega)];exact h
     ·rw[if_neg g];exact h
   ·rw[if_neg d];exact h
end
structure yF(F Fd:List (List Int))(n:Nat)(s:aq):Prop where
 gR:kC F Fd s.c 0 []
 iX:s.c.n=n
 st:s.c.st=[]
 ag:s.c.ag=0
 v0:aj s.c.val 0=0
 nH:s.ci.length=s.c.cl.length
 p5:∀d,0<=(lG s d).ac/\(lG s d).ac<=jF/\0<=(lG s d).bh/\(lG s d).bh<=jF
theorem yF.take{F Fd:List (List Int)}{n:Nat}{s:aq}(h:yF F Fd n s){g l:List Int}{both:Bool}(k:FU n F g l both){x:rS}(a:0<=x.ac/\x.ac<=jF/\0<=x.bh/\x.bh<=jF):yF F (Fd++[g]) n (s.ou l both x):=by
 refine⟨h.gR.take h.st rfl (by rw[h.iX];exact k.ok) k.imp k.mem k.Kq,(Ka _ _ _).trans h.iX,(Kb _ _ _).trans h.st,(Kc _ _ _).trans h.ag,Kr h.v0 k.ok,?_,λ d=>?_⟩
 ·show(if both=true\/l.length=0 then s.ci else s.ci++[x]).length=(o9 s.c l both).cl.length;rw[Be];split
  ·exact h.nH
  ·rw[r_,r_,h.nH];rfl
 ·have e:lG (s.ou l both x) d=(if both=true\/l.length=0 then s.ci else s.ci++[x]).getD d ⟨false,0,0⟩:=rfl;rw[e];split
  ·exact h.p5 d
  ·rw[yE];split
   ·exact a
   ·exact h.p5 d
theorem Ks(s:aq)(l:List Int)(both:Bool)(x:rS){d:Nat}(a:d<s.c.cl.length)(b:s.ci.length=s.c.cl.length):ay (s.ou l both x).c.cl d=ay s.c.cl d/\lG (s.ou l both x) d=lG s d:=by
 refine⟨?_,?_⟩
 ·show ay (o9 s.c l both).cl d=_;rw[Be];split
  ·rfl
  ·exact AY a
 ·show(if both=true\/l.length=0 then s.ci else s.ci++[x]).getD d ⟨false,0,0⟩=_;split
  ·rfl
  ·rw[yE,if_neg (by omega)];rfl
theorem Kt(s:aq)(l:List Int)(x:rS)(hl:l≠ [])(b:s.ci.length=s.c.cl.length):(s.ou l false x).c.cl.length=s.c.cl.length+1/\ay (s.ou l false x).c.cl s.c.cl.length=l/\lG (s.ou l false x) s.c.cl.length=x:=by
 have a:¬(false=true\/l.length=0):=λ h=>h.elim (λ h=>by cases h) (λ h=>hl (n_ h))
 have e:(s.ou l false x).c.cl=s.c.cl++[l]:=by
  show(o9 s.c l false).cl=_;rw[Be,if_neg a]
 refine⟨by rw[e];simp,by rw[e];exact uE _ _,?_⟩;show(if false=true\/l.length=0 then s.ci else s.ci++[x]).getD s.c.cl.length ⟨false,0,0⟩=x;rw[if_neg a,yE,if_pos b.symm]
end
section
theorem me.len{ord pl:List Int}(O:me n ord pl):ord.length<=n:=by
 have h:=xC n (ord.map λ x=>x.toNat-1) ?_ ?_
 ·rwa[j_] at h
 ·rw[List.nodup_iff_pairwise_ne,List.pairwise_iff_getElem];intro i j c d l e;rw[j_] at c d;rw[List.getElem_map,List.getElem_map] at e;have a:=O.inv i c;have b:=O.inv j d;rw[ng c] at a;rw[ng d] at b;have:=O.inj c d (by rw[ng c,ng d];omega);omega
 ·intro x f;obtain⟨y,g,rfl⟩:=p_.1 f;obtain⟨k,hk,rfl⟩:=qf.1 g;have:=O.inv k hk;omega
structure pO(s:aq)(xs:List Int)(j:Nat)(s1:aq):Prop where
 c:s1.c={s.c with val:=zero s.c.val (xs.take j),kB:=sP s.c.kB (xs.take j)}
 act:s1.act=s.act
 bt:s1.bt=s.bt
 ci:s1.ci=s.ci
 aM:s1.aM=s.aM
 aF:s1.aF=s.aF
 aO:s1.aO=s.aO
 nl:s1.nl=s.nl
 jB:s1.jB=s.jB
 nG:s1.hM.length=s.hM.length
 oU:iE s1.hM 0=iE s.hM 0
 lP:me s.c.n s1.ord s1.pl
 yD:∀v,0<=aj s.pl v->0<=aj s1.pl v
 Dc:∀x∈xs.take j,0<=aj s1.pl (aC x)
def aq.vf(s:aq)(x:Int):aq:={s with ord:=s.ord++[x]}
def aq.FV(s:aq)(x:Nat):aq:={s with c:={s.c with st:=s.c.st++[x]}}
def aq.uK(s:aq)(x:Nat):aq:={s with aM:=s.aM++[x]}
def aq.uf(s:aq)(v:Nat)(b:Bool):aq:=((s.ua v b).oR v 0).qC v none
section
variable {s s1:aq}{xs:List Int}{j:Nat}
theorem pO.start(O:me s.c.n s.ord s.pl):pO s xs 0 s:=
 ⟨by simp[zero,sP],rfl,rfl,rfl,rfl,rfl,rfl,rfl,rfl,rfl,rfl,O,λ _ h=>h,λ x a=>by simp at a⟩
theorem yG{xs:List Int}{j:Nat}(a:j<xs.length):xs.take (j+1)=xs.take j++[aj xs j]:=by
 rw[ng a,List.take_succ_eq_append_getElem a]
theorem FW(h:pO s xs j s1)(a:j<xs.length)(b:Bool):(s1.uf (aC (aj xs j)) b).c={s.c with val:=zero s.c.val (xs.take (j+1)),kB:=sP s.c.kB (xs.take (j+1))}:=by
 unfold aq.uf aq.ua aq.oR aq.qC;dsimp only;rw[h.c,yG a];simp[zero,sP,List.foldl_append]
theorem pO.stay(h:pO s xs j s1)(a:j<xs.length)(c:1<=aC (aj xs j))(b:Bool)(hp:0<=aj s1.pl (aC (aj xs j))):pO s xs (j+1) (s1.uf (aC (aj xs j)) b):=
 ⟨FW h a b,h.act,h.bt,h.ci,h.aM,h.aF,h.aO,h.nl,h.jB,by show(s1.hM.set _ _).length=_;rw[o_];exact h.nG,
  by show iE (s1.hM.set _ _) 0=_;rw[zw,if_neg (by omega)];exact h.oU,h.lP,h.yD,λ x hm=>by
   rw[yG a] at hm;rcases List.mem_append.1 hm with hm|hm
   ·exact h.Dc x hm
   ·rw[List.mem_singleton.1 hm];exact hp⟩
theorem pO.push(h:pO s xs j s1)(a:1<=aC (aj xs j))(b:aC (aj xs j)<=s.c.n)(hp:aj s1.pl (aC (aj xs j))<0):me s.c.n (s1.ord++[(aC (aj xs j):Int)]) (s1.pl.set (aC (aj xs j)) (s1.ord.length:Int)):=h.lP.push a b hp
theorem pO.back(h:pO s xs j s1)(a:j<xs.length)(m:1<=aC (aj xs j))(q:aC (aj xs j)<=s.c.n)(b:Bool)(hp:aj s1.pl (aC (aj xs j))<0){iY:aq}
   (hO:pN (((s1.uf (aC (aj xs j)) b).pM (aC (aj xs j)) (s1.ord.length:Int)).vf (aC (aj xs j):Int)) iY):pO s xs (j+1) iY:=by
 obtain⟨o,p,he⟩:=hO.eq;have d:∀u,aj (s1.pl.set (aC (aj xs j)) (s1.ord.length:Int)) u=if aC (aj xs j)=u then (s1.ord.length:Int) else aj s1.pl u:=λ u=>by
   rw[oP]
   by_cases e:aC (aj xs j)=u
   ·rw[if_pos e,if_pos ⟨e,by rw[h.lP.sk];omega⟩]
   ·rw[if_neg e,if_neg (λ i=>e i.1)]
 have f:∀u,0<=aj iY.pl u↔0<=aj (s1.pl.set (aC (aj xs j)) (s1.ord.length:Int)) u:=hO.same;have k:iY.c={s.c with val:=zero s.c.val (xs.take (j+1)),kB:=sP s.c.kB (xs.take (j+1))}:=by rw[<-FW h a b,he];rfl
 refine⟨k,by rw[he];exact h.act,by rw[he];exact h.bt,by rw[he];exact h.ci,by rw[he];exact h.aM,by rw[he];exact h.aF,by rw[he];exact h.aO,by rw[he];exact h.nl,by rw[he];exact h.jB,
  by rw[he];show(s1.hM.set _ _).length=_;rw[o_];exact h.nG,
  by rw[he];show iE (s1.hM.set _ _) 0=_;rw[zw,if_neg (by omega)];exact h.oU,?_,λ v l=>?_,λ x hm=>?_⟩
 · have:=hO.lP;have e:(((s1.uf (aC (aj xs j)) b).pM (aC (aj xs j)) (s1.ord.length:Int)).vf (aC (aj xs j):Int)).c.n=s.c.n:=by show s1.c.n=_;rw[h.c]
   rwa[e] at this
 · rw[f,d];split
   ·omega
   ·exact h.yD v l
 · rw[yG a] at hm;rw[f,d];split
   ·omega
   ·rename_i g;rcases List.mem_append.1 hm with hm|hm
    ·exact h.Dc x hm
    ·rw[List.mem_singleton.1 hm] at g;exact absurd rfl g
def aq.zQ(s:aq)(m level:Nat):aq:={s with c:={s.c with av:=s.c.av.take m,st:=s.c.st.take level,ag:=m}}
theorem pO.done{level:Nat}(h:pO s (s.c.av.drop (gZ s.c.st level)) (s.c.av.drop (gZ s.c.st level)).length s1):bx level s (s1.zQ (gZ s.c.st level) level):=by
 have b:(s1.zQ (gZ s.c.st level) level).c=mG s.c level:=by
  show({s1.c with av:=s1.c.av.take _,st:=s1.c.st.take _,ag:=_}:Core)=_;rw[h.c,List.take_length];rfl
 refine⟨b,h.aM,h.aF,h.aO,h.nl,h.jB,h.ci,h.bt,h.yD,λ v h1 f d=>?_⟩;rw[b] at d;have a:aj (zero s.c.val (s.c.av.drop (gZ s.c.st level))) v=0:=d;rw[yo] at a;split at a
 ·rename_i hm;obtain⟨x,e,rfl⟩:=p_.1 hm;exact Or.inr (h.Dc x (by rw[List.take_length];exact e))
 ·exact Or.inl a
theorem pO.rg{n:Nat}{A B:Int}{m level:Nat}(h:pO s xs j s1)(r:mo n A B s)(e:1<=n):mo n A B (s1.zQ m level):=by
 have a:(s1.zQ m level).c.cl=s.c.cl:=by show s1.c.cl=_;rw[h.c]
 refine⟨by show s1.c.n=n;rw[h.c];exact r.iX,by have:=h.lP;rwa[r.iX] at this,by show s1.act.length=_;rw[h.act];exact r.lg,λ v=>by show 0<=aj s1.act v/\aj s1.act v<=A;rw[h.act];exact r.qi v,by show aj s1.act 0=0;rw[h.act];exact r.a0,by show 1<=s1.bt;rw[h.bt];exact r.q7,by show s1.bt<=A;rw[h.bt];exact r.oG,h.nG.trans r.nG,h.oU.trans r.oU,by rw[a];show s1.ci.length=_;rw[h.ci];exact r.nH,λ d=>?_,λ d b=>?_⟩
 ·have:lG (s1.zQ m level) d=lG s d:=by show s1.ci.getD d _=_;rw[h.ci];rfl
  rw[this];exact r.p5 d
 ·rw[a];exact r.k4 d (by rw[<-h.aM];exact b)
end
end
section
open Go.RowKit Go.Shelf
theorem FX:(y_.info? 164).map (λ i=>(i.zero,i.size,i.bytes))=some (some (.pointer none),1,8):=by kernel_rfl
structure q8(w:World)(A:Option Addr)(m c:Nat)(ai:List Value):Prop where
 len:ai.length=m
 cells:0<m->∃b off,A=some ⟨b,off,none⟩/\∀j u,ai[j]? =some u->w.cell? ⟨b,off+j,none⟩=some u
 ptr:∀u∈ai,∃p,u=.pointer p
theorem q8.one{p:Option Addr}(h:w.cell? ⟨b,0,none⟩=some (.pointer p)):q8 w (some ⟨b,0,none⟩) 1 1 [.pointer p]:=
 ⟨rfl,λ _=>⟨b,0,rfl,λ j u a=>by
  have:j=0:=by have:=(s_.1 a).1;simpa using this
  subst this;simp only[List.getElem?_cons_zero,Option.some.injEq] at a;subst a;exact h⟩,λ u hu=>⟨p,by simpa using hu⟩⟩
theorem Dd(w:World)(ty:TypeId)(base:Nat)(v:Value)(n:Nat)(xs:List Value)(e:w.ownsRow base 164 1 v n xs)
  (A:Option Addr) (m c:Nat) (d:List Value) (a:q8 w A m c d) (k:(n+m)*8<=140737488355328) (l:base<=w.heap.size):
  ∃v' w',(Builtin.append_ #[160,160] ty #[v,.slice A m c]).run y_ w=.ok v' w'/\nj w base 164 v (n+m) (xs++d) v' w':=by
 obtain⟨i0,g,o,q,r⟩:=info_parts FX
 cases A with
 |none=>
  have hm:m=0:=by
   rcases Nat.eq_zero_or_pos m with f|f
   ·exact f
   ·obtain⟨b,off,he,_⟩:=a.cells f;cases he
  subst hm;have s:d=[]:=n_ a.len;subst s;exact⟨v,w,CH Tryz.underlying160 w base ty i0 g v n 1 _ e c,by simpa using e,World.grownBy.refl w _,.inl rfl⟩
 |some h=>
  have t:∀j u,d[j]? =some u->w.cell? (h.add j)=some u:=by
   intro j u i;have C:j<m:=by have:=(s_.1 i).1;simpa[a.len] using this
   obtain⟨b,off,he,x⟩:=a.cells (by omega);injection he with he
   subst he;rw[Addr.add_lit];exact x j u i
  obtain⟨v',w',h1,y,z,_,B⟩:=run_append_own_at (P:=y_) w base 160 ty 164 i0 (.pointer none) 1 8 Tryz.underlying160 g o q r rfl (by decide) v n _ e h m c d (by rw[a.len,Nat.mul_one]) t (by intro u hu;obtain⟨p,rfl⟩:=a.ptr u hu;rfl) (by unfold maxLen;omega) k l;exact⟨v',w',h1,y,z,B⟩
theorem FY{ops:Array Oper}{rest:List Oper}{o:Oper}{a:Act}{Q:Exit->Act->World->Prop}(d:o.guard=none)(s x:Operand)
  (e:o.op=.call {callee:=.builtin .append,args:= #[s,x],argTypes:= #[160,160]}) (base:Nat) (v:Value) (n:Nat) (xs:List Value) (hs:a.eval s=v) (f:w.ownsRow base 164 1 v n xs)
  (A:Option Addr) (m c:Nat) (b:List Value) (g:a.eval x=.slice A m c) (i:q8 w A m c b) (j:(n+m)*8<=140737488355328) (k:base<=w.heap.size)
  (h:∀v' w',nj w base 164 v (n+m) (xs++b) v' w'->wpList y_ ops Q rest (a.put o.dst v') w'):
  wpList y_ ops Q (o::rest) a w:=by
 obtain⟨v',w',h1,l⟩:=Dd w o.type base v n xs f A m c b i j k;refine wpList_plain d λ K p=>?_
 unfold Oper.wp;simp only[execOp,e,resolve,invoke,builtin,Sem.run_bind,Sem.run_pure,Result.andThen_ok,List.map_toArray,List.map_cons,List.map_nil,hs,g,h1];exact p _ _ (h v' w' l)
section
variable {K:Nat->Prop}{base:Nat}{w bM W:World}{G:Nat}{hs:Nat->ax}{cb:Nat->Nat}{s:aq}
theorem kr.xN{gm:List Value}{cls:Nat->List Value}{n:Nat}{X:Nat->List Value}(h:kr base w G hs cb gm cls n X){r g:Nat}(e:(hs r).b=some g):(hs r).n<=(hs r).c:=by
 obtain⟨_,f⟩:=h.rows.row r;rcases f with⟨a,_⟩|⟨i,j,cur,d,_,_,k,_⟩
 ·have:=(h.rows.form e).1;unfold ax.v at a;rw[this] at a
  cases a
 ·unfold ax.v at d;injection d with _ _ d
  omega
theorem aY.Ku(h:aY K base w G hs cb s){v':Value}{x:Int}(b:nj w base 3 (hs 7).v (s.ord.length+1) ((s.ord++[x]).map (Value.int .i64)) v' bM):
  ∃h':ax,v'=h'.v/\h'.n=s.ord.length+1/\bM.cell? ⟨G,10,none⟩=some (hs 7).v/\bM.frozen? ⟨G,10,none⟩=false/\aY K base (bM.setCell ⟨G,10,none⟩ v') G (iT hs 7 h') cb (s.vf x)/\aG K w (bM.setCell ⟨G,10,none⟩ v'):=by
 obtain⟨c,a,f⟩:=b;obtain⟨a1,a2⟩:=h.e.after (r:=7) (by rw[<-ax.own];exact a) 10;obtain⟨h',rfl,i,j,k,l⟩:=kr.app h.e h.s (r:=7) c a f;refine⟨h',rfl,i,by rw[a1];exact h.e.kJ rfl,a2,⟨?_,k.more (k8 bM G 10 _).size⟩,l.trans (aG.set G 10 _ h.s.g)⟩;refine(j.field 10 h'.v).eq rfl rfl rfl (λ d _=>(vH hs s (by omega) _ d).symm) rfl (λ r=>?_);rw[vG hs cb _ (by omega)]
 by_cases e:r=7
 ·subst e;rw[jO];rfl
 ·rw[bk _ _ e];simp only[cont,if_neg e,aq.vf]
theorem aY.FZ(h:aY K base w G hs cb s){v':Value}{x:Nat}(b:nj w base 3 (hs 5).v (s.c.st.length+1) (qg (s.c.st++[x])) v' bM):
  ∃h':ax,v'=h'.v/\h'.n=s.c.st.length+1/\bM.cell? ⟨G,6,none⟩=some (hs 5).v/\bM.frozen? ⟨G,6,none⟩=false/\aY K base (bM.setCell ⟨G,6,none⟩ v') G (iT hs 5 h') cb (s.FV x)/\aG K w (bM.setCell ⟨G,6,none⟩ v'):=by
 obtain⟨f,a,i⟩:=b;obtain⟨a1,a2⟩:=h.e.after (r:=5) (by rw[<-ax.own];exact a) 6;obtain⟨h',rfl,j,k,l,m⟩:=kr.app h.e h.s (r:=5) f a i;refine⟨h',rfl,j,by rw[a1];exact h.e.kJ rfl,a2,⟨?_,l.more (k8 bM G 6 _).size⟩,m.trans (aG.set G 6 _ h.s.g)⟩;refine(k.field 6 h'.v).eq rfl rfl rfl (λ d _=>(vH hs s (by omega) _ d).symm) rfl (λ r=>?_);rw[vG hs cb _ (by omega)]
 by_cases e:r=5
 ·subst e;rw[jO];rfl
 ·rw[bk _ _ e];simp only[cont,if_neg e,aq.FV]
theorem aY.F0(h:aY K base w G hs cb s){v':Value}{x:Nat}(b:nj w base 164 (hs 10).v (s.aM.length+1) (k3 cb (s.aM++[x])) v' bM):
  ∃h':ax,v'=h'.v/\h'.n=s.aM.length+1/\bM.cell? ⟨G,13,none⟩=some (hs 10).v/\bM.frozen? ⟨G,13,none⟩=false/\aY K base (bM.setCell ⟨G,13,none⟩ v') G (iT hs 10 h') cb (s.uK x)/\aG K w (bM.setCell ⟨G,13,none⟩ v'):=by
 obtain⟨c,a,f⟩:=b;obtain⟨a1,a2⟩:=h.e.after (r:=10) (by rw[<-ax.own];exact a) 13;obtain⟨h',rfl,i,j,k,l⟩:=kr.app h.e h.s (r:=10) c a f;refine⟨h',rfl,i,by rw[a1];exact h.e.kJ rfl,a2,⟨?_,k.more (k8 bM G 13 _).size⟩,l.trans (aG.set G 13 _ h.s.g)⟩;refine(j.field 13 h'.v).eq rfl rfl rfl (λ d _=>(vH hs s (by omega) _ d).symm) rfl (λ r=>?_);rw[vG hs cb _ (by omega)]
 by_cases e:r=10
 ·subst e;rw[jO];rfl
 ·rw[bk _ _ e];simp only[cont,if_neg e,aq.uK]
end
end
section
open Go.RowKit Go.Shelf
def Kv(K:Nat->Prop)(base:Nat)(w:World)(G:Nat)(cb:Nat->Nat)(n:Nat)(A B:Int)(level:Nat)(s:aq)(e:Ending)(w':World):Prop:=
 e=.returned (.tuple #[])/\∃hs' s',bx level s s'/\mo n A B s'/\aY K base w' G hs' cb s'/\aG K w w'
theorem F1(h:aY K base w G hs cb s)(r:mo n A B s)(T:j6 s.c)(b':n<=60000)(level:Nat)(hl:level<s.c.st.length)(ca:s.c.st.length<=1000000)(cc:0<s.c.av.length):
  Calls y_ 147 #[.pointer (some ⟨G,0,none⟩),.int .i64 level] w (Kv K base w G cb n A B level s):=by
 obtain⟨from_,az⟩:∃m,gZ s.c.st level=m:=⟨_,rfl⟩
 have bd:from_<=s.c.av.length:=by rw[<-az];exact T.om level hl
 have aK:=T.len;rw[r.iX] at aK;obtain⟨g5,aM,bf,f5⟩:=h.e.lV 6 5 rfl h.e.kf (by omega);have bI:=h.e.FA aM hl;rw[az] at bI;have H:=U h;have C:=U r;have aN:=U T;have Z:=U aM;have cd:¬(s.c.st.length:Int)<=(level:Int):=by omega
 have cf:(level:Int)<(s.c.st.length:Int):=by omega
 obtain⟨g4,aa,bK,f4⟩:=h.e.lV 5 4 rfl h.e.kA (by omega);have bg:=h.e.xN aa;rw[h.e.kA] at bg;obtain⟨t,D⟩:∃t,(hs 4).c=t:=⟨_,rfl⟩
 rw[D] at bK bg;have cg:(from_:Int)<=(s.c.av.length:Int):=by omega
 have ch:(s.c.av.length:Int)<=(t:Int):=by omega
 have u:=U (z_ az (z_ bd aK));have ak:=U aa;clear h r T aM f5 f4 aa az bd aK;go_enter Tryz.func147,Tryz.ntmps147
 go_wp2_with fail
 case inr hcf=>
  generalize hm:s.c.av.length-from_=m;have ab:=U hm;clear hm
  go_loopw [6,7,29] (λ _ _ Q W=>∃(k:Nat)(j:Nat->ax)(s1:aq),k<=m/\Q=.int .i64 k/\pO s (s.c.av.drop from_) k s1/\aY K base W G j cb s1/\aG K w W/\∀r,r≠7->j r=hs r) (λ _ _ Q _=>m-(intOf Q).toNat)
  case atStart=>exact⟨0,hs,s,by omega,rfl,pO.start (C.o.iX▸C.o.lP),H.o,aG.refl,λ _ _=>rfl⟩
  case round=>
   obtain⟨k,j,s1,hk,rfl,al,I,hF,hH⟩:=hrel;have E:=U I;have F:=U hF;have i:=U al;have L:=U hH;clear I hF al hH
   by_cases aO:k<m
   ·have bj:(k:Int)<(m:Int):=by omega
    have aA:=U aO;have cj:k<60000:=by have:=u.o;have:=ab.o;omega
    obtain⟨bL,bN,bO⟩:=u.o;have hm:=ab.o;have aB:from_+k<s.c.av.length:=by omega
    have aP:k<(s.c.av.drop from_).length:=by rw[m_];omega
    have bl:aj (s.c.av.drop from_) k=aj s.c.av (from_+k):=by
     rw[ng aP,ng aB,List.getElem_drop]
    have y:s1.c.av=s.c.av:=by rw[i.o.c]
    have ad:s.c.n=n:=C.o.iX;obtain⟨x,aD⟩:∃x,aj s.c.av (from_+k)=x:=⟨_,rfl⟩
    have aQ:gK s.c.n x:=by rw[<-aD];exact aN.o.lit _ (lZ aB)
    obtain⟨v,aE⟩:∃v:Nat,aC x=v:=⟨_,rfl⟩
    have bn:1<=v/\v<=n:=by have:=aQ;unfold gK at this;rw[aE,ad] at this;exact this
    have ck: -60000<=x/\x<=60000:=by unfold aC at aE;omega
    have aa:(j 4).b=some g4:=by rw[L.o 4 (by omega)];exact ak.o
    have c1:=E.o.e.zL aa (k:=from_+k) (by rw[y];exact aB);rw[y,aD] at c1;have aR:s1.hM.length=n+1:=i.o.nG.trans C.o.nG;have aS:s1.c.val.length=n+1:=by rw[i.o.c];show(zero s.c.val _).length=_;rw[CW,aN.o.ru,ad]
    have aT:s1.c.kB.length=n+1:=by rw[i.o.c];show(sP s.c.kB _).length=_;rw[CX,aN.o.pK,ad]
    have bo:s1.pl.length=n+1:=by have:=i.o.lP.sk;rw[ad] at this;exact this
    obtain⟨g9,an,bP,f9⟩:=E.o.e.lV 12 9 rfl (E.o.e.jU.trans aR) (by omega);obtain⟨g1,ao,bQ,f1⟩:=E.o.e.lV 2 1 rfl (E.o.e.js.trans aS) (by omega);obtain⟨g3,ar,bR,f3⟩:=E.o.e.lV 4 3 rfl (E.o.e.nM.trans aT) (by omega);have d9:=E.o.e.FB an (k:=v) (by omega);have d1:=E.o.e.zK ao (k:=v) (by omega);have d3:=E.o.e.yy ar (k:=v) (by omega);obtain⟨pa,bp⟩:∃pa,qM cb (mz s1.c.kB v)=.pointer pa:=by cases mz s1.c.kB v with|none=>exact⟨_,rfl⟩|some d=>exact⟨_,rfl⟩
    rw[bp] at d3;have bS:=f9 v;have bT:=f1 v;have bU:=f3 v;have bq:g9≠g1:=E.o.e.wH (r:=9) (r':=1) (by omega) an ao;have br:g9≠g3:=E.o.e.wH (r:=9) (r':=3) (by omega) an ar;have n13:g1≠g3:=E.o.e.wH (r:=1) (r':=3) (by omega) ao ar;have n19:=bq.symm;have n39:=br.symm;have n31:=n13.symm;have bh:(v:Int)<((n+1:Nat):Int):=by omega
    have aU:=U an;have bs:=U ao;have bV:=U ar;have a:=U (z_ aD (z_ aE (z_ bl (z_ aQ aP))));have M:=U (z_ aR (z_ aS (z_ aT (z_ bo ad))));have N:=U bn;clear an ao ar aa f9 f1 f3 aD aE bl aQ aP aR aS aT bo ad bn bL bN bO hm aB y bp
    go_upto_region 6 with(go_at_call 97;refine(sV x _ (by omega) (by omega)).mono ?_;rintro e w1 ⟨rfl,rfl⟩;rw[a.o.2.1])
    go_wp2_with fail
    go_region
    generalize bW:decide (0<x)=b;have z:=((E.o.zJ aU.o v b).1.xI bs.o v 0).1.zI bV.o v none;have au:=U (F.o.trans ((((E.o.zJ aU.o v b).2.trans (((E.o.zJ aU.o v b).1.xI bs.o v 0).2.trans z.2)).trans aG.drew)));have z:bJ (aY K base ((((wr.setCell ⟨g9,v,none⟩ (.bool b)).setCell ⟨g1,v,none⟩ (.int .i8 0)).setCell ⟨g3,v,none⟩ (.pointer none)).drew) G j cb (s1.uf v b)):=U z.1.drew;have au:bJ (aG K w ((((wr.setCell ⟨g9,v,none⟩ (.bool b)).setCell ⟨g1,v,none⟩ (.int .i8 0)).setCell ⟨g3,v,none⟩ (.pointer none)).drew)):=au;generalize (((wr.setCell ⟨g9,v,none⟩ (.bool b)).setCell ⟨g1,v,none⟩ (.int .i8 0)).setCell ⟨g3,v,none⟩ (.pointer none)).drew=bt at z au;clear bP bQ bR d9 d1 d3 bS bT bU bq br n13 n19 n39 n31 c1 bW;obtain⟨g8,ae,aV,f8⟩:=z.o.e.lV 11 8 rfl (z.o.e.n8.trans M.o.2.2.2.1) (by omega);have d8:=z.o.e.wI ae (k:=v) (by show v<s1.pl.length;have:=M.o.2.2.2.1;have:=N.o;omega);rw[show(s1.uf v b).pl=s1.pl from rfl] at d8;obtain⟨pv,aW⟩:∃pv,aj s1.pl v=pv:=⟨_,rfl⟩
    rw[aW] at d8;have bX:=f8 v;have bY:=U ae;have q8:=U aW;clear ae f8 aW
    by_cases hp:0<=pv
    ·have bu:¬pv<0:=by omega
     have aF:=U hp;clear hp
     go_wp2_with fail
     go_roundw
     case rel=>exact⟨k+1,j,_,by have:=aA.o;omega,by go_num,(by
       have:=pO.stay (b:=b) i.o a.o.2.2.2.2 (by rw[a.o.2.2.1,a.o.1,a.o.2.1];exact N.o.1) (by rw[a.o.2.2.1,a.o.1,a.o.2.1,q8.o];exact aF.o);rw[a.o.2.2.1,a.o.1,a.o.2.1] at this;exact this),z.o,au.o,L.o⟩
     case measure=>have:=aA.o;simp[intOf];omega
    ·have bu:pv<0:=by omega
     have aF:=U bu;clear hp;obtain⟨R,n7,S,aH⟩:∃R n7 S,j 7=⟨R,n7,S⟩:=⟨_,_,_,rfl⟩
     obtain⟨f,aI⟩:∃f,s1.ord.length=f:=⟨_,rfl⟩
     have aX:n7=f:=by have:=z.o.e.n7;rw[aH] at this;exact this.trans aI
     have aZ:bt.cell? ⟨G,10,none⟩=some (.slice R f S):=by have:=z.o.e.kJ (k:=10) (v:=(j 7).v) rfl;rw[aH,aX] at this;exact this
     have bw:f<=n:=by have:=i.o.lP.len;rw[aI,M.o.2.2.2.2] at this;exact this
     have p:=U (z_ aH (z_ aX (z_ aI bw)));clear aH aX aI bw
     go_wp2_with fail
     go_region
     have af:=z.o.xJ bY.o v (f:Int);have bx:=U (au.o.trans (af.2.trans aG.drew));have af:=U af.1.drew;generalize (bt.setCell ⟨g8,v,none⟩ (.int .i64 (f:Int))).drew=aw at af bx;clear aV d8 bX aZ;have aZ:aw.cell? ⟨G,10,none⟩=some (.slice R f S):=by have:=af.o.e.kJ (k:=10) (v:=(j 7).v) rfl;rw[p.o.1,p.o.2.1] at this;exact this
     have aJ:=U (af.o.below (bz aw (.cells #[.int .i64 (v:Int)] 3)));have bA:(aw.alloc (.cells #[.int .i64 (v:Int)] 3)).ownsRow base 3 1 (.slice R f S) f (s1.ord.map (Value.int .i64)):=by have:=aJ.o.1.e.rows.row 7;rw[p.o.1,p.o.2.1] at this;exact this
     have bZ:=U bA;have b0:=U aJ.o.1.e.lt;have bB:(j 7).v=.slice R f S:=by rw[p.o.1,p.o.2.1];rfl
     have b1:=U bB;clear bA bB
     go_upto_region 10 with(at_builtin;refine qS rfl (.tmp 78) (.tmp 80) rfl base (.slice R f S) f s1.ord rfl bZ.o (some ⟨aw.heap.size,0,none⟩) 1 1 [(v:Int)] rfl (aL.lit aw [(v:Int)] 1 _ rfl rfl (by omega)) (by have:=p.o;omega) (Nat.le_of_lt b0.o) ?_;intro v9 bM bC;obtain⟨⟨A',b2,c'⟩,b3,bD,bf,f5,O,ag⟩:=aY.Ku (s:=(s1.uf v b).pM v (f:Int)) (x:=(v:Int)) aJ.o.1 (by rw[b1.o];rw[show((s1.uf v b).pM v (f:Int)).ord.length=f from p.o.2.2.1];exact bC);obtain rfl:b2=f+1:=bD.trans (by rw[show((s1.uf v b).pM v (f:Int)).ord.length=f from p.o.2.2.1]);obtain rfl:v9=.slice A' (f+1) c':=b3)
     have ag:=U (bx.o.trans (aJ.o.2.trans ag));have O:bJ (aY K base (bM.setCell ⟨G,10,none⟩ (.slice A' (f+1) c')) G (iT j 7 ⟨A',f+1,c'⟩) cb (((s1.uf v b).pM v (f:Int)).vf (v:Int))):=U O;have ag:bJ (aG K w (bM.setCell ⟨G,10,none⟩ (.slice A' (f+1) c'))):=ag;generalize bM.setCell ⟨G,10,none⟩ (.slice A' (f+1) c')=cm at O ag;clear aZ bf f5 bD bC;have ah:me s.c.n (s1.ord++[(v:Int)]) (s1.pl.set v (f:Int)):=by
      have:=i.o.push (by rw[a.o.2.2.1,a.o.1,a.o.2.1];exact N.o.1) (by rw[a.o.2.2.1,a.o.1,a.o.2.1,M.o.2.2.2.2];exact N.o.2) (by rw[a.o.2.2.1,a.o.1,a.o.2.1,q8.o];exact aF.o);rw[a.o.2.2.1,a.o.1,a.o.2.1,p.o.2.2.1] at this;exact this
     obtain⟨iY,P⟩:∃iY,iY=((s1.uf v b).pM v (f:Int)).vf (v:Int):=⟨_,rfl⟩
     rw[<-P] at O;have kA:iY.c.n=n:=by rw[P];show s1.c.n=n;rw[i.o.c];exact M.o.2.2.2.2
     have ah:me iY.c.n iY.ord iY.pl:=by rw[kA,P,<-M.o.2.2.2.2];exact ah
     have a4:iY.act.length=iY.c.n+1:=by rw[kA,P];show s1.act.length=_;rw[i.o.act];exact C.o.lg
     have bE:iY.ord.length=f+1:=by rw[P];show(s1.ord++[_]).length=_;rw[r_,p.o.2.2.1];rfl
     have bF:aj iY.pl v=f:=by rw[P];show aj (s1.pl.set v _) v=_;rw[oP,if_pos ⟨rfl,by have:=M.o.2.2.2.1;have:=N.o;omega⟩]
     obtain⟨cn,ae,aV,f8⟩:=O.o.e.lV 11 8 rfl (O.o.e.n8.trans ah.sk) (by omega);rw[kA] at aV;have d8:=O.o.e.wI ae (k:=v) (by rw[ah.sk,kA];have:=N.o;omega);rw[bF] at d8;have ai:=U (z_ P (z_ kA (z_ ah (z_ a4 bE))));clear P kA ah a4 bE bF f8 ae
     go_wp2_with (go_at_call 187;refine(C9 O.o ai.o.2.2.1 ai.o.2.2.2.1 (by have:=ai.o.2.1;omega) f (by have:=ai.o.2.2.2.2;omega) (by have:=ai.o.2.2.2.2;have:=p.o;omega)).mono ?_;rintro e cp ⟨rfl,bG,a6,a7,a8⟩;have a7:=U a7;have a8:=U a8;have a6:=U a6)
     go_roundw
     case rel=>exact⟨k+1,_,bG,by have:=aA.o;omega,by go_num,(by
       have:=pO.back (b:=b) (iY:=bG) i.o a.o.2.2.2.2 (by rw[a.o.2.2.1,a.o.1,a.o.2.1];exact N.o.1) (by rw[a.o.2.2.1,a.o.1,a.o.2.1,M.o.2.2.2.2];exact N.o.2) (by rw[a.o.2.2.1,a.o.1,a.o.2.1,q8.o];exact aF.o);rw[a.o.2.2.1,a.o.1,a.o.2.1,p.o.2.2.1] at this;refine this ?_;rw[<-ai.o.1];exact a6.o),a7.o,ag.o.trans a8.o,λ r bH=>by rw[bk _ _ bH];exact L.o r bH⟩
     case measure=>have:=aA.o;simp[intOf];omega
   ·obtain rfl:k=m:=by omega
    have bj:¬(k:Int)<(k:Int):=by omega
    go_upto_region 12 with fail
    have l:j 4=hs 4:=L.o 4 (by omega);have q:j 5=hs 5:=L.o 5 (by omega);have y:s1.c.av.length=s.c.av.length:=by rw[i.o.c]
    have V:s1.c.st.length=s.c.st.length:=by rw[i.o.c]
    have a':=E.o.e.q5 5 (r:=4) (by rw[l];exact ak.o) (E.o.e.kA.trans y) rfl;have ba:=E.o.e.q5 6 (r:=5) (by rw[q];exact Z.o) (E.o.e.kf.trans V) rfl;have ay:∃v,wr.cell? ⟨G,7,none⟩=some v:=⟨_,E.o.e.kJ (k:=7) rfl⟩
    obtain⟨b4,ay⟩:=ay;rw[l,D] at a';rw[q] at ba;have b5:(level:Int)<=((hs 5).c:Int):=by have:=H.o.e.xN Z.o;rw[H.o.e.kf] at this;omega
    have b6:(from_:Int)<=(t:Int):=by omega
    have b7:=E.o.e.free 5;have b8:=E.o.e.free 6;have b9:=E.o.e.free 7;have X:=E.o.FN (g:=g4) (m:=from_) (by rw[l];exact ak.o) (by rw[y];exact u.o.2.1);have Y:=X.1.FO (g:=g5) (m:=level) (by rw[bk _ _ (by omega),q];exact Z.o) (by show level<=s1.c.st.length;rw[V];omega);have J:=Y.1.Bj from_;rw[l,D,bk _ _ (show(5:Nat)≠4 by omega),q] at J;have hF:=U (F.o.trans ((by have:=X.2;rw[l,D] at this;exact this:aG K wr _).trans ((by have:=Y.2;rw[l,D,bk _ _ (show(5:Nat)≠4 by omega),q] at this;exact this:aG K _ _).trans (J.2.trans aG.drew))));have I:=U J.1.drew;clear X Y J l q y V
    go_wp2_with fail
    go_region
    go_wp2;go_end0;refine⟨rfl,_,_,?_,?_,I.o,hF.o⟩
    ·have bb:k=(s.c.av.drop from_).length:=by rw[m_];exact ab.o.symm
     have bc:pO s (s.c.av.drop (gZ s.c.st level)) (s.c.av.drop (gZ s.c.st level)).length s1:=by rw[u.o.1,<-bb];exact i.o
     have:=bc.done;rw[u.o.1] at this;exact this
    ·exact i.o.rg (m:=from_) (level:=level) C.o (by have:=u.o;omega)
 case inl hcf=>
  subst h;generalize hm:s.c.av.length-t=m;have ab:=U hm;clear hm
  go_loopw [6,7,29] (λ _ _ Q W=>∃(k:Nat)(j:Nat->ax)(s1:aq),k<=m/\Q=.int .i64 k/\pO s (s.c.av.drop t) k s1/\aY K base W G j cb s1/\aG K w W/\∀r,r≠7->j r=hs r) (λ _ _ Q _=>m-(intOf Q).toNat)
  case atStart=>exact⟨0,hs,s,by omega,rfl,pO.start (C.o.iX▸C.o.lP),H.o,aG.refl,λ _ _=>rfl⟩
  case round=>
   obtain⟨k,j,s1,hk,rfl,al,I,hF,hH⟩:=hrel;have E:=U I;have F:=U hF;have i:=U al;have L:=U hH;clear I hF al hH
   by_cases aO:k<m
   ·exact absurd aO (by have:=ab.o;have:=u.o;omega)
   ·obtain rfl:k=m:=by omega
    have bj:¬(k:Int)<(k:Int):=by omega
    go_upto_region 12 with fail
    have l:j 4=hs 4:=L.o 4 (by omega);have q:j 5=hs 5:=L.o 5 (by omega);have y:s1.c.av.length=s.c.av.length:=by rw[i.o.c]
    have V:s1.c.st.length=s.c.st.length:=by rw[i.o.c]
    have a':=E.o.e.q5 5 (r:=4) (by rw[l];exact ak.o) (E.o.e.kA.trans y) rfl;have ba:=E.o.e.q5 6 (r:=5) (by rw[q];exact Z.o) (E.o.e.kf.trans V) rfl;have ay:∃v,wr.cell? ⟨G,7,none⟩=some v:=⟨_,E.o.e.kJ (k:=7) rfl⟩
    obtain⟨b4,ay⟩:=ay;rw[l,D] at a';rw[q] at ba;have b5:(level:Int)<=((hs 5).c:Int):=by have:=H.o.e.xN Z.o;rw[H.o.e.kf] at this;omega
    have b6:(t:Int)<=(t:Int):=by omega
    have b7:=E.o.e.free 5;have b8:=E.o.e.free 6;have b9:=E.o.e.free 7;have X:=E.o.FN (g:=g4) (m:=t) (by rw[l];exact ak.o) (by rw[y];exact u.o.2.1);have Y:=X.1.FO (g:=g5) (m:=level) (by rw[bk _ _ (by omega),q];exact Z.o) (by show level<=s1.c.st.length;rw[V];omega);have J:=Y.1.Bj t;rw[l,D,bk _ _ (show(5:Nat)≠4 by omega),q] at J;have hF:=U (F.o.trans ((by have:=X.2;rw[l,D] at this;exact this:aG K wr _).trans ((by have:=Y.2;rw[l,D,bk _ _ (show(5:Nat)≠4 by omega),q] at this;exact this:aG K _ _).trans (J.2.trans aG.drew))));have I:=U J.1.drew;clear X Y J l q y V
    go_wp2_with fail
    go_region
    go_wp2;go_end0;refine⟨rfl,_,_,?_,?_,I.o,hF.o⟩
    ·have bb:k=(s.c.av.drop t).length:=by rw[m_];exact ab.o.symm
     have bc:pO s (s.c.av.drop (gZ s.c.st level)) (s.c.av.drop (gZ s.c.st level)).length s1:=by rw[u.o.1,<-bb];exact i.o
     have:=bc.done;rw[u.o.1] at this;exact this
    ·exact i.o.rg (m:=t) (level:=level) C.o (by have:=u.o;omega)
end
section
open Go.RowKit Go.Shelf
section
variable {K:Nat->Prop}{base:Nat}{w w' W:World}{G:Nat}{hs:Nat->ax}{cb:Nat->Nat}{s:aq}
theorem Bm{s:aq}{d:Nat}:s.ci.getD d ⟨false,0,0⟩=lG s d:=rfl
theorem aY.zR(h:aY K base w G hs cb s){d:Nat}(a:d<s.c.cl.length):w.cell? ⟨cb d,0,none⟩=some (hs (kI d)).v/\w.cell? ⟨cb d,1,none⟩=some (.bool (lG s d).kZ)/\w.cell? ⟨cb d,2,none⟩=some (.int .i64 (lG s d).bh)/\w.cell? ⟨cb d,3,none⟩=some (.int .i64 (lG s d).ac)/\∀k,w.frozen? ⟨cb d,k,none⟩=false:=by
 have:=h.e.cls d a;exact⟨by rw[this.cell];rfl,by rw[this.cell];rfl,by rw[this.cell];rfl,by rw[this.cell];rfl,λ k=>this.free k⟩
theorem aY.F2(h:aY K base w G hs cb s){d:Nat}(b:d<s.c.cl.length)(g:s.ci.length=s.c.cl.length)(x:Int):aY K base (w.setCell ⟨cb d,3,none⟩ (.int .i64 x)) G hs cb (s.wJ d x)/\aG K w (w.setCell ⟨cb d,3,none⟩ (.int .i64 x)):=by
 refine⟨⟨(h.e.J1 b 3 (.int .i64 x)).eq rfl rfl rfl (λ e he=>?_) rfl (λ _=>rfl),h.s.more (k8 w (cb d) 3 _).size⟩,aG.set (cb d) 3 _ (h.s.cl d b)⟩
 by_cases a:e=d
 ·subst a;rw[jO];unfold tv;rw[Bm,Bm,zO,if_pos ⟨rfl,by omega⟩];rfl
 ·rw[bk _ _ a];unfold tv;rw[Bm,Bm,zO,if_neg (λ f=>a f.1.symm)]
theorem jf.n10(h:jf base w G hs cb s):(hs 10).n=s.aM.length:=by
 have h1:=h.rows.len 10;rw[show(cont hs cb s 10).length=s.aM.length by simp[cont,k3],show nE 10=1 from rfl] at h1;omega
theorem jf.F3(h:jf base w G hs cb s){g:Nat}(a:(hs 10).b=some g){k:Nat}(hk:k<s.aM.length):w.cell? ⟨g,k,none⟩=some (.pointer (some ⟨cb (gZ s.aM k),0,none⟩)):=h.get a (by
 show(k3 cb s.aM)[k]? =_;rw[va hk];simp[k3,hk,sS])
end
theorem F4{l:List Nat}(h:k<l.length):gZ l k∈l:=by rw[va h];exact List.getElem_mem h
theorem Kw(h:l/2=p):f_ (l:Int) 2=(p:Int):=by rw[x_ (by omega)];omega
theorem wrap_small(p:Nat)(h:p<=65536):wrap64 (p:Int)=(p:Int):=by unfold wrap64;omega
theorem Kx(p:Nat)(h:p<=65536):wrap64 ((p:Int)-1)=(p:Int)-1:=by unfold wrap64;omega
theorem half_start(h:p=0\/p-1<l): -1<=(p:Int)-1/\(p:Int)-1<l:=by omega
structure zS(s:aq)(A' B:Int)(k:Nat)(s1:aq):Prop where
 eq:∃a,s1={s with act:=a}
 lg:s1.act.length=s.act.length
 jq:∀u,u<k->0<=aj s1.act u/\aj s1.act u<=A'
 ak:∀u,k<=u->aj s1.act u=aj s.act u
 a0:aj s1.act 0=0
structure zT(s:aq)(B:Int)(s1:aq):Prop where
 eq:∃a,s1={s with ci:=a}
 lg:s1.ci.length=s.ci.length
 ci:∀d,(lG s1 d).kZ=(lG s d).kZ/\(lG s1 d).bh=(lG s d).bh/\0<=(lG s1 d).ac/\(lG s1 d).ac<=B
def Ky(K:Nat->Prop)(base:Nat)(w:World)(G:Nat)(hs:Nat->ax)(cb:Nat->Nat)(n:Nat)(A' B:Int)(s:aq)(e:Ending)(w':World):Prop:=
 e=.returned (.tuple #[])/\∃s',nW s s'/\mo n A' B s'/\aY K base w' G hs cb s'/\aG K w w'
theorem zS.step(h:zS s A' B k s1)(hk:k<s.act.length){x:Int}(c:0<=x)(h1:x<=A')(d:k=0->x=0):zS s A' B (k+1) (s1.pZ k x):=by
 have b:∀u,aj (s1.pZ k x).act u=if k=u then x else aj s1.act u:=λ u=>by
  show aj (s1.act.set k x) u=_;rw[oP]
  by_cases e:k=u
  ·rw[if_pos e,if_pos ⟨e,by rw[h.lg];exact hk⟩]
  ·rw[if_neg e,if_neg (λ f=>e f.1)]
 obtain⟨a,g⟩:=h.eq;refine⟨⟨s1.act.set k x,by rw[g];rfl⟩,by show(s1.act.set k x).length=_;rw[o_];exact h.lg,λ u hu=>?_,λ u hu=>?_,?_⟩
 ·rw[b];split
  ·exact⟨c,h1⟩
  ·exact h.jq u (by omega)
 ·rw[b,if_neg (by omega)];exact h.ak u (by omega)
 ·rw[b];split
  ·exact d (by omega)
  ·exact h.a0
theorem zT.step(h:zT s B s1)(d:Nat){x:Int}(b:0<=x)(h1:x<=B):zT s B (s1.wJ d x):=by
 obtain⟨a,c⟩:=h.eq;refine⟨⟨(s1.wJ d x).ci,by rw[c];rfl⟩,by show(s1.ci.set _ _).length=_;rw[o_];exact h.lg,λ e=>?_⟩;rw[zO];have:=h.ci e;split
 ·exact⟨this.1,this.2.1,b,h1⟩
 ·exact this
theorem Kz{s2:aq}(r:mo n A B s)(h1:zS s A' B s.act.length s1)(b:zT s1 B s2){x:Int}(j:1<=x)(k:x<=A'){s3:aq}(h:pN (s2.vI x) s3):nW s s3/\mo n A' B s3:=by
 obtain⟨a,rfl⟩:=h1.eq;obtain⟨c,rfl⟩:=b.eq;have p:0<=A':=by omega
 have l:mo n A' B (({({s with act:=a}:aq) with ci:=c}:aq).vI x):=by
  refine⟨r.iX,r.lP,h1.lg.trans r.lg,λ v=>?_,h1.a0,j,k,r.nG,r.oU,b.lg.trans r.nH,λ d=>?_,r.k4⟩
  ·rcases Nat.lt_or_ge v s.act.length with f|f
   ·exact h1.jq v f
   ·have e:=h1.ak v f;rw[Kf f] at e;have q:aj a v=0:=e;show 0<=aj a v/\aj a v<=A';omega
  ·have g:=b.ci d;have i:=r.p5 d;have m:lG ({s with act:=a}:aq) d=lG s d:=rfl;rw[m] at g;exact⟨g.2.2.1,g.2.2.2,by have:=g.2.1;have o:(lG (({({s with act:=a}:aq) with ci:=c}:aq).vI x) d).bh=(lG s d).bh:=this;rw[o];exact⟨i.2.2.1,i.2.2.2⟩⟩
 refine⟨?_,h.rg l⟩;refine nW.trans ?_ h.hk;exact⟨rfl,rfl,rfl,rfl,rfl,rfl,rfl,rfl,.refl _,b.lg,λ d=>⟨(b.ci d).1,(b.ci d).2.1⟩⟩
theorem F5(h:aY K base w G hs cb s)(r:mo n A B s)(bL:n<=60000)(bw:s.aM.length<=100000)(Y:A<=4398046511104)(bM:1<=A')(bN:A/1024<=A')(bO:0<=B)(bP:B<=4611686018427387904):
  Calls y_ 188 #[.pointer (some ⟨G,0,none⟩)] w (Ky K base w G hs cb n A' B s):=by
 have ay:=r.lg;obtain⟨g6,aZ,bQ,f6⟩:=h.e.lV 8 6 rfl (h.e.n6.trans ay) (by omega);have H:=U h;have l:=U r;have ai:=U aZ;have aa:=U ay;clear h r aZ f6 ay;go_enter Tryz.func188,Tryz.ntmps188
 go_wp2_with fail
 go_loopw [2,11] (λ _ az W=>∃(k:Nat)(s1:aq),k<=n+1/\az=.int .i64 k/\zS s A' B k s1/\aY K base W G hs cb s1/\aG K w W) (λ _ az _=>n+1-(intOf az).toNat)
 case atStart=>exact⟨0,s,by omega,rfl,⟨⟨_,rfl⟩,rfl,λ u hu=>by omega,λ u hu=>rfl,l.o.a0⟩,H.o,aG.refl⟩
 case round=>
  obtain⟨k,s1,hk,rfl,a6,N,hF⟩:=hrel;have E:=U N;have F:=U hF;have g:=U a6;clear N hF a6
  by_cases aA:k<n+1
  ·have bx:(k:Int)<((n+1:Nat):Int):=by omega
   have bR:=E.o.e.q5 8 ai.o (E.o.e.n6.trans (g.o.lg.trans aa.o)) rfl;have I:=g.o.ak k (Nat.le_refl _);have T:=l.o.qi k;have a7:=l.o.a0;have c1:=E.o.e.yz ai.o (k:=k) (by rw[g.o.lg,aa.o];omega);rw[I] at c1;obtain⟨x,aB⟩:∃x,aj s.act k=x:=⟨_,rfl⟩
   rw[aB] at c1 T;have f6:=E.o.e.rows.free ai.o k;have Q:f_ x 1024=x/1024:=x_ T.1;have ab:x/1024<=A':=by omega
   have ad:0<=x/1024:=by omega
   have R:k=0->x/1024=0:=λ e=>by subst e;rw[aB] at a7;omega
   obtain⟨y,O⟩:∃y,x/1024=y:=⟨_,rfl⟩
   rw[O] at Q ab ad R;have aC:wrap64 y=y:=by unfold wrap64;omega
   have Z:=U (z_ ad (z_ ab (z_ R aA)));clear I a7 aB R O aA
   go_wp2_with fail
   have J:=E.o.Bc ai.o k y;have bz:=g.o.step (k:=k) (by rw[aa.o];exact Z.o.2.2.2) Z.o.1 Z.o.2.1 Z.o.2.2.1;go_roundw
   case rel=>exact⟨k+1,_,by have:=Z.o;omega,by go_num,bz,J.1,F.o.trans J.2⟩
   case measure=>have:=Z.o;simp[intOf];omega
  ·obtain rfl:k=n+1:=by omega
   obtain⟨al,n10,aD,an⟩:∃al n10 aD,hs 10=⟨al,n10,aD⟩:=⟨_,_,_,rfl⟩
   obtain⟨t,ao⟩:∃t,s.aM.length=t:=⟨_,rfl⟩
   have aE:s1.aM.length=t:=by obtain⟨a,f⟩:=g.o.eq;rw[f];exact ao
   have aF:n10=t:=by have:=E.o.e.n10;rw[an] at this;exact this.trans aE
   have bA:wr.cell? ⟨G,13,none⟩=some (.slice al t aD):=by have:=E.o.e.kJ (k:=13) (v:=(hs 10).v) rfl;rw[an,aF] at this;exact this
   have bx:¬((n+1:Nat):Int)<((n+1:Nat):Int):=by omega
   rw[ao] at bw;have L:=U (z_ an (z_ ao (z_ aE aF)));clear an ao aE aF aA
   go_wp2_with fail
   go_loopw [4,29] (λ _ aH W=>∃(k:Nat)(s2:aq),k<=t/\aH=.int .i64 k/\zT s1 B s2/\aY K base W G hs cb s2/\aG K w W) (λ _ aH _=>t-(intOf aH).toNat)
   case atStart=>exact⟨0,s1,by omega,rfl,⟨⟨_,rfl⟩,rfl,λ d=>by
    obtain⟨a,f⟩:=g.o.eq;have:lG s1 d=lG s d:=by rw[f];rfl
    have ae:=l.o.p5 d;rw[this];exact⟨rfl,rfl,ae.1,ae.2.1⟩⟩,E.o,F.o⟩
   case round=>
    obtain⟨j,s2,bS,rfl,a8,N,hF⟩:=hrel;have J:=U N;have a':=U hF;have M:=U a8;clear N hF a8;have aI:s2.aM=s.aM:=by obtain⟨a,f⟩:=g.o.eq;obtain⟨b,C⟩:=M.o.eq;rw[C,f]
    have aJ:s2.c.cl=s.c.cl:=by obtain⟨a,f⟩:=g.o.eq;obtain⟨b,C⟩:=M.o.eq;rw[C,f]
    have ba:s2.ci.length=s2.c.cl.length:=by rw[aJ,M.o.lg];obtain⟨a,f⟩:=g.o.eq;rw[f];exact l.o.nH
    by_cases ar:j<t
    ·have bB:(j:Int)<(t:Int):=by omega
     obtain⟨g10,Y,bb,-⟩:=J.o.e.wF (r:=10) (m:=t) (by rw[L.o.1];exact L.o.2.2.2) (by omega);rw[L.o.1] at Y;have Y:al=some ⟨g10,0,none⟩:=Y;subst Y;have c1:=J.o.e.F3 bb (k:=j) (by rw[aI,L.o.2.1];exact ar);obtain⟨d,aK⟩:∃d,gZ s2.aM j=d:=⟨_,rfl⟩
     have aL:d<s2.c.cl.length:=by rw[aJ,<-aK,aI];exact l.o.k4 _ (F4 (by rw[L.o.2.1];exact ar))
     rw[aK] at c1;obtain⟨-,-,-,bC,f4⟩:=J.o.zR aL;have T:=M.o.ci d;obtain⟨x,I⟩:∃x,(lG s2 d).ac=x:=⟨_,rfl⟩
     rw[I] at bC T;have f43:=f4 3;have Q:f_ x 1024=x/1024:=x_ T.2.2.1;have ab:x/1024<=B:=by omega
     have ad:0<=x/1024:=by omega
     obtain⟨y,O⟩:∃y,x/1024=y:=⟨_,rfl⟩
     rw[O] at Q ab ad;have aC:wrap64 y=y:=by unfold wrap64;omega
     have Z:=U (z_ ad (z_ ab (z_ aL (z_ ba ar))));clear T I O ar aK aL ba f4 aI aJ bb
     go_wp2_with fail
     have D:=J.o.F2 Z.o.2.2.1 Z.o.2.2.2.1 y;have bD:=M.o.step d Z.o.1 Z.o.2.1;go_roundw
     case rel=>exact⟨j+1,_,by have:=Z.o;omega,by go_num,bD,D.1,a'.o.trans D.2⟩
     case measure=>have:=Z.o;simp[intOf];omega
    ·obtain rfl:j=t:=by omega
     have bB:¬(j:Int)<(j:Int):=by omega
     clear bA;have bc:s2.bt=s.bt:=by obtain⟨a,f⟩:=g.o.eq;obtain⟨b,C⟩:=M.o.eq;rw[C,f]
     obtain⟨x,I⟩:∃x,s.bt=x:=⟨_,rfl⟩
     have bd:=J.o.e.kJ (k:=9) (v:=.int .i64 s2.bt) rfl;rw[bc,I] at bd;have f9:=J.o.e.free 9;have bE:1<=x:=by rw[<-I];exact l.o.q7
     have bF:x<=A:=by rw[<-I];exact l.o.oG
     have Q:f_ x 1024=x/1024:=x_ (by omega);obtain⟨y,O⟩:∃y,x/1024=y:=⟨_,rfl⟩
     have bG:0<=y/\y<=A':=by omega
     rw[O] at Q;have aC:wrap64 y=y:=by unfold wrap64;omega
     clear bc I O bE bF
     go_upto_region 11 with fail
     obtain⟨z,R⟩:∃z,(if 1<y then y else 1)=z:=⟨_,rfl⟩
     rw[R];have bf:1<=z/\z<=A':=by rw[<-R];split<;>omega
     have D:=J.o.FP z;have bg:=U (a'.o.trans D.2);have D:=U D.1;generalize wr.setCell ⟨G,9,none⟩ (.int .i64 z)=bH at D bg;clear R Q aC bG bd f9;obtain⟨s3,V⟩:∃s3,s3=s2.vI z:=⟨_,rfl⟩
     rw[<-V] at D;have aN:me n s3.ord s3.pl:=by obtain⟨a,f⟩:=g.o.eq;obtain⟨b,C⟩:=M.o.eq;rw[V,C,f];exact l.o.lP
     have bh:s3.c.n=n:=by obtain⟨a,f⟩:=g.o.eq;obtain⟨b,C⟩:=M.o.eq;rw[V,C,f];exact l.o.iX
     have bj:s3.act.length=n+1:=by rw[V];show s2.act.length=_;obtain⟨b,C⟩:=M.o.eq;rw[C];exact g.o.lg.trans aa.o
     have aO:=aN.len;obtain⟨S,au⟩:∃S,s3.ord.length=S:=⟨_,rfl⟩
     rw[au] at aO;obtain⟨aP,n7,aQ,aR⟩:∃aP n7 aQ,hs 7=⟨aP,n7,aQ⟩:=⟨_,_,_,rfl⟩
     have bk:n7=S:=by have:=D.o.e.n7;rw[aR] at this;exact this.trans au
     have bT:bH.cell? ⟨G,10,none⟩=some (.slice aP S aQ):=by have:=D.o.e.kJ (k:=10) (v:=(hs 7).v) rfl;rw[aR,bk] at this;exact this
     obtain⟨p,hp⟩:∃p:Nat,S/2=p:=⟨_,rfl⟩
     have av:p<=65536/\(p=0\/p-1<S):=by omega
     have Q:=Kw hp;have bU:=wrap_small p av.1;have bV:=Kx p av.1;have bl:=half_start av.2;have P:=U (z_ hp (z_ V (z_ aN (z_ bh (z_ bj (z_ aO (z_ au bf)))))));have bn:=U bl;clear hp V aN bh bj aO au bf aR bk av bl
     go_wp2_with fail
     go_loopw [5] (λ af W=>∃(i:Int)(iY:aq),af=.int .i64 i/\ -1<=i/\i<S/\pN s3 iY/\aY K base W G hs cb iY/\aG K w W) (λ af _=>(intOf af+1).toNat)
     case atStart=>
      obtain⟨bo,aS,aT,ag,aU,bp,bq,aw⟩:=P.o;exact⟨(p:Int)-1,s3,rfl,bn.o.1,bn.o.2,pN.refl (by rw[ag];exact aT),D.o,bg.o⟩
     case round=>
      obtain⟨i,iY,rfl,bW,bX,hO,N,hF⟩:=hrel;have br:=U N;have bs:=U hF;have ah:=U hO;clear N hF hO
      by_cases bY:0<=i
      ·obtain⟨m,rfl⟩:∃m:Nat,i=m:=⟨i.toNat,by omega⟩
       have bZ:wrap64 ((m:Int)-1)=(m:Int)-1:=by have:=P.o;unfold wrap64;omega
       have X:bJ (me iY.c.n iY.ord iY.pl/\iY.act.length=iY.c.n+1/\iY.c.n<=65536/\m<iY.ord.length/\iY.ord.length<=65537):=U (by
        obtain⟨bo,aS,aT,ag,aU,bp,bq,aw⟩:=P.o;have h1:=ah.o.ol;have ae:=ah.o.lP;obtain⟨o,q,bu⟩:=ah.o.eq;have bI:iY.c.n=n:=by rw[bu];exact ag
        have b0:iY.act.length=n+1:=by rw[bu];exact aU
        rw[ag] at ae;rw[bI];exact⟨ae,by omega,by omega,by omega,by omega⟩)
       go_wp2_with (go_at_call 194;refine(FM br.o X.o.1 X.o.2.1 X.o.2.2.1 m X.o.2.2.2.1 X.o.2.2.2.2).mono ?_;rintro e b1 ⟨rfl,af,aV,aW,aX⟩;have aW:=U aW;have aX:=U aX;have aV:=U aV)
       go_roundw
       case rel=>exact⟨(m:Int)-1,af,by go_num,by omega,by omega,ah.o.trans aV.o,aW.o,bs.o.trans aX.o⟩
       case measure=>simp[intOf];omega
      ·have bK:i= -1:=by omega
       subst bK
       go_wp2_with fail
       go_end0;obtain⟨bo,aS,aT,ag,aU,bp,bq,aw⟩:=P.o;have:=Kz (s3:=iY) l.o (by have:=g.o;rwa[<-aa.o] at this) M.o aw.1 aw.2 (by rw[<-aS];exact ah.o);exact⟨rfl,iY,this.1,this.2,br.o,bs.o⟩
end
section
open Go.RowKit Go.Shelf
def pe(B bH m:Nat)(W W':World):Prop:=(∀v,W.cell? ⟨B,0,none⟩=some v->W'.cell? ⟨B,0,none⟩=some v)/\∀(k:Nat)(v:Value),k<m->W.cell? ⟨bH,k,none⟩=some v->W'.cell? ⟨bH,k,none⟩=some v
theorem pe.refl(B bH m:Nat)(W:World):pe B bH m W W:=⟨λ _ h=>h,λ _ _ _ h=>h⟩
theorem pe.trans{B:Nat}{jw ki kK:World}(h:pe B bH m jw ki)(k:pe B bH m ki kK):pe B bH m jw kK:=⟨λ v e=>k.1 v (h.1 v e),λ j v a e=>k.2 j v a (h.2 j v a e)⟩
theorem pe.F6{B:Nat}{row:Option Nat}(a:W.grownBy W' row)(h1:some B≠row)(b:some bH≠row):pe B bH m W W':=⟨λ v h=>a.cell h h1,λ k v _ h=>a.cell h b⟩
def others(l:List Int)(u:Int):List Int:=l.filter λ y=>y !=u
theorem KA{l:List Int}{u:Int}(hk:k<l.length):others (l.take (k+1)) u=if aj l k=u then others (l.take k) u else others (l.take k) u++[aj l k]:=by
 rw[yG hk];unfold others;rw[List.filter_append]
 by_cases h:aj l k=u
 ·rw[if_pos h];simp[h]
 ·rw[if_neg h];simp[h]
theorem F7(l:List Int)(u:Int)(k:Nat):others (l.take k) u<+:others l u:=by
 unfold others;exact(List.take_prefix k l).filter _
theorem De:∀args w,(callFunc 224 args).run y_ w=.ok (.enter 224 args) w:=enters_of Tryz.func224 (by kernel_rfl) rfl
theorem KB(F:Fence)(n:Nat)(G:F.fn 224)(H:F.round=none)(Q:1<=n)(l t d b bH m I:Nat)(cl:List Int)(u:Int)(hl:cl.length=m)(hm:m<=1000000)(a w:List Int->World->Prop)
  (J:∀pre (x:Int) W,a pre W->(pre++[x])<+:others cl u->YieldAt F (n-1) y_ l #[.int .i64 x] W λ e W'=>
   (e=.returned (.bool true)/\a (pre++[x]) W'/\pe d bH m W W')\/(e=.returned (.bool false)/\w (pre++[x]) W'))
  (W:World) (c1:W.cell? ⟨t,0,none⟩=some (.pointer (some ⟨b,0,none⟩))) (c2:W.cell? ⟨d,0,none⟩=some (.int .i64 u)) (c3:W.cell? ⟨b,0,none⟩=some (.slice (some ⟨bH,0,none⟩) m I))
  (y:∀k,k<m->W.cell? ⟨bH,k,none⟩=some (.int .i64 (aj cl k))) (K:a [] W):
  CallsIn F n y_ 224 #[.func (.yield l) #[] #[],.pointer (some ⟨t,0,none⟩),.pointer (some ⟨d,0,none⟩)] W λ e W'=>(∃v,e=.returned v)/\
   ((∃ys,ys=others cl u/\a ys W')\/(∃pre,pre<+:others cl u/\w pre W')):=by
 have L:=U y;have z:=U hl;clear y hl;refine callsIn_of_wp Tryz.func224 rfl G ?_ H;simp only[Tryz.ntmps224,List.size_toArray,List.length_cons,List.length_nil,Nat.reduceAdd,Nat.reduceSub,Array.replicate_succ,Array.replicate_zero,List.push_toArray,List.append_toArray,List.nil_append,List.cons_append]
 gi_wp2
 gi_loopw [11] (λ i wr=>∃k:Nat,k<=m/\i=.int .i64 k/\a (others (cl.take k) u) wr/\pe d bH m W wr) (λ i _=>m-(intOf i).toNat)
 case atStart=>exact⟨0,Nat.zero_le _,rfl,by rw[h_];exact K,pe.refl _ _ _ _⟩
 case round=>
  obtain⟨k,hk,rfl,A,g⟩:=hrel;have j:=U A;have p:=U g;have R:=g.1 _ c2;clear A g
  by_cases q:k<m
  ·have M:=p.o.2 k _ q (L.o k q);have r:k<cl.length:=by rw[z.o];exact q
   have c:=U (KA (u:=u) r);have S:q_.wrap ((k:Int)+1)=(k:Int)+1:=by rw[l_];omega
   have T:(k:Int)<(m:Int):=by omega
   have V:=U r;obtain⟨x,B⟩:∃x,aj cl k=x:=⟨_,rfl⟩
   rw[B] at M c;clear B r
   by_cases he:x=u
   ·have N:(x !=u)=false:=by simp[he]
    have f:=U he;clear he
    gi_wp2
    refine⟨λ _ h=>(by cases h),?_⟩
    gi_wp2
    go_roundw
    case rel=>exact⟨k+1,by omega,by go_num,by rw[c.o,if_pos f.o];exact j.o,p.o⟩
    case measure=>simp[intOf];omega
   ·have N:(x !=u)=true:=by simp[he]
    obtain⟨fn,tmps,assign,body,X,O⟩:=J _ x wr j.o (by have:=c.o;rw[if_neg he] at this;rw[<-this];exact F7 _ _ _);have f:=U he;clear he
    gi_wp2
    refine O.mono ?_;rintro e Y (⟨rfl,C,D⟩|⟨rfl,E⟩)
    ·have s:=U C;have P:=U D;clear C D
     gi_wp2
     go_roundw
     case rel=>exact⟨k+1,by omega,by go_num,by rw[c.o,if_neg f.o];exact s.o,p.o.trans P.o⟩
     case measure=>simp[intOf];omega
    ·have s:=U E;clear E
     gi_wp2
     refine bodyPost_ret (results_none rfl _ _ _) rfl ?_;refine⟨⟨_,rfl⟩,.inr ⟨_,?_,s.o⟩⟩;have:=c.o;rw[if_neg f.o] at this;rw[<-this];exact F7 _ _ _
  ·obtain rfl:k=m:=by omega
   gi_wp2
   go_end0;exact⟨⟨_,rfl⟩,.inl ⟨_,by rw[List.take_of_length_le (by rw[z.o];exact Nat.le_refl _)],j.o⟩⟩
theorem Df(p:Option Addr)(x:Int)(w:World):
  Calls y_ 183 #[.pointer p,.int .i64 x] w λ e w'=>e=.returned (.func (.func 224) #[] #[.pointer (some ⟨w.heap.size,0,none⟩),.pointer (some ⟨w.heap.size+1,0,none⟩)])/\
   w'=(w.alloc (.cells #[.pointer p] 164)).alloc (.cells #[.int .i64 x] 3):=by
 have a:∀(fn:Fn)(first cap:Array Value)(w:World),(Instr.makeFunc fn first cap).run y_ w=.ok (.func fn first cap) w:=λ _ _ _ _=>rfl
 go_enter Tryz.func183,Tryz.ntmps183
 go_wp2;go_ret;exact⟨rfl,rfl⟩
theorem Dg(n:Nat)(f:1<=n)(c a b bH m e:Nat)(cl:List Int)(u:Int)(hl:cl.length=m)(hm:m<=1000000)(w:World)(c1:w.cell? ⟨c,0,none⟩=some (.pointer (some ⟨b,0,none⟩)))(c2:w.cell? ⟨a,0,none⟩=some (.int .i64 u))
  (c3:w.cell? ⟨b,0,none⟩=some (.slice (some ⟨bH,0,none⟩) m e)) (g:∀k,k<m->w.cell? ⟨bH,k,none⟩=some (.int .i64 (aj cl k))) (h1:c<w.heap.size) (h:a<w.heap.size) (i:b<w.heap.size) (j:bH<w.heap.size):
  Fb Fence.wide n y_ 224 #[.pointer (some ⟨c,0,none⟩),.pointer (some ⟨a,0,none⟩)] (λ x:Int=> #[.int .i64 x]) (pe a bH m) (λ pre x=>(pre++[x])<+:others cl u) (λ ys=>ys=others cl u) (λ pre=>pre<+:others cl u) w:=
 λ l o q W d r s=>KB Fence.wide n trivial rfl f l c a b bH m e cl u hl hm o q r W ((d.cell (p:=⟨c,0,none⟩) h1).trans c1) ((d.cell (p:=⟨a,0,none⟩) h).trans c2) ((d.cell (p:=⟨b,0,none⟩) i).trans c3)
  (λ k hk=>(d.cell (p:=⟨bH,k,none⟩) j).trans (g k hk)) s
section
variable {base:Nat}{w w':World}{G:Nat}{hs:Nat->ax}{cb:Nat->Nat}{gm:List Value}{cls:Nat->List Value}{n:Nat}{X:Nat->List Value}{K:Nat->Prop}{s:aq}
theorem kr.uL(h:kr base w G hs cb gm cls n X){row:Option Nat}(f:w.grownBy w' row)(k:∀r,row=some r->∃o:Obj,w.heap[r]? =some o/\o.isCells=false):kr base w' G hs cb gm cls n X:=by
 have c:∀b (t:TypeId) (cs:List Value),aT w b t cs->some b≠row:=λ b t cs c e=>by
  obtain⟨o,a,i⟩:=k b e.symm;have:w.heap[b]? =_:=c;rw[this] at a;cases a;cases i
 refine⟨h.box.kept f (c _ _ _ h.box),h.rows.kept f (λ r g l e=>?_),λ d m=>(h.cls d m).kept f (c _ _ _ (h.cls d m)),h.inj,h.qX,h.rE⟩;obtain⟨o,a,i⟩:=k g e;rcases(h.rows.row r).2 with⟨j,_⟩|⟨q,cap,cur,j,_,p,_⟩
 ·have:(hs r).v.ownBlock=some g:=by rw[ax.own];exact l
  rw[j] at this;cases this
 ·have:(hs r).v.ownBlock=some g:=by rw[ax.own];exact l
  rw[j] at this
  cases this
  rw[p] at a;cases a;cases i
theorem aY.uL(h:aY K base w G hs cb s){row:Option Nat}(a:w.grownBy w' row)(b:∀r,row=some r->∃o:Obj,w.heap[r]? =some o/\o.isCells=false):aY K base w' G hs cb s:=
 ⟨h.e.uL a b,h.s.more a.size⟩
end
end
section
open Go.RowKit Go.Shelf
structure oV(kG:Nat)(W:World)(ds:List Nat):Prop where
 nc:ds.Nodup
 kL:∀D∈ds,kG<=D/\W.heap[D]? =some (.deferred (some []))
section
variable {kG:Nat}{W W':World}{ds:List Nat}{row:Option Nat}
theorem oV.lt(h:oV kG W ds){D:Nat}(a:D∈ds):D<W.heap.size:=(v_.1 (h.kL D a).2).1
theorem oV.kept(h:oV kG W ds)(b:W.grownBy W' row)(c:∀D∈ds,some D≠row):oV kG W' ds:=
 ⟨h.nc,λ D a=>⟨(h.kL D a).1,(b.block D (h.lt a) (c D a)).trans (h.kL D a).2⟩⟩
theorem oV.below(h:oV kG W ds)(b:Below W.heap.size W W'):oV kG W' ds:=⟨h.nc,λ D a=>⟨(h.kL D a).1,(b.block D (h.lt a)).trans (h.kL D a).2⟩⟩
theorem oV.cons(h:oV kG W ds){D:Nat}(b:kG<=D)(hm:W.heap[D]? =some (.deferred (some [])))(c:D∉ds):oV kG W (D::ds):=
 ⟨List.nodup_cons.2 ⟨c,h.nc⟩,λ E a=>by exact(List.mem_cons.1 a).elim (λ e=>by subst e;exact⟨b,hm⟩) (λ a=>h.kL E a)⟩
theorem oV.KC(h:oV kG W ds)(b:W.grownBy W' row)(c:∀r,row=some r->∃cs t a,W.heap[r]? =some (.cells cs t a)):oV kG W' ds:=
 h.kept b (λ D d e=>by obtain⟨cs,t,a,h1⟩:=c D e.symm;rw[(h.kL D d).2] at h1;cases h1)
end
theorem Bn{t:TypeId}{cs:List Value}(h:aT w b t cs):∃cs t a,w.heap[b]? =some (.cells cs t a):=⟨_,_,_,h⟩
theorem vg{e:TypeId}{size:Nat}{v:Value}{xs:List Value}(h:w.ownsRow base e size v n xs){g:Nat}(a:v.ownBlock=some g):∃cs,w.heap[g]? =some (.cells cs e (0,0)):=by
 rcases h.2 with⟨b,_⟩|⟨d,cap,cur,b,_,c,_⟩
 ·rw[b] at a;cases a
 ·rw[b] at a;cases a;exact⟨_,c⟩
theorem lY.block{S:List Int}(h:lY w b n S):∃es clock,w.heap[b]? =some (.map es clock):=by
 obtain⟨D,⟨es,clock,h1,a⟩,c⟩:=h;exact⟨es,clock,h1⟩
theorem Dh(w:World)(base:Nat)(a:List Int)(n:Nat)(b:a.length=n)(c:base<=w.heap.size)(hm:n<=1000):(w.alloc (.cells (jc a).toArray 3)).ownsRow base 3 1 (.slice (some ⟨w.heap.size,0,none⟩) n n) n (jc a):=by
 subst b;have:=World.ownsRow_lit (base:=base) (e:=3) (size:=1) w (jc a).toArray a.length c (by unfold maxLen;omega) (by simp[jc]);simpa[jc] using this
structure pQ(w W:World)(G aH bx bm m:Nat)(S:List Int)(A:Option Addr)(n c:Nat)(out:List Int)(ds:List Nat):Prop where
 below:Below w.heap.size w W
 p7:aT W aH 115 [.pointer (some ⟨G,0,none⟩)]
 qn:aT W bx 114 [.map (some bm)]
 set:lY W bm m S
 row:W.ownsRow w.heap.size 3 1 (.slice A n c) n (jc out)
 uM:oV w.heap.size W ds
 lm:w.heap.size<=bm
 gR:w.heap.size<=aH
 k5:w.heap.size<=bx
section
variable {w W W':World}{G aH bx bm m:Nat}{S:List Int}{A:Option Addr}{n c:Nat}{out:List Int}{ds:List Nat}
theorem pQ.len(h:pQ w W G aH bx bm m S A n c out ds):out.length=n:=by have:=h.row.1;simpa[jc] using this
theorem pQ.grow(h:pQ w W G aH bx bm m S A n c out ds)(a:Below W.heap.size W W'):pQ w W' G aH bx bm m S A n c out ds:=
 ⟨h.below.trans (a.mono h.below.size),h.p7.below a,h.qn.below a,h.set.below a h.set.lt,mw h.row a,h.uM.below a,h.lm,h.gR,h.k5⟩
theorem pQ.uL(h:pQ w W G aH bx bm m S A n c out ds){B:Nat}{row:Option Nat}(a:W.grownBy W' row)(d:∀r,row=some r->B<=r/\∃o:Obj,W.heap[r]? =some o/\o.isCells=false)(v:w.heap.size<=B)(hm:bm<B)(k:∀D∈ds,D<B):pQ w W' G aH bx bm m S A n c out ds:=by
 have f:∀b,(∃cs t i,W.heap[b]? =some (.cells cs t i))->some b≠row:=λ b ⟨cs,t,i,l⟩ e=>by
  obtain⟨_,o,j,p⟩:=d b e.symm;rw[l] at j;cases j;cases p
 refine⟨h.below.grown a h.below.size (λ g e=>by have:=(d g e).1;omega),h.p7.kept a (f _ (Bn h.p7)),h.qn.kept a (f _ (Bn h.qn)),h.set.kept a (λ e=>by have:=(d bm e.symm).1;omega),h.row.kept a ?_,h.uM.kept a (λ D q e=>by have:=(d D e.symm).1;have:=k D q;omega),h.lm,h.gR,h.k5⟩
 cases s:(e_ A n c).ownBlock with
 |none=>exact .inl rfl
 |some g=>
  obtain⟨cs,u⟩:=vg h.row s;exact .inr (f g ⟨_,_,_,u⟩)
theorem pQ.put(h:pQ w W G aH bx bm m S A n c out ds){lQ:Nat}{oI:List Int}(hs:lY W' bm lQ oI)(a:W.grownBy W' (some bm)):pQ w W' G aH bx bm lQ oI A n c out ds:=by
 obtain⟨es,cl,hm⟩:=h.set.block;have d:∀b,(∃cs t f,W.heap[b]? =some (.cells cs t f))->some b≠some bm:=λ b ⟨cs,t,f,i⟩ e=>by
  injection e with e;subst e;rw[i] at hm;cases hm
 refine⟨h.below.grown a h.below.size (λ g e=>by cases e;exact h.lm),h.p7.kept a (d _ (Bn h.p7)),h.qn.kept a (d _ (Bn h.qn)),hs,h.row.kept a ?_,h.uM.kept a (λ D j e=>by injection e with e;subst e;rw[(h.uM.kL D j).2] at hm;cases hm),h.lm,h.gR,h.k5⟩
 cases k:(e_ A n c).ownBlock with
 |none=>exact .inl rfl
 |some g=>
  obtain⟨cs,l⟩:=vg h.row k;exact .inr (d g ⟨_,_,_,l⟩)
theorem pQ.app(h:pQ w W G aH bx bm m S A n c out ds){x:Int}{v':Value}(f:nj W w.heap.size 3 (.slice A n c) (n+1) ((out++[x]).map (Value.int .i64)) v' W'):∃A' c',v'=.slice A' (n+1) c'/\pQ w W' G aH bx bm m S A' (n+1) c' (out++[x]) ds:=by
 obtain⟨d,a,_⟩:=f;obtain⟨A',c',rfl⟩:=E3 d;have b:∀r,(e_ A n c).ownBlock=some r->∃cs,W.heap[r]? =some (.cells cs 3 (0,0)):=λ r e=>vg h.row e
 refine⟨A',c',rfl,h.below.grown a h.below.size (λ g e=>(h.row.lt g e).1),h.p7.kept a (λ e=>?_),h.qn.kept a (λ e=>?_),h.set.kept a (λ e=>?_),d,h.uM.KC a (λ r e=>by obtain⟨cs,h1⟩:=b r e;exact⟨_,_,_,h1⟩),h.lm,h.gR,h.k5⟩
 ·obtain⟨cs,h1⟩:=b aH e.symm;rw[show W.heap[aH]? =_ from h.p7] at h1;simp at h1
 ·obtain⟨cs,h1⟩:=b bx e.symm;rw[show W.heap[bx]? =_ from h.qn] at h1;simp at h1
 ·obtain⟨cs,h1⟩:=b bm e.symm;obtain⟨es,cl,i⟩:=h.set.block;rw[i] at h1;cases h1
theorem pQ.mark(h:pQ w W G aH bx bm m S A n c out ds){D:Nat}(a:w.heap.size<=D)(hm:W.heap[D]? =some (.deferred (some [])))(b:∀E∈ds,E<D):pQ w W G aH bx bm m S A n c out (D::ds):=
 ⟨h.below,h.p7,h.qn,h.set,h.row,h.uM.cons a hm (λ e=>by have:=b D e;omega),h.lm,h.gR,h.k5⟩
end
end
section
open Go.RowKit Go.Shelf
section
variable {base:Nat}{w w':World}{G:Nat}{hs:Nat->ax}{cb:Nat->Nat}{gm:List Value}{cls:Nat->List Value}{n:Nat}{X:Nat->List Value}
theorem kr.off(h:kr base w G hs cb gm cls n X){row:Option Nat}(a:w.grownBy w' row)(c:∀g,row=some g->g≠G/\(∀r,(hs r).b≠some g)/\∀d,d<n->cb d≠g):kr base w' G hs cb gm cls n X:=
 ⟨h.box.kept a (λ e=>(c G e.symm).1 rfl),h.rows.kept a (λ r g i e=>(c g e).2.1 r i),λ d f=>(h.cls d f).kept a (λ e=>(c _ e.symm).2.2 d f rfl),h.inj,h.qX,h.rE⟩
theorem mc.others{l8:Type}{ty:l8->TypeId}{nU:l8->Nat}{ls:l8->ax}{Y:l8->List Value}(h:mc base ty nU w ls Y){K:Nat->Prop}(f:aG K w w')(hk:∀r g,(ls r).b=some g->K g):mc base ty nU w' ls Y:=
 ⟨λ r=>oS (h.row r) (λ b a=>f.keep b (hk r b (by rw[<-ax.own];exact a))),h.apart⟩
theorem mc.F8{l8:Type}{ty:l8->TypeId}{nU:l8->Nat}{ls:l8->ax}{Y:l8->List Value}(h:mc base ty nU w ls Y){r:l8}{g:Nat}(c:(ls r).b=some g){o:Obj}(a:w.heap[g]? =some o):o.isCells=true:=by
 obtain⟨cs,d⟩:=vg (h.row r) (g:=g) (by rw[ax.own];exact c);rw[d] at a;cases a;rfl
end
def xO(r:Nat):TypeId:=if r=0 then 115 else if r=1 then 25 else if r=2 then 25 else if r=4 then 170 else if r=7 then 114 else if r=8 then 129 else if r=10 then 164 else 3
structure lC(K:Nat->Prop)(base:Nat)(w W:World)(G:Nat)(hs:Nat->ax)(cb:Nat->Nat)(s:aq)(ls:Nat->ax)(X:Nat->List Value):Prop where
 fN:aY (λ b=>K b\/∃r,(ls r).b=some b) base W G hs cb s
 rows:mc w.heap.size xO (λ _=>1) W ls X
 jr:aG K w W
 kl:∀b,K b->b<w.heap.size
def n9(B:Nat):ax:=⟨some ⟨B,0,none⟩,1,1⟩
section
variable {K:Nat->Prop}{base:Nat}{w W W':World}{G:Nat}{hs hs':Nat->ax}{cb rT:Nat->Nat}{s s':aq}{ls:Nat->ax}{X:Nat->List Value}
theorem KeepsOthers.below{A B:World}(h:Below A.heap.size A B):KeepsOthers A B:=⟨h.size,λ k o hk _=>(h.block k (v_.1 hk).1).trans hk⟩
theorem KeepsOthers.grown{A B:World}{row:Option Nat}(h:A.grownBy B row)(b:∀g,row=some g->∃cs t a,A.heap[g]? =some (.cells cs t a)):KeepsOthers A B:=
 ⟨h.size,λ k o hk c=>(h.block k (v_.1 hk).1 (λ e=>by obtain⟨cs,t,a,h1⟩:=b k e.symm;rw[h1] at hk;cases hk;cases c)).trans hk⟩
theorem lC.call(h:lC K base w W G hs cb s ls X):aY (λ b=>(K b\/∃r,(ls r).b=some b)\/∃o:Obj,W.heap[b]? =some o/\o.isCells=false) base W G hs cb s:=by
 refine⟨h.fN.e,⟨λ b a=>?_,λ a=>?_,λ r b i a=>?_,λ d j a=>?_⟩⟩
 ·rcases a with a|⟨o,c,_⟩
  ·exact h.fN.s.lt b a
  ·exact(v_.1 c).1
 ·rcases a with a|⟨o,c,f⟩
  ·exact h.fN.s.g a
  ·have h1:W.heap[G]? =_:=h.fN.e.box;rw[h1] at c;cases c;cases f
 ·rcases a with a|⟨o,c,f⟩
  ·exact h.fN.s.row r b i a
  ·rw[h.fN.e.rows.F8 i c] at f;cases f
 ·rcases a with a|⟨o,c,f⟩
  ·exact h.fN.s.cl d j a
  ·have h1:W.heap[cb d]? =_:=h.fN.e.cls d j;rw[h1] at c;cases c;cases f
theorem lC.back(h:lC K base w W G hs cb s ls X)(e:aY (λ b=>(K b\/∃r,(ls r).b=some b)\/∃o:Obj,W.heap[b]? =some o/\o.isCells=false) base W' G hs' rT s')(f:aG (λ b=>(K b\/∃r,(ls r).b=some b)\/∃o:Obj,W.heap[b]? =some o/\o.isCells=false) W W'):
  lC K base w W' G hs' rT s' ls X/\KeepsOthers W W':=
 ⟨⟨e.Bd (λ b a=>.inl a),h.rows.others f (λ r g c=>.inl (.inr ⟨r,c⟩)),h.jr.trans (f.mono (λ b a=>.inl (.inl a))),h.kl⟩,f.size,λ k o hk d=>(f.keep k (.inr ⟨o,hk,d⟩)).trans hk⟩
theorem lC.grow(h:lC K base w W G hs cb s ls X)(a:Below W.heap.size W W'):lC K base w W' G hs cb s ls X:=
 ⟨(h.fN.below a).1,h.rows.below a,h.jr.trans ((h.fN.below a).2.mono (λ b hk=>.inl hk)),h.kl⟩
theorem lC.drew(h:lC K base w W G hs cb s ls X):lC K base w W.drew G hs cb s ls X:=h.grow ((Below.refl _ W).drew)
theorem lC.uL(h:lC K base w W G hs cb s ls X){row:Option Nat}(a:W.grownBy W' row)(c:∀r,row=some r->w.heap.size<=r/\∃o:Obj,W.heap[r]? =some o/\o.isCells=false):lC K base w W' G hs cb s ls X:=
 ⟨h.fN.uL a (λ r e=>(c r e).2),h.rows.kept a (λ r g i e=>by obtain⟨_,o,j,f⟩:=c g e;rw[h.rows.F8 i j] at f;cases f),
  h.jr.trans (aG.grown a (λ b d=>h.fN.s.lt b (.inl d)) (λ b e d=>by have:=(c b e).1;have:=h.kl b d;omega)),h.kl⟩
theorem lC.ja(h:lC K base w W G hs cb s ls X){r:Nat}{h':ax}{ys:List Value}(a:W.grownBy W' (ls r).b)(k:W'.ownsRow w.heap.size (xO r) 1 h'.v h'.n ys)(l:h'.b=(ls r).b\/∀g,h'.b=some g->W.heap.size<=g):
  lC K base w W' G hs cb s (iT ls r h') (iT X r ys)/\KeepsOthers W W':=by
 have o:∀g,(ls r).b=some g->w.heap.size<=g/\g<W.heap.size:=λ g e=>h.rows.lt e
 have p:∀g,(ls r).b=some g->g≠G/\(∀r',(hs r').b≠some g)/\∀d,d<s.c.cl.length->cb d≠g:=λ g e=>by
  refine⟨λ f=>?_,λ r' f=>?_,λ d i f=>?_⟩
  ·subst f;exact h.fN.s.g (.inr ⟨r,e⟩)
  ·exact h.fN.s.row r' g f (.inr ⟨r,e⟩)
  ·subst f;exact h.fN.s.cl d i (.inr ⟨r,e⟩)
 have q:=h.fN.e.off a p;refine⟨⟨⟨q,?_⟩,h.rows.ja (r:=r) a k l,h.jr.trans (aG.grown a (λ b hk=>h.fN.s.lt b (.inl hk)) (λ b e hk=>by have:=(o b e).1;have:=h.kl b hk;omega)),h.kl⟩,
  KeepsOthers.grown a (λ g e=>by obtain⟨cs,t⟩:=vg (h.rows.row r) (g:=g) (by rw[ax.own];exact e);exact⟨_,_,_,t⟩)⟩
 have j:∀b,(∃r',(iT ls r h' r').b=some b)->(∃r',(ls r').b=some b)\/(W.heap.size<=b/\h'.b=some b):=λ b ⟨r',e⟩=>by
  by_cases m:r'=r
  ·subst m;rw[jO] at e;rcases l with h1|h1
   ·exact .inl ⟨r',by rw[<-h1];exact e⟩
   ·exact .inr ⟨h1 b e,e⟩
  ·rw[bk _ _ m] at e;exact .inl ⟨r',e⟩
 have u:∀b,h'.b=some b->b<W'.heap.size:=λ b e=>(AS k (g:=b) (by rw[ax.own];exact e)).2
 refine⟨λ b hk=>?_,λ hk=>?_,λ r' b e hk=>?_,λ d i hk=>?_⟩
 ·rcases hk with hk|hk
  ·exact Nat.lt_of_lt_of_le (h.fN.s.lt b (.inl hk)) a.size
  ·rcases j b hk with hk|⟨_,hk⟩
   ·exact Nat.lt_of_lt_of_le (h.fN.s.lt b (.inr hk)) a.size
   ·exact u b hk
 ·rcases hk with hk|hk
  ·exact h.fN.s.g (.inl hk)
  ·rcases j G hk with hk|⟨hk,_⟩
   ·exact h.fN.s.g (.inr hk)
   ·have:=h.fN.e.box.lt;omega
 ·rcases hk with hk|hk
  ·exact h.fN.s.row r' b e (.inl hk)
  ·rcases j b hk with hk|⟨hk,_⟩
   ·exact h.fN.s.row r' b e (.inr hk)
   ·have:=(h.fN.e.rows.lt e).2;omega
 ·rcases hk with hk|hk
  ·exact h.fN.s.cl d i (.inl hk)
  ·rcases j _ hk with hk|⟨hk,_⟩
   ·exact h.fN.s.cl d i (.inr hk)
   ·have:=(h.fN.e.cls d i).lt;omega
theorem lC.fresh(h:lC K base w W G hs cb s ls X){r:Nat}{h':ax}{ys:List Value}(a:Below W.heap.size W W')(c:W'.ownsRow w.heap.size (xO r) 1 h'.v h'.n ys)(d:∀g,h'.b=some g->W.heap.size<=g):
  lC K base w W' G hs cb s (iT ls r h') (iT X r ys):=
 (h.ja (r:=r) (h':=h') (ys:=ys) ⟨a.os,a.tape,a.output,a.size,λ k hk _=>a.block k hk⟩ c (.inr d)).1
theorem lC.box(h:lC K base w W G hs cb s ls X)(r:Nat)(v:Value):lC K base w (W.alloc (.cells #[v] (xO r))) G hs cb s (iT ls r (n9 W.heap.size)) (iT X r [v]):=
 h.fresh (bz W _) (by
  have:=World.ownsRow_lit (base:=w.heap.size) (e:=xO r) (size:=1) W #[v] 1 h.jr.size (by unfold maxLen;omega) (by simp);simpa[n9,ax.v] using this) (λ g e=>by cases e;exact Nat.le_refl _)
theorem lC.set(h:lC K base w W G hs cb s ls X){r g:Nat}(a:(ls r).b=some g)(k:Nat)(v:Value):lC K base w (W.setCell ⟨g,k,none⟩ v) G hs cb s ls (iT X r ((X r).set k v))/\KeepsOthers W (W.setCell ⟨g,k,none⟩ v):=by
 have d:=h.rows.set a k v;have e:W.grownBy (W.setCell ⟨g,k,none⟩ v) (ls r).b:=by rw[a];exact k8 W g k v
 have f:iT ls r (ls r)=ls:=by funext r';unfold iT;split<;>simp_all
 have c:=d.row r;rw[jO] at c;have:=h.ja (r:=r) (h':=ls r) (ys:=(X r).set k v) e c (.inl rfl);rw[f] at this;exact this
theorem lC.kL(h:lC K base w W G hs cb s ls X){r g:Nat}(a:(ls r).b=some g){k:Nat}{v:Value}(c:(X r)[k]? =some v):W.cell? ⟨g,k,none⟩=some v/\W.frozen? ⟨g,k,none⟩=false:=by
 refine⟨?_,h.rows.free a k⟩;have hk:k<(ls r).n*1:=by rw[<-h.rows.len r];exact(s_.1 c).1
 rw[h.rows.cell a hk,c]
theorem lC.lt(h:lC K base w W G hs cb s ls X){r g:Nat}(a:(ls r).b=some g):w.heap.size<=g/\g<W.heap.size:=h.rows.lt a
theorem lC.start(h:aY K base w G hs cb s):lC K base w w G hs cb s (λ _=>we) (λ _=> []):=
 ⟨h.Bd (λ b a=>by rcases a with a|⟨r,e⟩;exact a;cases e),⟨λ r=>World.ownsRow_nil _ _ _ _,λ r r' g _ e=>by cases e⟩,aG.refl,h.s.lt⟩
theorem lC.off(h:lC K base w W G hs cb s ls X){r g:Nat}(e:(ls r).b=some g):g≠G/\(∀r',(hs r').b≠some g)/\∀d,d<s.c.cl.length->cb d≠g:=
 ⟨λ a=>by subst a;exact h.fN.s.g (.inr ⟨r,e⟩),λ r' a=>h.fN.s.row r' g a (.inr ⟨r,e⟩),λ d f a=>by subst a;exact h.fN.s.cl d f (.inr ⟨r,e⟩)⟩
end
theorem oV.others{kG:Nat}{ds:List Nat}(h:oV kG W ds)(k:KeepsOthers W W'):oV kG W' ds:=⟨h.nc,λ D a=>⟨(h.kL D a).1,k.same D _ (h.kL D a).2 rfl⟩⟩
end
section
open Go.RowKit Go.Shelf
def F9(K:Nat->Prop)(base:Nat)(w:World)(G:Nat)(hs:Nat->ax)(cb:Nat->Nat)(n:Nat)(B:Int)(s:aq)(e:Ending)(w':World):Prop:=
 e=.returned (.tuple #[])/\∃s',nW s s'/\mo n jF B s'/\aY K base w' G hs cb s'/\aG K w w'
theorem Bo(a:0<=x)(h1:x<=4611686018427387904):wrap64 x=x:=by unfold wrap64;omega
theorem KD(h:aY K base w G hs cb s)(r:mo n jF B s)(ab:n<=60000)(ad:s.aM.length<=100000)(ae:0<=B)(af:B<=4611686018427387904)(v:Nat)(ag:1<=v/\v<=n):
  Calls y_ 184 #[.pointer (some ⟨G,0,none⟩),.int .i64 v] w (F9 K base w G hs cb n B s):=by
 obtain⟨g6,C,ah,f6⟩:=h.e.lV 8 6 rfl (h.e.n6.trans r.lg) (by omega);have Q:=h.e.yz C (k:=v) (by rw[r.lg];omega);have ai:=f6 v;obtain⟨x,D⟩:∃x,aj s.act v=x:=⟨_,rfl⟩
 obtain⟨y,E⟩:∃y,s.bt=y:=⟨_,rfl⟩
 have R:=h.e.kJ (k:=9) (v:=.int .i64 s.bt) rfl;rw[E] at R;rw[D] at Q;have S:0<=x/\x<=jF:=by rw[<-D];exact r.qi v
 have T:1<=y/\y<=jF:=by rw[<-E];exact⟨r.q7,r.oG⟩
 obtain⟨z,ak⟩:∃z,x+y=z:=⟨_,rfl⟩
 have F:0<=z/\z<=2199023255552:=by unfold jF at S T;omega
 have W:wrap64 z=z:=Bo F.1 (by omega);have ar:q_.wrap z=z:=by rw[l_];unfold wrap64 at W;omega
 have bh:(v:Int)<(n:Int)+1:=by omega
 have al:=U h;have H:=U r;have I:=U C;have V:=U ag;have Z:=U F;clear h r C f6 D E S T F;go_enter Tryz.func184,Tryz.ntmps184
 go_wp2_with fail
 refine wp_region_still_tail 13 (by kernel_rfl) (by kernel_rfl) ?_;simp only[List.take_succ_cons,h_,List.drop_succ_cons,List.drop_zero]
 iterate 13 still_step
 refine wpStill_nil ?_;change wpList _ _ _ _ _ w.drew
 go_upto_region 1 with fail
 have c:=al.o.Bc I.o v z;have J:=U (c.2.trans aG.drew);have c:=U c.1.drew;generalize (w.setCell ⟨g6,v,none⟩ (.int .i64 z)).drew=w1 at c J;have L:bJ (mo n 2199023255552 B (s.pZ v z)):=U (H.o.act (by unfold jF;omega) V.o.1 Z.o.1 Z.o.2);have Y:=c.o.e.q5 8 I.o (c.o.e.n6.trans L.o.lg) rfl;have M:=c.o.e.yz I.o (k:=v) (by rw[L.o.lg];have:=V.o;omega);have aa:aj (s.pZ v z).act v=z:=by show aj (s.act.set v z) v=z;rw[oP,if_pos ⟨rfl,by rw[H.o.lg];have:=V.o;omega⟩]
 rw[aa] at M;clear ah Q R ai W aa ak
 by_cases au:1099511627776<z
 ·go_upto_region 3 with(go_at_call 188;refine(F5 (A:=2199023255552) (A':=jF) c.o L.o ab ad (by omega) (by unfold jF;omega) (by unfold jF;omega) ae af).mono ?_;rintro e av ⟨rfl,s2,g,a,b,i⟩;have b:=U b;have i:=U (J.o.trans i);have g:=U ((nW.act s v z).trans g);have a:=U a)
  clear Y M;have j:=a.o.lP.sk;obtain⟨g8,q,an,f8⟩:=b.o.e.lV 11 8 rfl (b.o.e.n8.trans j) (by omega);have d8:=b.o.e.wI q (k:=v) (by rw[j];have:=V.o;omega);obtain⟨pv,d⟩:∃pv,aj s2.pl v=pv:=⟨_,rfl⟩
  rw[d] at d8;have t:0<=pv->pv<s2.ord.length:=λ N=>by rw[<-d];exact(a.o.lP.o v V.o.1 V.o.2 (by rw[d];exact N)).1
  have u:=a.o.lP.len;have X:=U (z_ t u);clear j q f8 d t u
  by_cases hp:0<=pv
  ·have O:(v:Int)<((n+1:Nat):Int):=by have:=V.o;omega
   obtain⟨p,rfl⟩:∃p:Nat,pv=p:=⟨pv.toNat,by omega⟩
   go_wp2_with (go_at_call 187;refine(C9 b.o (by have:=a.o.lP;rw[a.o.iX];exact this) (by rw[a.o.lg,a.o.iX]) (by rw[a.o.iX];omega) p (by have:=X.o.1 (by omega);omega) (by have:=X.o.2;omega)).mono ?_;rintro e ao ⟨rfl,P,f,l,m⟩;have l:=U l;have m:=U m;have f:=U f)
   go_end0;exact⟨rfl,P,g.o.trans f.o.hk,f.o.rg a.o,l.o,i.o.trans m.o⟩
  ·have O:(v:Int)<((n+1:Nat):Int):=by have:=V.o;omega
   go_wp2_with fail
   go_end0;exact⟨rfl,s2,g.o,a.o,b.o,i.o⟩
 ·have a:bJ (mo n jF B (s.pZ v z)):=U (H.o.act (Int.le_refl _) V.o.1 Z.o.1 (by unfold jF;omega))
  go_upto_region 3 with fail
  have b:=c;have i:=J;have g:bJ (nW s (s.pZ v z)):=U (nW.act s v z);clear Y M;have j:=a.o.lP.sk;obtain⟨g8,q,an,f8⟩:=b.o.e.lV 11 8 rfl (b.o.e.n8.trans j) (by omega);have d8:=b.o.e.wI q (k:=v) (by rw[j];have:=V.o;omega);obtain⟨pv,d⟩:∃pv,aj (s.pZ v z).pl v=pv:=⟨_,rfl⟩
  rw[d] at d8;have t:0<=pv->pv<(s.pZ v z).ord.length:=λ N=>by rw[<-d];exact(a.o.lP.o v V.o.1 V.o.2 (by rw[d];exact N)).1
  have u:=a.o.lP.len;have X:=U (z_ t u);clear j q f8 d t u
  by_cases hp:0<=pv
  ·have O:(v:Int)<((n+1:Nat):Int):=by have:=V.o;omega
   obtain⟨p,rfl⟩:∃p:Nat,pv=p:=⟨pv.toNat,by omega⟩
   go_wp2_with (go_at_call 187;refine(C9 b.o (by have:=a.o.lP;rw[a.o.iX];exact this) (by rw[a.o.lg,a.o.iX]) (by rw[a.o.iX];omega) p (by have:=X.o.1 (by omega);omega) (by have:=X.o.2;omega)).mono ?_;rintro e ao ⟨rfl,P,f,l,m⟩;have l:=U l;have m:=U m;have f:=U f)
   go_end0;exact⟨rfl,P,g.o.trans f.o.hk,f.o.rg a.o,l.o,i.o.trans m.o⟩
  ·have O:(v:Int)<((n+1:Nat):Int):=by have:=V.o;omega
   go_wp2_with fail
   go_end0;exact⟨rfl,(s.pZ v z),g.o,a.o,b.o,i.o⟩
theorem Di(a:0<=x)(h1:x<=4611686018427387904):q_.wrap x=x:=by rw[l_];omega
theorem KE{y:Int}(a:0<=x)(h:x/20=y):f_ x 20=y:=by rw[x_ a,h]
theorem KF(h:aY K base w G hs cb s)(r:mo n jF B s)(C:n<=60000)(D:s.aM.length<=100000)(E:0<=B)(F:B<=4611686018427387904):
  Calls y_ 149 #[.pointer (some ⟨G,0,none⟩)] w (F9 K base w G hs cb n B s):=by
 obtain⟨y,c⟩:∃y,s.bt=y:=⟨_,rfl⟩
 have j:=h.e.kJ (k:=9) (v:=.int .i64 s.bt) rfl;rw[c] at j;have f9:=h.e.free 9;have l:1<=y/\y<=jF:=by rw[<-c];exact⟨r.q7,r.oG⟩
 obtain⟨q,m⟩:∃q,y/20=q:=⟨_,rfl⟩
 obtain⟨p,hp⟩:∃p,q+1=p:=⟨_,rfl⟩
 obtain⟨z,H⟩:∃z,y+p=z:=⟨_,rfl⟩
 have t:0<=q/\0<=p/\1<=z/\z<=2199023255552/\q<=z/\p<=z:=by unfold jF at l;omega
 have I:=KE (by omega) m;have w1:wrap64 z=z:=Bo (by omega) (by omega);have J:q_.wrap z=z:=Di (by omega) (by omega);have u:wrap64 q=q:=Bo (by omega) (by omega);have L:q_.wrap q=q:=Di (by omega) (by omega);have M:wrap64 p=p:=Bo (by omega) (by omega);have N:q_.wrap p=p:=Di (by omega) (by omega);have O:=U h;have x:=U r;have Z:=U t;clear h r c l m t;go_enter Tryz.func149,Tryz.ntmps149
 go_wp2_with fail
 refine wp_region_still_tail 13 (by kernel_rfl) (by kernel_rfl) ?_;simp only[List.take_succ_cons,h_,List.drop_succ_cons,List.drop_zero]
 iterate 13 still_step
 refine wpStill_nil ?_;change wpList _ _ _ _ _ w.drew
 go_upto_region 1 with fail
 have a:=O.o.FP z;have d:=U (a.2.trans aG.drew);have a:=U a.1.drew;generalize (w.setCell ⟨G,9,none⟩ (.int .i64 z)).drew=Q at a d;have P:bJ (mo n 2199023255552 B (s.vI z)):=U (x.o.zN (by unfold jF;omega) Z.o.2.2.1 Z.o.2.2.2.1);have R:=a.o.e.kJ (k:=9) (v:=.int .i64 z) rfl;clear j f9 w1 u M J L N I hp H
 by_cases S:1099511627776<z
 ·go_wp2_with (go_at_call 188;refine(F5 (A:=2199023255552) (A':=jF) a.o P.o C D (by omega) (by unfold jF;omega) (by unfold jF;omega) E F).mono ?_;rintro e u ⟨rfl,s2,f,b,g,i⟩;have g:=U g;have i:=U (d.o.trans i);have f:=U ((nW.zN s z).trans f);have b:=U b)
  go_end0;exact⟨rfl,s2,f.o,b.o,g.o,i.o⟩
 ·have b:bJ (mo n jF B (s.vI z)):=U (x.o.zN (Int.le_refl _) Z.o.2.2.1 (by unfold jF;omega))
  go_wp2_with fail
  go_end0;exact⟨rfl,_,nW.zN s z,b.o,a.o,d.o⟩
end
end Go.Proofs.YtogdlkfacflmaaaGreat
