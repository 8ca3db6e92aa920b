/- Parts of the walk of the solver and its core; no condition. -/
import Derived.Test.YtogdlkfacflmaaaGreatZW2
import Derived.Orders
import Derived.Below
import Derived.Test.YtogdlkfacflmaaaGreatZW1
namespace Go.Proofs.YtogdlkfacflmaaaGreat
set_option linter.unusedVariables false
set_option linter.unusedSimpArgs false
open _root_.Array renaming getD_eq_getD_getElem?→z_,getElem?_eq_getElem→x_,all_eq_true_iff_forall_mem→w_,getElem?_setIfInBounds_self_of_lt→v_,getElem?_setIfInBounds_ne→r_,replicate→h_,mem_of_getElem?→a_,getElem?_eq_some_iff→Zz,getElem?_eq_none→Zq,mem_toList_iff→Zm
open _root_.List renaming getD_eq_getElem?_getD→y_,mem_range→u_,range→s_,mem_filter→q_,mem_cons→o_,getElem?_eq_getElem→k_,map_set→i_,getElem?_toArray→g_,mem_singleton→f_,getElem?_map→d_,all_eq_true→b_,length_eq_zero_iff→Zw,replicate→Zp,length_singleton→Zo,length_filter_le→Zn
open _root_.Or renaming inr→t_,inl→n_
open _root_.Go.Region renaming binds→p_,ready→j_,wanted→Zy
open _root_.Bool renaming and_eq_true→m_,and_true→c_
open _root_.Nat renaming lt_or_ge→l_,strongRecOn→Zv,le_refl→Zs,le_trans→Zl
open _root_.Int renaming toNat_natCast→e_,neg_neg→Zr
open _root_.Option renaming getD_some→Zx,map_some→Zt
open _root_.Go.Value renaming int→Zu
variable{i:Nat}{a:Act}{v:Value}{ops:Array Oper}{listed:Array Bool}{ws:List (List Nat)}{iq:World->Prop}{G:Nat->Value->World->Prop}{dead:Nat->Option Nat}{w:World}
section
def iU(l:List Bool)(k:Nat):Bool:=l.getD k false
theorem A1{l:List Bool}{k:Nat}(h:k<l.length):iU l k=l[k]:=by simp[iU,y_,k_ h]
theorem zA(l:List Bool)(k j:Nat)(x:Bool):iU (l.set k x) j=if k=j/\k<l.length then x else iU l j:=by
 simp only[iU,y_,List.getElem?_set]
 by_cases h:k=j
 ·subst h
  by_cases b:k<l.length
  ·simp[b]
  ·simp[b]
 ·simp[h]
def oP(c:Core)(aP:List Bool)(j:Nat):Bool:=decide (lD c.st j=c.st.length)&&iU aP (aG (aj c.ay j))
def mS(c:Core)(aP:List Bool)(i:Nat):Nat:=(s_ i).countP (oP c aP)
theorem zB(c:Core)(aP:List Bool)(i:Nat):mS c aP (i+1)=mS c aP i+if oP c aP i=true then 1 else 0:=by
 unfold mS;rw[List.range_succ,List.countP_append];simp[List.countP_cons]
theorem A2{c:Core}{aP:List Bool}:0<mS c aP i↔∃j,j<i/\oP c aP j=true:=by
 unfold mS;rw[List.countP_pos_iff];exact⟨λ⟨j,h1,b⟩=>⟨j,u_.1 h1,b⟩,λ⟨j,h1,b⟩=>⟨j,u_.2 h1,b⟩⟩
structure oh(F:List (List Int))(c:Core)(i:Nat)(aP:List Bool)(aL ex:List Int):Prop where
 tD:aP.length=c.n+1
 qO:i<=c.ay.length
 tX:∀x∈aL,-x∈c.ay/\1<=bg c x/\bg c x<c.st.length/\iU aP (aG x)=true
 xL:aL.Nodup
 wF:∀x,-x∈c.ay->iU aP (aG x)=true->x∈aL\/bg c x=c.st.length
 zC:∀v,iU aP v=true->∃x,-x∈c.ay/\aG x=v
 xM:∀y∈ex,-y∈c.ay.take i
 wG:∀y∈ex,gW c.n y
 tY:∀M,tS M F->(∃y∈ex,M y=true)\/(∃x∈aL,M x=true)\/∃j,j<i/\oP c aP j=true/\M (-(aj c.ay j))=true
 act:∃j,j<i/\lD c.st j=c.st.length/\(iU aP (aG (aj c.ay j))=true\/ -(aj c.ay j)∈ex)
section
variable {F Fd:List (List Int)}{c:Core}{i:Nat}{aP:List Bool}{aL ex:List Int}
theorem A3(n:Nat)(v:Nat):iU (Zp n false) v=false:=by
 simp only[iU,y_,List.getElem?_replicate];split<;>rfl
theorem JD(T:jT c)(hs:0<c.st.length){j:Nat}(b:gV c.st (c.st.length-1)<=j):lD c.st j=c.st.length:=by
 have h1:=(tU T (i:=j) (k:=c.st.length-1) (by omega)).2 b;have:=wA c.st j;omega
theorem oh.start{h:Nat}{d:Nat}(G:j7 F Fd c h [])(hs:0<c.st.length)(g:d<c.cl.length)(i:∀x∈az c.cl d,-x∈c.ay):oh F c c.ay.length (Zp (c.n+1) false) [] (az c.cl d):=by
 refine⟨by simp,Zs _,λ x b=>by(cases b),List.nodup_nil,λ x _ h1=>?_,λ v h1=>?_,λ y f=>by rw[List.take_length];exact i y f,λ y f=>(G.jF.mB d g).lt y f,λ M l=>n_ (G.jF.imp d g M l),?_⟩
 ·rw[A3] at h1;cases h1
 ·rw[A3] at h1;cases h1
 ·have key:∀x∈az c.cl d,¬-x∈c.ay.take (gV c.st (c.st.length-1))->∃j,j<c.ay.length/\lD c.st j=c.st.length/\(iU (Zp (c.n+1) false) (aG (aj c.ay j))=true\/ -(aj c.ay j)∈az c.cl d):=by
   intro x b m;obtain⟨j,k,e,_⟩:=G.aL.at (i x b);refine⟨j,k,JD G.aL hs ?_,t_ ?_⟩
   ·rcases l_ j (gV c.st (c.st.length-1)) with h1|h1
    ·exact absurd (pG.2 ⟨j,h1,k,e⟩) m
    ·exact h1
   ·rw[e,Zr];exact b
  rcases G.rH (c.st.length-1) (by omega) d g with⟨x,b,o⟩|⟨x,b,y,f,_,h1,_⟩
  ·exact absurd (sr o) (λ h1=>G.aL.apart h1 (i x b))
  ·exact key x b h1
theorem oh.drop{y:Int}(T:jT c)(D:rF F Fd c)(h:oh F c i aP aL (y::ex))(hs:0<c.st.length)(l:bg c y=0):oh F c i aP aL ex:=by
 have m:=h.xM y (by simp);obtain⟨j,h1,f,g⟩:=pG.1 m;have n:lD c.st j=0:=by rw[<-T.mq j f,g];unfold bg;rw[oN];exact l
 refine⟨h.tD,h.qO,h.tX,h.xL,h.wF,h.zC,λ z b=>h.xM z (by simp[b]),λ z b=>h.wG z (by simp[b]),λ M d=>?_,?_⟩
 ·rcases h.tY M d with⟨z,b,hm⟩|o
  ·rcases o_.1 b with e|e
   ·subst e;have:=yu T D d j f n;rw[g,d.1 z (h.wG z (by simp)).oE,hm] at this
    cases this
   ·exact n_ ⟨z,e,hm⟩
  ·exact t_ o
 ·obtain⟨k,p,q,r⟩:=h.act;refine⟨k,p,q,r.imp id λ s=>?_⟩;rcases o_.1 s with e|e
  ·exfalso;have hk:k<c.ay.length:=by have:=h.qO;omega
   have:bg c y=lD c.st k:=by rw[<-e,<-T.mq k hk];unfold bg;rw[oN]
   omega
  ·exact e
theorem oh.seen{y:Int}(T:jT c)(h:oh F c i aP aL (y::ex))(hs:iU aP (aG y)=true):oh F c i aP aL ex:=by
 have g:=h.xM y (by simp);obtain⟨j,h1,n,l⟩:=pG.1 g;have m:aG (aj c.ay j)=aG y:=by rw[l,oN]
 refine⟨h.tD,h.qO,h.tX,h.xL,h.wF,h.zC,λ z b=>h.xM z (by simp[b]),λ z b=>h.wG z (by simp[b]),λ M o=>?_,?_⟩
 ·rcases h.tY M o with⟨z,b,hm⟩|p
  ·rcases o_.1 b with e|e
   ·subst e;rcases h.wF z (sr g) hs with d|d
    ·exact t_ (n_ ⟨z,d,hm⟩)
    ·refine t_ (t_ ⟨j,h1,?_,?_⟩)
     ·unfold oP;rw[m,hs,c_,decide_eq_true_iff,<-d,<-T.mq j n];unfold bg;rw[m]
     ·rw[l,Zr];exact hm
   ·exact n_ ⟨z,e,hm⟩
  ·exact t_ p
 ·obtain⟨k,q,r,f⟩:=h.act;refine⟨k,q,r,?_⟩;rcases f with f|s
  ·exact n_ f
  ·rcases o_.1 s with e|e
   ·left;have:aG (aj c.ay k)=aG y:=by rw[<-e,oN]
    rw[this];exact hs
   ·exact t_ e
theorem A4{c:Core}{aP:List Bool}{y:Int}(b:aP.length=c.n+1)(hl:gW c.n y)(v:Nat):iU (aP.set (aG y) true) v=if aG y=v then true else iU aP v:=by
 rw[zA];have:aG y<aP.length:=by rw[b];have:=hl.2;omega
 by_cases e:aG y=v
 ·rw[if_pos ⟨e,this⟩,if_pos e]
 ·rw[if_neg (λ d=>e d.1),if_neg e]
theorem oh.mark{y:Int}(T:jT c)(h:oh F c i aP aL (y::ex))(hs:iU aP (aG y)=false)(Y:bg c y≠0):
  (bg c y=c.st.length->oh F c i (aP.set (aG y) true) aL ex/\mS c (aP.set (aG y) true) i=mS c aP i+1)/\
  (bg c y≠c.st.length->oh F c i (aP.set (aG y) true) (aL++[y]) ex/\mS c (aP.set (aG y) true) i=mS c aP i):=by
 have C:=h.xM y (by simp);have Q:=h.wG y (by simp);obtain⟨j,h1,E,I⟩:=pG.1 C;have D:aG (aj c.ay j)=aG y:=by rw[I,oN]
 have J:lD c.st j=bg c y:=by rw[<-T.mq j E];unfold bg;rw[D]
 have o:=A4 (c:=c) h.tD Q;have u:∀v,iU aP v=true->iU (aP.set (aG y) true) v=true:=λ v w=>by rw[o];split;rfl;exact w
 have K:∀k,k<c.ay.length->oP c (aP.set (aG y) true) k=if k=j then decide (bg c y=c.st.length) else oP c aP k:=by
  intro k hk;unfold oP;rw[o]
  by_cases e:k=j
  ·subst e;rw[if_pos D.symm,if_pos rfl,c_,J]
  ·rw[if_neg e]
   by_cases f:aG y=aG (aj c.ay k)
   ·exact absurd (T.place hk E (by rw[D,f])) e
   ·rw[if_neg f]
 have L:∃k,k<i/\lD c.st k=c.st.length/\(iU (aP.set (aG y) true) (aG (aj c.ay k))=true\/ -(aj c.ay k)∈ex):=by
  obtain⟨k,A,l,p⟩:=h.act;refine⟨k,A,l,?_⟩;rcases p with p|R
  ·exact n_ (u _ p)
  ·rcases o_.1 R with e|e
   ·left;rw[o,if_pos];rw[<-e,oN]
   ·exact t_ e
 have Z:bg c y<=c.st.length:=by rw[<-J];exact wA _ _
 have S:∀x∈aL,aG x≠aG y:=λ x n e=>by
  have:=(h.tX x n).2.2.2;rw[e,hs] at this;cases this
 have N:∀v,iU (aP.set (aG y) true) v=true->∃x,-x∈c.ay/\aG x=v:=λ v w=>by
  rw[o] at w
  by_cases e:aG y=v
  ·exact⟨y,sr C,e⟩
  ·rw[if_neg e] at w;exact h.zC v w
 have O:∀m,m<=c.ay.length->mS c (aP.set (aG y) true) m=mS c aP m+if j<m/\bg c y=c.st.length then 1 else 0:=by
  intro m
  induction m with
  |zero=>intro _;simp[mS]
  |succ m U=>
   intro hm;rw[zB,zB,U (by omega),K m (by omega)]
   by_cases e:m=j
   ·subst e;have V:oP c aP m=false:=by unfold oP;rw[D,hs,Bool.and_false]
    rw[if_pos rfl,V]
    by_cases f:bg c y=c.st.length
    ·simp[f]
    ·simp[f]
   ·rw[if_neg e];generalize (if oP c aP m=true then 1 else 0)=q;have P:(j<m/\bg c y=c.st.length)↔(j<m+1/\bg c y=c.st.length):=⟨λ r=>⟨by omega,r.2⟩,λ r=>⟨by omega,r.2⟩⟩
    by_cases f:j<m/\bg c y=c.st.length
    ·rw[if_pos f,if_pos (P.1 f)];omega
    ·rw[if_neg f,if_neg (λ r=>f (P.2 r))];omega
 constructor
 ·intro t;refine⟨⟨by simp[h.tD],h.qO,λ x n=>?_,h.xL,λ x n s=>?_,N,λ z g=>h.xM z (by simp[g]),λ z g=>h.wG z (by simp[g]),λ M G=>?_,L⟩,?_⟩
  ·obtain⟨a,b,d,e⟩:=h.tX x n;exact⟨a,b,d,u _ e⟩
  ·rw[o] at s
   by_cases e:aG y=aG x
   ·right;unfold bg at t⊢;rw[<-e];exact t
   ·rw[if_neg e] at s;exact h.wF x n s
  ·rcases h.tY M G with⟨z,g,hm⟩|B|⟨k,A,l,p⟩
   ·rcases o_.1 g with e|e
    ·subst e;refine t_ (t_ ⟨j,h1,?_,by rw[I,Zr];exact hm⟩);rw[K j E,if_pos rfl,decide_eq_true_iff];exact t
    ·exact n_ ⟨z,e,hm⟩
   ·exact t_ (n_ B)
   ·refine t_ (t_ ⟨k,A,?_,p⟩);unfold oP at l⊢;rw[m_] at l⊢;exact⟨l.1,u _ l.2⟩
  ·rw[O i h.qO,if_pos ⟨h1,t⟩]
 ·intro t;refine⟨⟨by simp[h.tD],h.qO,λ x n=>?_,?_,λ x n s=>?_,N,λ z g=>h.xM z (by simp[g]),λ z g=>h.wG z (by simp[g]),λ M G=>?_,L⟩,?_⟩
  ·rcases List.mem_append.1 n with B|B
   ·obtain⟨a,b,d,e⟩:=h.tX x B;exact⟨a,b,d,u _ e⟩
   ·rw[f_.1 B];exact⟨sr C,by omega,by omega,by rw[o,if_pos rfl]⟩
  ·rw[List.nodup_append];refine⟨h.xL,by simp,λ a W b X e=>?_⟩;rw[f_.1 X] at e;exact S a W (by rw[e])
  ·rw[o] at s
   by_cases e:aG y=aG x
   ·left;rcases CO e with f|f
    ·simp[f]
    ·exfalso;have H:x∈c.ay:=by
      have:=sr C;rw[f,Zr] at this;exact this
     exact T.apart H n
   ·rw[if_neg e] at s;exact(h.wF x n s).imp (λ H=>by simp[H]) id
  ·rcases h.tY M G with⟨z,g,hm⟩|⟨z,g,hm⟩|⟨k,A,l,p⟩
   ·rcases o_.1 g with e|e
    ·subst e;exact t_ (n_ ⟨z,by simp,hm⟩)
    ·exact n_ ⟨z,e,hm⟩
   ·exact t_ (n_ ⟨z,by simp[g],hm⟩)
   ·refine t_ (t_ ⟨k,A,?_,p⟩);unfold oP at l⊢;rw[m_] at l⊢;exact⟨l.1,u _ l.2⟩
  ·rw[O i h.qO,if_neg (λ r=>t r.2)];rfl
theorem oh.open(h:oh F c i aP aL []):0<mS c aP i:=by
 rw[A2];obtain⟨k,d,e,b⟩:=h.act;refine⟨k,d,?_⟩;unfold oP;rcases b with b|b
 ·rw[b,c_,decide_eq_true_iff];exact e
 ·cases b
theorem oh.down(h:oh F c (i+1) aP aL [])(hs:iU aP (aG (aj c.ay i))=false):oh F c i aP aL []/\mS c aP i=mS c aP (i+1):=by
 have g:oP c aP i=false:=by unfold oP;rw[hs,Bool.and_false]
 refine⟨⟨h.tD,by have:=h.qO;omega,h.tX,h.xL,h.wF,h.zC,λ y f=>by(cases f),λ y f=>by(cases f),λ M j=>?_,?_⟩,by rw[zB,g];rfl⟩
 ·rcases h.tY M j with h1|h1|⟨k,l,d,b⟩
  ·exact n_ h1
  ·exact t_ (n_ h1)
  ·refine t_ (t_ ⟨k,?_,d,b⟩);rcases l_ k i with e|e
   ·exact e
   ·obtain rfl:k=i:=by omega
    rw[g] at d;cases d
 ·obtain⟨k,l,d,b⟩:=h.act;refine⟨k,?_,d,b⟩;rcases l_ k i with e|e
  ·exact e
  ·obtain rfl:k=i:=by omega
   rcases b with b|b
   ·rw[hs] at b;cases b
   ·cases b
theorem oh.top(T:jT c)(h:oh F c (i+1) aP aL []):lD c.st i=c.st.length:=by
 obtain⟨k,d,b,_⟩:=A2.1 h.open|>.imp λ k ⟨d,b⟩=>(⟨d,(by unfold oP at b;rw[m_,decide_eq_true_iff] at b;exact b.1),trivial⟩:k<i+1/\lD c.st k=c.st.length/\True)
 have h1:=CP (st:=c.st) (i:=k) (j:=i) (by omega);have:=wA c.st i;omega
theorem oh.done(T:jT c)(h:oh F c (i+1) aP aL [])(hs:iU aP (aG (aj c.ay i))=true)(h1:mS c aP (i+1)=1):rD F (-(aj c.ay i)::aL):=by
 have b:oP c aP i=true:=by unfold oP;rw[hs,c_,decide_eq_true_iff];exact h.top T
 rw[zB,b,if_pos rfl] at h1;intro M d;rcases h.tY M d with⟨y,f,_⟩|⟨x,g,hm⟩|⟨k,m,j,l⟩
 ·cases f
 ·exact⟨x,by simp[g],hm⟩
 ·by_cases e:k=i
  ·subst e;exact⟨_,by simp,l⟩
  ·have:0<mS c aP i:=A2.2 ⟨k,by omega,j⟩;omega
theorem oh.reason(T:jT c)(D:rF F Fd c)(h:oh F c (i+1) aP aL [])(hs:iU aP (aG (aj c.ay i))=true)(h1:mS c aP (i+1)≠1):
  ∃d,mo c.j6 (aG (aj c.ay i))=some d/\d<c.cl.length/\oh F c i aP aL ((az c.cl d).filter λ y=>y !=aj c.ay i)/\mS c aP (i+1)=mS c aP i+1:=by
 have s:=h.top T;have t:oP c aP i=true:=by unfold oP;rw[hs,c_,decide_eq_true_iff];exact s
 have u:mS c aP (i+1)=mS c aP i+1:=by rw[zB,t,if_pos rfl]
 have p:i<c.ay.length:=by have:=h.qO;omega
 obtain⟨k,v,f⟩:=A2.1 (show 0<mS c aP i by have:=h.open;omega);have w:lD c.st k=c.st.length:=by unfold oP at f;rw[m_,decide_eq_true_iff] at f;exact f.1
 have hw:=T.pV i p
 cases q:mo c.j6 (aG (aj c.ay i)) with
 |none=>
  rw[q] at hw;obtain⟨m,hm,e⟩:=hw;have:=(tU T (i:=k) hm).1 (by omega);omega
 |some d=>
  rw[q] at hw;obtain⟨g,C,z⟩:=hw;refine⟨d,rfl,g,⟨h.tD,by omega,h.tX,h.xL,h.wF,h.zC,λ y b=>?_,λ y b=>?_,λ M l=>?_,⟨k,v,w,n_ ?_⟩⟩,u⟩
  ·obtain⟨n,A⟩:=q_.1 b;exact z y n (by simpa using A)
  ·exact(D.mB d g).lt y (q_.1 b).1
  ·rcases h.tY M l with⟨y,b,_⟩|n|⟨j,E,B,o⟩
   ·cases b
   ·exact t_ (n_ n)
   ·by_cases e:j=i
    ·subst e;obtain⟨y,b,hm⟩:=D.imp d g M l
     by_cases r:y=aj c.ay j
     ·rw[l.1 _ (T.lit _ (lZ p)).oE,<-r,hm] at o;cases o
     ·exact n_ ⟨y,q_.2 ⟨b,by simpa using r⟩,hm⟩
    ·exact t_ (t_ ⟨j,by omega,B,o⟩)
  ·unfold oP at f;rw[m_] at f;exact f.2
inductive q5(c:Core)(aP:List Bool):Int->Prop
 |mk (x:Int) (d:Nat) (hw:mo c.j6 (aG x)=some d) (h:∀y∈az c.cl d,y≠-x->iU aP (aG y)=false->bg c y≠0->q5 c aP y):q5 c aP x
def pos(c:Core)(x:Int):Nat:=c.ay.idxOf (-x)
theorem pos_at(T:jT c){x:Int}{j:Nat}(b:j<c.ay.length)(e:aj c.ay j= -x):pos c x=j:=by
 have d: -x∈c.ay:=qb.2 ⟨j,b,e⟩;unfold pos;have h1:=List.idxOf_lt_length_of_mem d;have f:aj c.ay (c.ay.idxOf (-x))= -x:=by rw[nh h1];exact List.getElem_idxOf h1
 exact T.place h1 b (by rw[f,e])
theorem JE(T:jT c)(D:rF F Fd c)(hm:∀x,-x∈c.ay->iU aP (aG x)=true->x∈aL\/bg c x=c.st.length){M:Int->Bool}(b:tS M F):∀(k:Nat)(x:Int),pos c x=k-> -x∈c.ay->bg c x<c.st.length->q5 c aP x->(∀z∈aL,pos c z<k->M z=false)->M x=false:=by
 intro k
 induction k using Zv with
 |_ k v=>
  intro x hk n hl w o;obtain⟨_,d,hw,A⟩:=w;obtain⟨j,p,e,N⟩:=T.at n;have B:j=k:=by rw[<-hk];exact(pos_at T p e).symm
  subst B;have q:=T.pV j p;rw[e,oN,hw] at q;obtain⟨r,O,C⟩:=q;obtain⟨y,g,f⟩:=D.imp d r M b;have E:x≠0:=by have:=(T.lit _ n).oE;omega
  by_cases l:y= -x
  ·rw[l,b.1 x E] at f
   cases G:M x with
   |true=>rw[G] at f;cases f
   |false=>rfl
  ·exfalso;obtain⟨m,m1,m2,m3⟩:=pG.1 (C y g l);have H:pos c y=m:=pos_at T m2 m3;have P:bg c y=lD c.st m:=by rw[<-T.mq m m2,m3];unfold bg;rw[oN]
   have s: -y∈c.ay:=qb.2 ⟨m,m2,m3⟩;have I:bg c y<c.st.length:=by
    have:=CP (st:=c.st) (i:=m) (j:=j) (by omega);omega
   have t:M y=false:=by
    by_cases h1:iU aP (aG y)=true
    ·rcases hm y s h1 with u|u
     ·exact o y u (by omega)
     ·omega
    by_cases h1:bg c y=0
    ·have:=yu T D b m m2 (by omega);rw[m3,b.1 y ((D.mB d r).lt y g).oE] at this
     cases J:M y with
     |true=>rw[J] at this;cases this
     |false=>rfl
    ·rename_i K;exact v m m1 y H s I (A y g l (by simpa using K) h1) (λ z L Q=>o z L (by omega))
   rw[f] at t;cases t
theorem JF(T:jT c)(D:rF F Fd c)(hm:∀x,-x∈c.ay->iU aP (aG x)=true->x∈aL\/bg c x=c.st.length)(g:∀x∈aL,-x∈c.ay/\bg c x<c.st.length){u:Int}(l:rD F (u::aL)){r:List Int}(m:∀x∈aL,x∈r\/q5 c aP x):rD F (u::r):=by
 intro M i;rcases Decidable.em (∃x∈u::r,M x=true) with h|h
 ·exact h
 ·exfalso;have j:∀x∈u::r,M x=false:=λ x d=>by
   cases b:M x with
   |false=>rfl
   |true=>exact absurd ⟨x,d,b⟩ h
  have key:∀(k:Nat)(z:Int),pos c z=k->z∈aL->M z=false:=by
   intro k
   induction k using Zv with
   |_ k n=>
    intro z hk f;rcases m z f with h1|h1
    ·exact j z (by simp[h1])
    ·exact JE T D hm i k z hk (g z f).1 (g z f).2 h1 (λ y o p=>n _ p y rfl o)
  obtain⟨x,d,b⟩:=l M i;rcases o_.1 d with e|e
  ·rw[j x (by simp[e])] at b;cases b
  ·rw[key _ x rfl e] at b;cases b
end
structure qz(F:List (List Int))(c:Core)(p:Int)(i:Nat)(mk:Int->Bool)(out:List Int):Prop where
 qO:i<=c.ay.length
 A5:∀x∈out,x=p\/(x∈c.ay/\mo c.j6 (aG x)=none)
 tY:∀M,tS M F->(∀x∈p::out,M x=true)->∃j,j<i/\1<=lD c.st j/\mk (aG (aj c.ay j))=true/\M (aj c.ay j)=false
section
variable {F Fd:List (List Int)}{c:Core}{p:Int}{i:Nat}{mk:Int->Bool}{out:List Int}
theorem qz.start(T:jT c)(hp: -p∈c.ay)(hl:1<=bg c p)(hm:mk (aG p)=true):qz F c p c.ay.length mk [p]:=by
 refine⟨Zs _,λ x b=>n_ (f_.1 b),λ M d f=>?_⟩;obtain⟨j,g,e,h1⟩:=T.at hp;refine⟨j,g,by omega,by rw[e,oN];exact hm,?_⟩;rw[e,d.1 p (by have:=(T.lit _ hp).oE;omega),f p (by simp)];rfl
theorem qz.skip(h:qz F c p (i+1) mk out)(hs:mk (aG (aj c.ay i))=false):qz F c p i mk out:=by
 refine⟨by have:=h.qO;omega,h.A5,λ M e f=>?_⟩;obtain⟨j,h1,g,b,k⟩:=h.tY M e f;refine⟨j,?_,g,b,k⟩;rcases l_ j i with d|d
 ·exact d
 ·obtain rfl:j=i:=by omega
  rw[hs] at b;cases b
theorem qz.decision(h:qz F c p (i+1) mk out)(k:mo c.j6 (aG (aj c.ay i))=none):qz F c p i mk (out++[aj c.ay i]):=by
 have l:i<c.ay.length:=by have:=h.qO;omega
 refine⟨by omega,λ x b=>?_,λ M m f=>?_⟩
 ·rcases List.mem_append.1 b with h1|h1
  ·exact h.A5 x h1
  ·rw[f_.1 h1];exact t_ ⟨lZ l,k⟩
 ·obtain⟨j,h1,n,o,d⟩:=h.tY M m (λ x b=>f x (by rcases o_.1 b with e|e<;>simp[e]));refine⟨j,?_,n,o,d⟩;rcases l_ j i with g|g
  ·exact g
  ·obtain rfl:j=i:=by omega
   rw[f _ (by simp)] at d;cases d
theorem qz.reason(T:jT c)(D:rF F Fd c)(h:qz F c p (i+1) mk out){d:Nat}(hw:mo c.j6 (aG (aj c.ay i))=some d){mk':Int->Bool}(hm:∀v,mk v=true->mk' v=true)(t:∀y∈az c.cl d,y≠aj c.ay i->0<bg c y->mk' (aG y)=true):qz F c p i mk' out:=by
 have u:i<c.ay.length:=by have:=h.qO;omega
 refine⟨by omega,h.A5,λ M b w=>?_⟩;obtain⟨j,h1,z,A,f⟩:=h.tY M b w
 by_cases e:j=i
 ·subst e;have n:=T.pV j u;rw[hw] at n;obtain⟨o,E,B⟩:=n;obtain⟨y,g,q⟩:=D.imp d o M b;have r:y≠aj c.ay j:=by rintro rfl;rw[q] at f;cases f
  obtain⟨k,G,s,l⟩:=pG.1 (B y g r);have H:bg c y=lD c.st k:=by rw[<-T.mq k s,l];unfold bg;rw[oN]
  have m:M (aj c.ay k)=false:=by rw[l,b.1 y ((D.mB d o).lt y g).oE,q];rfl
  by_cases C:lD c.st k=0
  ·rw[yu T D b k s C] at m;cases m
  ·exact⟨k,by omega,by omega,by rw[l,oN];exact t y g r (by omega),m⟩
 ·exact⟨j,by omega,z,hm _ A,f⟩
theorem qz.done(T:jT c)(h:qz F c p i mk out)(hs:0<c.st.length)(e:i<=gV c.st 0):∀M,tS M F->¬∀x∈p::out,M x=true:=by
 intro M b d;obtain⟨j,h1,f,_⟩:=h.tY M b d;have:=(tU T (i:=j) hs).1 (by omega);omega
end
end
section
structure me(n:Nat)(ord pl:List Int):Prop where
 su:pl.length=n+1
 inv:∀i,i<ord.length->1<=aj ord i/\aj ord i<=n/\aj pl (aj ord i).toNat=i
 o:∀v:Nat,1<=v->v<=n->0<=aj pl v->aj pl v<ord.length/\aj ord (aj pl v).toNat=v
 tZ:∀v,-1<=aj pl v
section
variable {n:Nat}{ord pl:List Int}
theorem me.inj(h:me n ord pl){i j:Nat}(b:i<ord.length)(c:j<ord.length)(e:aj ord i=aj ord j):i=j:=by
 have h1:=(h.inv i b).2.2;have d:=(h.inv j c).2.2;rw[e] at h1;omega
def ua(ord pl:List Int)(i k:Nat):List Int:=(pl.set (aj (kL ord i k) i).toNat (i:Int)).set (aj (kL ord i k) k).toNat (k:Int)
theorem yw(h:me n ord pl){i k:Nat}(d:i<ord.length)(hk:k<ord.length)(v:Nat):
  aj (ua ord pl i k) v=if (v:Int)=aj ord i then (k:Int) else if (v:Int)=aj ord k then (i:Int) else aj pl v:=by
 have a:=h.inv i d;have b:=h.inv k hk;have j:aj (kL ord i k) k=aj ord i:=by rw[qx d hk,if_pos rfl]
 have l:aj (kL ord i k) i=if i=k then aj ord i else aj ord k:=by rw[qx d hk];simp
 unfold ua;rw[j,l,oO]
 by_cases c:(v:Int)=aj ord i
 ·rw[if_pos c,if_pos ⟨by omega,by rw[List.length_set,h.su];omega⟩]
 ·rw[if_neg c,if_neg (λ f=>c (by omega)),oO]
  by_cases g:i=k
  ·subst g;rw[if_pos rfl,if_neg (λ f=>c (by omega)),if_neg c]
  ·rw[if_neg g]
   by_cases e:(v:Int)=aj ord k
   ·rw[if_pos e,if_pos ⟨by omega,by rw[h.su];omega⟩]
   ·rw[if_neg e,if_neg (λ f=>e (by omega))]
theorem me.swap(h:me n ord pl){i k:Nat}(d:i<ord.length)(hk:k<ord.length):me n (kL ord i k) (ua ord pl i k):=by
 have a:=h.inv i d;have b:=h.inv k hk;refine⟨by unfold ua;simp[h.su],λ j l=>?_,λ v h1 r m=>?_,λ v=>?_⟩
 ·rw[rW] at l;have c:=h.inv j l;rw[qx d hk]
  by_cases e:j=k
  ·rw[if_pos e];refine⟨a.1,a.2.1,?_⟩;rw[yw h d hk,if_pos (by omega),e]
  ·rw[if_neg e]
   by_cases f:j=i
   ·rw[if_pos f];refine⟨b.1,b.2.1,?_⟩;rw[yw h d hk]
    by_cases q:((aj ord k).toNat:Int)=aj ord i
    ·have:=h.inj hk d (by omega);omega
    ·rw[if_neg q,if_pos (by omega),f]
   ·rw[if_neg f];refine⟨c.1,c.2.1,?_⟩;rw[yw h d hk,if_neg (λ g=>f (h.inj l d (by omega))),if_neg (λ g=>e (h.inj l hk (by omega)))];exact c.2.2
 ·rw[yw h d hk] at m⊢;rw[rW]
  by_cases e:(v:Int)=aj ord i
  ·rw[if_pos e,qx d hk,if_pos (by omega)];exact⟨by omega,e.symm⟩
  ·rw[if_neg e] at m⊢
   by_cases f:(v:Int)=aj ord k
   ·rw[if_pos f,qx d hk];have q:i≠k:=by rintro rfl;exact e f
    rw[if_neg (by omega),if_pos (by omega)];exact⟨by omega,f.symm⟩
   ·rw[if_neg f] at m⊢;obtain⟨s,p⟩:=h.o v h1 r m;refine⟨s,?_⟩;rw[qx d hk,if_neg (λ g=>f (by rw[<-p,g])),if_neg (λ g=>e (by rw[<-p,g]))];exact p
 ·rw[yw h d hk];split
  ·omega
  ·split
   ·omega
   ·exact h.tZ v
def vE(pl b:List Int):Prop:=∀v,0<=aj b v↔0<=aj pl v
theorem vE.refl(pl:List Int):vE pl pl:=λ _=>Iff.rfl
theorem vE.trans{a b c:List Int}(h:vE a b)(h':vE b c):vE a c:=λ v=>(h' v).trans (h v)
theorem me.E1(h:me n ord pl){i k:Nat}(d:i<ord.length)(hk:k<ord.length):vE pl (ua ord pl i k):=by
 intro v;rw[yw h d hk]
 by_cases b:(v:Int)=aj ord i
 ·rw[if_pos b];have:=(h.inv i d).2.2;rw[<-b] at this;simp only[e_] at this;omega
 ·rw[if_neg b]
  by_cases c:(v:Int)=aj ord k
  ·rw[if_pos c];have:=(h.inv k hk).2.2;rw[<-c] at this;simp only[e_] at this;omega
  ·rw[if_neg c]
theorem me.push(h:me n ord pl){v:Nat}(h1:1<=v)(k:v<=n)(l:aj pl v<0):me n (ord++[(v:Int)]) (pl.set v (ord.length:Int)):=by
 have d:∀u,aj (pl.set v (ord.length:Int)) u=if v=u then (ord.length:Int) else aj pl u:=λ u=>by
  rw[oO]
  by_cases e:v=u
  ·rw[if_pos e,if_pos ⟨e,by rw[h.su];omega⟩]
  ·rw[if_neg e,if_neg (λ f=>e f.1)]
 refine⟨by simp[h.su],λ i g=>?_,λ u a b c=>?_,λ u=>?_⟩
 ·rw[List.length_append,Zo] at g
  by_cases e:i<ord.length
  ·rw[tw e];have:=h.inv i e;refine⟨this.1,this.2.1,?_⟩;rw[d,if_neg]
   ·exact this.2.2
   ·rintro rfl;have:=this.2.2;omega
  ·obtain rfl:i=ord.length:=by omega
   rw[xG];refine⟨by omega,by omega,?_⟩;rw[d,if_pos (by omega)]
 ·rw[d] at c⊢;rw[List.length_append,Zo]
  by_cases e:v=u
  ·rw[if_pos e];refine⟨by omega,?_⟩;rw[e_,xG,e]
  ·rw[if_neg e] at c⊢;obtain⟨m,j⟩:=h.o u a b c;exact⟨by omega,by rw[tw (by omega)];exact j⟩
 ·rw[d];split
  ·omega
  ·exact h.tZ u
theorem me.pop(h:me n ord pl)(hl:0<ord.length):me n (ord.take (ord.length-1)) (pl.set (aj ord (ord.length-1)).toNat (-1)):=by
 obtain⟨m,hm⟩:∃m,ord.length=m+1:=⟨ord.length-1,by omega⟩
 have p:ord.length-1=m:=by omega
 rw[p];have a:=h.inv m (by omega);have f:∀u,aj (pl.set (aj ord m).toNat (-1)) u=if (aj ord m).toNat=u then-1 else aj pl u:=λ u=>by
  rw[oO]
  by_cases e:(aj ord m).toNat=u
  ·rw[if_pos e,if_pos ⟨e,by rw[h.su];omega⟩]
  ·rw[if_neg e,if_neg (λ g=>e g.1)]
 have hlen:(ord.take m).length=m:=by rw[List.length_take];omega
 refine⟨by simp[h.su],λ i l=>?_,λ u b c d=>?_,λ u=>?_⟩
 ·rw[hlen] at l;rw[wv l];have:=h.inv i (by omega);refine⟨this.1,this.2.1,?_⟩;rw[f,if_neg]
  ·exact this.2.2
  ·intro e;have:=h.inj (i:=m) (j:=i) (by omega) (by omega) (by omega);omega
 ·rw[f] at d⊢;rw[hlen]
  by_cases e:(aj ord m).toNat=u
  ·rw[if_pos e] at d;omega
  ·rw[if_neg e] at d⊢;obtain⟨q,k⟩:=h.o u b c d;have r:aj pl u≠m:=λ g=>e (by rw[g] at k;simp only[e_] at k;omega)
   exact⟨by omega,by rw[wv (by omega)];exact k⟩
 ·rw[f];split
  ·omega
  ·exact h.tZ u
end
end
section
open Go.RowKit
def sV:TypeId:=162
def vh:TypeId:=166
def zD:TypeId:=160
def xN:TypeId:=164
def zF:TypeId:=171
def JG:TypeId:=126
def iA(k:Nat):Nat:=13+3*k
def kr(k:Nat):Nat:=14+3*k
def qP(r:Nat):TypeId:=
 if r=0 then zD else if r=1 then zF else if r=3 then xN else if r=9 then 4 else if r=10 then xN else if r=11 then JG else if r=12 then 4
 else if r<13 then 3 else if r%3=1 then xN else 3
def nD(r:Nat):Nat:=if r=11 then 2 else 1
structure rZ where
 kV:Bool
 bg:Int
 ac:Int
structure nv where
 lH:Int
 h:ax
structure an where
 c:Core
 ci:List rZ
 act:List Int
 aZ:Int
 ord:List Int
 pl:List Int
 gN:List Bool
 aO:List Nat
 aA:List nv
 aP:List Bool
 nl:List (List Int)
 jr:Option ax
def iY(l:List Int):List Value:=l.map (Zu .i64)
def qc(l:List Nat):List Value:=l.map λ x:Nat=>Zu .i64 (x:Int)
def sW(l:List Int):List Value:=l.map (Zu .i8)
def pI(l:List Bool):List Value:=l.map Value.bool
def sX(cb:Nat->Nat)(d:Nat):Value:=.pointer (some ⟨cb d,0,none⟩)
def qQ(cb:Nat->Nat):Option Nat->Value
 |none=>.pointer none
 |some d=>sX cb d
def kW(cb:Nat->Nat)(l:List Nat):List Value:=l.map (sX cb)
def uc(cb:Nat->Nat)(l:List (Option Nat)):List Value:=l.map (qQ cb)
def mg(l:List nv):List Value:=(l.map λ p=> [Zu .i64 p.lH,p.h.v]).flatten
def cont(hs:Nat->ax)(cb:Nat->Nat)(s:an)(r:Nat):List Value:=
 if r=0 then (s_ s.c.wt.length).map λ k=>(hs (iA k)).v
 else if r=1 then sW s.c.val else if r=2 then qc s.c.lvl else if r=3 then uc cb s.c.j6 else if r=4 then iY s.c.ay else if r=5 then qc s.c.st
 else if r=6 then iY s.act else if r=7 then iY s.ord else if r=8 then iY s.pl else if r=9 then pI s.gN else if r=10 then kW cb s.aO
 else if r=11 then (match s.jr with|some _=> []|none=>mg s.aA) else if r=12 then pI s.aP
 else if r%3=1 then kW cb (az s.c.wt ((r-13)/3)) else if r%3=2 then iY (az s.c.cl ((r-14)/3)) else iY (az s.nl ((r-15)/3))
def nL(hs:Nat->ax)(s:an):Value:=match s.jr with
 |some h=>h.v
 |none=>(hs 11).v
def q6(hs:Nat->ax)(s:an):List Value:=
 [.int .i64 s.c.n,(hs 0).v,(hs 1).v,(hs 2).v,(hs 3).v,(hs 4).v,(hs 5).v,.int .i64 s.c.ag,(hs 6).v,.int .i64 s.aZ,(hs 7).v,(hs 8).v,(hs 9).v,(hs 10).v,nL hs s,.bool s.c.kS,(hs 12).v]
def tE(hs:Nat->ax)(s:an)(d:Nat):List Value:=
 [(hs (kr d)).v,.bool (s.ci.getD d ⟨false,0,0⟩).kV,.int .i64 (s.ci.getD d ⟨false,0,0⟩).bg,.int .i64 (s.ci.getD d ⟨false,0,0⟩).ac]
structure j0(base:Nat)(w:World)(G:Nat)(hs:Nat->ax)(cb:Nat->Nat)(gj:List Value)(cls:Nat->List Value)(n:Nat)(X:Nat->List Value):Prop where
 box:aN w G sV gj
 rows:mc base qP nD w hs X
 cls:∀d,d<n->aN w (cb d) vh (cls d)
 inj:∀d e,d<n->e<n->cb d=cb e->d=e
 q7:base<=G
 rL:∀d,d<n->base<=cb d
abbrev jb(base:Nat)(w:World)(G:Nat)(hs:Nat->ax)(cb:Nat->Nat)(s:an):Prop:=j0 base w G hs cb (q6 hs s) (tE hs s) s.c.cl.length (cont hs cb s)
def an.oQ(s:an)(k:Nat)(x:Int):an:={s with c:={s.c with val:=s.c.val.set k x}}
def an.rM(s:an)(k:Nat)(x:Nat):an:={s with c:={s.c with lvl:=s.c.lvl.set k x}}
def an.qA(s:an)(k:Nat)(x:Option Nat):an:={s with c:={s.c with j6:=s.c.j6.set k x}}
def an.wH(s:an)(k:Nat)(x:Int):an:={s with c:={s.c with ay:=s.c.ay.set k x}}
def an.pW(s:an)(k:Nat)(x:Int):an:={s with act:=s.act.set k x}
def an.tF(s:an)(k:Nat)(x:Int):an:={s with ord:=s.ord.set k x}
def an.pJ(s:an)(k:Nat)(x:Int):an:={s with pl:=s.pl.set k x}
def an.ud(s:an)(k:Nat)(x:Bool):an:={s with gN:=s.gN.set k x}
def an.sY(s:an)(k:Nat)(x:Bool):an:={s with aP:=s.aP.set k x}
def an.yx(s:an)(x:Int):an:={s with c:={s.c with ay:=s.c.ay++[x]}}
theorem CY(r:Nat):qP r≠sV/\qP r≠vh:=by
 unfold qP
 repeat (split;·exact⟨by decide,by decide⟩)
 exact⟨by decide,by decide⟩
section
variable {base:Nat}{w w':World}{G:Nat}{hs:Nat->ax}{cb:Nat->Nat}{gj:List Value}{cls:Nat->List Value}{n:Nat}{X:Nat->List Value}
theorem j0.below(h:j0 base w G hs cb gj cls n X)(b:Below w.heap.size w w'):j0 base w' G hs cb gj cls n X:=
 ⟨h.box.below b,h.rows.below b,λ d c=>(h.cls d c).below b,h.inj,h.q7,h.rL⟩
theorem j0.CZ(h:j0 base w G hs cb gj cls n X){d:Nat}(c:d<n):G≠cb d:=by
 intro e;have h1:=h.box;have b:=h.cls d c;rw[<-e] at b;unfold aN at h1 b;rw[h1] at b;injection b with b
 injection b with _ b
 exact absurd b (by decide)
theorem j0.ue(h:j0 base w G hs cb gj cls n X)(r g:Nat)(c:(hs r).b=some g):G≠g:=by
 have:=h.rows.CN h.box (λ r=>(CY r).1) r g c;intro e;exact this (by rw[e])
theorem j0.xO(h:j0 base w G hs cb gj cls n X){d:Nat}(c:d<n)(r g:Nat)(f:(hs r).b=some g):cb d≠g:=by
 have:=h.rows.CN (h.cls d c) (λ r=>(CY r).2) r g f;intro e;exact this (by rw[e])
theorem j0.field(h:j0 base w G hs cb gj cls n X)(k:Nat)(v:Value):j0 base (w.setCell ⟨G,k,none⟩ v) G hs cb (gj.set k v) cls n X:=
 ⟨h.box.set k v,h.rows.kept (kZ w G k v) (λ r g c e=>h.ue r g c (by injection e)),λ d b=>(h.cls d b).kept (kZ w G k v) (λ e=>h.CZ b (by injection e with e;exact e.symm)),h.inj,h.q7,h.rL⟩
theorem j0.JH(h:j0 base w G hs cb gj cls n X){d:Nat}(b:d<n)(k:Nat)(v:Value):j0 base (w.setCell ⟨cb d,k,none⟩ v) G hs cb gj (iN cls d ((cls d).set k v)) n X:=by
 refine⟨h.box.kept (kZ w (cb d) k v) (λ e=>h.CZ b (by injection e)),h.rows.kept (kZ w (cb d) k v) (λ r g f e=>h.xO b r g f (by injection e)),λ e he=>?_,h.inj,h.q7,h.rL⟩
 by_cases c:e=d
 ·subst c;rw[jG];exact(h.cls e he).set k v
 ·rw[bh _ _ c];exact(h.cls e he).kept (kZ w (cb d) k v) (λ i=>c (h.inj e d he b (by injection i)))
theorem j0.cell(h:j0 base w G hs cb gj cls n X){r g:Nat}(c:(hs r).b=some g)(k:Nat)(v:Value):j0 base (w.setCell ⟨g,k,none⟩ v) G hs cb gj cls n (iN X r ((X r).set k v)):=
 ⟨h.box.kept (kZ w g k v) (λ e=>h.ue r g c (by injection e)),h.rows.set c k v,λ d f=>(h.cls d f).kept (kZ w g k v) (λ e=>h.xO f r g c (by injection e)),h.inj,h.q7,h.rL⟩
theorem j0.iT(h:j0 base w G hs cb gj cls n X){r:Nat}{h':ax}{ys:List Value}(c:w.grownBy w' (hs r).b)(i:w'.ownsRow base (qP r) (nD r) h'.v h'.n ys)(j:h'.b=(hs r).b\/∀g,h'.b=some g->w.heap.size<=g):
  j0 base w' G (iN hs r h') cb gj cls n (iN X r ys):=by
 refine⟨h.box.kept c (λ e=>?_),h.rows.iT c i j,λ d f=>(h.cls d f).kept c (λ e=>?_),h.inj,h.q7,h.rL⟩
 ·exact h.ue r G e.symm rfl
 ·exact h.xO f r (cb d) e.symm rfl
theorem j0.cut(h:j0 base w G hs cb gj cls n X){r g:Nat}(d:(hs r).b=some g){k:Nat}(hk:k<=(hs r).n):j0 base w G (iN hs r ⟨(hs r).A,k,(hs r).c⟩) cb gj cls n (iN X r ((X r).take (k*nD r))):=
 ⟨h.box,h.rows.cut d hk,h.cls,h.inj,h.q7,h.rL⟩
theorem j0.eq{hs':Nat->ax}{r0:Nat->Nat}{zG:List Value}{E2:Nat->List Value}{jq:Nat}{lQ:Nat->List Value}(h:j0 base w G hs cb gj cls n X)(h1:hs=hs')(c:cb=r0)(e:gj=zG)(f:∀d,d<n->cls d=E2 d)(g:n=jq)(i:∀r,X r=lQ r):j0 base w G hs' r0 zG E2 jq lQ:=by
 subst h1 c e g;have j:X=lQ:=funext i;subst j;exact⟨h.box,h.rows,λ d b=>by rw[<-f d b];exact h.cls d b,h.inj,h.q7,h.rL⟩
end
end
section
open Go.RowKit
def ow(ops:Array Oper)(j:Nat):Option Tmp:=(ops[j]?).bind λ o:Oper=>o.dst
def jB(ops:Array Oper)(vals:Nat->Value)(L:Nat->Bool)(a:Act):Nat->Act
 |0=>a
 |k+1=>if L k=true then (jB ops vals L a k).put (ow ops k) (vals k) else jB ops vals L a k
def kP(vals:Nat->Value)(i:Nat)(v:Value):Nat->Value:=λ j=>if j=i then v else vals j
def lI(L:Nat->Bool)(i:Nat):Nat->Bool:=λ j=>if j=i then true else L j
theorem put_comm{d e:Option Tmp}{u:Value}(h:∀s,d=some s->e≠some s):(a.put d u).put e v=(a.put e v).put d u:=by
 cases d with
 |none=>rfl
 |some d=>
  cases e with
  |none=>rfl
  |some e=>
   have b:d≠e:=λ x=>h d rfl (x▸rfl)
   simp only[Act.put];rw[Array.setIfInBounds_comm _ _ b]
section
variable {ops:Array Oper}{vals:Nat->Value}{L:Nat->Bool}{a:Act}{i:Nat}{v:Value}
theorem E3:∀k,k<=i->jB ops (kP vals i v) (lI L i) a k=jB ops vals L a k
 |0,_=>rfl
 |k+1,hk=>by
  have b:k≠i:=by omega
  simp only[jB,E3 k (by omega)];have c:lI L i k=L k:=by unfold lI;rw[if_neg b]
  have d:kP vals i v k=vals k:=by unfold kP;rw[if_neg b]
  rw[c,d]
theorem zH(d:∀j,j≠i->∀s,ow ops i=some s->ow ops j≠some s)(f:L i=false):∀k,i<k->
  (jB ops vals L a k).put (ow ops i) v=jB ops (kP vals i v) (lI L i) a k
 |0,h=>by omega
 |k+1,h=>by
  by_cases e:k=i
  ·subst e;simp only[jB];rw[E3 k (Zs _),f];have b:lI L k k=true:=by unfold lI;rw[if_pos rfl]
   have c:kP vals k v k=v:=by unfold kP;rw[if_pos rfl]
   rw[b,c];simp
  ·simp only[jB];have b:lI L i k=L k:=by unfold lI;rw[if_neg e]
   have c:kP vals i v k=vals k:=by unfold kP;rw[if_neg e]
   rw[b,c,<-zH d f k (by omega)]
   by_cases hk:L k=true
   ·rw[if_pos hk,if_pos hk];exact put_comm λ s h1 g=>d k e s g h1
   ·rw[if_neg hk,if_neg hk]
theorem JI(a:Act)(d:Option Tmp)(v:Value):(a.put d v).tmps.size=a.tmps.size:=by
 cases d<;>simp[Act.put]
theorem C0:∀k,(jB ops vals L a k).tmps.size=a.tmps.size
 |0=>rfl
 |k+1=>by
  simp only[jB];split
  ·rw[JI,C0 k]
  ·exact C0 k
theorem E4{a:Act}{d:Option Tmp}{v:Value}{x:Operand}(h:∀s,d=some s->x≠ .tmp s):(a.put d v).eval x=a.eval x:=by
 cases d with
 |none=>rfl
 |some s=>
  cases x with
  |tmp t=>
   have b:s≠t:=λ e=>h s rfl (e▸rfl)
   simp only[Act.put,Act.eval];rw[z_,z_,r_ b]
  |const v=>rfl
  |global g=>rfl
  |func f=>rfl
theorem JJ{a:Act}{s:Tmp}{v:Value}(h:s<a.tmps.size):(a.put (some s) v).eval (.tmp s)=v:=by
 simp only[Act.put,Act.eval];rw[z_,v_ h];rfl
theorem yy{x:Operand}(h:∀j s,L j=true->ow ops j=some s->x≠ .tmp s):∀k,(jB ops vals L a k).eval x=a.eval x
 |0=>rfl
 |k+1=>by
  simp only[jB]
  by_cases hk:L k=true
  ·rw[if_pos hk,E4 (λ s=>h k s hk),yy h k]
  ·rw[if_neg hk];exact yy h k
theorem yz{j:Nat}{s:Tmp}(b:ow ops j=some s)(hs:s<a.tmps.size)(c:L j=true)(d:∀i,i≠j->ow ops i≠some s):∀k,j<k->(jB ops vals L a k).eval (.tmp s)=vals j
 |0,h=>by omega
 |k+1,h=>by
  by_cases e:k=j
  ·subst e;simp only[jB];rw[if_pos c,b,JJ (by rw[C0];exact hs)]
  ·simp only[jB];split
   ·rw[E4 (λ t g f=>d k e (by rw[g];injection f with f;rw[f]))];exact yz b hs c d k (by omega)
   ·exact yz b hs c d k (by omega)
end
def cF(P:Program)(post:Value->World->Prop):Result Next->Prop
 | .ok (.value v) w'=>post v w'
 | .ok .skip w'=>post undef w'
 | .ok (.enter f args) w'=>Calls P f args w' λ e b=>∃v,e=.returned v/\post v b
 |_=>False
def bq(P:Program)(b:Operand->Value)(o:Oper)(w:World)(post:Value->World->Prop):Prop:=cF P post ((execOp b o).run P w)
theorem bq.wp{P:Program}{o:Oper}{a:Act}{w:World}{post:Value->World->Prop}{K:Act->World->Prop}{Q:Exit->Act->World->Prop}(h:bq P a.eval o w post)(hk:∀v w',post v w'->K (a.put o.dst v) w'):o.wp P a w K Q:=by
 unfold bq at h;unfold Oper.wp;generalize (execOp a.eval o).run P w=r at*
 cases r with
 |ok n w'=>
  cases n<;>simp only[cF] at h<;>simp only[Oper.upon]
  case value u=>exact hk _ _ h
  case skip=>exact hk _ _ h
  case enter f args=>
   refine h.mono λ e b ⟨v,he,hp⟩=>?_
   subst he;exact hk _ _ hp
 |halt x w'=>simp only[cF] at h
def sv(ops:Array Oper):Bool:=(s_ ops.size).all λ i=>(s_ ops.size).all λ j=>j==i||match ow ops i with
 |some s=>ow ops j !=some s
 |none=>true
def qd(ops:Array Oper):Bool:=ops.all λ o=>o.guard.isNone
theorem wI(h:sv ops=true){i j:Nat}(e:j≠i){s:Tmp}(c:ow ops i=some s):ow ops j≠some s:=by
 intro d;have f:i<ops.size:=by
  cases b:ops[i]? with
  |none=>unfold ow at c;rw[b] at c;cases c
  |some o=>exact(Zz.1 b).1
 have g:j<ops.size:=by
  cases b:ops[j]? with
  |none=>unfold ow at d;rw[b] at d;cases d
  |some o=>exact(Zz.1 b).1
 unfold sv at h;simp only[b_,u_] at h;have h1:=h i f j g;rw[c] at h1;simp only[Bool.or_eq_true,beq_iff_eq,e,false_or,bne_iff_ne,ne_eq] at h1;exact h1 d
def gK(listed:Array Bool):Nat->Bool:=λ j=>listed.getD j false
theorem oG(h:i<listed.size):gK (listed.setIfInBounds i true)=lI (gK listed) i:=by
 funext j;unfold gK lI
 by_cases e:j=i
 ·subst e;rw[if_pos rfl,z_,v_ h];rfl
 ·rw[if_neg e];show(listed.setIfInBounds i true).getD j false=listed.getD j false;rw[z_,z_,r_ (λ x=>e x.symm)]
def uf(G:Nat->Value->World->Prop)(dead:Nat->Option Nat)(L:Nat->Bool)(vals:Nat->Value)(w:World):Prop:=
 ∀j,L j=true->(∀c,dead j=some c->L c=false)->G j (vals j) w
def qB(ds:List (Option Tmp))(j:Nat):Option Tmp:=ds.getD j none
def rN(ds:List (Option Tmp))(G:Nat->Value->World->Prop)(dead:Nat->Option Nat)(i:Nat)(vals:Nat->Value)(w:World)(b:Operand->Value):List Edge->Prop
 |[]=>True
 |e::r=>(p_ .any e=true->((dead e.on=none\/dead e.on=some i)->G e.on (vals e.on) w)/\∀s,qB ds e.on=some s->b (.tmp s)=vals e.on)/\rN ds G dead i vals w b r
def q8(ws:List (List Nat))(j i:Nat):Bool:=(ws.getD j []).contains i
def pK(b:Operand->Value):List (Tmp×Value)->Prop
 |[]=>True
 |p::r=>b (.tmp p.1)=p.2/\pK b r
def yA(ds:List (Option Tmp))(ws:List (List Nat))(i:Nat)(s:Tmp):Bool:=(s_ ds.length).all λ j=>qB ds j !=some s||q8 ws j i
def q9(ds:List (Option Tmp))(ws:List (List Nat))(i:Nat)(b:Operand->Value):List (Tmp×Value)->Prop
 |[]=>True
 |p::r=>(yA ds ws i p.1=true->b (.tmp p.1)=p.2)/\q9 ds ws i b r
theorem q9.of{pX E5:Operand->Value}{ds:List (Option Tmp)}{ws:List (List Nat)}{i:Nat}(he:∀s,yA ds ws i s=true->E5 (.tmp s)=pX (.tmp s)):∀{l:List (Tmp×Value)},pK pX l->q9 ds ws i E5 l
 |[],_=>trivial
 |p::r,h=>⟨λ b=>(he _ b).trans h.1,q9.of he h.2⟩
theorem A6{ds:List (Option Tmp)}{s:Tmp}(h:yA ds ws i s=true){j:Nat}(b:qB ds j=some s):q8 ws j i=true:=by
 have c:j<ds.length:=by
  rcases l_ j ds.length with h1|h1
  ·exact h1
  ·unfold qB at b;rw[y_,List.getElem?_eq_none h1] at b;cases b
 unfold yA at h;rw[b_] at h;have:=h j (u_.2 c);rw[b] at this;simpa using this
def rf(b:Operand->Value):Prop:=(∀v,b (.const v)=v)/\(∀g,b (.global g)=.pointer (some ⟨g,0,none⟩))/\∀f,b (.func f)=.func (.func f) #[] #[]
theorem rf.act(a:Act):rf a.eval:=⟨λ _=>rfl,λ _=>rfl,λ _=>rfl⟩
def nM(ws:List (List Nat)):Nat->Nat->Nat->Bool
 |0,j,i=>q8 ws j i
 |n+1,j,i=>q8 ws j i||(ws.getD j []).any λ k=>nM ws n k i
def zI(ws:List (List Nat))(iq:World->Prop)(G:Nat->Value->World->Prop)(dead:Nat->Option Nat)(i:Nat)(w:World)(v:Value)(w':World):Prop:=
 iq w'/\G i v w'/\∀j u,j≠i->dead j≠some i->nM ws 8 j i=false->(∀c,dead j=some c->nM ws 8 i c=false)->G j u w->G j u w'
theorem zI.same(b:iq w)(h:G i v w):zI ws iq G dead i w v w:=⟨b,h,λ _ _ _ _ _ _ h=>h⟩
theorem zI.more{w':World}(hm:∀j u w w',Below w.heap.size w w'->G j u w->G j u w')(b:Below w.heap.size w w')(c:iq w')(h:G i v w'):zI ws iq G dead i w v w':=⟨c,h,λ j u _ _ _ _ h=>hm j u w w' b h⟩
def zJ(P:Program)(ds:List (Option Tmp))(ws:List (List Nat))(old:List (Tmp×Value))(iq:World->Prop)(G:Nat->Value->World->Prop)(dead:Nat->Option Nat)(i:Nat)(o:Oper):Prop:=
 ∀(vals:Nat->Value)(w:World)(b:Operand->Value),iq w->rN ds G dead i vals w b o.after.toList->q9 ds ws i b old->rf b->
  bq P b o w (zI ws iq G dead i w)
def wJ(P:Program)(ds:List (Option Tmp))(ws:List (List Nat))(old:List (Tmp×Value))(iq:World->Prop)(G:Nat->Value->World->Prop)(dead:Nat->Option Nat):Nat->List Oper->Prop
 |_,[]=>True
 |k,o::r=>zJ P ds ws old iq G dead k o/\wJ P ds ws old iq G dead (k+1) r
theorem wJ.at{P:Program}{ds:List (Option Tmp)}{ws:List (List Nat)}{old:List (Tmp×Value)}{iq:World->Prop}{G:Nat->Value->World->Prop}{dead:Nat->Option Nat}:∀{l:List Oper}{k i:Nat}{o:Oper},wJ P ds ws old iq G dead k l->l[i]? =some o->zJ P ds ws old iq G dead (k+i) o
 |[],k,i,o,_,h=>by simp at h
 |x::l,k,0,o,hs,h=>by
  simp only[List.getElem?_cons_zero,Option.some.injEq] at h;subst h;exact hs.1
 |x::l,k,i+1,o,hs,h=>by
  rw[List.getElem?_cons_succ] at h;have:=wJ.at hs.2 h
  rwa[show k+1+i=k+(i+1) by omega] at this
theorem rN.of{ds:List (Option Tmp)}{G:Nat->Value->World->Prop}{dead:Nat->Option Nat}{i:Nat}{vals:Nat->Value}{w:World}{av:Operand->Value}:∀{l:List Edge},(∀e∈l,p_ .any e=true->((dead e.on=none\/dead e.on=some i)->G e.on (vals e.on) w)/\∀s,qB ds e.on=some s->av (.tmp s)=vals e.on)->rN ds G dead i vals w av l
 |[],_=>trivial
 |e::r,h=>⟨h e (by simp),rN.of λ b he=>h b (by simp[he])⟩
def sw(ops:Array Oper)(n:Nat):Bool:=ops.all λ o=>match o.dst with|some s=>decide (s<n)|none=>true
theorem A7{n:Nat}(h:sw ops n=true){j:Nat}{s:Tmp}(hs:ow ops j=some s):s<n:=by
 unfold ow at hs
 cases b:ops[j]? with
 |none=>rw[b] at hs;cases hs
 |some o=>
  rw[b] at hs;have hs':o.dst=some s:=hs;unfold sw at h;rw[w_] at h;have:=h o (a_ b);simp only[hs',decide_eq_true_eq] at this;exact this
theorem ug{md:Region.Mode}(h:i∈j_ md ops listed):i<ops.size/\listed.getD i true=false/\∃o,ops[i]? =some o/\∀e∈o.after,p_ md e=true->listed.getD e.on false=true:=by
 unfold j_ at h;obtain⟨h1,c⟩:=q_.1 h;have d:=u_.1 h1;simp only[m_,Bool.not_eq_true'] at c;refine⟨d,c.1,ops[i],x_ d,λ e he g=>?_⟩;have b:=c.2;rw[x_ d] at b;simp only[Zt,Zx] at b;rw[w_] at b;have f:=b e he;rw[g] at f;simpa using f
section
variable {ops:Array Oper}
def ox(ops:Array Oper)(listed:Array Bool):Nat:=((s_ ops.size).filter λ i=> !listed.getD i true).length
theorem A8{listed:Array Bool}{i:Nat}(b:i<ops.size)(h:listed.getD i true=false):ox ops (listed.setIfInBounds i true)<ox ops listed:=by
 unfold ox;have c:i<listed.size:=by
  rcases l_ i listed.size with h1|h1
  ·exact h1
  ·rw[z_,Zq h1] at h;cases h
 have e:((s_ ops.size).filter λ j=> !(listed.setIfInBounds i true).getD j true)=((s_ ops.size).filter λ j=> !listed.getD j true).filter λ j=>j !=i:=by
  rw[List.filter_filter];refine List.filter_congr λ j _=>?_
  by_cases e:j=i
  ·subst e;rw[z_,v_ c];simp
  ·rw[z_,r_ (λ x=>e x.symm),z_];simp[e]
 rw[e];have hm:i∈(s_ ops.size).filter λ j=> !listed.getD j true:=q_.2 ⟨u_.2 b,by rw[h];rfl⟩
 generalize ((s_ ops.size).filter λ j=> !listed.getD j true)=l at*;clear e;rcases l_ (l.filter λ j=>j !=i).length l.length with h1|h1
 ·exact h1
 ·have d:=List.filter_eq_self.1 (List.length_filter_eq_length_iff.1 (Nat.le_antisymm (Zn _ _) h1)|>λ h=>List.filter_eq_self.2 h);have:=d i hm;simp at this
end
def uN(ops:Array Oper):Bool:=(s_ ops.size).all λ i=>match ops[i]? with
 |some o=>o.after.all λ e=> !Region.binds .any e||decide (e.on<i)
 |none=>true
theorem A9(h:uN ops=true){listed:Array Bool}(m:listed.size=ops.size)(f:j_ .any ops listed=[]):ox ops listed=0:=by
 have key:∀i,i<ops.size->listed.getD i true=true:=by
  intro i
  induction i using Zv with
  |_ i g=>
   intro b
   cases hl:listed.getD i true with
   |true=>rfl
   |false=>
    exfalso;have:i∈j_ .any ops listed:=by
     unfold j_;refine q_.2 ⟨u_.2 b,?_⟩;rw[hl,x_ b];simp only[Bool.not_false,Bool.true_and,Zt,Zx];rw[w_];intro e he
     cases j:p_ .any e with
     |false=>rfl
     |true=>
      unfold uN at h;simp only[b_,u_] at h;have h1:=h i b;rw[x_ b] at h1;simp only[] at h1;rw[w_] at h1;have c:=h1 e he;rw[j] at c;have k:e.on<i:=by simpa using c
      have d:=g e.on k (by omega);have l:e.on<listed.size:=by omega
      rw[z_,x_ l] at d⊢;simpa using d
    rw[f] at this;cases this
 unfold ox;rw[Zw,List.filter_eq_nil_iff];intro i b;rw[key i (u_.1 b)];simp
theorem wK(l:List Oper)(j:Nat):ow l.toArray j=qB (l.map λ o:Oper=>o.dst) j:=by
 unfold ow qB;rw[g_,y_,d_]
 cases l[j]? <;>rfl
def nZ:List (Option Tmp)->Nat->(Nat->Value)->Act->Act
 |[],_,_,a=>a
 |d::r,k,vals,a=>nZ r (k+1) vals (a.put d (vals k))
theorem E6:∀(l:List (Option Tmp))(d:Option Tmp)(k:Nat)(vals:Nat->Value)(a:Act),nZ (l++[d]) k vals a=(nZ l k vals a).put d (vals (k+l.length))
 |[],d,k,vals,a=>rfl
 |e::l,d,k,vals,a=>by
  rw[List.cons_append,nZ,E6 l d,nZ,List.length_cons]
  congr 2
  omega
def mh(n:Nat):Nat->Bool:=λ j=>decide (j<n)
theorem zK(l:List Oper)(vals:Nat->Value)(a:Act)(n:Nat):∀k,k<=n->k<=l.length->jB l.toArray vals (mh n) a k=nZ ((l.map λ o:Oper=>o.dst).take k) 0 vals a
 |0,_,_=>rfl
 |k+1,hk,hl=>by
  have e:(l.map λ o:Oper=>o.dst).take (k+1)=(l.map λ o:Oper=>o.dst).take k++[ow l.toArray k]:=by
   rw[List.take_add_one]
   congr 1
   rw[d_,k_ (by omega)];unfold ow;rw[g_,k_ (by omega)];rfl
  rw[e,E6];simp only[jB];have b:mh n k=true:=by unfold mh;simp;omega
  rw[if_pos b,zK l vals a n k (by omega) (by omega),List.length_take,List.length_map]
  congr 2
  omega
def vF(l:List Oper)(n:Nat):Bool:=match l[n]? with
 |some o=>(s_ n).all λ j=>o.after.any λ e=>p_ .any e&&e.on==j
 |none=>false
section
variable {P:Program}{l:List Oper}{Q:Exit->Act->World->Prop}{a:Act}{old:List (Tmp×Value)}{iq:World->Prop}{G:Nat->Value->World->Prop}{dead:Nat->Option Nat}
theorem zL{ops:Array Oper}{vals:Nat->Value}{L C1:Nat->Bool}{a:Act}:∀k,(∀j,j<k->L j=C1 j)->jB ops vals L a k=jB ops vals C1 a k
 |0,_=>rfl
 |k+1,h=>by
  simp only[jB];rw[zL k (λ j b=>h j (by omega)),h k (by omega)]
theorem wL{ops:Array Oper}{listed:Array Bool}(e:listed.size=ops.size)(b:ox ops listed=0):∀j,j<ops.size->gK listed j=true:=λ j c=>by
 cases hl:gK listed j with
 |true=>rfl
 |false=>
  have h1:j∈(s_ ops.size).filter λ i=> !listed.getD i true:=by
   refine q_.2 ⟨u_.2 c,?_⟩;unfold gK at hl;have d:j<listed.size:=by omega
   rw[z_,x_ d] at hl⊢;simpa using hl
  unfold ox at b;rw[Zw] at b;rw[b] at h1;cases h1
theorem xP{ws:List (List Nat)}(c:ws=l.map λ o:Oper=>(o.after.toList.filter (p_ .any)).map (·.on)){j i:Nat}(h:q8 ws j i=true):∃o,l.toArray[j]? =some o/\∃e∈o.after,p_ .any e=true/\e.on=i:=by
 unfold q8 at h;rw[c,y_,d_] at h
 cases b:l[j]? with
 |none=>rw[b] at h;simp at h
 |some o=>
  rw[b] at h;simp only[Zt,Zx,List.contains_eq_mem,decide_eq_true_eq] at h;obtain⟨e,he,d⟩:=List.mem_map.1 h;obtain⟨f,g⟩:=q_.1 he;exact⟨o,by rw[g_];exact b,e,Zm.1 f,g,d⟩
def ri(ws:List (List Nat))(L:Nat->Bool):Prop:=∀j i,L j=true->q8 ws j i=true->L i=true
theorem ri.reach{ws:List (List Nat)}{L:Nat->Bool}(h:ri ws L):∀(n j i:Nat),L j=true->nM ws n j i=true->L i=true
 |0,j,i,c,b=>h j i c b
 |n+1,j,i,c,b=>by
  unfold nM at b;rw[Bool.or_eq_true] at b;rcases b with b|b
  ·exact h j i c b
  ·obtain⟨k,hk,d⟩:=List.any_eq_true.1 b;exact h.reach n k i (h j k c (by unfold q8;simpa using hk)) d
theorem JK{ds:List (Option Tmp)}{ws:List (List Nat)}(O:ws=l.map λ o:Oper=>(o.after.toList.filter (p_ .any)).map (·.on))(A:ds=l.map λ o:Oper=>o.dst)(B:sv l.toArray=true)(t:qd l.toArray=true)(R:sw l.toArray a.tmps.size=true)
  (hold:pK a.eval old)
  {i:Nat} {o:Oper} (m:l.toArray[i]? =some o) (C:zJ P ds ws old iq G dead i o) {listed:Array Bool} {vals:Nat->Value} {w:World} {K:Act->World->Prop} (ak:listed.size=l.toArray.size) (S:iq w) (hF:uf G dead (gK listed) vals w)
  (T:i∈j_ .any l.toArray listed) (hC:ri ws (gK listed))
  (U:∀v w',iq w'->ri ws (gK (listed.setIfInBounds i true))->uf G dead (gK (listed.setIfInBounds i true)) (kP vals i v) w'->K (jB l.toArray (kP vals i v) (gK (listed.setIfInBounds i true)) a l.toArray.size) w'):
  wpOp P l.toArray Q i K (jB l.toArray vals (gK listed) a l.toArray.size) w:=by
 obtain⟨h1,D,V,E,F⟩:=ug T;obtain rfl:o=V:=by rw[m] at E;injection E
 have f:i<listed.size:=by omega
 have p:gK listed i=false:=by
  unfold gK;rw[z_,x_ f] at D⊢;simpa using D
 unfold wpOp;simp only[m];have W:o.guard=none:=by
  unfold qd at t;rw[w_] at t;have:=t o (a_ m);simpa using this
 have hw:Zy o (yielded l.toArray (jB l.toArray vals (gK listed) a l.toArray.size).tmps)=true:=by unfold Zy;rw[W]
 rw[if_pos hw];left;unfold zJ at C;have X:=C vals w (jB l.toArray vals (gK listed) a l.toArray.size).eval S (rN.of λ e he u=>by
  have hl:=F e (Zm.1 he) u;have Y:e.on<l.toArray.size:=by
   rcases l_ e.on listed.size with h|h
   ·omega
   ·rw[z_,Zq h] at hl;cases hl
  refine⟨λ n=>hF e.on hl λ c d=>?_,λ s hs=>?_⟩
  ·rcases n with n|n
   ·rw[n] at d;cases d
   ·rw[n] at d;injection d with d
    rw[<-d];exact p
  ·rw[A,<-wK] at hs;exact yz hs (A7 R hs) hl (λ k hk=>wI B hk hs) _ Y) (q9.of (λ s hs=>yy (λ j s' hl b y=>by
   injection y with y
   subst y;rw[wK,<-A] at b;have:=hC j i hl (A6 hs b);rw[p] at this;cases this) _) hold) (rf.act _)
 refine X.wp λ v w' ⟨Z,aa,ab⟩=>?_
 have ad:(jB l.toArray vals (gK listed) a l.toArray.size).put o.dst v=jB l.toArray (kP vals i v) (gK (listed.setIfInBounds i true)) a l.toArray.size:=by
  rw[oG f];have ae:ow l.toArray i=o.dst:=by unfold ow;rw[m];rfl
  have:=zH (ops:=l.toArray) (vals:=vals) (L:=gK listed) (a:=a) (i:=i) (v:=v) (λ j b s hs=>wI B b hs) p l.toArray.size h1;rw[ae] at this;exact this
 rw[ad];have H:ri ws (gK (listed.setIfInBounds i true)):=by
  rw[oG f];intro j k b I;unfold lI at b⊢
  by_cases e:k=i
  ·rw[if_pos e]
  ·rw[if_neg e]
   by_cases g:j=i
   ·subst g;obtain⟨al,q,af,ag,u,ah⟩:=xP O I;rw[m] at q;injection q with q
    subst q;have:=F af ag u;rw[ah] at this;exact this
   ·rw[if_neg g] at b;exact hC j k b I
 refine U v w' Z H λ j b r=>?_
 rw[oG f] at b r
 by_cases e:j=i
 ·subst e;have g:kP vals j v j=v:=by unfold kP;rw[if_pos rfl]
  rw[g];exact aa
 ·have g:kP vals i v j=vals j:=by unfold kP;rw[if_neg e]
  have ai:lI (gK listed) i j=gK listed j:=by unfold lI;rw[if_neg e]
  rw[g];rw[ai] at b;refine ab j _ e (λ aj=>?_) ?_ (λ c d=>?_) (hF j b λ c d=>?_)
  ·have:=r i aj;unfold lI at this;rw[if_pos rfl] at this;cases this
  ·cases z:nM ws 8 j i with
   |false=>rfl
   |true=>
    have:=hC.reach 8 j i b z;rw[p] at this;cases this
  ·cases z:nM ws 8 i c with
   |false=>rfl
   |true=>
    have J:=r c d;have M:=H.reach 8 i c (by rw[oG f];unfold lI;rw[if_pos rfl]) z;rw[oG f] at M;rw[M] at J;cases J
  ·have:=r c d;unfold lI at this
   by_cases N:c=i
   ·rw[if_pos N] at this;cases this
   ·rw[if_neg N] at this;exact this
theorem JL{ds:List (Option Tmp)}{ws:List (List Nat)}(H:ws=l.map λ o:Oper=>(o.after.toList.filter (p_ .any)).map (·.on))(I:ds=l.map λ o:Oper=>o.dst)(n:Nat)(hlen:l.length=n+1)(J:sv l.toArray=true)(q:qd l.toArray=true)(K:sw l.toArray a.tmps.size=true)(L:uN l.toArray=true)(s:vF l n=true)(hold:pK a.eval old)
  (M:wJ P ds ws old iq G dead 0 (l.take n))
  (N:∀o vals w,l[n]? =some o->iq w->(∀j,j<n->dead j=none->G j (vals j) w)->bq P (jB l.toArray vals (mh n) a n).eval o w λ v w'=>Q .normal ((jB l.toArray vals (mh n) a n).put o.dst v) w'):
  ∀(fuel:Nat)(listed:Array Bool)(vals:Nat->Value)(w:World),listed.size=l.toArray.size->ox l.toArray listed<=fuel->0<ox l.toArray listed->gK listed n=false->ri ws (gK listed)->iq w->uf G dead (gK listed) vals w->
   wpAny P .any l.toArray Q fuel listed (jB l.toArray vals (gK listed) a l.toArray.size) w:=by
 intro fuel
 induction fuel with
 |zero=>intro listed vals w m O R;omega
 |succ fuel S=>
  intro listed vals w m O R z hC A hF;refine⟨λ h=>by have:=A9 L m h;omega,λ i B=>?_⟩;obtain⟨h1,T,o,p,U⟩:=ug B;have C:i<listed.size:=by omega
  have ah:i<l.length:=by simpa using h1
  have t:l[i]? =some o:=by rw[g_] at p;exact p
  by_cases D:i=n
  ·subst D;have u:∀j,j<i->gK listed j=true:=λ j d=>by
    unfold vF at s;rw[t] at s;simp only[b_,u_] at s;have b:=s j d;rw[Array.any_eq_true'] at b;obtain⟨e,he,y⟩:=b;simp only[m_,beq_iff_eq] at y;have:=U e he y.1;rw[y.2] at this;exact this
   have V:jB l.toArray vals (gK listed) a l.toArray.size=jB l.toArray vals (mh i) a i:=by
    have W:l.toArray.size=i+1:=by simp[hlen]
    rw[W];simp only[jB];rw[z];simp only[Bool.false_eq_true,if_false];exact zL i λ j d=>by rw[u j d];unfold mh;simp[d]
   rw[V];unfold wpOp;simp only[p];have X:o.guard=none:=by
    unfold qd at q;rw[w_] at q;have:=q o (a_ p);simpa using this
   have hw:Zy o (yielded l.toArray (jB l.toArray vals (mh i) a i).tmps)=true:=by unfold Zy;rw[X]
   rw[if_pos hw];left;refine(N o vals w t A λ j d Y=>hF j (u j d) λ c E=>by rw[Y] at E;cases E).wp λ v w' Z=>?_
   refine wpAny_done ?_ Z _;rcases aa:j_ .any l.toArray (listed.setIfInBounds i true) with _|⟨k,r⟩
   ·rfl
   ·have hk:k∈j_ .any l.toArray (listed.setIfInBounds i true):=by rw[aa];simp
    obtain⟨b,f,_⟩:=ug hk;exfalso;have ai:k<i+1:=by simpa[hlen] using b
    by_cases e:k=i
    ·subst e;rw[z_,v_ C] at f
     cases f
    ·have g:=u k (by omega);rw[z_,r_ (λ x=>e x.symm)] at f;unfold gK at g;rw[z_] at g;have ab:k<listed.size:=by omega
     rw[x_ ab] at f g;simp at f g;rw[f] at g;cases g
  ·have ad:zJ P ds ws old iq G dead i o:=by
    have b:(l.take n)[i]? =some o:=by rw[List.getElem?_take,if_pos (by omega)];exact t
    have:=wJ.at M b
    rwa[Nat.zero_add] at this
   refine JK H I J q K hold p ad m A hF B hC λ v w' ae af ag=>?_
   have F:gK (listed.setIfInBounds i true) n=false:=by
    rw[oG C];unfold lI;rw[if_neg (λ e=>D e.symm)];exact z
   refine S _ _ w' (by simp[m]) (by have:=A8 (ops:=l.toArray) h1 T;omega) ?_ F af ae ag;rcases Nat.eq_zero_or_pos (ox l.toArray (listed.setIfInBounds i true)) with b|b
   ·have:=wL (ops:=l.toArray) (listed:=listed.setIfInBounds i true) (by simp[m]) b n (by simp[hlen]);rw[F] at this;cases this
   ·exact b
end
def vG:Code->Nat->Option (List Oper)
 | .region id ops _,k=>if id=k then some ops.toList else none
 | .seq x y,k=>(vG x k).or (vG y k)
 | .cond _ x y,k=>(vG x k).or (vG y k)
 | .block _ x,k=>vG x k
 | .loop x,k=>vG x k
 | .rangeFunc _ _ x y,k=>(vG x k).or (vG y k)
 |_,_=>none
def rj(f:Func)(k:Nat):List Oper:=(f.body.bind λ c=>vG c k).getD []
theorem JM{P:Program}{id:Nat}{Q:Exit->Act->World->Prop}(l:List Oper)(n N:Nat)(ds:List (Option Tmp))(ws:List (List Nat))(old:List (Tmp×Value))(iq:World->Prop)(G:Nat->Value->World->Prop)(dead:Nat->Option Nat)
  (q:ops=l.toArray) (hm:P.follows .mixedOrders=true)
  (m:ds=l.map λ o:Oper=>o.dst) (r:ws=l.map λ o:Oper=>(o.after.toList.filter (p_ .any)).map (·.on)) (hlen:l.length=n+1) (s:sv l.toArray=true) (t:qd l.toArray=true) (u:uN l.toArray=true) (y:vF l n=true) (z:sw l.toArray N=true)
  (A:a.tmps.size=N) (hold:pK a.eval old) (B:iq w.drew)
  (C:wJ P ds ws old iq G dead 0 (l.take n))
  (ol:Oper) (D:l[n]? =some ol) (E:∀vals w,iq w->(∀j,j<n->dead j=none->G j (vals j) w)->∀f,nZ (ds.take n) 0 vals a=f->bq P f.eval ol w λ v w'=>Q .normal (f.put ol.dst v) w'):(Code.region id ops true).wp P Q a w:=by
 subst q;subst A;refine wp_region_any hm ?_;have F:∀o vals w,l[n]? =some o->iq w->(∀j,j<n->dead j=none->G j (vals j) w)->bq P (jB l.toArray vals (mh n) a n).eval o w λ v w'=>Q .normal ((jB l.toArray vals (mh n) a n).put o.dst v) w':=by
  intro o vals w d H I;rw[D] at d;injection d with d
  subst d;rw[zK l vals a n n (Zs _) (by omega),<-m];exact E vals w H I _ rfl
 have b:∀k,gK (h_ l.toArray.size false) k=false:=λ k=>by
  unfold gK;rw[z_,Array.getElem?_replicate];split<;>rfl
 have e:a=jB l.toArray (λ _=>undef) (gK (h_ l.toArray.size false)) a l.toArray.size:=by
  have:∀k,jB l.toArray (λ _=>undef) (gK (h_ l.toArray.size false)) a k=a:=by
   intro k
   induction k with
   |zero=>rfl
   |succ k J=>
    simp only[jB];rw[b k,J];simp
  exact(this _).symm
 have p:=JL (P:=P) (Q:=Q) (a:=a) (iq:=iq) (G:=G) (dead:=dead) r m n hlen s t z u y hold C F l.toArray.size (h_ l.toArray.size false) (λ _=>undef) w.drew (by simp)
  (by unfold ox;exact Zl (Zn _ _) (by simp)) ?_ (b n) (λ j i c=>by rw[b j] at c;cases c) B (λ j c=>by rw[b j] at c;cases c)
 ·rw[<-e] at p;exact p
 ·rcases Nat.eq_zero_or_pos (ox l.toArray (h_ l.toArray.size false)) with g|g
  ·have:=wL (ops:=l.toArray) (listed:=h_ l.toArray.size false) (by simp) g n (by simp[hlen]);rw[b n] at this;cases this
  ·exact g
end
section
open Go.RowKit Go.Shelf
section
variable {base:Nat}{w w':World}{G:Nat}{hs:Nat->ax}{cb:Nat->Nat}{gj:List Value}{cls:Nat->List Value}{n:Nat}{X:Nat->List Value}
theorem j0.wM(h:j0 base w G hs cb gj cls n X){r m:Nat}(d:(hs r).n=m)(e:m≠0):∃g,(hs r).A=some ⟨g,0,none⟩/\(hs r).b=some g/\(hs r).v=.slice (some ⟨g,0,none⟩) m (hs r).c:=by
 obtain⟨g,h1,f⟩:=h.rows.addr (r:=r) (by rw[d];exact e);exact⟨g,h1,f,by unfold ax.v;rw[h1,d]⟩
theorem j0.get(h:j0 base w G hs cb gj cls n X){r g:Nat}(d:(hs r).b=some g){k:Nat}{v:Value}(c:(X r)[k]? =some v):w.cell? ⟨g,k,none⟩=some v:=by
 have hl:=h.rows.len r;have hk:k<(X r).length:=(List.getElem?_eq_some_iff.1 c).1;rw[h.rows.cell d (by omega)];exact c
theorem j0.ku(h:j0 base w G hs cb gj cls n X){k:Nat}{v:Value}(b:gj[k]? =some v):w.cell? ⟨G,k,none⟩=some v:=by rw[h.box.cell];exact b
end
theorem Ba{k:IntKind}{x y:Int}(h:x=y):Ending.returned (.int k x)=.returned (.int k y):=by rw[h]
theorem sZ(l:Int)(w:World)(b: -1000000<=l)(h1:l<=1000000):Calls Tryz.prog 97 #[.int .i64 l] w λ e w'=>e=.returned (.int .i64 (aG l))/\w=w':=by
 have c:wrap64 (-l)= -l:=by unfold wrap64;omega
 rcases Int.lt_or_le l (-l) with h|h
 ·have e:fE (-l=(aG l:Int)):=aa (by unfold aG;omega);go_enter Tryz.func97,Tryz.ntmps97
  go_wp2
  all_goals
   go_ret;exact⟨Ba e.o,rfl⟩
 ·have e:fE (l=(aG l:Int)):=aa (by unfold aG;omega);go_enter Tryz.func97,Tryz.ntmps97
  go_wp2
  all_goals
   go_ret;exact⟨Ba e.o,rfl⟩
theorem C2(l:Int)(w:World)(d: -1000000<=l)(h1:l<=1000000):Calls Tryz.prog 181 #[.int .i64 l] w λ e w'=>e=.returned (.int .i64 (jE l))/\w=w':=by
 by_cases hl:l<0
 ·have b:wrap64 (-2*l)= -2*l:=by unfold wrap64;omega
  have f:wrap64 (-2*l+1)= -2*l+1:=by unfold wrap64;omega
  have c: -2*l+1=(jE l:Int):=by unfold jE;rw[if_pos hl];omega
  go_enter Tryz.func181,Tryz.ntmps181
  go_wp2;go_ret;exact⟨rfl,rfl⟩
 ·have b:wrap64 (2*l)=2*l:=by unfold wrap64;omega
  have c:2*l=(jE l:Int):=by unfold jE;rw[if_neg hl];omega
  go_enter Tryz.func181,Tryz.ntmps181
  go_wp2;go_ret;exact⟨rfl,rfl⟩
theorem JN{base:Nat}{G:Nat}{hs:Nat->ax}{cb:Nat->Nat}{s:an}(h:jb base w G hs cb s)(l:Int)(f:aG l<s.c.val.length)(i:∀v,aj s.c.val v=0\/aj s.c.val v=1\/aj s.c.val v= -1)(hl:aG l<=65536):
  Calls Tryz.prog 152 #[.pointer (some ⟨G,0,none⟩),.int .i64 l] w λ e w'=>e=.returned (.int .i8 (jW s.c l))/\w=w':=by
 obtain⟨n,j⟩:∃n,(hs 1).n=n:=⟨_,rfl⟩
 have hlen:=h.rows.len 1;have q:s.c.val.length=n:=by
  have:(cont hs cb s 1).length=s.c.val.length:=by simp[cont,sW]
  rw[this] at hlen;have:nD 1=1:=rfl;rw[this] at hlen;omega
 obtain⟨g,-,y,k⟩:=h.wM (r:=1) j (by omega);have B:w.cell? ⟨G,2,none⟩=some (.slice (some ⟨g,0,none⟩) n (hs 1).c):=h.ku (by rw[<-k];rfl);obtain⟨x,b⟩:∃x,aj s.c.val (aG l)=x:=⟨_,rfl⟩
 have z:w.cell? ⟨g,aG l,none⟩=some (.int .i8 x):=h.get y (by
  show(sW s.c.val)[aG l]? =_;unfold sW;rw[d_,k_ f];rw[nh f] at b;rw[b];rfl)
 have t:=i (aG l);rw[b] at t;have A:aG l<n:=by omega
 obtain⟨m,hm⟩:∃m:Nat,aG l=m:=⟨_,rfl⟩
 rw[hm] at z A hl;have C:(m:Int)<(n:Int):=by omega
 by_cases u:l<0
 ·have d:jW s.c l= -x:=by unfold jW;rw[if_pos u,b]
  have D:wrap64 (-l)=(m:Int):=by unfold wrap64;unfold aG at hm;omega
  obtain rfl:l= -(m:Int):=by unfold aG at hm;omega
  have p:=aa d;have E:=aa hm;clear h i f j hlen q k b d hm;have F:IntKind.i8.wrap (-x)= -x:=by rcases t with rfl|rfl|rfl<;>rfl
  go_enter Tryz.func152,Tryz.ntmps152
  go_wp2;go_ret;exact⟨Ba p.o.symm,rfl⟩
 ·have d:jW s.c l=x:=by unfold jW;rw[if_neg u,b]
  obtain rfl:l=(m:Int):=by unfold aG at hm;omega
  have p:=aa d;clear h i f j hlen q k b d hm;go_enter Tryz.func152,Tryz.ntmps152
  go_wp2;go_ret;exact⟨Ba p.o.symm,rfl⟩
end
section
open Go.RowKit Go.Shelf
structure Fr(hs:Nat->ax)(G:Nat)(cb:Nat->Nat)(n:Nat)(w w':World):Prop where
 os:w'.os=w.os
 tape:w'.tape=w.tape
 output:w'.output=w.output
 size:w.heap.size<=w'.heap.size
 keep:∀b,b<w.heap.size->b≠G->(∀r,(hs r).b≠some b)->(∀d,d<n->cb d≠b)->w'.heap[b]? =w.heap[b]?
section
variable {base:Nat}{w w' w1:World}{G:Nat}{hs hs':Nat->ax}{cb:Nat->Nat}{gj:List Value}{cls:Nat->List Value}{n:Nat}{X:Nat->List Value}
theorem Fr.trans(h:Fr hs G cb n w w1)(h':Fr hs G cb n w1 w'):Fr hs G cb n w w':=
 ⟨h'.os.trans h.os,h'.tape.trans h.tape,h'.output.trans h.output,Zl h.size h'.size,λ b c h1 d e=>(h'.keep b (Nat.lt_of_lt_of_le c h.size) h1 d e).trans (h.keep b c h1 d e)⟩
theorem Fr.then(h:Fr hs G cb n w w1)(h':Fr hs' G cb n w1 w')(i:∀r g,(hs' r).b=some g->(∃r',(hs r').b=some g)\/w.heap.size<=g):Fr hs G cb n w w':=
 ⟨h'.os.trans h.os,h'.tape.trans h.tape,h'.output.trans h.output,Zl h.size h'.size,λ b c h1 d f=>(h'.keep b (Nat.lt_of_lt_of_le c h.size) h1 (λ r e=>by
  rcases i r b e with⟨r',j⟩|hle
  ·exact d r' j
  ·omega) f).trans (h.keep b c h1 d f)⟩
theorem Fr.cell(r g k:Nat)(v:Value)(c:(hs r).b=some g):Fr hs G cb n w (w.setCell ⟨g,k,none⟩ v):=by
 have h:=kZ w g k v;exact⟨h.os,h.tape,h.output,h.size,λ b d _ f _=>h.block b d (λ e=>f r (by rw[c];injection e with e;rw[e]))⟩
theorem Fr.ku(k:Nat)(v:Value):Fr hs G cb n w (w.setCell ⟨G,k,none⟩ v):=by
 have h:=kZ w G k v;exact⟨h.os,h.tape,h.output,h.size,λ b c h1 _ _=>h.block b c (λ e=>h1 (by injection e))⟩
theorem Fr.grown(r:Nat)(c:w.grownBy w' (hs r).b):Fr hs G cb n w w':=
 ⟨c.os,c.tape,c.output,c.size,λ b d _ f _=>c.block b d (λ e=>f r e.symm)⟩
theorem Fr.pY(h:Below w.heap.size w w'):Fr hs G cb n w w':=
 ⟨h.os,h.tape,h.output,h.size,λ b c _ _ _=>h.block b c⟩
end
section
variable {base:Nat}{w w':World}{G:Nat}{hs:Nat->ax}{cb:Nat->Nat}{s:an}
theorem jb.kj(h:jb base w G hs cb s):(hs 1).n=s.c.val.length:=by
 have h1:=h.rows.len 1;rw[show(cont hs cb s 1).length=s.c.val.length by simp[cont,sW],show nD 1=1 from rfl] at h1;omega
theorem jb.mu(h:jb base w G hs cb s):(hs 2).n=s.c.lvl.length:=by
 have h1:=h.rows.len 2;rw[show(cont hs cb s 2).length=s.c.lvl.length by simp[cont,qc],show nD 2=1 from rfl] at h1;omega
theorem jb.nN(h:jb base w G hs cb s):(hs 3).n=s.c.j6.length:=by
 have h1:=h.rows.len 3;rw[show(cont hs cb s 3).length=s.c.j6.length by simp[cont,uc],show nD 3=1 from rfl] at h1;omega
theorem jb.j5(h:jb base w G hs cb s):(hs 4).n=s.c.ay.length:=by
 have h1:=h.rows.len 4;rw[show(cont hs cb s 4).length=s.c.ay.length by simp[cont,iY],show nD 4=1 from rfl] at h1;omega
theorem jb.jX(h:jb base w G hs cb s):(hs 5).n=s.c.st.length:=by
 have h1:=h.rows.len 5;rw[show(cont hs cb s 5).length=s.c.st.length by simp[cont,qc],show nD 5=1 from rfl] at h1;omega
theorem jb.n6(h:jb base w G hs cb s):(hs 6).n=s.act.length:=by
 have h1:=h.rows.len 6;rw[show(cont hs cb s 6).length=s.act.length by simp[cont,iY],show nD 6=1 from rfl] at h1;omega
theorem jb.n7(h:jb base w G hs cb s):(hs 7).n=s.ord.length:=by
 have h1:=h.rows.len 7;rw[show(cont hs cb s 7).length=s.ord.length by simp[cont,iY],show nD 7=1 from rfl] at h1;omega
theorem jb.n8(h:jb base w G hs cb s):(hs 8).n=s.pl.length:=by
 have h1:=h.rows.len 8;rw[show(cont hs cb s 8).length=s.pl.length by simp[cont,iY],show nD 8=1 from rfl] at h1;omega
theorem jb.j3(h:jb base w G hs cb s):(hs 9).n=s.gN.length:=by
 have h1:=h.rows.len 9;rw[show(cont hs cb s 9).length=s.gN.length by simp[cont,pI],show nD 9=1 from rfl] at h1;omega
theorem jb.n12(h:jb base w G hs cb s):(hs 12).n=s.aP.length:=by
 have h1:=h.rows.len 12;rw[show(cont hs cb s 12).length=s.aP.length by simp[cont,pI],show nD 12=1 from rfl] at h1;omega
end
section
variable {base:Nat}{w w':World}{G:Nat}{hs:Nat->ax}{cb:Nat->Nat}{s:an}
theorem jb.xQ(h:jb base w G hs cb s){g:Nat}(d:(hs 1).b=some g)(k:Nat)(x:Int):jb base (w.setCell ⟨g,k,none⟩ (.int .i8 x)) G hs cb (s.oQ k x):=by
 refine(h.cell d k (.int .i8 x)).eq rfl rfl rfl (λ _ _=>rfl) rfl (λ r=>?_)
 by_cases e:r=1
 ·subst e;rw[jG];show(sW s.c.val).set k _=sW (s.c.val.set k x);simp[sW,i_]
 ·rw[bh _ _ e];simp only[cont,if_neg e,an.oQ,an.rM,an.qA,an.wH,an.pW,an.tF,an.pJ,an.ud,an.sY]
theorem jb.E7(h:jb base w G hs cb s){g:Nat}(d:(hs 2).b=some g)(k:Nat)(x:Nat):jb base (w.setCell ⟨g,k,none⟩ (.int .i64 (x:Int))) G hs cb (s.rM k x):=by
 refine(h.cell d k (.int .i64 (x:Int))).eq rfl rfl rfl (λ _ _=>rfl) rfl (λ r=>?_)
 by_cases e:r=2
 ·subst e;rw[jG];show(qc s.c.lvl).set k _=qc (s.c.lvl.set k x);simp[qc,i_]
 ·rw[bh _ _ e];simp only[cont,if_neg e,an.oQ,an.rM,an.qA,an.wH,an.pW,an.tF,an.pJ,an.ud,an.sY]
theorem jb.zM(h:jb base w G hs cb s){g:Nat}(d:(hs 3).b=some g)(k:Nat)(x:Option Nat):jb base (w.setCell ⟨g,k,none⟩ (qQ cb x)) G hs cb (s.qA k x):=by
 refine(h.cell d k (qQ cb x)).eq rfl rfl rfl (λ _ _=>rfl) rfl (λ r=>?_)
 by_cases e:r=3
 ·subst e;rw[jG];show(uc cb s.c.j6).set k _=uc cb (s.c.j6.set k x);simp[uc,i_]
 ·rw[bh _ _ e];simp only[cont,if_neg e,an.oQ,an.rM,an.qA,an.wH,an.pW,an.tF,an.pJ,an.ud,an.sY]
theorem jb.Bb(h:jb base w G hs cb s){g:Nat}(c:(hs 6).b=some g)(k:Nat)(x:Int):jb base (w.setCell ⟨g,k,none⟩ (.int .i64 x)) G hs cb (s.pW k x):=by
 refine(h.cell c k (.int .i64 x)).eq rfl rfl rfl (λ _ _=>rfl) rfl (λ r=>?_)
 by_cases e:r=6
 ·subst e;rw[jG];show(iY s.act).set k _=iY (s.act.set k x);simp[iY,i_]
 ·rw[bh _ _ e];simp only[cont,if_neg e,an.oQ,an.rM,an.qA,an.wH,an.pW,an.tF,an.pJ,an.ud,an.sY]
theorem jb.E8(h:jb base w G hs cb s){g:Nat}(c:(hs 7).b=some g)(k:Nat)(x:Int):jb base (w.setCell ⟨g,k,none⟩ (.int .i64 x)) G hs cb (s.tF k x):=by
 refine(h.cell c k (.int .i64 x)).eq rfl rfl rfl (λ _ _=>rfl) rfl (λ r=>?_)
 by_cases e:r=7
 ·subst e;rw[jG];show(iY s.ord).set k _=iY (s.ord.set k x);simp[iY,i_]
 ·rw[bh _ _ e];simp only[cont,if_neg e,an.oQ,an.rM,an.qA,an.wH,an.pW,an.tF,an.pJ,an.ud,an.sY]
theorem jb.xR(h:jb base w G hs cb s){g:Nat}(c:(hs 8).b=some g)(k:Nat)(x:Int):jb base (w.setCell ⟨g,k,none⟩ (.int .i64 x)) G hs cb (s.pJ k x):=by
 refine(h.cell c k (.int .i64 x)).eq rfl rfl rfl (λ _ _=>rfl) rfl (λ r=>?_)
 by_cases e:r=8
 ·subst e;rw[jG];show(iY s.pl).set k _=iY (s.pl.set k x);simp[iY,i_]
 ·rw[bh _ _ e];simp only[cont,if_neg e,an.oQ,an.rM,an.qA,an.wH,an.pW,an.tF,an.pJ,an.ud,an.sY]
theorem jb.zN(h:jb base w G hs cb s){g:Nat}(c:(hs 9).b=some g)(k:Nat)(x:Bool):jb base (w.setCell ⟨g,k,none⟩ (.bool x)) G hs cb (s.ud k x):=by
 refine(h.cell c k (.bool x)).eq rfl rfl rfl (λ _ _=>rfl) rfl (λ r=>?_)
 by_cases e:r=9
 ·subst e;rw[jG];show(pI s.gN).set k _=pI (s.gN.set k x);simp[pI,i_]
 ·rw[bh _ _ e];simp only[cont,if_neg e,an.oQ,an.rM,an.qA,an.wH,an.pW,an.tF,an.pJ,an.ud,an.sY]
theorem jb.wN(h:jb base w G hs cb s){g:Nat}(c:(hs 12).b=some g)(k:Nat)(x:Bool):jb base (w.setCell ⟨g,k,none⟩ (.bool x)) G hs cb (s.sY k x):=by
 refine(h.cell c k (.bool x)).eq rfl rfl rfl (λ _ _=>rfl) rfl (λ r=>?_)
 by_cases e:r=12
 ·subst e;rw[jG];show(pI s.aP).set k _=pI (s.aP.set k x);simp[pI,i_]
 ·rw[bh _ _ e];simp only[cont,if_neg e,an.oQ,an.rM,an.qA,an.wH,an.pW,an.tF,an.pJ,an.ud,an.sY]
end
section
variable {base:Nat}{w w':World}{G:Nat}{hs:Nat->ax}{cb:Nat->Nat}{gj:List Value}{cls:Nat->List Value}{n:Nat}{X:Nat->List Value}
theorem j0.lW(h:j0 base w G hs cb gj cls n X)(k r:Nat){m:Nat}(hk:gj[k]? =some (hs r).v)(e:(hs r).n=m)(f:m≠0):
  ∃g,(hs r).b=some g/\w.cell? ⟨G,k,none⟩=some (.slice (some ⟨g,0,none⟩) m (hs r).c)/\∀j,w.frozen? ⟨g,j,none⟩=false:=by
 obtain⟨g,h1,d,i⟩:=h.wM (r:=r) e f;exact⟨g,d,by rw[<-i];exact h.ku hk,λ j=>h.rows.free d j⟩
theorem j0.free(h:j0 base w G hs cb gj cls n X)(k:Nat):w.frozen? ⟨G,k,none⟩=false:=h.box.free k
theorem j0.wO(h:j0 base w G hs cb gj cls n X){r r' g mZ:Nat}(c:r≠r')(h1:(hs r).b=some g)(d:(hs r').b=some mZ):g≠mZ:=λ e=>by
 subst e;exact h.rows.apart r r' g c h1 d
end
section
variable {base:Nat}{w w':World}{G:Nat}{hs:Nat->ax}{cb:Nat->Nat}{s:an}
theorem jb.zO(h:jb base w G hs cb s){g:Nat}(d:(hs 1).b=some g){k:Nat}(hk:k<s.c.val.length):w.cell? ⟨g,k,none⟩=some (.int .i8 (aj s.c.val k)):=h.get d (by
 show(sW s.c.val)[k]? =_;rw[nh hk];simp[sW,hk])
theorem jb.vH(h:jb base w G hs cb s){g:Nat}(d:(hs 2).b=some g){k:Nat}(hk:k<s.c.lvl.length):w.cell? ⟨g,k,none⟩=some (.int .i64 (gV s.c.lvl k:Int)):=h.get d (by
 show(qc s.c.lvl)[k]? =_;rw[vf hk];simp[qc,hk])
theorem jb.yB(h:jb base w G hs cb s){g:Nat}(d:(hs 3).b=some g){k:Nat}(hk:k<s.c.j6.length):w.cell? ⟨g,k,none⟩=some (qQ cb (mo s.c.j6 k)):=h.get d (by
 show(uc cb s.c.j6)[k]? =_;rw[ER hk];simp[uc,hk])
theorem jb.zP(h:jb base w G hs cb s){g:Nat}(d:(hs 4).b=some g){k:Nat}(hk:k<s.c.ay.length):w.cell? ⟨g,k,none⟩=some (.int .i64 (aj s.c.ay k)):=h.get d (by
 show(iY s.c.ay)[k]? =_;rw[nh hk];simp[iY,hk])
theorem jb.E9(h:jb base w G hs cb s){g:Nat}(d:(hs 5).b=some g){k:Nat}(hk:k<s.c.st.length):w.cell? ⟨g,k,none⟩=some (.int .i64 (gV s.c.st k:Int)):=h.get d (by
 show(qc s.c.st)[k]? =_;rw[vf hk];simp[qc,hk])
theorem jb.yC(h:jb base w G hs cb s){g:Nat}(c:(hs 6).b=some g){k:Nat}(hk:k<s.act.length):w.cell? ⟨g,k,none⟩=some (.int .i64 (aj s.act k)):=h.get c (by
 show(iY s.act)[k]? =_;rw[nh hk];simp[iY,hk])
theorem jb.xS(h:jb base w G hs cb s){g:Nat}(c:(hs 7).b=some g){k:Nat}(hk:k<s.ord.length):w.cell? ⟨g,k,none⟩=some (.int .i64 (aj s.ord k)):=h.get c (by
 show(iY s.ord)[k]? =_;rw[nh hk];simp[iY,hk])
theorem jb.wP(h:jb base w G hs cb s){g:Nat}(c:(hs 8).b=some g){k:Nat}(hk:k<s.pl.length):w.cell? ⟨g,k,none⟩=some (.int .i64 (aj s.pl k)):=h.get c (by
 show(iY s.pl)[k]? =_;rw[nh hk];simp[iY,hk])
theorem jb.Fa(h:jb base w G hs cb s){g:Nat}(c:(hs 9).b=some g){k:Nat}(hk:k<s.gN.length):w.cell? ⟨g,k,none⟩=some (.bool (iU s.gN k)):=h.get c (by
 show(pI s.gN)[k]? =_;simp[pI,iU,hk,y_])
theorem jb.zQ(h:jb base w G hs cb s){g:Nat}(c:(hs 12).b=some g){k:Nat}(hk:k<s.aP.length):w.cell? ⟨g,k,none⟩=some (.bool (iU s.aP k)):=h.get c (by
 show(pI s.aP)[k]? =_;simp[pI,iU,hk,y_])
end
end
section
open Go.RowKit Go.Shelf
theorem vI(hs:Nat->ax)(cb:Nat->Nat)(s:an){mw:Nat}(b:mw<13)(h':ax)(r:Nat):cont (iN hs mw h') cb s r=cont hs cb s r:=by
 unfold cont;have:∀k,iN hs mw h' (iA k)=hs (iA k):=λ k=>bh _ _ (by unfold iA;omega)
 simp only[this]
theorem vJ(hs:Nat->ax)(s:an){mw:Nat}(b:mw<13)(h':ax)(d:Nat):tE (iN hs mw h') s d=tE hs s d:=by
 unfold tE;rw[bh _ _ (by unfold kr;omega)]
section
variable {base:Nat}{w bG:World}{G:Nat}{hs:Nat->ax}{cb:Nat->Nat}{s:an}
theorem j0.rm{gj:List Value}{cls:Nat->List Value}{n:Nat}{X:Nat->List Value}(h:j0 base w G hs cb gj cls n X)(k:Nat){r g m:Nat}(d:(hs r).b=some g)(e:(hs r).n=m)(hk:gj[k]? =some (hs r).v):w.cell? ⟨G,k,none⟩=some (.slice (some ⟨g,0,none⟩) m (hs r).c):=by
 rw[h.ku hk];unfold ax.v;rw[(h.rows.form d).1,e]
theorem j0.after{gj:List Value}{cls:Nat->List Value}{n:Nat}{X:Nat->List Value}(h:j0 base w G hs cb gj cls n X){r:Nat}(c:w.grownBy bG (hs r).b)(k:Nat):bG.cell? ⟨G,k,none⟩=w.cell? ⟨G,k,none⟩/\bG.frozen? ⟨G,k,none⟩=false:=by
 have hk:=h.box.kept c (λ e=>h.ue r G e.symm rfl);exact⟨by rw[hk.cell,h.box.cell],hk.free k⟩
theorem jb.Fb(h:jb base w G hs cb s){v':Value}{x:Int}(m:nW w base 3 (hs 4).v (s.c.ay.length+1) ((s.c.ay++[x]).map (Zu .i64)) v' bG):
  ∃(A':Option Addr)(c':Nat),v'=.slice A' (s.c.ay.length+1) c'/\((ax.mk A' (s.c.ay.length+1) c').b=(hs 4).b\/(ax.mk A' (s.c.ay.length+1) c').b=some w.heap.size)/\bG.cell? ⟨G,5,none⟩=some (hs 4).v/\bG.frozen? ⟨G,5,none⟩=false/\
   jb base (bG.setCell ⟨G,5,none⟩ v') G (iN hs 4 ⟨A',s.c.ay.length+1,c'⟩) cb (s.yx x)/\Fr hs G cb s.c.cl.length w (bG.setCell ⟨G,5,none⟩ v'):=by
 obtain⟨j,i,f⟩:=m;obtain⟨h',rfl,k⟩:=ax.lG j;rw[ax.own] at i f;rw[ax.own] at f;obtain⟨a1,a2⟩:=h.after i 5;have n:=h.iT (r:=4) (h':=h') i (by rw[k];exact j) (f.imp id (λ e g i=>by rw[e] at i;injection i with i;omega));have o:=n.field 5 h'.v;obtain⟨A',p,c'⟩:=h';obtain rfl:p=_:=k;refine⟨A',c',rfl,f,by rw[a1];exact h.ku rfl,a2,?_,?_⟩
 ·refine o.eq rfl rfl rfl (λ d _=>(vJ hs s (by omega) _ d).symm) rfl (λ r=>?_);rw[vI hs cb _ (by omega)]
  by_cases e:r=4
  ·subst e;rw[jG];rfl
  ·rw[bh _ _ e];simp only[cont,if_neg e,an.yx]
 ·refine(Fr.grown 4 i).then (hs':=iN hs 4 ⟨A',s.c.ay.length+1,c'⟩) (Fr.ku 5 _) (λ r g e=>?_)
  by_cases l:r=4
  ·subst l;rw[jG] at e;rcases f with f|f
   ·exact n_ ⟨4,f▸e⟩
   ·rw[f] at e;injection e with e;exact t_ (by omega)
  ·rw[bh _ _ l] at e;exact n_ ⟨r,e⟩
end
end
end Go.Proofs.YtogdlkfacflmaaaGreat
