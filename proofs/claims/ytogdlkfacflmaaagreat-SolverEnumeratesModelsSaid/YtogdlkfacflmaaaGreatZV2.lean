/- Parts of the walk of the solver and its core; no condition. -/
import Derived.Test.YtogdlkfacflmaaaGreatZV1
import Derived.Orders
import Derived.Below
import Derived.BigRegion
namespace Go.Proofs.YtogdlkfacflmaaaGreat
set_option linter.unusedVariables false
set_option linter.unusedSimpArgs false
set_option maxRecDepth 100000
set_option maxHeartbeats 4000000
open _root_.Or renaming inr→z_,inl→w_
open _root_.Array renaming getD_eq_getD_getElem?→y_,getElem?_eq_getElem→p_,all_eq_true_iff_forall_mem→k_,getElem?_setIfInBounds_self_of_lt→h_,getElem?_setIfInBounds_ne→a_,getElem?_eq_some_iff→Ze
open _root_.List renaming getD_eq_getElem?_getD→x_,mem_singleton→t_,mem_cons→s_,length_append→q_,take_append_of_le_length→o_,mem_range→n_,mem_filter→m_,range→l_,drop_eq_getElem_cons→j_,length_set→i_,mem_append→f_,length_singleton→e_,getElem?_eq_getElem→d_,map_set→b_,length_take→Zt,take_length→Zr,length_pos_iff→Zq,getElem?_map→Zp,getElem?_toArray→Zm,nodup_cons→Zl,mem_map→Zk,filter_eq_self→Zh,all_eq_true→Zd,length_eq_zero_iff→Z3,replicate→Z8,getElem?_eq_none→Z9
open _root_.And renaming intro→v_
open _root_.Nat renaming lt_or_ge→u_,le_refl→r_,add_sub_cancel→Zw,lt_of_lt_of_le→Zf,le_trans→Z0,strongRecOn→Z4
open _root_.Go.Proofs.Tryz renaming prog→g_
open _root_.Bool renaming and_eq_true→c_,and_true→Zn
open _root_.Go.RowKit.Below renaming refl→Zx
open _root_.Int renaming toNat_natCast→Zv,neg_neg→Zo,le_trans→Zi,lt_or_le→ZZ
open _root_.Go.Region renaming binds→Zu,ready→Zj
open _root_.Iff renaming rfl→Zg
open _root_.Option renaming getD_some→Zc,map_some→Z6
open _root_.Go.Value renaming int→Z5
open _root_.Go renaming wpQuiet_nil→Z7
open _root_.Decidable renaming em→Z_
variable{F:List (List Int)}{c:Core}{n k i base G g7 g8 ia pF:Nat}{l:List Int}{ops:Array Oper}{listed:Array Bool}{w:World}{hs:Nat->aq}{cb:Nat->Nat}{A B A' q5:Int}{K:Nat->Prop}
section
def wQ(wt:List (List Nat))(l:List Int)(d:Nat):List (List Nat):=
 let w':=wt.set (jy (-(ai l 0))) (aA wt (jy (-(ai l 0)))++[d])
 w'.set (jy (-(ai l 1))) (aA w' (jy (-(ai l 1)))++[d])
def kj(c:Core)(l:List Int):Core:={c with cl:=c.cl++[l],wt:=if 2<=l.length then wQ c.wt l c.cl.length else c.wt}
section
variable {F Fd:List (List Int)}{c:Core}{l:List Int}
theorem rT{d:Nat}(b:d<c.cl.length):aA (kj c l).cl d=aA c.cl d:=Bm b
theorem rU:aA (kj c l).cl c.cl.length=l:=uQ _ _
theorem qK:(kj c l).cl.length=c.cl.length+1:=by simp[kj]
theorem jU.new(h:jU c):jU (kj c l):=by
 refine⟨h.rP,h.pN,h.pe,h.lit,h.nu,h.um,h.pos,h.ru,h.oI,h.mz,λ i d=>?_⟩;have:=h.qc i d;show match mw c.j9 (aI (ai c.av i)) with
   |none=>∃k,k<c.st.length/\gO c.st k=i
   |some e=>e<(kj c l).cl.length/\ai c.av i∈aA (kj c l).cl e/\∀x∈aA (kj c l).cl e,x≠ai c.av i-> -x∈c.av.take i
 cases b:mw c.j9 (aI (ai c.av i)) with
 |none=>rw[b] at this;exact this
 |some e=>
  rw[b] at this;obtain⟨h1,f,g⟩:=this;show e<(kj c l).cl.length/\ai c.av i∈aA (kj c l).cl e/\∀x∈aA (kj c l).cl e,x≠ai c.av i-> -x∈c.av.take i;rw[qK,rT h1];exact⟨by omega,f,g⟩
theorem Ke(hl:oT c.n l)(g:2<=l.length)(hs:c.wt.length=2*c.n+2)(j:Nat):
  aA (wQ c.wt l c.cl.length) j=if j=jy (-(ai l 0))\/j=jy (-(ai l 1)) then aA c.wt j++[c.cl.length] else aA c.wt j:=by
 obtain⟨m0,m1,i,_⟩:=hl.w g;have k:jy (-(ai l 0))≠jy (-(ai l 1)):=λ e=>i (by have:=vT e;omega)
 have aG:jy (-(ai l 0))<c.wt.length:=by rw[hs];exact(hl.lt _ m0).neg.at
 have s1:jy (-(ai l 1))<c.wt.length:=by rw[hs];exact(hl.lt _ m1).neg.at
 unfold wQ;simp only[qI,i_]
 by_cases d:j=jy (-(ai l 1))
 ·subst d;rw[if_pos ⟨rfl,s1⟩,if_pos (z_ rfl),if_neg (λ b=>k b.1)]
 ·rw[if_neg (λ b=>d b.1.symm)]
  by_cases f:j=jy (-(ai l 0))
  ·subst f;rw[if_pos ⟨rfl,aG⟩,if_pos (w_ rfl)]
  ·rw[if_neg (λ b=>f b.1.symm),if_neg (λ b=>b.elim f d)]
theorem ur{d:Nat}(b:d<c.cl.length):w0 (kj c l) d=w0 c d/\w1 (kj c l) d=w1 c d:=by
 unfold w0 w1;rw[rT b];exact⟨rfl,rfl⟩
theorem vA:w0 (kj c l) c.cl.length=ai l 0/\w1 (kj c l) c.cl.length=ai l 1:=by
 unfold w0 w1;rw[rU];exact⟨rfl,rfl⟩
theorem yE.new(h:yE c)(hl:oT c.n l):yE (kj c l):=by
 have k:∀j,aA (kj c l).wt j=if 2<=l.length/\(j=jy (-(ai l 0))\/j=jy (-(ai l 1))) then aA c.wt j++[c.cl.length] else aA c.wt j:=λ j=>by
  show aA (if 2<=l.length then wQ c.wt l c.cl.length else c.wt) j=_
  by_cases m:2<=l.length
  ·rw[if_pos m,Ke hl m h.qW]
   by_cases f:j=jy (-(ai l 0))\/j=jy (-(ai l 1))
   ·rw[if_pos f,if_pos ⟨m,f⟩]
   ·rw[if_neg f,if_neg (λ p=>f p.2)]
  ·rw[if_neg m,if_neg (λ p=>m p.1)]
 refine⟨?_,λ j d g=>?_,λ j=>?_,λ d g o=>?_⟩
 ·show(if 2<=l.length then wQ c.wt l c.cl.length else c.wt).length=_;split
  ·unfold wQ;simp[h.qW];rfl
  ·exact h.qW
 ·rw[k] at g
  by_cases f:2<=l.length/\(j=jy (-(ai l 0))\/j=jy (-(ai l 1)))
  ·rw[if_pos f] at g;rcases f_.1 g with q|q
   ·obtain⟨i,k2,k3⟩:=h.qX j d q;rw[qK,rT i,(ur i).1,(ur i).2];exact⟨by omega,k2,k3⟩
   ·rw[t_.1 q,qK,rU,vA.1,vA.2];exact⟨by omega,f.1,f.2⟩
  ·rw[if_neg f] at g;obtain⟨i,k2,k3⟩:=h.qX j d g;rw[qK,rT i,(ur i).1,(ur i).2];exact⟨by omega,k2,k3⟩
 ·rw[k];split
  ·rw[List.nodup_append];refine⟨h.td j,by simp,λ a r b s e=>?_⟩;rw[t_.1 s] at e;have:=(h.qX j a r).1;omega
  ·exact h.td j
 ·rw[qK] at g
  by_cases e:d<c.cl.length
  ·rw[rT e] at o;rw[(ur e).1,(ur e).2,k,k];have:=h.uS d e o;constructor
   ·split
    ·simp[this.1]
    ·exact this.1
   ·split
    ·simp[this.2]
    ·exact this.2
  ·obtain rfl:d=c.cl.length:=by omega
   rw[rU] at o;rw[vA.1,vA.2,k,k,if_pos ⟨o,w_ rfl⟩,if_pos ⟨o,z_ rfl⟩];simp
theorem kf.new{h:Nat}{g:List Int}(L:kf F Fd c h [])(hl:oT c.n l)(r:pM F l)(s:∀x,x∈l↔x∈g)
  (t:2<=l.length->∀a b,(a=ai l 0/\b=ai l 1\/a=ai l 1/\b=ai l 0)-> -a∈c.av.take h->b∈c.av/\aS c b<=aS c a)
  (u:∀k,k<c.st.length->wM (c.av.take (gO c.st k)) l) (hu:l.length=1->c.lC=true\/∃i,i<c.av.length/\ai c.av i=ai l 0/\lu c.st i=0):
  kf F (Fd++[g]) (kj c l) h []:=by
 refine⟨L.au.new,⟨λ d j=>?_,λ d j=>?_,λ v w=>?_,L.jG.tQ,?_⟩,L.wt.new hl,λ d j f a b m q=>?_,λ k hk d j=>?_,L.cur,L.hle⟩
 ·rw[qK] at j
  by_cases e:d<c.cl.length
  ·rw[rT e];exact L.jG.mD d e
  ·obtain rfl:d=c.cl.length:=by omega
   rw[rU];exact hl
 ·rw[qK] at j
  by_cases e:d<c.cl.length
  ·rw[rT e];exact L.jG.imp d e
  ·obtain rfl:d=c.cl.length:=by omega
   rw[rU];exact r
 ·rcases f_.1 w with h1|h1
  ·rcases L.jG.tP v h1 with f|f|f|⟨d,j,f⟩
   ·exact w_ f
   ·exact z_ (w_ f)
   ·exact z_ (z_ (w_ f))
   ·exact z_ (z_ (z_ ⟨d,by rw[qK];omega,by rw[rT j];exact f⟩))
  ·rw[t_.1 h1];exact z_ (z_ (z_ ⟨c.cl.length,by rw[qK];omega,by rw[rU];exact s⟩))
 ·by_cases o:c.lC=true
  ·exact w_ o
  ·refine z_ λ d j h1=>?_
   rw[qK] at j
   by_cases e:d<c.cl.length
   ·rw[rT e] at h1;rw[(ur e).1];exact(L.jG.tR.resolve_left o) d e h1
   ·obtain rfl:d=c.cl.length:=by omega
    rw[rU] at h1;rw[vA.1];exact(hu h1).resolve_left o
 ·rw[qK] at j;right
  by_cases e:d<c.cl.length
  ·rw[rT e] at f;unfold wO at m;rw[(ur e).1,(ur e).2] at m;rcases L.rR d e f a b m q with⟨p,_⟩|p
   ·cases p
   ·exact p
  ·obtain rfl:d=c.cl.length:=by omega
   rw[rU] at f;unfold wO at m;rw[vA.1,vA.2] at m;exact t f a b m q
 ·rw[qK] at j
  by_cases e:d<c.cl.length
  ·rw[rT e];exact L.rS k hk d e
  ·obtain rfl:d=c.cl.length:=by omega
   rw[rU];exact u k hk
theorem kf.FH{h:Nat}{g:List Int}(L:kf F Fd c h [])(hl:oT c.n l)(p:pM F l)(D:∀x,x∈l↔x∈g)(s:jY c (ai l 0)=0)(E:∀y∈l,y≠ai l 0-> -y∈c.av)
  (G:l.length=1->c.st.length=0) (H:2<=l.length->c.st.length<=aS c (ai l 1))
  (I:∀k,k<c.st.length->wM (c.av.take (gO c.st k)) l):
  kf F (Fd++[g]) (k5 (kj c l) (ai l 0) (some c.cl.length)) h []:=by
 have u:0<l.length:=Zq.2 hl.ne;have r:=hl.lt _ (lY u);have m:(k5 (kj c l) (ai l 0) (some c.cl.length)).av=c.av++[ai l 0]:=rfl;have J:=L.au.new (l:=l)|>.set (c:=kj c l) (x:=ai l 0) (w:=some c.cl.length) r s (by
  refine⟨by rw[qK];omega,?_,?_⟩
  ·rw[rU];exact lY u
  ·rw[rU];exact E)
 have v:∀i,i<c.av.length->ai (c.av++[ai l 0]) i=ai c.av i:=λ i p=>sJ p
 refine⟨J,⟨λ d f=>?_,λ d f=>?_,λ z K=>?_,L.jG.tQ,?_⟩,?_,λ d f j a b o t=>?_,λ k hk d f=>?_,L.cur,by rw[m,q_];have:=L.hle;omega⟩
 ·have f:d<(kj c l).cl.length:=f;rw[qK] at f;show oT c.n (aA (kj c l).cl d)
  by_cases e:d<c.cl.length
  ·rw[rT e];exact L.jG.mD d e
  ·obtain rfl:d=c.cl.length:=by omega
   rw[rU];exact hl
 ·have f:d<(kj c l).cl.length:=f;rw[qK] at f;show pM F (aA (kj c l).cl d)
  by_cases e:d<c.cl.length
  ·rw[rT e];exact L.jG.imp d e
  ·obtain rfl:d=c.cl.length:=by omega
   rw[rU];exact p
 ·rcases f_.1 K with h1|h1
  ·rcases L.jG.tP z h1 with j|j|⟨i,p,j,q⟩|⟨d,f,j⟩
   ·exact w_ j
   ·exact z_ (w_ j)
   ·refine z_ (z_ (w_ ⟨i,by rw[m,q_];omega,?_,q⟩));rw[m,v i p];exact j
   ·refine z_ (z_ (z_ ⟨d,?_,?_⟩))
    ·show d<(kj c l).cl.length;rw[qK];omega
    ·show∀x,x∈aA (kj c l).cl d↔x∈z;rw[rT f];exact j
  ·rw[t_.1 h1];refine z_ (z_ (z_ ⟨c.cl.length,?_,?_⟩))
   ·show c.cl.length<(kj c l).cl.length;rw[qK];omega
   ·show∀x,x∈aA (kj c l).cl c.cl.length↔x∈g;rw[rU];exact D
 ·by_cases A:c.lC=true
  ·exact w_ A
  ·refine z_ λ d f h1=>?_
   have f:d<(kj c l).cl.length:=f;have h1:(aA (kj c l).cl d).length=1:=h1;rw[qK] at f
   by_cases e:d<c.cl.length
   ·rw[rT e] at h1;obtain⟨i,p,M,N⟩:=(L.jG.tR.resolve_left A) d e h1;refine⟨i,by rw[m,q_];omega,?_,N⟩;rw[m,v i p,M];exact(ur e).1.symm
   ·obtain rfl:d=c.cl.length:=by omega
    rw[rU] at h1;have hs:=G h1;refine⟨c.av.length,by rw[m];simp,?_,?_⟩
    ·rw[m,xM];exact vA.1.symm
    ·have:=wN c.st c.av.length;show lu c.st c.av.length=0;omega
 ·have:=L.wt.new hl;exact⟨this.qW,this.qX,this.td,this.uS⟩
 ·have f:d<(kj c l).cl.length:=f;have j:2<=(aA (kj c l).cl d).length:=j;have o:wO (kj c l) d a b:=o;rw[m,o_ L.hle] at t;rw[qK] at f;right;have B:aI a≠aI (ai l 0):=by
   have:=vV L.au r s (sK t)
   rwa[oG] at this
  have C:∀y,aS (k5 (kj c l) (ai l 0) (some c.cl.length)) y=if aI y=aI (ai l 0) then c.st.length else aS c y:=λ y=>Bn (c:=kj c l) (L.au.new) r y
  rw[C,C,if_neg B,m,f_,t_]
  by_cases e:d<c.cl.length
  ·rw[rT e] at j;unfold wO at o;rw[(ur e).1,(ur e).2] at o;rcases L.rR d e j a b o t with⟨q,_⟩|⟨q,O⟩
   ·cases q
   ·rw[if_neg (vV L.au r s q)];exact⟨w_ q,O⟩
  ·obtain rfl:d=c.cl.length:=by omega
   rw[rU] at j;unfold wO at o;rw[vA.1,vA.2] at o;rcases o with⟨rfl,rfl⟩|⟨rfl,rfl⟩
   ·exact absurd rfl B
   ·rw[if_pos rfl];exact⟨z_ rfl,H j⟩
 ·have f:d<(kj c l).cl.length:=f;rw[qK] at f;show wM ((c.av++[ai l 0]).take (gO c.st k)) (aA (kj c l).cl d);rw[o_ (L.au.oI k hk)]
  by_cases e:d<c.cl.length
  ·rw[rT e];exact L.rS k hk d e
  ·obtain rfl:d=c.cl.length:=by omega
   rw[rU];exact I k hk
theorem kf.more{h:Nat}{P:List Nat}{g:List Int}(L:kf F Fd c h P)(b:c.lC=true\/vw g\/∃i,i<c.av.length/\ai c.av i∈g/\lu c.st i=0):kf F (Fd++[g]) c h P:=by
 refine⟨L.au,⟨L.jG.mD,L.jG.imp,λ d e=>?_,L.jG.tQ,L.jG.tR⟩,L.wt,L.rR,L.rS,L.cur,L.hle⟩;rcases f_.1 e with h1|h1
 ·exact L.jG.tP d h1
 ·rw[t_.1 h1];rcases b with b|b|b
  ·exact w_ b
  ·exact z_ (w_ b)
  ·exact z_ (z_ (w_ b))
def wR(c:Core):Core:={c with lC:=true}
theorem kf.FI{h:Nat}{P:List Nat}(L:kf F Fd c h P)(hu:Unsat F):kf F Fd (wR c) h P:=
 ⟨⟨L.au.rP,L.au.pN,L.au.pe,L.au.lit,L.au.nu,L.au.um,L.au.pos,L.au.ru,L.au.oI,L.au.mz,L.au.qc⟩,⟨L.jG.mD,L.jG.imp,λ g _=>w_ rfl,λ _=>hu,w_ rfl⟩,⟨L.wt.qW,L.wt.qX,L.wt.td,L.wt.uS⟩,L.rR,L.rS,L.cur,L.hle⟩
theorem kf.same{h:Nat}{P:List Nat}{FJ:List (List Int)}(L:kf F Fd c h P)(he:∀g∈FJ,g∈Fd):kf F FJ c h P:=
 ⟨L.au,⟨L.jG.mD,L.jG.imp,λ g b=>L.jG.tP g (he g b),L.jG.tQ,L.jG.tR⟩,L.wt,L.rR,L.rS,L.cur,L.hle⟩
end
section
variable {F Fd:List (List Int)}{c:Core}{h:Nat}{d:Nat}{rest:List Nat}
theorem kf.next(L:kf F Fd c h [])(l:h<c.av.length):kf F Fd {c with ag:=h+1} (h+1) (aA c.wt (jy (ai c.av h))):=by
 refine⟨⟨L.au.rP,L.au.pN,L.au.pe,L.au.lit,L.au.nu,L.au.um,L.au.pos,L.au.ru,L.au.oI,L.au.mz,L.au.qc⟩,⟨L.jG.mD,L.jG.imp,L.jG.tP,L.jG.tQ,L.jG.tR⟩,⟨L.wt.qW,L.wt.qX,L.wt.td,L.wt.uS⟩,λ e he hl a b g m=>?_,L.rS,λ k hk=>Nat.le_succ_of_le (L.cur k hk),l⟩;obtain⟨j,h1,n,d⟩:=pX.1 m
 by_cases o:j<h
 ·rcases L.rR e he hl a b g (pX.2 ⟨j,o,n,d⟩) with⟨f,_⟩|f
  ·cases f
  ·exact z_ f
 ·obtain rfl:j=h:=by omega
  left;refine⟨?_,d⟩;have i:=L.wt.uS e he hl;rw[d];rcases g with⟨rfl,rfl⟩|⟨rfl,rfl⟩
  ·exact i.1
  ·exact i.2
theorem kf.kept(L:kf F Fd c h (d::rest))(o:d<c.cl.length)(p:2<=(aA c.cl d).length)(C:h≠0)(q:ai c.av (h-1)= -(w1 c d))(g:w0 c d∈c.av)(r:∀k,k<c.st.length->gO c.st k<=h-1):kf F Fd c h rest:=by
 have s:=L.jG.mD d o;refine⟨L.au,L.jG,L.wt,λ e he hl a b m f=>?_,L.rS,L.cur,L.hle⟩
 by_cases n:e=d
 ·subst n;right;obtain⟨m0,m1,D,_⟩:=s.w p;rcases m with⟨rfl,rfl⟩|⟨rfl,rfl⟩
  ·exact absurd (sK f) (L.au.apart g)
  ·refine⟨g,?_⟩;have t:h-1<c.av.length:=by have:=L.hle;omega
   obtain⟨i,u,v⟩:=qn.1 g;have y:aS c (w0 c e)=lu c.st i:=by rw[<-L.au.mz i u];rw[<-v]
   have z:aS c (w1 c e)=lu c.st (h-1):=by
    rw[<-L.au.mz _ t,q];unfold aS;rw[oG]
   have A:lu c.st (h-1)=c.st.length:=by
    unfold lu;rw[List.countP_eq_length];intro a f;obtain⟨k,hk,e⟩:=List.mem_iff_getElem.1 f;have:=r k hk;rw[vz hk,e] at this;simpa using this
   rw[y,z,A];exact wN _ _
 ·rcases L.rR e he hl a b m f with⟨j,B⟩|j
  ·rcases s_.1 j with l|l
   ·exact absurd l n
   ·exact w_ ⟨l,B⟩
  ·exact z_ j
theorem kf.low{P:List Nat}(L:kf F Fd c h P)(p:h≠0)(g:∀k,k<c.st.length->gO c.st k<=h-1):kf F Fd c (h-1) []:=by
 refine⟨L.au,L.jG,L.wt,λ e he hl a b l d=>?_,L.rS,g,by have:=L.hle;omega⟩;right;rcases L.rR e he hl a b l (Dc d (by omega)) with⟨f,m⟩|f
 ·exfalso;obtain⟨j,q,n,o⟩:=pX.1 d;have:=L.au.place (i:=h-1) (j:=j) (by have:=L.hle;omega) n (by rw[m,o]);omega
 ·exact f
end
theorem Kf{Fd:List (List Int)}(L:kf F Fd c c.av.length [])(l:c.lC=false)(m:∀x,gF c.n x->jY c x≠0){M:Int->Bool}(o:Mod M)(hm:∀x,gF c.n x->(M x=true↔jY c x=1))(hF:∀g∈Fd,∀x∈g,gF c.n x):∀g∈Fd,uk M g:=by
 intro g j;have T:=L.au;rcases L.jG.tP g j with h|h|⟨i,p,h,_⟩|⟨d,k,h⟩
 ·rw[l] at h;cases h
 ·exact h.J6 o
 ·refine⟨_,h,?_⟩;rw[hm _ (hF g j _ h)];exact(T.pos _ (hF g j _ h)).2 (lY p)
 ·rcases FE L l d k with⟨x,f,q⟩|⟨x,f,y,t,u,h1,v⟩
  ·have e:=(L.jG.mD d k).lt x f;exact⟨x,(h x).1 f,(hm x e).2 ((T.pos x e).2 q)⟩
  ·have e:=(L.jG.mD d k).lt x f;refine⟨x,(h x).1 f,(hm x e).2 ?_⟩;have b:=T.range x;have r:=m x e;have s:=T.xP e;rcases b with b|b|b
   ·exact absurd b r
   ·exact b
   ·exact absurd (s.1 b) h1
end
section
structure uU(F:List (List Int))(c:Core)(l:List Int)(level:Nat):Prop where
 ok:oT c.n l
 imp:pM F l
 Bo:∀x∈l,-x∈c.av
 top:aS c (ai l 0)=c.st.length
 Kg:∀k,1<=k->k<l.length->aS c (ai l k)<=level
 mz:level<c.st.length
 snd:2<=l.length->aS c (ai l 1)=level
 one:l.length=1->level=0
section
variable {F Fd:List (List Int)}{c:Core}{l:List Int}{level:Nat}
theorem jU.at(T:jU c){x:Int}(d: -x∈c.av):∃j,j<c.av.length/\ai c.av j= -x/\lu c.st j=aS c x:=by
 obtain⟨j,b,e⟩:=qn.1 d;refine⟨j,b,e,?_⟩;rw[<-T.mz j b,e];unfold aS;rw[oG]
theorem uU.low(L:uU F c l level)(T:jU c):∀x∈l,x≠ai l 0-> -x∈c.av.take (gO c.st level):=by
 intro x b d;obtain⟨k,hk,e⟩:=qn.1 b;have f:1<=k:=by
  rcases Nat.eq_zero_or_pos k with h|h
  ·subst h;exact absurd e.symm d
  ·exact h
 have h1:=L.Kg k f hk;rw[e] at h1;obtain⟨j,g,m,o⟩:=T.at (L.Bo x b);have p:¬gO c.st level<=j:=λ n=>by have:=(uo T (i:=j) L.mz).2 n;omega
 exact pX.2 ⟨j,by omega,g,m⟩
theorem uU.fresh(L:uU F c l level)(T:jU c):jY (mE c level) (ai l 0)=0:=by
 have b:0<l.length:=Zq.2 L.ok.ne;have hm:=lY b;have d:=L.ok.lt _ hm;rw[(T.back L.mz).open d];have f:(mE c level).av=c.av.take (gO c.st level):=rfl;rw[f];refine⟨λ h=>T.apart (sK h) (L.Bo _ hm),λ h=>?_⟩;obtain⟨j,h1,g,k⟩:=pX.1 h;have e:aS c (ai l 0)=lu c.st j:=by
  rw[<-T.mz j g,k];unfold aS;rw[oG]
 have m:level<lu c.st j:=by rw[<-e,L.top];exact L.mz
 have:=(uo T (i:=j) L.mz).1 m;omega
def zR(c:Core)(l:List Int)(level:Nat):Core:=k5 (kj (mE c level) l) (ai l 0) (some c.cl.length)
theorem kf.keep{h:Nat}(G:kf F Fd c h [])(L:uU F c l level):kf F Fd (zR c l level) (gO c.st level) []:=by
 have B:=G.back L.mz;have t:(mE c level).av=c.av.take (gO c.st level):=rfl;have r:(mE c level).st=c.st.take level:=rfl;have f:(mE c level).st.length=level:=by rw[r,Zt];have:=L.mz;omega
 have u:=L.low G.au;refine(B.FH (g:=l) L.ok L.imp (λ _=>Zg) (L.fresh G.au) u (λ h1=>by rw[f];exact L.one h1) (λ b=>by rw[f];exact Nat.le_of_eq (L.snd b).symm) ?_).same (λ g v=>by simp[v]);intro k hk;rw[f] at hk;have b:2<=l.length:=by
  have z:0<l.length:=Zq.2 L.ok.ne;rcases u_ l.length 2 with d|d
  ·have:=L.one (by omega);omega
  ·exact d
 obtain⟨m0,m1,y,_⟩:=L.ok.w b;have s:∀x∈((mE c level).av.take (gO (mE c level).st k)),x∈c.av.take (gO c.st k):=λ x m=>by
  rw[t,r,uR hk] at m;rw[List.take_take] at m;exact Dc m (by omega)
 have n:k<c.st.length:=by have:=L.mz;omega
 refine z_ ⟨_,m0,_,m1,y,λ o=>?_,λ o=>?_⟩
 ·obtain⟨j,d,p,q⟩:=pX.1 (s _ o);have e:aS c (ai l 0)=lu c.st j:=by rw[<-G.au.mz j p,q];unfold aS;rw[oG]
  have:=(uo G.au (i:=j) n).1 (by rw[<-e,L.top];exact n);omega
 ·obtain⟨j,d,p,q⟩:=pX.1 (s _ o);have e:aS c (ai l 1)=lu c.st j:=by rw[<-G.au.mz j p,q];unfold aS;rw[oG]
  have:=(uo G.au (i:=j) n).1 (by rw[<-e,L.snd b];exact hk);omega
theorem uU.new{h:Nat}(G:kf F Fd c h [])(L:uU F c l level):∀d,d<c.cl.length->¬∀x,x∈aA c.cl d↔x∈l:=by
 intro d i b;have g:=L.low G.au;rcases G.rS level L.mz d i with⟨x,f,j⟩|⟨x,f,y,k,m,h1,n⟩
 ·exact G.au.apart (sK j) (L.Bo x ((b x).1 f))
 ·have ex:x=ai l 0:=by
   rcases Z_ (x=ai l 0) with e|e
   ·exact e
   ·exact absurd (g x ((b x).1 f) e) h1
  have o:y=ai l 0:=by
   rcases Z_ (y=ai l 0) with e|e
   ·exact e
   ·exact absurd (g y ((b y).1 k) e) n
  exact m (ex.trans o.symm)
end
def rV(l:List Int)(v:Nat):Nat:=if ((v:Int)∈l) then 1 else if (-(v:Int)∈l) then 2 else 0
def sn(l:List Int):Nat->Nat
 |0=>0
 |n+1=>sn l n+3^n*rV l (n+1)
theorem Kh(l:List Int)(v:Nat):rV l v<=2:=by unfold rV;split<;>(try split)<;>omega
theorem Bp(l:List Int):∀n,sn l n<3^n
 |0=>by simp[sn]
 |n+1=>by
  have h1:=Bp l n;have b:=Kh l (n+1);have c:3^n*rV l (n+1)<=3^n*2:=Nat.mul_le_mul_left _ b;rw[sn,Nat.pow_succ];omega
theorem Dj{l l':List Int}:∀n,sn l n=sn l' n->∀v,1<=v->v<=n->rV l v=rV l' v
 |0,_,v,h1,c=>by omega
 |n+1,h,v,h1,c=>by
  rw[sn,sn] at h;have a:=Bp l n;have b:=Bp l' n;have e:rV l (n+1)=rV l' (n+1):=by
   have d:(sn l n+3^n*rV l (n+1))/3^n=rV l (n+1):=by
    rw[Nat.add_mul_div_left _ _ (Nat.pow_pos (by omega)),Nat.div_eq_of_lt a,Nat.zero_add]
   have f:(sn l' n+3^n*rV l' (n+1))/3^n=rV l' (n+1):=by
    rw[Nat.add_mul_div_left _ _ (Nat.pow_pos (by omega)),Nat.div_eq_of_lt b,Nat.zero_add]
   rw[<-d,h,f]
  rcases u_ v (n+1) with g|g
  ·exact Dj n (by rw[e] at h;omega) v h1 (by omega)
  ·obtain rfl:v=n+1:=by omega
   exact e
theorem Ki{l':List Int}(h:oT n l)(h':oT n l')(e:sn l n=sn l' n):∀x,x∈l↔x∈l':=by
 have key:∀{a b:List Int},oT n a->oT n b->(∀v,1<=v->v<=n->rV a v=rV b v)->∀x∈a,x∈b:=by
  intro a b i o d x f;have hl:=i.lt x f;have h1:=d (aI x) hl.1 hl.2;unfold rV at h1;rcases ZZ x 0 with k|k
  ·have m:(-((aI x:Nat):Int))=x:=by unfold aI;omega
   have g:((aI x:Nat):Int)= -x:=by unfold aI;omega
   rw[m,g,if_neg (i.ic x f),if_pos f] at h1
   by_cases c: -x∈b
   ·rw[if_pos c] at h1;cases h1
   ·rw[if_neg c] at h1
    by_cases j:x∈b
    ·exact j
    ·rw[if_neg j] at h1;cases h1
  ·have g:((aI x:Nat):Int)=x:=by unfold aI;omega
   rw[g,if_pos f] at h1
   by_cases c:x∈b
   ·exact c
   ·rw[if_neg c] at h1;split at h1<;>cases h1
 have d:=Dj n e;exact λ x=>⟨key h h' d x,key h' h (λ v a b=>(d v a b).symm) x⟩
theorem Kj(h:oT n l):sn l n≠0:=by
 intro e;have c:∀m,sn [] m=0:=by
  intro m
  induction m with
  |zero=>rfl
  |succ m d=>rw[sn,d];simp[rV]
 have f:=Dj (l:=l) (l':=[]) n (by rw[e,c]);obtain⟨x,b⟩:=List.exists_mem_of_ne_nil _ h.ne;have hl:=h.lt x b;have h1:=f (aI x) hl.1 hl.2;unfold rV at h1;simp only[List.not_mem_nil,if_false] at h1;rcases ZZ x 0 with g|g
 ·have i:(-((aI x:Nat):Int))=x:=by unfold aI;omega
  rw[i,if_pos b] at h1;split at h1<;>cases h1
 ·have j:((aI x:Nat):Int)=x:=by unfold aI;omega
  rw[j,if_pos b] at h1
  cases h1
theorem xQ:∀(m:Nat)(l:List Nat),l.Nodup->(∀x∈l,x<m)->l.length<=m
 |0,l,_,h=>by
  cases l with
  |nil=>simp
  |cons a r=>have:=h a (by simp);omega
 |m+1,l,b,h=>by
  have h1:=xQ m (l.filter λ x=>x !=m) (b.sublist List.filter_sublist) (λ x c=>by
   obtain⟨d,f⟩:=m_.1 c;have:=h x d;have:x≠m:=by simpa using f
   omega)
  have d:l.length<=(l.filter λ x=>x !=m).length+1:=by
   clear h h1
   induction l with
   |nil=>simp
   |cons a r g=>
    rw[Zl] at b
    by_cases e:a=m
    ·subst e;have:(r.filter λ x=>x !=a)=r:=Zh.2 λ x c=>by
      simp only[bne_iff_ne,ne_eq];rintro rfl;exact b.1 c
     simp[List.filter_cons,this]
    ·have:=g b.2;simp[List.filter_cons,e];omega
  omega
theorem FK{ls:List (List Int)}(c:∀l∈ls,oT n l)(d:ls.Pairwise λ a b=>¬∀x,x∈a↔x∈b):ls.length+1<=3^n:=by
 have f:(0::ls.map λ l=>sn l n).Nodup:=by
  rw[Zl];refine⟨λ h=>?_,?_⟩
  ·obtain⟨l,hl,e⟩:=Zk.1 h;exact Kj (c l hl) e
  ·rw[List.nodup_iff_pairwise_ne];rw[List.pairwise_map];exact d.imp_of_mem λ g i h e=>h (Ki (c _ g) (c _ i) e)
 have:=xQ (3^n) _ f (λ x j=>by
  rcases s_.1 j with h|h
  ·subst h;exact Nat.pow_pos (by omega)
  ·obtain⟨l,_,rfl⟩:=Zk.1 h;exact Bp l n)
 simpa using this
structure nK(c:Core)(jH:List Int):Prop where
 ind:∀k,k<c.st.length->k<jH.length->ai jH k∈c.av.take (if k+1<c.st.length then gO c.st (k+1) else c.av.length)
 dec:∀i,i<c.av.length->mw c.j9 (aI (ai c.av i))=none->∃k,k<c.st.length/\gO c.st k=i/\(k<jH.length->ai c.av i=ai jH k)
section
variable {c:Core}{jH:List Int}
theorem nK.same{c':Core}(h:nK c jH)(h1:c'.av=c.av)(b:c'.st=c.st)(d:c'.j9=c.j9):nK c' jH:=
 ⟨by rw[h1,b];exact h.ind,by rw[h1,b,d];exact h.dec⟩
theorem nK.set(h:nK c jH)(T:jU c){x:Int}{d:Nat}(f:gF c.n x)(g:jY c x=0):nK (k5 c x (some d)) jH:=by
 have b:(k5 c x (some d)).av=c.av++[x]:=rfl;refine⟨λ k hk j=>?_,λ i l hw=>?_⟩
 ·have:=h.ind k hk j;show ai jH k∈(c.av++[x]).take (if k+1<c.st.length then gO c.st (k+1) else (c.av++[x]).length);split
  ·rename_i h1;rw[if_pos h1] at this;rw[o_ (T.oI _ h1)];exact this
  ·rename_i h1;rw[if_neg h1,Zr] at this;rw[Zr];simp[this]
 ·rw[b,q_,e_] at l;have m:(k5 c x (some d)).j9=c.j9.set (aI x) (some d):=rfl;have hl:aI x<c.j9.length:=by rw[T.pe];have:=f.2;omega
  rw[m,b] at hw
  by_cases e:i<c.av.length
  ·rw[sJ e,wK,if_neg (λ o=>vV T f g (lY e) o.1.symm)] at hw;rw[b,sJ e];exact h.dec i e hw
  ·obtain rfl:i=c.av.length:=by omega
   rw[xM,wK,if_pos ⟨rfl,hl⟩] at hw
   cases hw
theorem nK.back(h:nK c jH)(T:jU c){level:Nat}(hl:level<c.st.length):nK (mE c level) jH:=by
 have o:=T.oI level hl;have b:(mE c level).av=c.av.take (gO c.st level):=rfl;have f:(mE c level).st=c.st.take level:=rfl;have hlen:(mE c level).av.length=gO c.st level:=by rw[b,Zt];omega
 have g:(mE c level).st.length=level:=by rw[f,Zt];omega
 refine⟨λ k hk l=>?_,λ i d hw=>?_⟩
 ·rw[g] at hk;have:=h.ind k (by omega) l;rw[g,hlen,b,f,List.take_take];rw[if_pos (show k+1<c.st.length by omega)] at this
  by_cases h1:k+1<level
  ·rw[if_pos h1,uR h1,Nat.min_eq_left (T.ru _ _ (by omega) hl)];exact this
  ·rw[if_neg h1,Nat.min_self,show level=k+1 by omega];exact this
 ·rw[hlen] at d;have m:(mE c level).j9=tf c.j9 (c.av.drop (gO c.st level)):=rfl;rw[b,wL d,m,Dg _ _ _ (T.split (pX.2 ⟨i,d,by omega,rfl⟩))] at hw;obtain⟨k,hk,e,n⟩:=h.dec i (by omega) hw;have j:k<level:=by
   rcases u_ k level with h1|h1
   ·exact h1
   ·have:=T.ru level k h1 hk;omega
  exact⟨k,by rw[g];exact j,by rw[f,uR j];exact e,by rw[b,wL d];exact n⟩
theorem nK.level(h:nK c jH)(T:jU c)(g:c.st.length<jH.length->ai jH c.st.length∈c.av):nK (nJ c) jH:=by
 have d:(nJ c).st=c.st++[c.av.length]:=rfl;have hlen:(nJ c).st.length=c.st.length+1:=by rw[d];simp
 have j:(nJ c).av=c.av:=rfl;refine⟨λ k hk f=>?_,λ i l hw=>?_⟩
 ·rw[hlen] at hk;rw[hlen,j]
  by_cases h1:k<c.st.length
  ·have:=h.ind k h1 f;rw[if_pos (by omega)]
   by_cases b:k+1<c.st.length
   ·rw[if_pos b] at this;rw[d,xN b];exact this
   ·rw[if_neg b] at this;rw[show k+1=c.st.length by omega,d,xO];exact this
  ·obtain rfl:k=c.st.length:=by omega
   rw[if_neg (by omega),Zr];exact g f
 ·obtain⟨k,hk,e,b⟩:=h.dec i l hw;exact⟨k,by rw[hlen];omega,by rw[d,xN hk];exact e,b⟩
theorem nK.decide(h:nK c jH)(T:jU c){x:Int}(m:gF c.n x)(o:jY c x=0)(j:c.st.length<jH.length->x=ai jH c.st.length):nK (k5 (nJ c) x none) jH:=by
 have d:(k5 (nJ c) x none).st=c.st++[c.av.length]:=rfl;have hlen:(k5 (nJ c) x none).st.length=c.st.length+1:=by rw[d];simp
 have f:(k5 (nJ c) x none).av=c.av++[x]:=rfl;refine⟨λ k hk l=>?_,λ i p hw=>?_⟩
 ·rw[hlen] at hk;rw[hlen,f]
  by_cases h1:k<c.st.length
  ·have:=h.ind k h1 l;rw[if_pos (by omega)]
   by_cases b:k+1<c.st.length
   ·rw[if_pos b] at this;rw[d,xN b,o_ (T.oI _ b)];exact this
   ·rw[if_neg b] at this;rw[show k+1=c.st.length by omega,d,xO,o_ (r_ _)];exact this
  ·obtain rfl:k=c.st.length:=by omega
   rw[if_neg (by omega),Zr,<-j l];simp
 ·rw[f,q_,e_] at p;have q:(k5 (nJ c) x none).j9=c.j9.set (aI x) none:=rfl;rw[q,f] at hw
  by_cases e:i<c.av.length
  ·rw[sJ e,wK,if_neg (λ r=>vV T m o (lY e) r.1.symm)] at hw;obtain⟨k,hk,s,b⟩:=h.dec i e hw;refine⟨k,by rw[hlen];omega,by rw[d,xN hk];exact s,λ g=>?_⟩;rw[f,sJ e];exact b g
  ·obtain rfl:i=c.av.length:=by omega
   refine⟨c.st.length,by rw[hlen];omega,by rw[d,xO],λ g=>?_⟩;rw[f,xM];exact j g
theorem nK.keep(h:nK c jH){F:List (List Int)}{l:List Int}{level:Nat}(T:jU c)(L:uU F c l level):nK (zR c l level) jH:=by
 have b:0<l.length:=Zq.2 L.ok.ne;have h1:=(h.back T L.mz)
 have d:nK (kj (mE c level) l) jH:=h1.same rfl rfl rfl;exact d.set ((T.back L.mz).new) (L.ok.lt _ (lY b)) (L.fresh T)
theorem nK.all(h:nK c jH)(hl:jH.length<=c.st.length):∀x∈jH,x∈c.av:=by
 intro x b;obtain⟨k,hk,e⟩:=qn.1 b;have:=h.ind k (by omega) hk;rw[e] at this;exact sK this
end
end
section
def jr(l:List Bool)(k:Nat):Bool:=l.getD k false
theorem Bq{l:List Bool}(h:k<l.length):jr l k=l[k]:=by simp[jr,x_,d_ h]
theorem zS(l:List Bool)(k j:Nat)(x:Bool):jr (l.set k x) j=if k=j/\k<l.length then x else jr l j:=by
 simp only[jr,x_,List.getElem?_set]
 by_cases h:k=j
 ·subst h
  by_cases b:k<l.length
  ·simp[b]
  ·simp[b]
 ·simp[h]
def pg(c:Core)(aK:List Bool)(j:Nat):Bool:=decide (lu c.st j=c.st.length)&&jr aK (aI (ai c.av j))
def nv(c:Core)(aK:List Bool)(i:Nat):Nat:=(l_ i).countP (pg c aK)
theorem zT(c:Core)(aK:List Bool)(i:Nat):nv c aK (i+1)=nv c aK i+if pg c aK i=true then 1 else 0:=by
 unfold nv;rw[List.range_succ,List.countP_append];simp[List.countP_cons]
theorem Br{aK:List Bool}:0<nv c aK i↔∃j,j<i/\pg c aK j=true:=by
 unfold nv;rw[List.countP_pos_iff];exact⟨λ⟨j,h1,b⟩=>⟨j,n_.1 h1,b⟩,λ⟨j,h1,b⟩=>⟨j,n_.2 h1,b⟩⟩
structure oy(F:List (List Int))(c:Core)(i:Nat)(aK:List Bool)(au ex:List Int):Prop where
 tS:aK.length=c.n+1
 qY:i<=c.av.length
 uu:∀x∈au,-x∈c.av/\1<=aS c x/\aS c x<c.st.length/\jr aK (aI x)=true
 xR:au.Nodup
 wS:∀x,-x∈c.av->jr aK (aI x)=true->x∈au\/aS c x=c.st.length
 zU:∀v,jr aK v=true->∃x,-x∈c.av/\aI x=v
 xS:∀y∈ex,-y∈c.av.take i
 wT:∀y∈ex,gF c.n y
 uv:∀M,tO M F->(∃y∈ex,M y=true)\/(∃x∈au,M x=true)\/∃j,j<i/\pg c aK j=true/\M (-(ai c.av j))=true
 act:∃j,j<i/\lu c.st j=c.st.length/\(jr aK (aI (ai c.av j))=true\/ -(ai c.av j)∈ex)
section
variable {F Fd:List (List Int)}{c:Core}{i:Nat}{aK:List Bool}{au ex:List Int}
theorem Bs(n:Nat)(v:Nat):jr (Z8 n false) v=false:=by
 simp only[jr,x_,List.getElem?_replicate];split<;>rfl
theorem Kk(T:jU c)(hs:0<c.st.length){j:Nat}(b:gO c.st (c.st.length-1)<=j):lu c.st j=c.st.length:=by
 have h1:=(uo T (i:=j) (k:=c.st.length-1) (by omega)).2 b;have:=wN c.st j;omega
theorem oy.start{h:Nat}{d:Nat}(G:kf F Fd c h [])(hs:0<c.st.length)(g:d<c.cl.length)(i:∀x∈aA c.cl d,-x∈c.av):oy F c c.av.length (Z8 (c.n+1) false) [] (aA c.cl d):=by
 refine⟨by simp,r_ _,λ x b=>by(cases b),List.nodup_nil,λ x _ h1=>?_,λ v h1=>?_,λ y f=>by rw[Zr];exact i y f,λ y f=>(G.jG.mD d g).lt y f,λ M l=>w_ (G.jG.imp d g M l),?_⟩
 ·rw[Bs] at h1;cases h1
 ·rw[Bs] at h1;cases h1
 ·have key:∀x∈aA c.cl d,¬-x∈c.av.take (gO c.st (c.st.length-1))->∃j,j<c.av.length/\lu c.st j=c.st.length/\(jr (Z8 (c.n+1) false) (aI (ai c.av j))=true\/ -(ai c.av j)∈aA c.cl d):=by
   intro x b m;obtain⟨j,k,e,_⟩:=G.au.at (i x b);refine⟨j,k,Kk G.au hs ?_,z_ ?_⟩
   ·rcases u_ j (gO c.st (c.st.length-1)) with h1|h1
    ·exact absurd (pX.2 ⟨j,h1,k,e⟩) m
    ·exact h1
   ·rw[e,Zo];exact b
  rcases G.rS (c.st.length-1) (by omega) d g with⟨x,b,o⟩|⟨x,b,y,f,_,h1,_⟩
  ·exact absurd (sK o) (λ h1=>G.au.apart h1 (i x b))
  ·exact key x b h1
theorem oy.drop{y:Int}(T:jU c)(D:rQ F Fd c)(h:oy F c i aK au (y::ex))(hs:0<c.st.length)(l:aS c y=0):oy F c i aK au ex:=by
 have m:=h.xS y (by simp);obtain⟨j,h1,f,g⟩:=pX.1 m;have n:lu c.st j=0:=by rw[<-T.mz j f,g];unfold aS;rw[oG];exact l
 refine⟨h.tS,h.qY,h.uu,h.xR,h.wS,h.zU,λ z b=>h.xS z (by simp[b]),λ z b=>h.wT z (by simp[b]),λ M d=>?_,?_⟩
 ·rcases h.uv M d with⟨z,b,hm⟩|o
  ·rcases s_.1 b with e|e
   ·subst e;have:=yG T D d j f n;rw[g,d.1 z (h.wT z (by simp)).oH,hm] at this
    cases this
   ·exact w_ ⟨z,e,hm⟩
  ·exact z_ o
 ·obtain⟨k,p,k2,k3⟩:=h.act;refine⟨k,p,k2,k3.imp id λ q=>?_⟩;rcases s_.1 q with e|e
  ·exfalso;have hk:k<c.av.length:=by have:=h.qY;omega
   have:aS c y=lu c.st k:=by rw[<-e,<-T.mz k hk];unfold aS;rw[oG]
   omega
  ·exact e
theorem oy.seen{y:Int}(T:jU c)(h:oy F c i aK au (y::ex))(hs:jr aK (aI y)=true):oy F c i aK au ex:=by
 have f:=h.xS y (by simp);obtain⟨j,h1,m,g⟩:=pX.1 f;have l:aI (ai c.av j)=aI y:=by rw[g,oG]
 refine⟨h.tS,h.qY,h.uu,h.xR,h.wS,h.zU,λ z b=>h.xS z (by simp[b]),λ z b=>h.wT z (by simp[b]),λ M n=>?_,?_⟩
 ·rcases h.uv M n with⟨z,b,hm⟩|o
  ·rcases s_.1 b with e|e
   ·subst e;rcases h.wS z (sK f) hs with d|d
    ·exact z_ (w_ ⟨z,d,hm⟩)
    ·refine z_ (z_ ⟨j,h1,?_,?_⟩)
     ·unfold pg;rw[l,hs,Zn,decide_eq_true_iff,<-d,<-T.mz j m];unfold aS;rw[l]
     ·rw[g,Zo];exact hm
   ·exact w_ ⟨z,e,hm⟩
  ·exact z_ o
 ·obtain⟨k,p,k2,k3⟩:=h.act;refine⟨k,p,k2,?_⟩;rcases k3 with k3|q
  ·exact w_ k3
  ·rcases s_.1 q with e|e
   ·left;have:aI (ai c.av k)=aI y:=by rw[<-e,oG]
    rw[this];exact hs
   ·exact z_ e
theorem Bt{c:Core}{aK:List Bool}{y:Int}(b:aK.length=c.n+1)(hl:gF c.n y)(v:Nat):jr (aK.set (aI y) true) v=if aI y=v then true else jr aK v:=by
 rw[zS];have:aI y<aK.length:=by rw[b];have:=hl.2;omega
 by_cases e:aI y=v
 ·rw[if_pos ⟨e,this⟩,if_pos e]
 ·rw[if_neg (λ d=>e d.1),if_neg e]
theorem oy.mark{y:Int}(T:jU c)(h:oy F c i aK au (y::ex))(hs:jr aK (aI y)=false)(W:aS c y≠0):
  (aS c y=c.st.length->oy F c i (aK.set (aI y) true) au ex/\nv c (aK.set (aI y) true) i=nv c aK i+1)/\
  (aS c y≠c.st.length->oy F c i (aK.set (aI y) true) (au++[y]) ex/\nv c (aK.set (aI y) true) i=nv c aK i):=by
 have A:=h.xS y (by simp);have O:=h.wT y (by simp);obtain⟨j,h1,C,G⟩:=pX.1 A;have B:aI (ai c.av j)=aI y:=by rw[G,oG]
 have H:lu c.st j=aS c y:=by rw[<-T.mz j C];unfold aS;rw[B]
 have n:=Bt (c:=c) h.tS O;have s:∀v,jr aK v=true->jr (aK.set (aI y) true) v=true:=λ v t=>by rw[n];split;rfl;exact t
 have I:∀k,k<c.av.length->pg c (aK.set (aI y) true) k=if k=j then decide (aS c y=c.st.length) else pg c aK k:=by
  intro k hk;unfold pg;rw[n]
  by_cases e:k=j
  ·subst e;rw[if_pos B.symm,if_pos rfl,Zn,H]
  ·rw[if_neg e]
   by_cases f:aI y=aI (ai c.av k)
   ·exact absurd (T.place hk C (by rw[B,f])) e
   ·rw[if_neg f]
 have J:∃k,k<i/\lu c.st k=c.st.length/\(jr (aK.set (aI y) true) (aI (ai c.av k))=true\/ -(ai c.av k)∈ex):=by
  obtain⟨k,u,k2,k3⟩:=h.act;refine⟨k,u,k2,?_⟩;rcases k3 with k3|P
  ·exact w_ (s _ k3)
  ·rcases s_.1 P with e|e
   ·left;rw[n,if_pos];rw[<-e,oG]
   ·exact z_ e
 have X:aS c y<=c.st.length:=by rw[<-H];exact wN _ _
 have Q:∀x∈au,aI x≠aI y:=λ x l e=>by
  have:=(h.uu x l).2.2.2;rw[e,hs] at this;cases this
 have K:∀v,jr (aK.set (aI y) true) v=true->∃x,-x∈c.av/\aI x=v:=λ v t=>by
  rw[n] at t
  by_cases e:aI y=v
  ·exact⟨y,sK A,e⟩
  ·rw[if_neg e] at t;exact h.zU v t
 have L:∀m,m<=c.av.length->nv c (aK.set (aI y) true) m=nv c aK m+if j<m/\aS c y=c.st.length then 1 else 0:=by
  intro m
  induction m with
  |zero=>intro _;simp[nv]
  |succ m R=>
   intro hm;rw[zT,zT,R (by omega),I m (by omega)]
   by_cases e:m=j
   ·subst e;have S:pg c aK m=false:=by unfold pg;rw[B,hs,Bool.and_false]
    rw[if_pos rfl,S]
    by_cases f:aS c y=c.st.length
    ·simp[f]
    ·simp[f]
   ·rw[if_neg e];generalize (if pg c aK m=true then 1 else 0)=q;have N:(j<m/\aS c y=c.st.length)↔(j<m+1/\aS c y=c.st.length):=⟨λ o=>⟨by omega,o.2⟩,λ o=>⟨by omega,o.2⟩⟩
    by_cases f:j<m/\aS c y=c.st.length
    ·rw[if_pos f,if_pos (N.1 f)];omega
    ·rw[if_neg f,if_neg (λ o=>f (N.2 o))];omega
 constructor
 ·intro r;refine⟨⟨by simp[h.tS],h.qY,λ x l=>?_,h.xR,λ x l p=>?_,K,λ z g=>h.xS z (by simp[g]),λ z g=>h.wT z (by simp[g]),λ M D=>?_,J⟩,?_⟩
  ·obtain⟨a,b,d,e⟩:=h.uu x l;exact⟨a,b,d,s _ e⟩
  ·rw[n] at p
   by_cases e:aI y=aI x
   ·right;unfold aS at r⊢;rw[<-e];exact r
   ·rw[if_neg e] at p;exact h.wS x l p
  ·rcases h.uv M D with⟨z,g,hm⟩|w|⟨k,u,k2,k3⟩
   ·rcases s_.1 g with e|e
    ·subst e;refine z_ (z_ ⟨j,h1,?_,by rw[G,Zo];exact hm⟩);rw[I j C,if_pos rfl,decide_eq_true_iff];exact r
    ·exact w_ ⟨z,e,hm⟩
   ·exact z_ (w_ w)
   ·refine z_ (z_ ⟨k,u,?_,k3⟩);unfold pg at k2⊢;rw[c_] at k2⊢;exact⟨k2.1,s _ k2.2⟩
  ·rw[L i h.qY,if_pos ⟨h1,r⟩]
 ·intro r;refine⟨⟨by simp[h.tS],h.qY,λ x l=>?_,?_,λ x l p=>?_,K,λ z g=>h.xS z (by simp[g]),λ z g=>h.wT z (by simp[g]),λ M D=>?_,J⟩,?_⟩
  ·rcases f_.1 l with w|w
   ·obtain⟨a,b,d,e⟩:=h.uu x w;exact⟨a,b,d,s _ e⟩
   ·rw[t_.1 w];exact⟨sK A,by omega,by omega,by rw[n,if_pos rfl]⟩
  ·rw[List.nodup_append];refine⟨h.xR,by simp,λ a U b V e=>?_⟩;rw[t_.1 V] at e;exact Q a U (by rw[e])
  ·rw[n] at p
   by_cases e:aI y=aI x
   ·left;rcases zQ e with f|f
    ·simp[f]
    ·exfalso;have E:x∈c.av:=by
      have:=sK A;rw[f,Zo] at this;exact this
     exact T.apart E l
   ·rw[if_neg e] at p;exact(h.wS x l p).imp (λ E=>by simp[E]) id
  ·rcases h.uv M D with⟨z,g,hm⟩|⟨z,g,hm⟩|⟨k,u,k2,k3⟩
   ·rcases s_.1 g with e|e
    ·subst e;exact z_ (w_ ⟨z,by simp,hm⟩)
    ·exact w_ ⟨z,e,hm⟩
   ·exact z_ (w_ ⟨z,by simp[g],hm⟩)
   ·refine z_ (z_ ⟨k,u,?_,k3⟩);unfold pg at k2⊢;rw[c_] at k2⊢;exact⟨k2.1,s _ k2.2⟩
  ·rw[L i h.qY,if_neg (λ o=>r o.2)];rfl
theorem oy.open(h:oy F c i aK au []):0<nv c aK i:=by
 rw[Br];obtain⟨k,b,k2,k3⟩:=h.act;refine⟨k,b,?_⟩;unfold pg;rcases k3 with k3|k3
 ·rw[k3,Zn,decide_eq_true_iff];exact k2
 ·cases k3
theorem oy.down(h:oy F c (i+1) aK au [])(hs:jr aK (aI (ai c.av i))=false):oy F c i aK au []/\nv c aK i=nv c aK (i+1):=by
 have e:pg c aK i=false:=by unfold pg;rw[hs,Bool.and_false]
 refine⟨⟨h.tS,by have:=h.qY;omega,h.uu,h.xR,h.wS,h.zU,λ y d=>by(cases d),λ y d=>by(cases d),λ M f=>?_,?_⟩,by rw[zT,e];rfl⟩
 ·rcases h.uv M f with h1|h1|⟨k,g,k2,k3⟩
  ·exact w_ h1
  ·exact z_ (w_ h1)
  ·refine z_ (z_ ⟨k,?_,k2,k3⟩);rcases u_ k i with b|b
   ·exact b
   ·obtain rfl:k=i:=by omega
    rw[e] at k2;cases k2
 ·obtain⟨k,g,k2,k3⟩:=h.act;refine⟨k,?_,k2,k3⟩;rcases u_ k i with b|b
  ·exact b
  ·obtain rfl:k=i:=by omega
   rcases k3 with k3|k3
   ·rw[hs] at k3;cases k3
   ·cases k3
theorem oy.top(T:jU c)(h:oy F c (i+1) aK au []):lu c.st i=c.st.length:=by
 obtain⟨k,b,k2,_⟩:=Br.1 h.open|>.imp λ k ⟨b,k2⟩=>(⟨b,(by unfold pg at k2;rw[c_,decide_eq_true_iff] at k2;exact k2.1),trivial⟩:k<i+1/\lu c.st k=c.st.length/\True)
 have h1:=Db (st:=c.st) (i:=k) (j:=i) (by omega);have:=wN c.st i;omega
theorem oy.done(T:jU c)(h:oy F c (i+1) aK au [])(hs:jr aK (aI (ai c.av i))=true)(h1:nv c aK (i+1)=1):pM F (-(ai c.av i)::au):=by
 have b:pg c aK i=true:=by unfold pg;rw[hs,Zn,decide_eq_true_iff];exact h.top T
 rw[zT,b,if_pos rfl] at h1;intro M d;rcases h.uv M d with⟨y,f,_⟩|⟨x,g,hm⟩|⟨k,j,k2,k3⟩
 ·cases f
 ·exact⟨x,by simp[g],hm⟩
 ·by_cases e:k=i
  ·subst e;exact⟨_,by simp,k3⟩
  ·have:0<nv c aK i:=Br.2 ⟨k,by omega,k2⟩;omega
theorem oy.reason(T:jU c)(D:rQ F Fd c)(h:oy F c (i+1) aK au [])(hs:jr aK (aI (ai c.av i))=true)(h1:nv c aK (i+1)≠1):
  ∃d,mw c.j9 (aI (ai c.av i))=some d/\d<c.cl.length/\oy F c i aK au ((aA c.cl d).filter λ y=>y !=ai c.av i)/\nv c aK (i+1)=nv c aK i+1:=by
 have r:=h.top T;have s:pg c aK i=true:=by unfold pg;rw[hs,Zn,decide_eq_true_iff];exact r
 have t:nv c aK (i+1)=nv c aK i+1:=by rw[zT,s,if_pos rfl]
 have o:i<c.av.length:=by have:=h.qY;omega
 obtain⟨k,u,k2⟩:=Br.1 (show 0<nv c aK i by have:=h.open;omega);have v:lu c.st k=c.st.length:=by unfold pg at k2;rw[c_,decide_eq_true_iff] at k2;exact k2.1
 have hw:=T.qc i o
 cases p:mw c.j9 (aI (ai c.av i)) with
 |none=>
  rw[p] at hw;obtain⟨m,hm,e⟩:=hw;have:=(uo T (i:=k) hm).1 (by omega);omega
 |some d=>
  rw[p] at hw;obtain⟨f,B,w⟩:=hw;refine⟨d,rfl,f,⟨h.tS,by omega,h.uu,h.xR,h.wS,h.zU,λ y b=>?_,λ y b=>?_,λ M g=>?_,⟨k,u,v,w_ ?_⟩⟩,t⟩
  ·obtain⟨l,z⟩:=m_.1 b;exact w y l (by simpa using z)
  ·exact(D.mD d f).lt y (m_.1 b).1
  ·rcases h.uv M g with⟨y,b,_⟩|l|⟨j,C,A,n⟩
   ·cases b
   ·exact z_ (w_ l)
   ·by_cases e:j=i
    ·subst e;obtain⟨y,b,hm⟩:=D.imp d f M g
     by_cases q:y=ai c.av j
     ·rw[g.1 _ (T.lit _ (lY o)).oH,<-q,hm] at n;cases n
     ·exact w_ ⟨y,m_.2 ⟨b,by simpa using q⟩,hm⟩
    ·exact z_ (z_ ⟨j,by omega,A,n⟩)
  ·unfold pg at k2;rw[c_] at k2;exact k2.2
inductive rz(c:Core)(aK:List Bool):Int->Prop
 |mk (x:Int) (d:Nat) (hw:mw c.j9 (aI x)=some d) (h:∀y∈aA c.cl d,y≠-x->jr aK (aI y)=false->aS c y≠0->rz c aK y):rz c aK x
def pos(c:Core)(x:Int):Nat:=c.av.idxOf (-x)
theorem pos_at(T:jU c){x:Int}{j:Nat}(b:j<c.av.length)(e:ai c.av j= -x):pos c x=j:=by
 have d: -x∈c.av:=qn.2 ⟨j,b,e⟩;unfold pos;have h1:=List.idxOf_lt_length_of_mem d;have f:ai c.av (c.av.idxOf (-x))= -x:=by rw[nC h1];exact List.getElem_idxOf h1
 exact T.place h1 b (by rw[f,e])
theorem Kl(T:jU c)(D:rQ F Fd c)(hm:∀x,-x∈c.av->jr aK (aI x)=true->x∈au\/aS c x=c.st.length){M:Int->Bool}(b:tO M F):∀(k:Nat)(x:Int),pos c x=k-> -x∈c.av->aS c x<c.st.length->rz c aK x->(∀z∈au,pos c z<k->M z=false)->M x=false:=by
 intro k
 induction k using Z4 with
 |_ k v=>
  intro x hk n hl w o;obtain⟨_,d,hw,A⟩:=w;obtain⟨j,p,e,N⟩:=T.at n;have B:j=k:=by rw[<-hk];exact(pos_at T p e).symm
  subst B;have q:=T.qc j p;rw[e,oG,hw] at q;obtain⟨r,O,C⟩:=q;obtain⟨y,g,f⟩:=D.imp d r M b;have E:x≠0:=by have:=(T.lit _ n).oH;omega
  by_cases l:y= -x
  ·rw[l,b.1 x E] at f
   cases G:M x with
   |true=>rw[G] at f;cases f
   |false=>rfl
  ·exfalso;obtain⟨m,m1,m2,m3⟩:=pX.1 (C y g l);have H:pos c y=m:=pos_at T m2 m3;have P:aS c y=lu c.st m:=by rw[<-T.mz m m2,m3];unfold aS;rw[oG]
   have s: -y∈c.av:=qn.2 ⟨m,m2,m3⟩;have I:aS c y<c.st.length:=by
    have:=Db (st:=c.st) (i:=m) (j:=j) (by omega);omega
   have t:M y=false:=by
    by_cases h1:jr aK (aI y)=true
    ·rcases hm y s h1 with u|u
     ·exact o y u (by omega)
     ·omega
    by_cases h1:aS c y=0
    ·have:=yG T D b m m2 (by omega);rw[m3,b.1 y ((D.mD d r).lt y g).oH] at this
     cases J:M y with
     |true=>rw[J] at this;cases this
     |false=>rfl
    ·rename_i K;exact v m m1 y H s I (A y g l (by simpa using K) h1) (λ z L Q=>o z L (by omega))
   rw[f] at t;cases t
theorem Km(T:jU c)(D:rQ F Fd c)(hm:∀x,-x∈c.av->jr aK (aI x)=true->x∈au\/aS c x=c.st.length)(g:∀x∈au,-x∈c.av/\aS c x<c.st.length){u:Int}(l:pM F (u::au)){r:List Int}(m:∀x∈au,x∈r\/rz c aK x):pM F (u::r):=by
 intro M i;rcases Z_ (∃x∈u::r,M x=true) with h|h
 ·exact h
 ·exfalso;have j:∀x∈u::r,M x=false:=λ x d=>by
   cases b:M x with
   |false=>rfl
   |true=>exact absurd ⟨x,d,b⟩ h
  have key:∀(k:Nat)(z:Int),pos c z=k->z∈au->M z=false:=by
   intro k
   induction k using Z4 with
   |_ k n=>
    intro z hk f;rcases m z f with h1|h1
    ·exact j z (by simp[h1])
    ·exact Kl T D hm i k z hk (g z f).1 (g z f).2 h1 (λ y o p=>n _ p y rfl o)
  obtain⟨x,d,b⟩:=l M i;rcases s_.1 d with e|e
  ·rw[j x (by simp[e])] at b;cases b
  ·rw[key _ x rfl e] at b;cases b
end
structure qL(F:List (List Int))(c:Core)(p:Int)(i:Nat)(mk:Int->Bool)(out:List Int):Prop where
 qY:i<=c.av.length
 Bu:∀x∈out,x=p\/(x∈c.av/\mw c.j9 (aI x)=none)
 uv:∀M,tO M F->(∀x∈p::out,M x=true)->∃j,j<i/\1<=lu c.st j/\mk (aI (ai c.av j))=true/\M (ai c.av j)=false
section
variable {F Fd:List (List Int)}{c:Core}{p:Int}{i:Nat}{mk:Int->Bool}{out:List Int}
theorem qL.start(T:jU c)(hp: -p∈c.av)(hl:1<=aS c p)(hm:mk (aI p)=true):qL F c p c.av.length mk [p]:=by
 refine⟨r_ _,λ x b=>w_ (t_.1 b),λ M d f=>?_⟩;obtain⟨j,g,e,h1⟩:=T.at hp;refine⟨j,g,by omega,by rw[e,oG];exact hm,?_⟩;rw[e,d.1 p (by have:=(T.lit _ hp).oH;omega),f p (by simp)];rfl
theorem qL.skip(h:qL F c p (i+1) mk out)(hs:mk (aI (ai c.av i))=false):qL F c p i mk out:=by
 refine⟨by have:=h.qY;omega,h.Bu,λ M e f=>?_⟩;obtain⟨j,h1,g,b,k⟩:=h.uv M e f;refine⟨j,?_,g,b,k⟩;rcases u_ j i with d|d
 ·exact d
 ·obtain rfl:j=i:=by omega
  rw[hs] at b;cases b
theorem qL.decision(h:qL F c p (i+1) mk out)(k:mw c.j9 (aI (ai c.av i))=none):qL F c p i mk (out++[ai c.av i]):=by
 have l:i<c.av.length:=by have:=h.qY;omega
 refine⟨by omega,λ x b=>?_,λ M m f=>?_⟩
 ·rcases f_.1 b with h1|h1
  ·exact h.Bu x h1
  ·rw[t_.1 h1];exact z_ ⟨lY l,k⟩
 ·obtain⟨j,h1,n,o,d⟩:=h.uv M m (λ x b=>f x (by rcases s_.1 b with e|e<;>simp[e]));refine⟨j,?_,n,o,d⟩;rcases u_ j i with g|g
  ·exact g
  ·obtain rfl:j=i:=by omega
   rw[f _ (by simp)] at d;cases d
theorem qL.reason(T:jU c)(D:rQ F Fd c)(h:qL F c p (i+1) mk out){d:Nat}(hw:mw c.j9 (aI (ai c.av i))=some d){mk':Int->Bool}(hm:∀v,mk v=true->mk' v=true)(r:∀y∈aA c.cl d,y≠ai c.av i->0<aS c y->mk' (aI y)=true):qL F c p i mk' out:=by
 have s:i<c.av.length:=by have:=h.qY;omega
 refine⟨by omega,h.Bu,λ M b t=>?_⟩;obtain⟨j,h1,u,w,f⟩:=h.uv M b t
 by_cases e:j=i
 ·subst e;have m:=T.qc j s;rw[hw] at m;obtain⟨n,B,z⟩:=m;obtain⟨y,g,o⟩:=D.imp d n M b;have q:y≠ai c.av j:=by rintro rfl;rw[o] at f;cases f
  obtain⟨k,C,k2,k3⟩:=pX.1 (z y g q);have E:aS c y=lu c.st k:=by rw[<-T.mz k k2,k3];unfold aS;rw[oG]
  have l:M (ai c.av k)=false:=by rw[k3,b.1 y ((D.mD d n).lt y g).oH,o];rfl
  by_cases A:lu c.st k=0
  ·rw[yG T D b k k2 A] at l;cases l
  ·exact⟨k,by omega,by omega,by rw[k3,oG];exact r y g q (by omega),l⟩
 ·exact⟨j,by omega,u,hm _ w,f⟩
theorem qL.done(T:jU c)(h:qL F c p i mk out)(hs:0<c.st.length)(e:i<=gO c.st 0):∀M,tO M F->¬∀x∈p::out,M x=true:=by
 intro M b d;obtain⟨j,h1,f,_⟩:=h.uv M b d;have:=(uo T (i:=j) hs).1 (by omega);omega
end
end
section
structure mb(n:Nat)(ord pl:List Int):Prop where
 sL:pl.length=n+1
 inv:∀i,i<ord.length->1<=ai ord i/\ai ord i<=n/\ai pl (ai ord i).toNat=i
 o:∀v:Nat,1<=v->v<=n->0<=ai pl v->ai pl v<ord.length/\ai ord (ai pl v).toNat=v
 tT:∀v,-1<=ai pl v
section
variable {n:Nat}{ord pl:List Int}
theorem mb.inj(h:mb n ord pl){i j:Nat}(b:i<ord.length)(c:j<ord.length)(e:ai ord i=ai ord j):i=j:=by
 have h1:=(h.inv i b).2.2;have d:=(h.inv j c).2.2;rw[e] at h1;omega
def uw(ord pl:List Int)(i k:Nat):List Int:=(pl.set (ai (kL ord i k) i).toNat (i:Int)).set (ai (kL ord i k) k).toNat (k:Int)
theorem yH(h:mb n ord pl){i k:Nat}(d:i<ord.length)(hk:k<ord.length)(v:Nat):
  ai (uw ord pl i k) v=if (v:Int)=ai ord i then (k:Int) else if (v:Int)=ai ord k then (i:Int) else ai pl v:=by
 have a:=h.inv i d;have b:=h.inv k hk;have j:ai (kL ord i k) k=ai ord i:=by rw[qJ d hk,if_pos rfl]
 have l:ai (kL ord i k) i=if i=k then ai ord i else ai ord k:=by rw[qJ d hk];simp
 unfold uw;rw[j,l,o9]
 by_cases c:(v:Int)=ai ord i
 ·rw[if_pos c,if_pos ⟨by omega,by rw[i_,h.sL];omega⟩]
 ·rw[if_neg c,if_neg (λ f=>c (by omega)),o9]
  by_cases g:i=k
  ·subst g;rw[if_pos rfl,if_neg (λ f=>c (by omega)),if_neg c]
  ·rw[if_neg g]
   by_cases e:(v:Int)=ai ord k
   ·rw[if_pos e,if_pos ⟨by omega,by rw[h.sL];omega⟩]
   ·rw[if_neg e,if_neg (λ f=>e (by omega))]
theorem mb.swap(h:mb n ord pl){i k:Nat}(d:i<ord.length)(hk:k<ord.length):mb n (kL ord i k) (uw ord pl i k):=by
 have a:=h.inv i d;have b:=h.inv k hk;refine⟨by unfold uw;simp[h.sL],λ j l=>?_,λ v h1 r m=>?_,λ v=>?_⟩
 ·rw[sj] at l;have c:=h.inv j l;rw[qJ d hk]
  by_cases e:j=k
  ·rw[if_pos e];refine⟨a.1,a.2.1,?_⟩;rw[yH h d hk,if_pos (by omega),e]
  ·rw[if_neg e]
   by_cases f:j=i
   ·rw[if_pos f];refine⟨b.1,b.2.1,?_⟩;rw[yH h d hk]
    by_cases q:((ai ord k).toNat:Int)=ai ord i
    ·have:=h.inj hk d (by omega);omega
    ·rw[if_neg q,if_pos (by omega),f]
   ·rw[if_neg f];refine⟨c.1,c.2.1,?_⟩;rw[yH h d hk,if_neg (λ g=>f (h.inj l d (by omega))),if_neg (λ g=>e (h.inj l hk (by omega)))];exact c.2.2
 ·rw[yH h d hk] at m⊢;rw[sj]
  by_cases e:(v:Int)=ai ord i
  ·rw[if_pos e,qJ d hk,if_pos (by omega)];exact⟨by omega,e.symm⟩
  ·rw[if_neg e] at m⊢
   by_cases f:(v:Int)=ai ord k
   ·rw[if_pos f,qJ d hk];have q:i≠k:=by rintro rfl;exact e f
    rw[if_neg (by omega),if_pos (by omega)];exact⟨by omega,f.symm⟩
   ·rw[if_neg f] at m⊢;obtain⟨s,p⟩:=h.o v h1 r m;refine⟨s,?_⟩;rw[qJ d hk,if_neg (λ g=>f (by rw[<-p,g])),if_neg (λ g=>e (by rw[<-p,g]))];exact p
 ·rw[yH h d hk];split
  ·omega
  ·split
   ·omega
   ·exact h.tT v
def vW(pl b:List Int):Prop:=∀v,0<=ai b v↔0<=ai pl v
theorem vW.refl(pl:List Int):vW pl pl:=λ _=>Zg
theorem vW.trans{a b c:List Int}(h:vW a b)(h':vW b c):vW a c:=λ v=>(h' v).trans (h v)
theorem mb.FL(h:mb n ord pl){i k:Nat}(d:i<ord.length)(hk:k<ord.length):vW pl (uw ord pl i k):=by
 intro v;rw[yH h d hk]
 by_cases b:(v:Int)=ai ord i
 ·rw[if_pos b];have:=(h.inv i d).2.2;rw[<-b] at this;simp only[Zv] at this;omega
 ·rw[if_neg b]
  by_cases c:(v:Int)=ai ord k
  ·rw[if_pos c];have:=(h.inv k hk).2.2;rw[<-c] at this;simp only[Zv] at this;omega
  ·rw[if_neg c]
theorem mb.push(h:mb n ord pl){v:Nat}(h1:1<=v)(j:v<=n)(k:ai pl v<0):mb n (ord++[(v:Int)]) (pl.set v (ord.length:Int)):=by
 have d:∀u,ai (pl.set v (ord.length:Int)) u=if v=u then (ord.length:Int) else ai pl u:=λ u=>by
  rw[o9]
  by_cases e:v=u
  ·rw[if_pos e,if_pos ⟨e,by rw[h.sL];omega⟩]
  ·rw[if_neg e,if_neg (λ f=>e f.1)]
 refine⟨by simp[h.sL],λ i g=>?_,λ u a b c=>?_,λ u=>?_⟩
 ·rw[q_,e_] at g
  by_cases e:i<ord.length
  ·rw[sJ e];have:=h.inv i e;refine⟨this.1,this.2.1,?_⟩;rw[d,if_neg]
   ·exact this.2.2
   ·rintro rfl;have:=this.2.2;omega
  ·obtain rfl:i=ord.length:=by omega
   rw[xM];refine⟨by omega,by omega,?_⟩;rw[d,if_pos (by omega)]
 ·rw[d] at c⊢;rw[q_,e_]
  by_cases e:v=u
  ·rw[if_pos e];refine⟨by omega,?_⟩;rw[Zv,xM,e]
  ·rw[if_neg e] at c⊢;obtain⟨l,k2⟩:=h.o u a b c;exact⟨by omega,by rw[sJ (by omega)];exact k2⟩
 ·rw[d];split
  ·omega
  ·exact h.tT u
theorem mb.pop(h:mb n ord pl)(hl:0<ord.length):mb n (ord.take (ord.length-1)) (pl.set (ai ord (ord.length-1)).toNat (-1)):=by
 obtain⟨m,hm⟩:∃m,ord.length=m+1:=⟨ord.length-1,by omega⟩
 have l:ord.length-1=m:=by omega
 rw[l];have a:=h.inv m (by omega);have f:∀u,ai (pl.set (ai ord m).toNat (-1)) u=if (ai ord m).toNat=u then-1 else ai pl u:=λ u=>by
  rw[o9]
  by_cases e:(ai ord m).toNat=u
  ·rw[if_pos e,if_pos ⟨e,by rw[h.sL];omega⟩]
  ·rw[if_neg e,if_neg (λ g=>e g.1)]
 have hlen:(ord.take m).length=m:=by rw[Zt];omega
 refine⟨by simp[h.sL],λ i k=>?_,λ u b c d=>?_,λ u=>?_⟩
 ·rw[hlen] at k;rw[wL k];have:=h.inv i (by omega);refine⟨this.1,this.2.1,?_⟩;rw[f,if_neg]
  ·exact this.2.2
  ·intro e;have:=h.inj (i:=m) (j:=i) (by omega) (by omega) (by omega);omega
 ·rw[f] at d⊢;rw[hlen]
  by_cases e:(ai ord m).toNat=u
  ·rw[if_pos e] at d;omega
  ·rw[if_neg e] at d⊢;obtain⟨p,k2⟩:=h.o u b c d;have q:ai pl u≠m:=λ g=>e (by rw[g] at k2;simp only[Zv] at k2;omega)
   exact⟨by omega,by rw[wL (by omega)];exact k2⟩
 ·rw[f];split
  ·omega
  ·exact h.tT u
end
end
section
open Go.RowKit
def tg:TypeId:=162
def vB:TypeId:=166
def zV:TypeId:=160
def xT:TypeId:=164
def zW:TypeId:=171
def Kn:TypeId:=126
def ij(k:Nat):Nat:=13+3*k
def kz(k:Nat):Nat:=14+3*k
def qZ(r:Nat):TypeId:=
 if r=0 then zV else if r=1 then zW else if r=3 then xT else if r=9 then 4 else if r=10 then xT else if r=11 then Kn else if r=12 then 4
 else if r<13 then 3 else if r%3=1 then xT else 3
def nW(r:Nat):Nat:=if r=11 then 2 else 1
structure sq where
 kT:Bool
 aS:Int
 ac:Int
structure nc where
 jf:Int
 h:aq
structure an where
 c:Core
 ci:List sq
 act:List Int
 aW:Int
 ord:List Int
 pl:List Int
 bH:List Bool
 aJ:List Nat
 aD:List nc
 aK:List Bool
 nl:List (List Int)
 jg:Option aq
def gT(l:List Int):List Value:=l.map (Z5 .i64)
def qo(l:List Nat):List Value:=l.map λ x:Nat=>Z5 .i64 (x:Int)
def th(l:List Int):List Value:=l.map (Z5 .i8)
def nR(l:List Bool):List Value:=l.map Value.bool
def tj(cb:Nat->Nat)(d:Nat):Value:=.pointer (some ⟨cb d,0,none⟩)
def q3(cb:Nat->Nat):Option Nat->Value
 |none=>.pointer none
 |some d=>tj cb d
def kU(cb:Nat->Nat)(l:List Nat):List Value:=l.map (tj cb)
def ux(cb:Nat->Nat)(l:List (Option Nat)):List Value:=l.map (q3 cb)
def mg(l:List nc):List Value:=(l.map λ p=> [Z5 .i64 p.jf,p.h.v]).flatten
def cont(hs:Nat->aq)(cb:Nat->Nat)(s:an)(r:Nat):List Value:=
 if r=0 then (l_ s.c.wt.length).map λ k=>(hs (ij k)).v
 else if r=1 then th s.c.val else if r=2 then qo s.c.lvl else if r=3 then ux cb s.c.j9 else if r=4 then gT s.c.av else if r=5 then qo s.c.st
 else if r=6 then gT s.act else if r=7 then gT s.ord else if r=8 then gT s.pl else if r=9 then nR s.bH else if r=10 then kU cb s.aJ
 else if r=11 then (match s.jg with|some _=> []|none=>mg s.aD) else if r=12 then nR s.aK
 else if r%3=1 then kU cb (aA s.c.wt ((r-13)/3)) else if r%3=2 then gT (aA s.c.cl ((r-14)/3)) else gT (aA s.nl ((r-15)/3))
def oc(hs:Nat->aq)(s:an):Value:=match s.jg with
 |some h=>h.v
 |none=>(hs 11).v
def rA(hs:Nat->aq)(s:an):List Value:=
 [.int .i64 s.c.n,(hs 0).v,(hs 1).v,(hs 2).v,(hs 3).v,(hs 4).v,(hs 5).v,.int .i64 s.c.ag,(hs 6).v,.int .i64 s.aW,(hs 7).v,(hs 8).v,(hs 9).v,(hs 10).v,oc hs s,.bool s.c.lC,(hs 12).v]
def tU(hs:Nat->aq)(s:an)(d:Nat):List Value:=
 [(hs (kz d)).v,.bool (s.ci.getD d ⟨false,0,0⟩).kT,.int .i64 (s.ci.getD d ⟨false,0,0⟩).aS,.int .i64 (s.ci.getD d ⟨false,0,0⟩).ac]
structure j5(base:Nat)(w:World)(G:Nat)(hs:Nat->aq)(cb:Nat->Nat)(de:List Value)(cls:Nat->List Value)(n:Nat)(X:Nat->List Value):Prop where
 box:aM w G tg de
 rows:l9 base qZ nW w hs X
 cls:∀d,d<n->aM w (cb d) vB (cls d)
 inj:∀d e,d<n->e<n->cb d=cb e->d=e
 rB:base<=G
 rW:∀d,d<n->base<=cb d
abbrev iW(base:Nat)(w:World)(G:Nat)(hs:Nat->aq)(cb:Nat->Nat)(s:an):Prop:=j5 base w G hs cb (rA hs s) (tU hs s) s.c.cl.length (cont hs cb s)
def an.pn(s:an)(k:Nat)(x:Int):an:={s with c:={s.c with val:=s.c.val.set k x}}
def an.rX(s:an)(k:Nat)(x:Nat):an:={s with c:={s.c with lvl:=s.c.lvl.set k x}}
def an.qM(s:an)(k:Nat)(x:Option Nat):an:={s with c:={s.c with j9:=s.c.j9.set k x}}
def an.wU(s:an)(k:Nat)(x:Int):an:={s with c:={s.c with av:=s.c.av.set k x}}
def an.qd(s:an)(k:Nat)(x:Int):an:={s with act:=s.act.set k x}
def an.tV(s:an)(k:Nat)(x:Int):an:={s with ord:=s.ord.set k x}
def an.pY(s:an)(k:Nat)(x:Int):an:={s with pl:=s.pl.set k x}
def an.uy(s:an)(k:Nat)(x:Bool):an:={s with bH:=s.bH.set k x}
def an.tn(s:an)(k:Nat)(x:Bool):an:={s with aK:=s.aK.set k x}
def an.yI(s:an)(x:Int):an:={s with c:={s.c with av:=s.c.av++[x]}}
theorem Dk(r:Nat):qZ r≠tg/\qZ r≠vB:=by
 unfold qZ
 repeat (split;·exact⟨by decide,by decide⟩)
 exact⟨by decide,by decide⟩
section
variable {base:Nat}{w w':World}{G:Nat}{hs:Nat->aq}{cb:Nat->Nat}{de:List Value}{cls:Nat->List Value}{n:Nat}{X:Nat->List Value}
theorem j5.below(h:j5 base w G hs cb de cls n X)(b:Below w.heap.size w w'):j5 base w' G hs cb de cls n X:=
 ⟨h.box.below b,h.rows.below b,λ d c=>(h.cls d c).below b,h.inj,h.rB,h.rW⟩
theorem j5.Dl(h:j5 base w G hs cb de cls n X){d:Nat}(c:d<n):G≠cb d:=by
 intro e;have h1:=h.box;have b:=h.cls d c;rw[<-e] at b;unfold aM at h1 b;rw[h1] at b;injection b with b
 injection b with _ b
 exact absurd b (by decide)
theorem j5.uz(h:j5 base w G hs cb de cls n X)(r g:Nat)(c:(hs r).b=some g):G≠g:=by
 have:=h.rows.Da h.box (λ r=>(Dk r).1) r g c;intro e;exact this (by rw[e])
theorem j5.xU(h:j5 base w G hs cb de cls n X){d:Nat}(c:d<n)(r g:Nat)(f:(hs r).b=some g):cb d≠g:=by
 have:=h.rows.Da (h.cls d c) (λ r=>(Dk r).2) r g f;intro e;exact this (by rw[e])
theorem j5.field(h:j5 base w G hs cb de cls n X)(k:Nat)(v:Value):j5 base (w.setCell ⟨G,k,none⟩ v) G hs cb (de.set k v) cls n X:=
 ⟨h.box.set k v,h.rows.kept (kK w G k v) (λ r g c e=>h.uz r g c (by injection e)),λ d b=>(h.cls d b).kept (kK w G k v) (λ e=>h.Dl b (by injection e with e;exact e.symm)),h.inj,h.rB,h.rW⟩
theorem j5.Ko(h:j5 base w G hs cb de cls n X){d:Nat}(b:d<n)(k:Nat)(v:Value):j5 base (w.setCell ⟨cb d,k,none⟩ v) G hs cb de (iH cls d ((cls d).set k v)) n X:=by
 refine⟨h.box.kept (kK w (cb d) k v) (λ e=>h.Dl b (by injection e)),h.rows.kept (kK w (cb d) k v) (λ r g f e=>h.xU b r g f (by injection e)),λ e he=>?_,h.inj,h.rB,h.rW⟩
 by_cases c:e=d
 ·subst c;rw[jC];exact(h.cls e he).set k v
 ·rw[aV _ _ c];exact(h.cls e he).kept (kK w (cb d) k v) (λ i=>c (h.inj e d he b (by injection i)))
theorem j5.cell(h:j5 base w G hs cb de cls n X){r g:Nat}(c:(hs r).b=some g)(k:Nat)(v:Value):j5 base (w.setCell ⟨g,k,none⟩ v) G hs cb de cls n (iH X r ((X r).set k v)):=
 ⟨h.box.kept (kK w g k v) (λ e=>h.uz r g c (by injection e)),h.rows.set c k v,λ d f=>(h.cls d f).kept (kK w g k v) (λ e=>h.xU f r g c (by injection e)),h.inj,h.rB,h.rW⟩
theorem j5.iS(h:j5 base w G hs cb de cls n X){r:Nat}{h':aq}{ys:List Value}(c:w.grownBy w' (hs r).b)(i:w'.ownsRow base (qZ r) (nW r) h'.v h'.n ys)(j:h'.b=(hs r).b\/∀g,h'.b=some g->w.heap.size<=g):
  j5 base w' G (iH hs r h') cb de cls n (iH X r ys):=by
 refine⟨h.box.kept c (λ e=>?_),h.rows.iS c i j,λ d f=>(h.cls d f).kept c (λ e=>?_),h.inj,h.rB,h.rW⟩
 ·exact h.uz r G e.symm rfl
 ·exact h.xU f r (cb d) e.symm rfl
theorem j5.cut(h:j5 base w G hs cb de cls n X){r g:Nat}(d:(hs r).b=some g){k:Nat}(hk:k<=(hs r).n):j5 base w G (iH hs r ⟨(hs r).A,k,(hs r).c⟩) cb de cls n (iH X r ((X r).take (k*nW r))):=
 ⟨h.box,h.rows.cut d hk,h.cls,h.inj,h.rB,h.rW⟩
theorem j5.eq{hs':Nat->aq}{sr:Nat->Nat}{zX:List Value}{FM:Nat->List Value}{ig:Nat}{lI:Nat->List Value}(h:j5 base w G hs cb de cls n X)(h1:hs=hs')(c:cb=sr)(e:de=zX)(f:∀d,d<n->cls d=FM d)(g:n=ig)(i:∀r,X r=lI r):j5 base w G hs' sr zX FM ig lI:=by
 subst h1 c e g;have j:X=lI:=funext i;subst j;exact⟨h.box,h.rows,λ d b=>by rw[<-f d b];exact h.cls d b,h.inj,h.rB,h.rW⟩
end
end
section
open Go.RowKit
def pq(ops:Array Oper)(j:Nat):Option Tmp:=(ops[j]?).bind λ o:Oper=>o.dst
def j3(ops:Array Oper)(vals:Nat->Value)(L:Nat->Bool)(a:Act):Nat->Act
 |0=>a
 |k+1=>if L k=true then (j3 ops vals L a k).put (pq ops k) (vals k) else j3 ops vals L a k
def k6(vals:Nat->Value)(i:Nat)(v:Value):Nat->Value:=λ j=>if j=i then v else vals j
def k9(L:Nat->Bool)(i:Nat):Nat->Bool:=λ j=>if j=i then true else L j
theorem put_comm{a:Act}{d e:Option Tmp}{u v:Value}(h:∀s,d=some s->e≠some s):(a.put d u).put e v=(a.put e v).put d u:=by
 cases d with
 |none=>rfl
 |some d=>
  cases e with
  |none=>rfl
  |some e=>
   have b:d≠e:=λ x=>h d rfl (x▸rfl)
   simp only[Act.put];rw[Array.setIfInBounds_comm _ _ b]
section
variable {ops:Array Oper}{vals:Nat->Value}{L:Nat->Bool}{a:Act}{i:Nat}{v:Value}
theorem FN:∀k,k<=i->j3 ops (k6 vals i v) (k9 L i) a k=j3 ops vals L a k
 |0,_=>rfl
 |k+1,hk=>by
  have b:k≠i:=by omega
  simp only[j3,FN k (by omega)];have c:k9 L i k=L k:=by unfold k9;rw[if_neg b]
  have d:k6 vals i v k=vals k:=by unfold k6;rw[if_neg b]
  rw[c,d]
theorem Bv(d:∀j,j≠i->∀s,pq ops i=some s->pq ops j≠some s)(f:L i=false):∀k,i<k->
  (j3 ops vals L a k).put (pq ops i) v=j3 ops (k6 vals i v) (k9 L i) a k
 |0,h=>by omega
 |k+1,h=>by
  by_cases e:k=i
  ·subst e;simp only[j3];rw[FN k (r_ _),f];have b:k9 L k k=true:=by unfold k9;rw[if_pos rfl]
   have c:k6 vals k v k=v:=by unfold k6;rw[if_pos rfl]
   rw[b,c];simp
  ·simp only[j3];have b:k9 L i k=L k:=by unfold k9;rw[if_neg e]
   have c:k6 vals i v k=vals k:=by unfold k6;rw[if_neg e]
   rw[b,c,<-Bv d f k (by omega)]
   by_cases hk:L k=true
   ·rw[if_pos hk,if_pos hk];exact put_comm λ s h1 g=>d k e s g h1
   ·rw[if_neg hk,if_neg hk]
theorem Kq(a:Act)(d:Option Tmp)(v:Value):(a.put d v).tmps.size=a.tmps.size:=by
 cases d<;>simp[Act.put]
theorem Dm:∀k,(j3 ops vals L a k).tmps.size=a.tmps.size
 |0=>rfl
 |k+1=>by
  simp only[j3];split
  ·rw[Kq,Dm k]
  ·exact Dm k
theorem FO{a:Act}{d:Option Tmp}{v:Value}{x:Operand}(h:∀s,d=some s->x≠ .tmp s):(a.put d v).eval x=a.eval x:=by
 cases d with
 |none=>rfl
 |some s=>
  cases x with
  |tmp t=>
   have b:s≠t:=λ e=>h s rfl (e▸rfl)
   simp only[Act.put,Act.eval];rw[y_,y_,a_ b]
  |const v=>rfl
  |global g=>rfl
  |func f=>rfl
theorem Kr{a:Act}{s:Tmp}{v:Value}(h:s<a.tmps.size):(a.put (some s) v).eval (.tmp s)=v:=by
 simp only[Act.put,Act.eval];rw[y_,h_ h];rfl
theorem zY{x:Operand}(h:∀j s,L j=true->pq ops j=some s->x≠ .tmp s):∀k,(j3 ops vals L a k).eval x=a.eval x
 |0=>rfl
 |k+1=>by
  simp only[j3]
  by_cases hk:L k=true
  ·rw[if_pos hk,FO (λ s=>h k s hk),zY h k]
  ·rw[if_neg hk];exact zY h k
theorem zZ{j:Nat}{s:Tmp}(b:pq ops j=some s)(hs:s<a.tmps.size)(c:L j=true)(d:∀i,i≠j->pq ops i≠some s):∀k,j<k->(j3 ops vals L a k).eval (.tmp s)=vals j
 |0,h=>by omega
 |k+1,h=>by
  by_cases e:k=j
  ·subst e;simp only[j3];rw[if_pos c,b,Kr (by rw[Dm];exact hs)]
  ·simp only[j3];split
   ·rw[FO (λ t g f=>d k e (by rw[g];injection f with f;rw[f]))];exact zZ b hs c d k (by omega)
   ·exact zZ b hs c d k (by omega)
end
def gE(P:Program)(post:Value->World->Prop):Result Next->Prop
 | .ok (.value v) w'=>post v w'
 | .ok .skip w'=>post undef w'
 | .ok (.enter f args) w'=>Calls P f args w' λ e b=>∃v,e=.returned v/\post v b
 |_=>False
def aZ(P:Program)(b:Operand->Value)(o:Oper)(w:World)(post:Value->World->Prop):Prop:=gE P post ((execOp b o).run P w)
theorem aZ.wp{P:Program}{o:Oper}{a:Act}{w:World}{post:Value->World->Prop}{K:Act->World->Prop}{Q:Exit->Act->World->Prop}(h:aZ P a.eval o w post)(hk:∀v w',post v w'->K (a.put o.dst v) w'):o.wp P a w K Q:=by
 unfold aZ at h;unfold Oper.wp;generalize (execOp a.eval o).run P w=r at*
 cases r with
 |ok n w'=>
  cases n<;>simp only[gE] at h<;>simp only[Oper.upon]
  case value u=>exact hk _ _ h
  case skip=>exact hk _ _ h
  case enter f args=>
   refine h.mono λ e b ⟨v,he,hp⟩=>?_
   subst he;exact hk _ _ hp
 |halt x w'=>simp only[gE] at h
def tW(ops:Array Oper):Bool:=(l_ ops.size).all λ i=>(l_ ops.size).all λ j=>j==i||match pq ops i with
 |some s=>pq ops j !=some s
 |none=>true
def rY(ops:Array Oper):Bool:=ops.all λ o=>o.guard.isNone
theorem yJ(h:tW ops=true){i j:Nat}(e:j≠i){s:Tmp}(c:pq ops i=some s):pq ops j≠some s:=by
 intro d;have f:i<ops.size:=by
  cases b:ops[i]? with
  |none=>unfold pq at c;rw[b] at c;cases c
  |some o=>exact(Ze.1 b).1
 have g:j<ops.size:=by
  cases b:ops[j]? with
  |none=>unfold pq at d;rw[b] at d;cases d
  |some o=>exact(Ze.1 b).1
 unfold tW at h;simp only[Zd,n_] at h;have h1:=h i f j g;rw[c] at h1;simp only[Bool.or_eq_true,beq_iff_eq,e,false_or,bne_iff_ne,ne_eq] at h1;exact h1 d
def gY(listed:Array Bool):Nat->Bool:=λ j=>listed.getD j false
theorem qp(h:i<listed.size):gY (listed.setIfInBounds i true)=k9 (gY listed) i:=by
 funext j;unfold gY k9
 by_cases e:j=i
 ·subst e;rw[if_pos rfl,y_,h_ h];rfl
 ·rw[if_neg e];show(listed.setIfInBounds i true).getD j false=listed.getD j false;rw[y_,y_,a_ (λ x=>e x.symm)]
def vX(G:Nat->Value->World->Prop)(dead:Nat->Option Nat)(L:Nat->Bool)(vals:Nat->Value)(w:World):Prop:=
 ∀j,L j=true->(∀c,dead j=some c->L c=false)->G j (vals j) w
def qq(ds:List (Option Tmp))(j:Nat):Option Tmp:=ds.getD j none
def su(ds:List (Option Tmp))(G:Nat->Value->World->Prop)(dead:Nat->Option Nat)(i:Nat)(vals:Nat->Value)(w:World)(b:Operand->Value):List Edge->Prop
 |[]=>True
 |e::r=>(Zu .any e=true->((dead e.on=none\/dead e.on=some i)->G e.on (vals e.on) w)/\∀s,qq ds e.on=some s->b (.tmp s)=vals e.on)/\su ds G dead i vals w b r
def qs(ws:List (List Nat))(j i:Nat):Bool:=(ws.getD j []).contains i
def qt(b:Operand->Value):List (Tmp×Value)->Prop
 |[]=>True
 |p::r=>b (.tmp p.1)=p.2/\qt b r
def yK(ds:List (Option Tmp))(ws:List (List Nat))(i:Nat)(s:Tmp):Bool:=(l_ ds.length).all λ j=>qq ds j !=some s||qs ws j i
def rC(ds:List (Option Tmp))(ws:List (List Nat))(i:Nat)(b:Operand->Value):List (Tmp×Value)->Prop
 |[]=>True
 |p::r=>(yK ds ws i p.1=true->b (.tmp p.1)=p.2)/\rC ds ws i b r
theorem rC.of{pO FP:Operand->Value}{ds:List (Option Tmp)}{ws:List (List Nat)}{i:Nat}(he:∀s,yK ds ws i s=true->FP (.tmp s)=pO (.tmp s)):∀{l:List (Tmp×Value)},qt pO l->rC ds ws i FP l
 |[],_=>trivial
 |p::r,h=>⟨λ b=>(he _ b).trans h.1,rC.of he h.2⟩
theorem Dn{ds:List (Option Tmp)}{ws:List (List Nat)}{s:Tmp}(h:yK ds ws i s=true){j:Nat}(b:qq ds j=some s):qs ws j i=true:=by
 have c:j<ds.length:=by
  rcases u_ j ds.length with h1|h1
  ·exact h1
  ·unfold qq at b;rw[x_,Z9 h1] at b;cases b
 unfold yK at h;rw[Zd] at h;have:=h j (n_.2 c);rw[b] at this;simpa using this
def rD(b:Operand->Value):Prop:=(∀v,b (.const v)=v)/\(∀g,b (.global g)=.pointer (some ⟨g,0,none⟩))/\∀f,b (.func f)=.func (.func f) #[] #[]
theorem rD.act(a:Act):rD a.eval:=⟨λ _=>rfl,λ _=>rfl,λ _=>rfl⟩
def pz(ws:List (List Nat)):Nat->Nat->Nat->Bool
 |0,j,i=>qs ws j i
 |n+1,j,i=>qs ws j i||(ws.getD j []).any λ k=>pz ws n k i
theorem su.of{ds:List (Option Tmp)}{G:Nat->Value->World->Prop}{dead:Nat->Option Nat}{i:Nat}{vals:Nat->Value}{w:World}{aC:Operand->Value}:∀{l:List Edge},(∀e∈l,Zu .any e=true->((dead e.on=none\/dead e.on=some i)->G e.on (vals e.on) w)/\∀s,qq ds e.on=some s->aC (.tmp s)=vals e.on)->su ds G dead i vals w aC l
 |[],_=>trivial
 |e::r,h=>⟨h e (by simp),su.of λ b he=>h b (by simp[he])⟩
def tX(ops:Array Oper)(n:Nat):Bool:=ops.all λ o=>match o.dst with|some s=>decide (s<n)|none=>true
theorem Dp(h:tX ops n=true){j:Nat}{s:Tmp}(hs:pq ops j=some s):s<n:=by
 unfold pq at hs
 cases b:ops[j]? with
 |none=>rw[b] at hs;cases hs
 |some o=>
  rw[b] at hs;have hs':o.dst=some s:=hs;unfold tX at h;rw[k_] at h;have:=h o (Array.mem_of_getElem? b);simp only[hs',decide_eq_true_eq] at this;exact this
theorem vY{md:Region.Mode}(h:i∈Zj md ops listed):i<ops.size/\listed.getD i true=false/\∃o,ops[i]? =some o/\∀e∈o.after,Zu md e=true->listed.getD e.on false=true:=by
 unfold Zj at h;obtain⟨h1,c⟩:=m_.1 h;have d:=n_.1 h1;simp only[c_,Bool.not_eq_true'] at c;refine⟨d,c.1,ops[i],p_ d,λ e he g=>?_⟩;have b:=c.2;rw[p_ d] at b;simp only[Z6,Zc] at b;rw[k_] at b;have f:=b e he;rw[g] at f;simpa using f
section
variable {ops:Array Oper}
def qf(ops:Array Oper)(listed:Array Bool):Nat:=((l_ ops.size).filter λ i=> !listed.getD i true).length
theorem Dq{listed:Array Bool}{i:Nat}(b:i<ops.size)(h:listed.getD i true=false):qf ops (listed.setIfInBounds i true)<qf ops listed:=by
 unfold qf;have c:i<listed.size:=by
  rcases u_ i listed.size with h1|h1
  ·exact h1
  ·rw[y_,Array.getElem?_eq_none h1] at h;cases h
 have e:((l_ ops.size).filter λ j=> !(listed.setIfInBounds i true).getD j true)=((l_ ops.size).filter λ j=> !listed.getD j true).filter λ j=>j !=i:=by
  rw[List.filter_filter];refine List.filter_congr λ j _=>?_
  by_cases e:j=i
  ·subst e;rw[y_,h_ c];simp
  ·rw[y_,a_ (λ x=>e x.symm),y_];simp[e]
 rw[e];have hm:i∈(l_ ops.size).filter λ j=> !listed.getD j true:=m_.2 ⟨n_.2 b,by rw[h];rfl⟩
 generalize ((l_ ops.size).filter λ j=> !listed.getD j true)=l at*;clear e;rcases u_ (l.filter λ j=>j !=i).length l.length with h1|h1
 ·exact h1
 ·have d:=Zh.1 (List.length_filter_eq_length_iff.1 (Nat.le_antisymm (List.length_filter_le _ _) h1)|>λ h=>Zh.2 h);have:=d i hm;simp at this
end
def vC(ops:Array Oper):Bool:=(l_ ops.size).all λ i=>match ops[i]? with
 |some o=>o.after.all λ e=> !Region.binds .any e||decide (e.on<i)
 |none=>true
theorem Dr(h:vC ops=true){listed:Array Bool}(m:listed.size=ops.size)(f:Zj .any ops listed=[]):qf ops listed=0:=by
 have key:∀i,i<ops.size->listed.getD i true=true:=by
  intro i
  induction i using Z4 with
  |_ i g=>
   intro b
   cases hl:listed.getD i true with
   |true=>rfl
   |false=>
    exfalso;have:i∈Zj .any ops listed:=by
     unfold Zj;refine m_.2 ⟨n_.2 b,?_⟩;rw[hl,p_ b];simp only[Bool.not_false,Bool.true_and,Z6,Zc];rw[k_];intro e he
     cases j:Zu .any e with
     |false=>rfl
     |true=>
      unfold vC at h;simp only[Zd,n_] at h;have h1:=h i b;rw[p_ b] at h1;simp only[] at h1;rw[k_] at h1;have c:=h1 e he;rw[j] at c;have k:e.on<i:=by simpa using c
      have d:=g e.on k (by omega);have l:e.on<listed.size:=by omega
      rw[y_,p_ l] at d⊢;simpa using d
    rw[f] at this;cases this
 unfold qf;rw[Z3,List.filter_eq_nil_iff];intro i b;rw[key i (n_.1 b)];simp
theorem yL(l:List Oper)(j:Nat):pq l.toArray j=qq (l.map λ o:Oper=>o.dst) j:=by
 unfold pq qq;rw[Zm,x_,Zp]
 cases l[j]? <;>rfl
def oJ:List (Option Tmp)->Nat->(Nat->Value)->Act->Act
 |[],_,_,a=>a
 |d::r,k,vals,a=>oJ r (k+1) vals (a.put d (vals k))
theorem FQ:∀(l:List (Option Tmp))(d:Option Tmp)(k:Nat)(vals:Nat->Value)(a:Act),oJ (l++[d]) k vals a=(oJ l k vals a).put d (vals (k+l.length))
 |[],d,k,vals,a=>rfl
 |e::l,d,k,vals,a=>by
  rw[List.cons_append,oJ,FQ l d,oJ,List.length_cons]
  congr 2
  omega
def ng(n:Nat):Nat->Bool:=λ j=>decide (j<n)
theorem Bw(l:List Oper)(vals:Nat->Value)(a:Act)(n:Nat):∀k,k<=n->k<=l.length->j3 l.toArray vals (ng n) a k=oJ ((l.map λ o:Oper=>o.dst).take k) 0 vals a
 |0,_,_=>rfl
 |k+1,hk,hl=>by
  have e:(l.map λ o:Oper=>o.dst).take (k+1)=(l.map λ o:Oper=>o.dst).take k++[pq l.toArray k]:=by
   rw[List.take_add_one]
   congr 1
   rw[Zp,d_ (by omega)];unfold pq;rw[Zm,d_ (by omega)];rfl
  rw[e,FQ];simp only[j3];have b:ng n k=true:=by unfold ng;simp;omega
  rw[if_pos b,Bw l vals a n k (by omega) (by omega),Zt,List.length_map]
  congr 2
  omega
def xV(l:List Oper)(n:Nat):Bool:=match l[n]? with
 |some o=>(l_ n).all λ j=>o.after.any λ e=>Zu .any e&&e.on==j
 |none=>false
section
variable {P:Program}{l:List Oper}{Q:Exit->Act->World->Prop}{a:Act}{old:List (Tmp×Value)}{gW:World->Prop}{G:Nat->Value->World->Prop}{dead:Nat->Option Nat}
theorem Bx{ops:Array Oper}{vals:Nat->Value}{L Ds:Nat->Bool}{a:Act}:∀k,(∀j,j<k->L j=Ds j)->j3 ops vals L a k=j3 ops vals Ds a k
 |0,_=>rfl
 |k+1,h=>by
  simp only[j3];rw[Bx k (λ j b=>h j (by omega)),h k (by omega)]
theorem yM{ops:Array Oper}{listed:Array Bool}(e:listed.size=ops.size)(b:qf ops listed=0):∀j,j<ops.size->gY listed j=true:=λ j c=>by
 cases hl:gY listed j with
 |true=>rfl
 |false=>
  have h1:j∈(l_ ops.size).filter λ i=> !listed.getD i true:=by
   refine m_.2 ⟨n_.2 c,?_⟩;unfold gY at hl;have d:j<listed.size:=by omega
   rw[y_,p_ d] at hl⊢;simpa using hl
  unfold qf at b;rw[Z3] at b;rw[b] at h1;cases h1
theorem yN{ws:List (List Nat)}(c:ws=l.map λ o:Oper=>(o.after.toList.filter (Zu .any)).map (·.on)){j i:Nat}(h:qs ws j i=true):∃o,l.toArray[j]? =some o/\∃e∈o.after,Zu .any e=true/\e.on=i:=by
 unfold qs at h;rw[c,x_,Zp] at h
 cases b:l[j]? with
 |none=>rw[b] at h;simp at h
 |some o=>
  rw[b] at h;simp only[Z6,Zc,List.contains_eq_mem,decide_eq_true_eq] at h;obtain⟨e,he,d⟩:=Zk.1 h;obtain⟨f,g⟩:=m_.1 he;exact⟨o,by rw[Zm];exact b,e,Array.mem_toList_iff.1 f,g,d⟩
def sv(ws:List (List Nat))(L:Nat->Bool):Prop:=∀j i,L j=true->qs ws j i=true->L i=true
theorem sv.reach{ws:List (List Nat)}{L:Nat->Bool}(h:sv ws L):∀(n j i:Nat),L j=true->pz ws n j i=true->L i=true
 |0,j,i,c,b=>h j i c b
 |n+1,j,i,c,b=>by
  unfold pz at b;rw[Bool.or_eq_true] at b;rcases b with b|b
  ·exact h j i c b
  ·obtain⟨k,hk,d⟩:=List.any_eq_true.1 b;exact h.reach n k i (h j k c (by unfold qs;simpa using hk)) d
end
def vZ:Code->Nat->Option (List Oper)
 | .region id ops _,k=>if id=k then some ops.toList else none
 | .seq x y,k=>(vZ x k).or (vZ y k)
 | .cond _ x y,k=>(vZ x k).or (vZ y k)
 | .block _ x,k=>vZ x k
 | .loop x,k=>vZ x k
 | .rangeFunc _ _ x y,k=>(vZ x k).or (vZ y k)
 |_,_=>none
def tq(f:Func)(k:Nat):List Oper:=(f.body.bind λ c=>vZ c k).getD []
end
section
open Go.RowKit Go.Shelf
section
variable {base:Nat}{w w':World}{G:Nat}{hs:Nat->aq}{cb:Nat->Nat}{de:List Value}{cls:Nat->List Value}{n:Nat}{X:Nat->List Value}
theorem j5.wV(h:j5 base w G hs cb de cls n X){r m:Nat}(d:(hs r).n=m)(e:m≠0):∃g,(hs r).A=some ⟨g,0,none⟩/\(hs r).b=some g/\(hs r).v=.slice (some ⟨g,0,none⟩) m (hs r).c:=by
 obtain⟨g,h1,f⟩:=h.rows.addr (r:=r) (by rw[d];exact e);exact⟨g,h1,f,by unfold aq.v;rw[h1,d]⟩
theorem j5.get(h:j5 base w G hs cb de cls n X){r g:Nat}(d:(hs r).b=some g){k:Nat}{v:Value}(c:(X r)[k]? =some v):w.cell? ⟨g,k,none⟩=some v:=by
 have hl:=h.rows.len r;have hk:k<(X r).length:=(List.getElem?_eq_some_iff.1 c).1;rw[h.rows.cell d (by omega)];exact c
theorem j5.kA(h:j5 base w G hs cb de cls n X){k:Nat}{v:Value}(b:de[k]? =some v):w.cell? ⟨G,k,none⟩=some v:=by rw[h.box.cell];exact b
end
theorem By{k:IntKind}{x y:Int}(h:x=y):Ending.returned (.int k x)=.returned (.int k y):=by rw[h]
theorem sM(l:Int)(w:World)(b: -1000000<=l)(h1:l<=1000000):Calls g_ 97 #[.int .i64 l] w λ e w'=>e=.returned (.int .i64 (aI l))/\w=w':=by
 have c:wrap64 (-l)= -l:=by unfold wrap64;omega
 rcases ZZ l (-l) with h|h
 ·have e:bF (-l=(aI l:Int)):=U (by unfold aI;omega);go_enter Tryz.func97,Tryz.ntmps97
  go_wp2
  all_goals
   go_ret;exact⟨By e.o,rfl⟩
 ·have e:bF (l=(aI l:Int)):=U (by unfold aI;omega);go_enter Tryz.func97,Tryz.ntmps97
  go_wp2
  all_goals
   go_ret;exact⟨By e.o,rfl⟩
theorem Dt(l:Int)(w:World)(d: -1000000<=l)(h1:l<=1000000):Calls g_ 181 #[.int .i64 l] w λ e w'=>e=.returned (.int .i64 (jy l))/\w=w':=by
 by_cases hl:l<0
 ·have b:wrap64 (-2*l)= -2*l:=by unfold wrap64;omega
  have f:wrap64 (-2*l+1)= -2*l+1:=by unfold wrap64;omega
  have c: -2*l+1=(jy l:Int):=by unfold jy;rw[if_pos hl];omega
  go_enter Tryz.func181,Tryz.ntmps181
  go_wp2;go_ret;exact⟨rfl,rfl⟩
 ·have b:wrap64 (2*l)=2*l:=by unfold wrap64;omega
  have c:2*l=(jy l:Int):=by unfold jy;rw[if_neg hl];omega
  go_enter Tryz.func181,Tryz.ntmps181
  go_wp2;go_ret;exact⟨rfl,rfl⟩
theorem Ks{s:an}(h:iW base w G hs cb s)(l:Int)(f:aI l<s.c.val.length)(i:∀v,ai s.c.val v=0\/ai s.c.val v=1\/ai s.c.val v= -1)(hl:aI l<=65536):
  Calls g_ 152 #[.pointer (some ⟨G,0,none⟩),.int .i64 l] w λ e w'=>e=.returned (.int .i8 (jY s.c l))/\w=w':=by
 obtain⟨n,j⟩:∃n,(hs 1).n=n:=⟨_,rfl⟩
 have hlen:=h.rows.len 1;have q:s.c.val.length=n:=by
  have:(cont hs cb s 1).length=s.c.val.length:=by simp[cont,th]
  rw[this] at hlen;have:nW 1=1:=rfl;rw[this] at hlen;omega
 obtain⟨g,-,y,k⟩:=h.wV (r:=1) j (by omega);have B:w.cell? ⟨G,2,none⟩=some (.slice (some ⟨g,0,none⟩) n (hs 1).c):=h.kA (by rw[<-k];rfl);obtain⟨x,b⟩:∃x,ai s.c.val (aI l)=x:=⟨_,rfl⟩
 have z:w.cell? ⟨g,aI l,none⟩=some (.int .i8 x):=h.get y (by
  show(th s.c.val)[aI l]? =_;unfold th;rw[Zp,d_ f];rw[nC f] at b;rw[b];rfl)
 have t:=i (aI l);rw[b] at t;have A:aI l<n:=by omega
 obtain⟨m,hm⟩:∃m:Nat,aI l=m:=⟨_,rfl⟩
 rw[hm] at z A hl;have C:(m:Int)<(n:Int):=by omega
 by_cases u:l<0
 ·have d:jY s.c l= -x:=by unfold jY;rw[if_pos u,b]
  have D:wrap64 (-l)=(m:Int):=by unfold wrap64;unfold aI at hm;omega
  obtain rfl:l= -(m:Int):=by unfold aI at hm;omega
  have p:=U d;have E:=U hm;clear h i f j hlen q k b d hm;have F:IntKind.i8.wrap (-x)= -x:=by rcases t with rfl|rfl|rfl<;>rfl
  go_enter Tryz.func152,Tryz.ntmps152
  go_wp2;go_ret;exact⟨By p.o.symm,rfl⟩
 ·have d:jY s.c l=x:=by unfold jY;rw[if_neg u,b]
  obtain rfl:l=(m:Int):=by unfold aI at hm;omega
  have p:=U d;clear h i f j hlen q k b d hm;go_enter Tryz.func152,Tryz.ntmps152
  go_wp2;go_ret;exact⟨By p.o.symm,rfl⟩
end
section
open Go.RowKit Go.Shelf
structure Fr(hs:Nat->aq)(G:Nat)(cb:Nat->Nat)(n:Nat)(w w':World):Prop where
 os:w'.os=w.os
 tape:w'.tape=w.tape
 output:w'.output=w.output
 size:w.heap.size<=w'.heap.size
 keep:∀b,b<w.heap.size->b≠G->(∀r,(hs r).b≠some b)->(∀d,d<n->cb d≠b)->w'.heap[b]? =w.heap[b]?
section
variable {base:Nat}{w w' w1:World}{G:Nat}{hs hs':Nat->aq}{cb:Nat->Nat}{de:List Value}{cls:Nat->List Value}{n:Nat}{X:Nat->List Value}
theorem Fr.trans(h:Fr hs G cb n w w1)(h':Fr hs G cb n w1 w'):Fr hs G cb n w w':=
 ⟨h'.os.trans h.os,h'.tape.trans h.tape,h'.output.trans h.output,Z0 h.size h'.size,λ b c h1 d e=>(h'.keep b (Zf c h.size) h1 d e).trans (h.keep b c h1 d e)⟩
theorem Fr.then(h:Fr hs G cb n w w1)(h':Fr hs' G cb n w1 w')(i:∀r g,(hs' r).b=some g->(∃r',(hs r').b=some g)\/w.heap.size<=g):Fr hs G cb n w w':=
 ⟨h'.os.trans h.os,h'.tape.trans h.tape,h'.output.trans h.output,Z0 h.size h'.size,λ b c h1 d f=>(h'.keep b (Zf c h.size) h1 (λ r e=>by
  rcases i r b e with⟨r',j⟩|hle
  ·exact d r' j
  ·omega) f).trans (h.keep b c h1 d f)⟩
theorem Fr.cell(r g k:Nat)(v:Value)(c:(hs r).b=some g):Fr hs G cb n w (w.setCell ⟨g,k,none⟩ v):=by
 have h:=kK w g k v;exact⟨h.os,h.tape,h.output,h.size,λ b d _ f _=>h.block b d (λ e=>f r (by rw[c];injection e with e;rw[e]))⟩
theorem Fr.kA(k:Nat)(v:Value):Fr hs G cb n w (w.setCell ⟨G,k,none⟩ v):=by
 have h:=kK w G k v;exact⟨h.os,h.tape,h.output,h.size,λ b c h1 _ _=>h.block b c (λ e=>h1 (by injection e))⟩
theorem Fr.grown(r:Nat)(c:w.grownBy w' (hs r).b):Fr hs G cb n w w':=
 ⟨c.os,c.tape,c.output,c.size,λ b d _ f _=>c.block b d (λ e=>f r e.symm)⟩
theorem Fr.q4(h:Below w.heap.size w w'):Fr hs G cb n w w':=
 ⟨h.os,h.tape,h.output,h.size,λ b c _ _ _=>h.block b c⟩
end
section
variable {base:Nat}{w w':World}{G:Nat}{hs:Nat->aq}{cb:Nat->Nat}{s:an}
theorem iW.jT(h:iW base w G hs cb s):(hs 1).n=s.c.val.length:=by
 have h1:=h.rows.len 1;rw[show(cont hs cb s 1).length=s.c.val.length by simp[cont,th],show nW 1=1 from rfl] at h1;omega
theorem iW.lD(h:iW base w G hs cb s):(hs 2).n=s.c.lvl.length:=by
 have h1:=h.rows.len 2;rw[show(cont hs cb s 2).length=s.c.lvl.length by simp[cont,qo],show nW 2=1 from rfl] at h1;omega
theorem iW.nD(h:iW base w G hs cb s):(hs 3).n=s.c.j9.length:=by
 have h1:=h.rows.len 3;rw[show(cont hs cb s 3).length=s.c.j9.length by simp[cont,ux],show nW 3=1 from rfl] at h1;omega
theorem iW.j8(h:iW base w G hs cb s):(hs 4).n=s.c.av.length:=by
 have h1:=h.rows.len 4;rw[show(cont hs cb s 4).length=s.c.av.length by simp[cont,gT],show nW 4=1 from rfl] at h1;omega
theorem iW.jZ(h:iW base w G hs cb s):(hs 5).n=s.c.st.length:=by
 have h1:=h.rows.len 5;rw[show(cont hs cb s 5).length=s.c.st.length by simp[cont,qo],show nW 5=1 from rfl] at h1;omega
theorem iW.n6(h:iW base w G hs cb s):(hs 6).n=s.act.length:=by
 have h1:=h.rows.len 6;rw[show(cont hs cb s 6).length=s.act.length by simp[cont,gT],show nW 6=1 from rfl] at h1;omega
theorem iW.n7(h:iW base w G hs cb s):(hs 7).n=s.ord.length:=by
 have h1:=h.rows.len 7;rw[show(cont hs cb s 7).length=s.ord.length by simp[cont,gT],show nW 7=1 from rfl] at h1;omega
theorem iW.n8(h:iW base w G hs cb s):(hs 8).n=s.pl.length:=by
 have h1:=h.rows.len 8;rw[show(cont hs cb s 8).length=s.pl.length by simp[cont,gT],show nW 8=1 from rfl] at h1;omega
theorem iW.jI(h:iW base w G hs cb s):(hs 9).n=s.bH.length:=by
 have h1:=h.rows.len 9;rw[show(cont hs cb s 9).length=s.bH.length by simp[cont,nR],show nW 9=1 from rfl] at h1;omega
theorem iW.n12(h:iW base w G hs cb s):(hs 12).n=s.aK.length:=by
 have h1:=h.rows.len 12;rw[show(cont hs cb s 12).length=s.aK.length by simp[cont,nR],show nW 12=1 from rfl] at h1;omega
end
section
variable {base:Nat}{w w':World}{G:Nat}{hs:Nat->aq}{cb:Nat->Nat}{s:an}
theorem iW.xW(h:iW base w G hs cb s){g:Nat}(d:(hs 1).b=some g)(k:Nat)(x:Int):iW base (w.setCell ⟨g,k,none⟩ (.int .i8 x)) G hs cb (s.pn k x):=by
 refine(h.cell d k (.int .i8 x)).eq rfl rfl rfl (λ _ _=>rfl) rfl (λ r=>?_)
 by_cases e:r=1
 ·subst e;rw[jC];show(th s.c.val).set k _=th (s.c.val.set k x);simp[th,b_]
 ·rw[aV _ _ e];simp only[cont,if_neg e,an.pn,an.rX,an.qM,an.wU,an.qd,an.tV,an.pY,an.uy,an.tn]
theorem iW.FR(h:iW base w G hs cb s){g:Nat}(d:(hs 2).b=some g)(k:Nat)(x:Nat):iW base (w.setCell ⟨g,k,none⟩ (.int .i64 (x:Int))) G hs cb (s.rX k x):=by
 refine(h.cell d k (.int .i64 (x:Int))).eq rfl rfl rfl (λ _ _=>rfl) rfl (λ r=>?_)
 by_cases e:r=2
 ·subst e;rw[jC];show(qo s.c.lvl).set k _=qo (s.c.lvl.set k x);simp[qo,b_]
 ·rw[aV _ _ e];simp only[cont,if_neg e,an.pn,an.rX,an.qM,an.wU,an.qd,an.tV,an.pY,an.uy,an.tn]
theorem iW.z1(h:iW base w G hs cb s){g:Nat}(d:(hs 3).b=some g)(k:Nat)(x:Option Nat):iW base (w.setCell ⟨g,k,none⟩ (q3 cb x)) G hs cb (s.qM k x):=by
 refine(h.cell d k (q3 cb x)).eq rfl rfl rfl (λ _ _=>rfl) rfl (λ r=>?_)
 by_cases e:r=3
 ·subst e;rw[jC];show(ux cb s.c.j9).set k _=ux cb (s.c.j9.set k x);simp[ux,b_]
 ·rw[aV _ _ e];simp only[cont,if_neg e,an.pn,an.rX,an.qM,an.wU,an.qd,an.tV,an.pY,an.uy,an.tn]
theorem iW.Bz(h:iW base w G hs cb s){g:Nat}(c:(hs 6).b=some g)(k:Nat)(x:Int):iW base (w.setCell ⟨g,k,none⟩ (.int .i64 x)) G hs cb (s.qd k x):=by
 refine(h.cell c k (.int .i64 x)).eq rfl rfl rfl (λ _ _=>rfl) rfl (λ r=>?_)
 by_cases e:r=6
 ·subst e;rw[jC];show(gT s.act).set k _=gT (s.act.set k x);simp[gT,b_]
 ·rw[aV _ _ e];simp only[cont,if_neg e,an.pn,an.rX,an.qM,an.wU,an.qd,an.tV,an.pY,an.uy,an.tn]
theorem iW.FT(h:iW base w G hs cb s){g:Nat}(c:(hs 7).b=some g)(k:Nat)(x:Int):iW base (w.setCell ⟨g,k,none⟩ (.int .i64 x)) G hs cb (s.tV k x):=by
 refine(h.cell c k (.int .i64 x)).eq rfl rfl rfl (λ _ _=>rfl) rfl (λ r=>?_)
 by_cases e:r=7
 ·subst e;rw[jC];show(gT s.ord).set k _=gT (s.ord.set k x);simp[gT,b_]
 ·rw[aV _ _ e];simp only[cont,if_neg e,an.pn,an.rX,an.qM,an.wU,an.qd,an.tV,an.pY,an.uy,an.tn]
theorem iW.xX(h:iW base w G hs cb s){g:Nat}(c:(hs 8).b=some g)(k:Nat)(x:Int):iW base (w.setCell ⟨g,k,none⟩ (.int .i64 x)) G hs cb (s.pY k x):=by
 refine(h.cell c k (.int .i64 x)).eq rfl rfl rfl (λ _ _=>rfl) rfl (λ r=>?_)
 by_cases e:r=8
 ·subst e;rw[jC];show(gT s.pl).set k _=gT (s.pl.set k x);simp[gT,b_]
 ·rw[aV _ _ e];simp only[cont,if_neg e,an.pn,an.rX,an.qM,an.wU,an.qd,an.tV,an.pY,an.uy,an.tn]
theorem iW.z6(h:iW base w G hs cb s){g:Nat}(c:(hs 9).b=some g)(k:Nat)(x:Bool):iW base (w.setCell ⟨g,k,none⟩ (.bool x)) G hs cb (s.uy k x):=by
 refine(h.cell c k (.bool x)).eq rfl rfl rfl (λ _ _=>rfl) rfl (λ r=>?_)
 by_cases e:r=9
 ·subst e;rw[jC];show(nR s.bH).set k _=nR (s.bH.set k x);simp[nR,b_]
 ·rw[aV _ _ e];simp only[cont,if_neg e,an.pn,an.rX,an.qM,an.wU,an.qd,an.tV,an.pY,an.uy,an.tn]
theorem iW.wW(h:iW base w G hs cb s){g:Nat}(c:(hs 12).b=some g)(k:Nat)(x:Bool):iW base (w.setCell ⟨g,k,none⟩ (.bool x)) G hs cb (s.tn k x):=by
 refine(h.cell c k (.bool x)).eq rfl rfl rfl (λ _ _=>rfl) rfl (λ r=>?_)
 by_cases e:r=12
 ·subst e;rw[jC];show(nR s.aK).set k _=nR (s.aK.set k x);simp[nR,b_]
 ·rw[aV _ _ e];simp only[cont,if_neg e,an.pn,an.rX,an.qM,an.wU,an.qd,an.tV,an.pY,an.uy,an.tn]
end
section
variable {base:Nat}{w w':World}{G:Nat}{hs:Nat->aq}{cb:Nat->Nat}{de:List Value}{cls:Nat->List Value}{n:Nat}{X:Nat->List Value}
theorem j5.lN(h:j5 base w G hs cb de cls n X)(k r:Nat){m:Nat}(hk:de[k]? =some (hs r).v)(e:(hs r).n=m)(f:m≠0):
  ∃g,(hs r).b=some g/\w.cell? ⟨G,k,none⟩=some (.slice (some ⟨g,0,none⟩) m (hs r).c)/\∀j,w.frozen? ⟨g,j,none⟩=false:=by
 obtain⟨g,h1,d,i⟩:=h.wV (r:=r) e f;exact⟨g,d,by rw[<-i];exact h.kA hk,λ j=>h.rows.free d j⟩
theorem j5.free(h:j5 base w G hs cb de cls n X)(k:Nat):w.frozen? ⟨G,k,none⟩=false:=h.box.free k
theorem j5.wX(h:j5 base w G hs cb de cls n X){r r' g nP:Nat}(c:r≠r')(h1:(hs r).b=some g)(d:(hs r').b=some nP):g≠nP:=λ e=>by
 subst e;exact h.rows.apart r r' g c h1 d
end
section
variable {base:Nat}{w w':World}{G:Nat}{hs:Nat->aq}{cb:Nat->Nat}{s:an}
theorem iW.z7(h:iW base w G hs cb s){g:Nat}(d:(hs 1).b=some g){k:Nat}(hk:k<s.c.val.length):w.cell? ⟨g,k,none⟩=some (.int .i8 (ai s.c.val k)):=h.get d (by
 show(th s.c.val)[k]? =_;rw[nC hk];simp[th,hk])
theorem iW.v7(h:iW base w G hs cb s){g:Nat}(d:(hs 2).b=some g){k:Nat}(hk:k<s.c.lvl.length):w.cell? ⟨g,k,none⟩=some (.int .i64 (gO s.c.lvl k:Int)):=h.get d (by
 show(qo s.c.lvl)[k]? =_;rw[vz hk];simp[qo,hk])
theorem iW.yO(h:iW base w G hs cb s){g:Nat}(d:(hs 3).b=some g){k:Nat}(hk:k<s.c.j9.length):w.cell? ⟨g,k,none⟩=some (q3 cb (mw s.c.j9 k)):=h.get d (by
 show(ux cb s.c.j9)[k]? =_;rw[FB hk];simp[ux,hk])
theorem iW.z8(h:iW base w G hs cb s){g:Nat}(d:(hs 4).b=some g){k:Nat}(hk:k<s.c.av.length):w.cell? ⟨g,k,none⟩=some (.int .i64 (ai s.c.av k)):=h.get d (by
 show(gT s.c.av)[k]? =_;rw[nC hk];simp[gT,hk])
theorem iW.FU(h:iW base w G hs cb s){g:Nat}(d:(hs 5).b=some g){k:Nat}(hk:k<s.c.st.length):w.cell? ⟨g,k,none⟩=some (.int .i64 (gO s.c.st k:Int)):=h.get d (by
 show(qo s.c.st)[k]? =_;rw[vz hk];simp[qo,hk])
theorem iW.yP(h:iW base w G hs cb s){g:Nat}(c:(hs 6).b=some g){k:Nat}(hk:k<s.act.length):w.cell? ⟨g,k,none⟩=some (.int .i64 (ai s.act k)):=h.get c (by
 show(gT s.act)[k]? =_;rw[nC hk];simp[gT,hk])
theorem iW.xY(h:iW base w G hs cb s){g:Nat}(c:(hs 7).b=some g){k:Nat}(hk:k<s.ord.length):w.cell? ⟨g,k,none⟩=some (.int .i64 (ai s.ord k)):=h.get c (by
 show(gT s.ord)[k]? =_;rw[nC hk];simp[gT,hk])
theorem iW.wY(h:iW base w G hs cb s){g:Nat}(c:(hs 8).b=some g){k:Nat}(hk:k<s.pl.length):w.cell? ⟨g,k,none⟩=some (.int .i64 (ai s.pl k)):=h.get c (by
 show(gT s.pl)[k]? =_;rw[nC hk];simp[gT,hk])
theorem iW.FV(h:iW base w G hs cb s){g:Nat}(c:(hs 9).b=some g){k:Nat}(hk:k<s.bH.length):w.cell? ⟨g,k,none⟩=some (.bool (jr s.bH k)):=h.get c (by
 show(nR s.bH)[k]? =_;simp[nR,jr,hk,x_])
theorem iW.Aa(h:iW base w G hs cb s){g:Nat}(c:(hs 12).b=some g){k:Nat}(hk:k<s.aK.length):w.cell? ⟨g,k,none⟩=some (.bool (jr s.aK k)):=h.get c (by
 show(nR s.aK)[k]? =_;simp[nR,jr,hk,x_])
end
end
section
open Go.RowKit Go.Shelf
theorem v8(hs:Nat->aq)(cb:Nat->Nat)(s:an){mJ:Nat}(b:mJ<13)(h':aq)(r:Nat):cont (iH hs mJ h') cb s r=cont hs cb s r:=by
 unfold cont;have:∀k,iH hs mJ h' (ij k)=hs (ij k):=λ k=>aV _ _ (by unfold ij;omega)
 simp only[this]
theorem we(hs:Nat->aq)(s:an){mJ:Nat}(b:mJ<13)(h':aq)(d:Nat):tU (iH hs mJ h') s d=tU hs s d:=by
 unfold tU;rw[aV _ _ (by unfold kz;omega)]
section
variable {base:Nat}{w gb:World}{G:Nat}{hs:Nat->aq}{cb:Nat->Nat}{s:an}
theorem j5.rE{de:List Value}{cls:Nat->List Value}{n:Nat}{X:Nat->List Value}(h:j5 base w G hs cb de cls n X)(k:Nat){r g m:Nat}(d:(hs r).b=some g)(e:(hs r).n=m)(hk:de[k]? =some (hs r).v):w.cell? ⟨G,k,none⟩=some (.slice (some ⟨g,0,none⟩) m (hs r).c):=by
 rw[h.kA hk];unfold aq.v;rw[(h.rows.form d).1,e]
theorem j5.after{de:List Value}{cls:Nat->List Value}{n:Nat}{X:Nat->List Value}(h:j5 base w G hs cb de cls n X){r:Nat}(c:w.grownBy gb (hs r).b)(k:Nat):gb.cell? ⟨G,k,none⟩=w.cell? ⟨G,k,none⟩/\gb.frozen? ⟨G,k,none⟩=false:=by
 have hk:=h.box.kept c (λ e=>h.uz r G e.symm rfl);exact⟨by rw[hk.cell,h.box.cell],hk.free k⟩
theorem iW.FW(h:iW base w G hs cb s){v':Value}{x:Int}(m:n9 w base 3 (hs 4).v (s.c.av.length+1) ((s.c.av++[x]).map (Z5 .i64)) v' gb):
  ∃(A':Option Addr)(c':Nat),v'=.slice A' (s.c.av.length+1) c'/\((aq.mk A' (s.c.av.length+1) c').b=(hs 4).b\/(aq.mk A' (s.c.av.length+1) c').b=some w.heap.size)/\gb.cell? ⟨G,5,none⟩=some (hs 4).v/\gb.frozen? ⟨G,5,none⟩=false/\
   iW base (gb.setCell ⟨G,5,none⟩ v') G (iH hs 4 ⟨A',s.c.av.length+1,c'⟩) cb (s.yI x)/\Fr hs G cb s.c.cl.length w (gb.setCell ⟨G,5,none⟩ v'):=by
 obtain⟨j,i,f⟩:=m;obtain⟨h',rfl,k⟩:=aq.lq j;rw[aq.own] at i f;rw[aq.own] at f;obtain⟨a1,a2⟩:=h.after i 5;have n:=h.iS (r:=4) (h':=h') i (by rw[k];exact j) (f.imp id (λ e g i=>by rw[e] at i;injection i with i;omega));have o:=n.field 5 h'.v;obtain⟨A',p,c'⟩:=h';obtain rfl:p=_:=k;refine⟨A',c',rfl,f,by rw[a1];exact h.kA rfl,a2,?_,?_⟩
 ·refine o.eq rfl rfl rfl (λ d _=>(we hs s (by omega) _ d).symm) rfl (λ r=>?_);rw[v8 hs cb _ (by omega)]
  by_cases e:r=4
  ·subst e;rw[jC];rfl
  ·rw[aV _ _ e];simp only[cont,if_neg e,an.yI]
 ·refine(Fr.grown 4 i).then (hs':=iH hs 4 ⟨A',s.c.av.length+1,c'⟩) (Fr.kA 5 _) (λ r g e=>?_)
  by_cases l:r=4
  ·subst l;rw[jC] at e;rcases f with f|f
   ·exact w_ ⟨4,f▸e⟩
   ·rw[f] at e;injection e with e;exact z_ (by omega)
  ·rw[aV _ _ l] at e;exact w_ ⟨r,e⟩
end
end
section
open Go.RowKit Go.Shelf
theorem bg(w:World)(o:Obj):Below w.heap.size w (w.alloc o):=(Zx _ _).alloc (r_ _) _
def Kt(base:Nat)(w:World)(G:Nat)(hs:Nat->aq)(cb:Nat->Nat)(s:an)(x:Int)(o:Option Nat)(e:Ending)(w':World):Prop:=
 e=.returned (.tuple #[])/\∃h':aq,iW base w' G (iH hs 4 h') cb {s with c:=k5 s.c x o}/\Fr hs G cb s.c.cl.length w w'/\(h'.b=(hs 4).b\/∃g,h'.b=some g/\w.heap.size<=g)
theorem Ku{s:an}(h:iW base w G hs cb s)(T:base<=w.heap.size)(x:Int)(o:Option Nat)
  (H:aI x<s.c.val.length) (z2:aI x<s.c.lvl.length) (z3:aI x<s.c.j9.length) (V:aI x<=65536) (aj:s.c.av.length<=1000000) (ak:s.c.st.length<=1000000):
  Calls g_ 156 #[.pointer (some ⟨G,0,none⟩),.int .i64 x,q3 cb o] w (Kt base w G hs cb s x o):=by
 obtain⟨g1,I,D,f1⟩:=h.lN 2 1 rfl h.jT (by omega);obtain⟨g2,W,X,f2⟩:=h.lN 3 2 rfl h.lD (by omega);obtain⟨g3,Y,z,f3⟩:=h.lN 4 3 rfl h.nD (by omega);obtain⟨m,hm⟩:∃m:Nat,aI x=m:=⟨_,rfl⟩
 have al: -65536<=x/\x<=65536:=by unfold aI at V;omega
 obtain⟨pa,J⟩:∃pa,q3 cb o=.pointer pa:=by cases o with|none=>exact⟨_,rfl⟩|some d=>exact⟨_,rfl⟩
 rw[J];have aa:=U J;clear J;have ab:(hs 5).n=s.c.st.length:=h.jZ;have i:=U h;have c1:=h.z7 I (k:=m) (by rw[<-hm];exact H);have E:=U hm;have Z:=U (v_ H (v_ z2 z3));have ao:(m:Int)<(s.c.val.length:Int):=by omega
 have ag:m<s.c.val.length:=by omega
 have ad:m<s.c.lvl.length:=by omega
 have ae:m<s.c.j9.length:=by omega
 have ar:(m:Int)<(s.c.lvl.length:Int):=by omega
 have au:(m:Int)<(s.c.j9.length:Int):=by omega
 have F:=f1 m;have t:=U I;have l:=U W;have p:=U Y;have aw:=U f1;have af:=U T;clear h I W Y f1 f2 f3 hm H z2 z3 V T
 by_cases ah:x<0
 ·go_enter Tryz.func156,Tryz.ntmps156
  go_upto_region 1 with(go_at_call 97;refine(sM x _ (by omega) (by omega)).mono ?_;rintro e w1 ⟨rfl,rfl⟩;rw[E.o])
  go_upto_region 2 with fail
  have B:=U (i.o.xW t.o m 1);generalize g:w.setCell ⟨g1,m,none⟩ (.int .i8 1)=w1 at B;have ai:bF (Fr hs G cb s.c.cl.length w w1):=U (g▸Fr.cell 1 g1 m _ t.o);clear g D X z c1 F;have D:=B.o.rE 2 t.o (show(hs 1).n=s.c.val.length from i.o.jT) rfl;have c1:=B.o.z7 t.o (k:=m) (by show m<(s.c.val.set m 1).length;rw[i_];exact ag);have F:w1.frozen? ⟨g1,m,none⟩=false:=B.o.rows.free t.o m
  go_upto_region 4 with fail
  have b:bF (iW base (w1.setCell ⟨g1,m,none⟩ (.int .i8 (-1))) G hs cb (s.pn m (-1))):=U (by
   have:=B.o.xW t.o m (-1)
   rwa[show(s.pn m 1).pn m (-1)=s.pn m (-1) by simp[an.pn,List.set_set]] at this)
  generalize g:w1.setCell ⟨g1,m,none⟩ (.int .i8 (-1))=j at b;have K:bF (Fr hs G cb s.c.cl.length w j):=U (ai.o.trans (g▸Fr.cell 1 g1 m _ t.o));clear g D c1 F;have z:=b.o.rE 3 l.o (show(hs 2).n=s.c.lvl.length from i.o.lD) rfl;have L:=b.o.rE 4 p.o (show(hs 3).n=s.c.j9.length from i.o.nD) rfl;have M:j.cell? ⟨G,6,none⟩=some (.slice (hs 5).A s.c.st.length (hs 5).c):=by rw[<-ab];exact b.o.kA rfl
  have c2:=b.o.v7 l.o (k:=m) ad;have c3:=b.o.yO p.o (k:=m) ae;have N:j.frozen? ⟨g2,m,none⟩=false:=b.o.rows.free l.o m;have O:j.frozen? ⟨g3,m,none⟩=false:=b.o.rows.free p.o m;have n23:g2≠g3:=b.o.wX (r:=2) (r':=3) (by omega) l.o p.o;have n32:g3≠g2:=λ e=>n23 e.symm
  go_wp2_with fail
  go_region
  have u:bF (iW base ((j.setCell ⟨g2,m,none⟩ (.int .i64 (s.c.st.length:Int))).setCell ⟨g3,m,none⟩ (.pointer pa)).drew G hs cb (((s.pn m (-1)).rX m s.c.st.length).qM m o)):=U (by
   have:=((b.o.FR l.o m s.c.st.length).z1 p.o m o).below (Zx _ _).drew
   rwa[aa.o] at this)
  generalize g:((j.setCell ⟨g2,m,none⟩ (.int .i64 (s.c.st.length:Int))).setCell ⟨g3,m,none⟩ (.pointer pa)).drew=f at u;have y:bF (Fr hs G cb s.c.cl.length w f):=U (K.o.trans (g▸((Fr.cell 2 g2 m _ l.o).trans (Fr.cell 3 g3 m _ p.o)).trans (Fr.q4 (Zx _ _).drew)));clear g z L M c2 c3 N O n23 n32;have P:f.cell? ⟨G,5,none⟩=some (.slice (hs 4).A s.c.av.length (hs 4).c):=by rw[<-(show(hs 4).n=s.c.av.length from i.o.j8)];exact u.o.kA rfl
  go_wp2_with (at_builtin;refine vp rfl (.tmp 45) (.tmp 47) rfl base (.slice (hs 4).A s.c.av.length (hs 4).c) s.c.av.length s.c.av rfl (by have:=(u.o.below (bg f (.cells #[.int .i64 x] 3))).rows.row 4;rw[aq.v,i.o.j8] at this;exact this) (some ⟨f.heap.size,0,none⟩) 1 1 [x] rfl (aN.lit f [x] 1 _ rfl rfl (by omega)) (by omega) (by have:=y.o.size;have:=af.o;simp;omega) ?_;intro v9 gb C;obtain⟨A',c',rfl,q,P,f5,Q,R⟩:=iW.FW (s:=((s.pn m (-1)).rX m s.c.st.length).qM m o) (x:=x) (u.o.below (bg f (.cells #[.int .i64 x] 3))) (by rw[show(hs 4).v=.slice (hs 4).A s.c.av.length (hs 4).c by rw[aq.v,i.o.j8]];exact C);clear C)
  go_end0;refine⟨rfl,⟨A',s.c.av.length+1,c'⟩,?_,(y.o.trans (Fr.q4 (bg f _))).trans R,?_⟩
  ·have e:(((s.pn m (-1)).rX m s.c.st.length).qM m o).yI x={s with c:=k5 s.c x o}:=by
    have S:vU x= -1:=by unfold vU;rw[if_pos ah]
    simp only[an.pn,an.rX,an.qM,an.yI,k5,E.o,S]
   rw[<-e];exact Q
  ·rcases q with q|q
   ·exact w_ q
   ·exact z_ ⟨_,q,by have:=y.o.size;simp;omega⟩
 ·go_enter Tryz.func156,Tryz.ntmps156
  go_upto_region 1 with(go_at_call 97;refine(sM x _ (by omega) (by omega)).mono ?_;rintro e w1 ⟨rfl,rfl⟩;rw[E.o])
  go_upto_region 2 with fail
  have b:=U (i.o.xW t.o m 1);generalize g:w.setCell ⟨g1,m,none⟩ (.int .i8 1)=j at b;have K:bF (Fr hs G cb s.c.cl.length w j):=U (g▸Fr.cell 1 g1 m _ t.o);clear g D X z c1 F;have z:=b.o.rE 3 l.o (show(hs 2).n=s.c.lvl.length from i.o.lD) rfl;have L:=b.o.rE 4 p.o (show(hs 3).n=s.c.j9.length from i.o.nD) rfl;have M:j.cell? ⟨G,6,none⟩=some (.slice (hs 5).A s.c.st.length (hs 5).c):=by rw[<-ab];exact b.o.kA rfl
  have c2:=b.o.v7 l.o (k:=m) ad;have c3:=b.o.yO p.o (k:=m) ae;have N:j.frozen? ⟨g2,m,none⟩=false:=b.o.rows.free l.o m;have O:j.frozen? ⟨g3,m,none⟩=false:=b.o.rows.free p.o m;have n23:g2≠g3:=b.o.wX (r:=2) (r':=3) (by omega) l.o p.o;have n32:g3≠g2:=λ e=>n23 e.symm
  go_wp2_with fail
  go_region
  have u:bF (iW base ((j.setCell ⟨g2,m,none⟩ (.int .i64 (s.c.st.length:Int))).setCell ⟨g3,m,none⟩ (.pointer pa)).drew G hs cb (((s.pn m 1).rX m s.c.st.length).qM m o)):=U (by
   have:=((b.o.FR l.o m s.c.st.length).z1 p.o m o).below (Zx _ _).drew
   rwa[aa.o] at this)
  generalize g:((j.setCell ⟨g2,m,none⟩ (.int .i64 (s.c.st.length:Int))).setCell ⟨g3,m,none⟩ (.pointer pa)).drew=f at u;have y:bF (Fr hs G cb s.c.cl.length w f):=U (K.o.trans (g▸((Fr.cell 2 g2 m _ l.o).trans (Fr.cell 3 g3 m _ p.o)).trans (Fr.q4 (Zx _ _).drew)));clear g z L M c2 c3 N O n23 n32;have P:f.cell? ⟨G,5,none⟩=some (.slice (hs 4).A s.c.av.length (hs 4).c):=by rw[<-(show(hs 4).n=s.c.av.length from i.o.j8)];exact u.o.kA rfl
  go_wp2_with (at_builtin;refine vp rfl (.tmp 45) (.tmp 47) rfl base (.slice (hs 4).A s.c.av.length (hs 4).c) s.c.av.length s.c.av rfl (by have:=(u.o.below (bg f (.cells #[.int .i64 x] 3))).rows.row 4;rw[aq.v,i.o.j8] at this;exact this) (some ⟨f.heap.size,0,none⟩) 1 1 [x] rfl (aN.lit f [x] 1 _ rfl rfl (by omega)) (by omega) (by have:=y.o.size;have:=af.o;simp;omega) ?_;intro v9 gb C;obtain⟨A',c',rfl,q,P,f5,Q,R⟩:=iW.FW (s:=((s.pn m 1).rX m s.c.st.length).qM m o) (x:=x) (u.o.below (bg f (.cells #[.int .i64 x] 3))) (by rw[show(hs 4).v=.slice (hs 4).A s.c.av.length (hs 4).c by rw[aq.v,i.o.j8]];exact C);clear C)
  go_end0;refine⟨rfl,⟨A',s.c.av.length+1,c'⟩,?_,(y.o.trans (Fr.q4 (bg f _))).trans R,?_⟩
  ·have e:(((s.pn m 1).rX m s.c.st.length).qM m o).yI x={s with c:=k5 s.c x o}:=by
    have S:vU x=1:=by unfold vU;rw[if_neg (by omega)]
    simp only[an.pn,an.rX,an.qM,an.yI,k5,E.o,S]
   rw[<-e];exact Q
  ·rcases q with q|q
   ·exact w_ q
   ·exact z_ ⟨_,q,by have:=y.o.size;simp;omega⟩
end
section
open Go.RowKit Go.Shelf
structure Sep(K:Nat->Prop)(w:World)(G:Nat)(hs:Nat->aq)(cb:Nat->Nat)(n:Nat):Prop where
 lt:∀b,K b->b<w.heap.size
 g:¬K G
 row:∀r b,(hs r).b=some b->¬K b
 cl:∀d,d<n->¬K (cb d)
structure aF(K:Nat->Prop)(w w':World):Prop where
 os:w'.os=w.os
 tape:w'.tape=w.tape
 output:w'.output=w.output
 size:w.heap.size<=w'.heap.size
 keep:∀b,K b->w'.heap[b]? =w.heap[b]?
def qN(K:Nat->Prop)(c:Nat):Nat->Prop:=λ b=>K b\/b=c
section
variable {base:Nat}{w w' w1:World}{G:Nat}{hs hs':Nat->aq}{cb:Nat->Nat}{de:List Value}{cls:Nat->List Value}{n:Nat}{X:Nat->List Value}{K kV:Nat->Prop}
theorem aF.refl:aF K w w:=⟨rfl,rfl,rfl,r_ _,λ _ _=>rfl⟩
theorem aF.trans(h:aF K w w1)(h':aF K w1 w'):aF K w w':=
 ⟨h'.os.trans h.os,h'.tape.trans h.tape,h'.output.trans h.output,Z0 h.size h'.size,λ b c=>(h'.keep b c).trans (h.keep b c)⟩
theorem aF.mono(h:aF K w w')(hk:∀b,kV b->K b):aF kV w w':=⟨h.os,h.tape,h.output,h.size,λ b c=>h.keep b (hk b c)⟩
theorem aF.below(h:aF K w w')(hk:∀b,b<base->K b):Below base w w':=⟨h.os,h.tape,h.output,h.size,λ b c=>h.keep b (hk b c)⟩
theorem aF.q4(h:Below w.heap.size w w')(hl:∀b,K b->b<w.heap.size):aF K w w':=⟨h.os,h.tape,h.output,h.size,λ b c=>h.block b (hl b c)⟩
theorem aF.cell(h:aF K w w'){p:Addr}(hk:K p.block):w'.cell? p=w.cell? p:=World.cell?_of_block (h.keep p.block hk)
theorem aF.blk(h:aF K w w'){b:Nat}{t:TypeId}{cs:List Value}(c:aM w b t cs)(hk:K b):aM w' b t cs:=(h.keep b hk).trans c
theorem aF.set(b k:Nat)(v:Value)(hk:¬K b):aF K w (w.setCell ⟨b,k,none⟩ v):=by
 have h:=kK w b k v;refine⟨h.os,h.tape,h.output,h.size,λ c d=>?_⟩;exact Below.heap_setCell _ _ _ _ (λ e=>hk (by have f:c=b:=e;rw[<-f];exact d))
theorem aF.grown{row:Option Nat}(h:w.grownBy w' row)(hl:∀b,K b->b<w.heap.size)(d:∀b,row=some b->¬K b):aF K w w':=
 ⟨h.os,h.tape,h.output,h.size,λ b c=>h.block b (hl b c) (λ e=>d b e.symm c)⟩
theorem aF.FX(h:Fr hs G cb n w w')(s:Sep K w G hs cb n):aF K w w':=
 ⟨h.os,h.tape,h.output,h.size,λ b c=>h.keep b (s.lt b c) (λ e=>s.g (e▸c)) (λ r e=>s.row r b e c) (λ d f e=>s.cl d f (e▸c))⟩
theorem Sep.more(s:Sep K w G hs cb n)(h:w.heap.size<=w'.heap.size):Sep K w' G hs cb n:=⟨λ b aa=>Zf (s.lt b aa) h,s.g,s.row,s.cl⟩
theorem Sep.mono(s:Sep K w G hs cb n)(hk:∀b,kV b->K b):Sep kV w G hs cb n:=⟨λ b aa=>s.lt b (hk b aa),λ h=>s.g (hk _ h),λ r b h aa=>s.row r b h (hk _ aa),λ d c h=>s.cl d c (hk _ h)⟩
theorem Sep.iS(s:Sep K w G hs cb n){r:Nat}{h':aq}(aa:∀g,h'.b=some g->¬K g):Sep K w G (iH hs r h') cb n:=
 ⟨s.lt,s.g,λ r' b e=>by
  by_cases c:r'=r
  ·subst c;rw[jC] at e;exact aa b e
  ·rw[aV _ _ c] at e;exact s.row r' b e,s.cl⟩
theorem Sep.aa(s:Sep K w G hs cb n){r:Nat}{h':aq}(aa:h'.b=(hs r).b\/∃g,h'.b=some g/\w.heap.size<=g):∀g,h'.b=some g->¬K g:=by
 intro g e hk;rcases aa with aa|⟨c,aa,hle⟩
 ·exact s.row r g (aa▸e) hk
 ·rw[aa] at e;injection e with e;subst e;have:=s.lt _ hk;omega
theorem j5.lt(h:j5 base w G hs cb de cls n X):base<w.heap.size:=by have:=h.rB;have:=h.box.lt;omega
theorem mK{e:TypeId}{size:Nat}{v:Value}{k bf:Nat}{xs:List Value}(h:w.ownsRow bf e size v k xs)(c:∀b,v.ownBlock=some b->w'.heap[b]? =w.heap[b]?):w'.ownsRow bf e size v k xs:=by
 refine⟨h.1,h.2.imp id ?_⟩;rintro⟨g,cap,cur,rfl,h1,d,f⟩;exact⟨g,cap,cur,rfl,h1,(c g rfl).trans d,f⟩
theorem yQ{e:TypeId}{size:Nat}{v:Value}{k bf aU:Nat}{xs:List Value}(h:w.ownsRow bf e size v k xs)(b:aU<=bf):w.ownsRow aU e size v k xs:=by
 refine⟨h.1,h.2.imp id ?_⟩;rintro⟨g,cap,cur,rfl,h1,c⟩;exact⟨g,cap,cur,rfl,Z0 b h1,c⟩
theorem j5.app(h:j5 base w G hs cb de cls n X)(s:Sep K w G hs cb n){r m:Nat}{v':Value}{ys:List Value}(f:w'.ownsRow base (qZ r) (nW r) v' m ys)(c:w.grownBy w' (hs r).v.ownBlock)(aa:v'.ownBlock=(hs r).v.ownBlock\/v'.ownBlock=some w.heap.size):
  ∃h':aq,v'=h'.v/\h'.n=m/\j5 base w' G (iH hs r h') cb de cls n (iH X r ys)/\Sep K w' G (iH hs r h') cb n/\aF K w w':=by
 obtain⟨h',rfl,rfl⟩:=aq.lq f;rw[aq.own] at c aa;rw[aq.own] at aa;have i:h'.b=(hs r).b\/∃g,h'.b=some g/\w.heap.size<=g:=aa.imp id (λ e=>⟨_,e,r_ _⟩);refine⟨h',rfl,rfl,h.iS c f (i.imp id (λ⟨g,e,hle⟩ j d=>by rw[e] at d;injection d with d;omega)),(s.iS (s.aa i)).more c.size,aF.grown c s.lt (λ b e=>s.row r b e)⟩
theorem j5.Kv(h:j5 base w G hs cb de cls n X){r:Nat}{h':aq}{ys:List Value}(l:w.ownsRow base (qZ r) (nW r) h'.v h'.n ys)(f:∀g,h'.b=some g->∀r',(hs r').b≠some g):
  j5 base w G (iH hs r h') cb de cls n (iH X r ys):=by
 refine⟨h.box,⟨λ r'=>?_,λ c d g i h1=>?_⟩,h.cls,h.inj,h.rB,h.rW⟩
 ·by_cases e:r'=r
  ·subst e;rw[jC,jC];exact l
  ·rw[aV _ _ e,aV _ _ e];exact h.rows.row r'
 ·by_cases j:c=r
  ·subst j;rw[jC] at h1;rw[aV _ _ (λ e=>i e.symm)];exact f g h1 d
  ·rw[aV _ _ j] at h1
   by_cases k:d=r
   ·subst k;rw[jC];exact λ m=>f g m c h1
   ·rw[aV _ _ k];exact h.rows.apart c d g i h1
end
structure aP(K:Nat->Prop)(base:Nat)(w:World)(G:Nat)(hs:Nat->aq)(cb:Nat->Nat)(s:an):Prop where
 e:iW base w G hs cb s
 s:Sep K w G hs cb s.c.cl.length
section
variable {base:Nat}{w w' w1:World}{G:Nat}{hs hs':Nat->aq}{cb:Nat->Nat}{s:an}{K kV:Nat->Prop}
theorem aP.below(h:aP K base w G hs cb s)(b:Below w.heap.size w w'):aP K base w' G hs cb s/\aF K w w':=⟨⟨h.e.below b,h.s.more b.size⟩,aF.q4 b h.s.lt⟩
theorem aP.uV{s':an}(h:aP K base w G hs cb s)(e:iW base w' G hs cb s')(b:s'.c.cl.length=s.c.cl.length)(f:Fr hs G cb s.c.cl.length w w'):aP K base w' G hs cb s'/\aF K w w':=⟨⟨e,by rw[b];exact h.s.more f.size⟩,.FX f h.s⟩
theorem aP.BA(h:aP K base w G hs cb s)(hk:∀b,kV b->K b):aP kV base w G hs cb s:=⟨h.e,h.s.mono hk⟩
end
end
section
def pP(c:Core)(l:List Int)(both:Bool):Core:=
 if both=true then c
 else if l.length=0 then wR c
 else if l.length=1 then
  if jY c (ai l 0)= -1 then wR (kj c l)
  else if jY c (ai l 0)=0 then k5 (kj c l) (ai l 0) (some c.cl.length)
  else kj c l
 else kj c l
theorem imp_nil(h:pM F []):Unsat F:=λ M b=>by
 obtain⟨x,c,_⟩:=h M b
 cases c
theorem Kw(c:Core)(l:List Int)(b:Bool):(pP c l b).n=c.n:=by
 unfold pP;repeat (first|rfl|split)
theorem Kx(c:Core)(l:List Int)(b:Bool):(pP c l b).st=c.st:=by
 unfold pP;repeat (first|rfl|split)
theorem Ky(c:Core)(l:List Int)(b:Bool):(pP c l b).ag=c.ag:=by
 unfold pP;repeat (first|rfl|split)
theorem BB(c:Core)(l:List Int)(b:Bool):(pP c l b).cl=if b=true\/l.length=0 then c.cl else c.cl++[l]:=by
 unfold pP
 by_cases h:b=true
 ·rw[if_pos h,if_pos (w_ h)]
 ·rw[if_neg h]
  by_cases d:l.length=0
  ·rw[if_pos d,if_pos (z_ d)];rfl
  ·rw[if_neg d,if_neg (c:=b=true\/l.length=0) (λ i=>i.elim h d)]
   by_cases e:l.length=1
   ·rw[if_pos e]
    by_cases f:jY c (ai l 0)= -1
    ·rw[if_pos f];rfl
    ·rw[if_neg f]
     by_cases g:jY c (ai l 0)=0
     ·rw[if_pos g];rfl
     ·rw[if_neg g];rfl
   ·rw[if_neg e];rfl
section
variable {F Fd:List (List Int)}{c:Core}{l:List Int}
theorem kf.take{h:Nat}{g:List Int}{both:Bool}(L:kf F Fd c h [])(hs:c.st=[])(E:h=0)(hl:both=false->l≠ []->oT c.n l)(f:both=false->pM F l)(o:∀x,x∈l↔x∈g)(G:both=true->vw g):
  kf F (Fd++[g]) (pP c l both) h []:=by
 have T:=L.au;have B:∀i,lu c.st i=0:=λ i=>by rw[hs];rfl
 have H:c.st.length=0:=by rw[hs];rfl
 unfold pP
 by_cases p:both=true
 ·rw[if_pos p];exact L.more (z_ (w_ (G p)))
 ·rw[if_neg p];have d:both=false:=by simpa using p
  by_cases q:l.length=0
  ·rw[if_pos q];have:l=[]:=List.eq_nil_of_length_eq_zero q;have hu:Unsat F:=imp_nil (by have:=f d;rwa[‹l=[]›] at this);exact(L.FI hu).more (w_ rfl)
  ·rw[if_neg q];have s:l≠ []:=λ e=>q (by rw[e];rfl)
   have ok:=hl d s;have t:2<=l.length->∀a b,(a=ai l 0/\b=ai l 1\/a=ai l 1/\b=ai l 0)-> -a∈c.av.take h->b∈c.av/\aS c b<=aS c a:=λ _ a b _ hm=>by
    rw[E] at hm;simp at hm
   have r:∀k,k<c.st.length->wM (c.av.take (gO c.st k)) l:=λ k hk=>by omega
   by_cases h1:l.length=1
   ·rw[if_pos h1];have hm:ai l 0∈l:=lY (by omega);have u:=ok.lt _ hm;have C:∀y∈l,y=ai l 0:=λ y m=>by
     obtain⟨k,hk,e⟩:=qn.1 m;obtain rfl:k=0:=by omega
     exact e.symm
    by_cases v:jY c (ai l 0)= -1
    ·rw[if_pos v];have hu:Unsat F:=λ M w=>by
      obtain⟨i,z,e⟩:=qn.1 ((T.xP u).1 v);have j:=yG T L.jG w i z (B i);rw[e] at j;obtain⟨y,m,D⟩:=f d M w;rw[C y m] at D;rw[w.1 _ u.oH,D] at j
      cases j
     have I:=(L.FI hu).new (l:=l) (g:=g) ok (f d) o t r (λ _=>w_ rfl);exact I
    ·rw[if_neg v]
     by_cases A:jY c (ai l 0)=0
     ·rw[if_pos A];exact L.FH ok (f d) o A (λ y m s=>absurd (C y m) s) (λ _=>H) (λ j=>by omega) r
     ·rw[if_neg A];have J:jY c (ai l 0)=1:=by have:=T.range (ai l 0);omega
      obtain⟨i,z,e⟩:=qn.1 ((T.pos _ u).1 J);exact L.new ok (f d) o t r (λ _=>z_ ⟨i,z,e,B i⟩)
   ·rw[if_neg h1];exact L.new ok (f d) o t r (λ j=>absurd j h1)
end
end
section
def pE(c:Core):Prop:=∀v d,mw c.j9 v=some d->d<c.cl.length
structure tY(c0 c:Core):Prop where
 n:c.n=c0.n
 st:c.st=c0.st
 len:c.cl.length=c0.cl.length
 lC:c.lC=c0.lC
 BC:c.wt.length=c0.wt.length
 av:∃e,c.av=c0.av++e
 cls:∀d x,x∈aA c.cl d↔x∈aA c0.cl d
 v0:ai c.val 0=ai c0.val 0
 qO:pE c0->pE c
theorem tY.refl(c:Core):tY c c:=⟨rfl,rfl,rfl,rfl,rfl,⟨[],by simp⟩,λ _ _=>Zg,rfl,id⟩
theorem tY.trans{a b c:Core}(h:tY a b)(h':tY b c):tY a c:=
 ⟨h'.n.trans h.n,h'.st.trans h.st,h'.len.trans h.len,h'.lC.trans h.lC,h'.BC.trans h.BC,by
  obtain⟨e,he⟩:=h.av;obtain⟨f,g⟩:=h'.av;exact⟨e++f,by rw[g,he,List.append_assoc]⟩,λ d x=>(h'.cls d x).trans (h.cls d x),h'.v0.trans h.v0,λ w=>h'.qO (h.qO w)⟩
theorem pE.set{c:Core}(h:pE c){x:Int}(o:Option Nat)(e:∀d,o=some d->d<c.cl.length):pE (k5 c x o):=by
 intro v d b;have b:mw (c.j9.set (aI x) o) v=some d:=b;show d<c.cl.length;rw[wK] at b;split at b
 ·exact e d b
 ·exact h v d b
theorem FY:∀(xs:List Int)(l:List (Option Nat))(v d:Nat),mw (tf l xs) v=some d->mw l v=some d
 |[],_,_,_,h=>h
 |x::xs,l,v,d,h=>by
  have h1:=FY xs (l.set (aI x) none) v d h;rw[wK] at h1;split at h1
  ·cases h1
  ·exact h1
theorem pE.back(h:pE c)(level:Nat):pE (mE c level):=λ v d b=>h v d (FY _ _ v d b)
theorem pE.new(h:pE c)(l:List Int):pE (kj c l):=λ v d b=>by
 show d<(c.cl++[l]).length;rw[q_];have:=h v d b;omega
theorem jU.len(T:jU c):c.av.length<=c.n:=by
 have h:=xQ (c.n+1) (0::c.av.map aI) (Zl.2 ⟨λ h=>by
  obtain⟨x,b,e⟩:=Zk.1 h;have:=(T.lit x b).1;omega,T.nu⟩) (λ v d=>by
  rcases s_.1 d with rfl|d
  ·omega
  ·obtain⟨x,b,e⟩:=Zk.1 d;have:=(T.lit x b).2;omega)
 simp at h;omega
structure ot(F Fd:List (List Int))(jH:List Int)(c0:Core)(h:Nat)(lit:Int)(list:List Nat)(i:Nat)(kept:List Nat)(c:Core):Prop where
 gH:kf F Fd c (h+1) (list.drop i)
 kB:ai c.av h=lit
 wt:aA c.wt (jy lit)=kept++list.drop i
 kl:kept.length<=i
 Du:i<=list.length
 sm:tY c0 c
 ag:c.ag=h+1
 jH:nK c jH
 cur:∀k,k<c.st.length->gO c.st k<=h
section
variable {F Fd:List (List Int)}{jH:List Int}{c0 c:Core}{h:Nat}{lit:Int}{list kept:List Nat}{i:Nat}
theorem ot.start(L:kf F Fd c0 h [])(A:nK c0 jH)(az:h<c0.av.length):ot F Fd jH c0 h (ai c0.av h) (aA c0.wt (jy (ai c0.av h))) 0 [] {c0 with ag:=h+1}:=
 ⟨by rw[List.drop_zero];exact L.next az,rfl,by simp,r_ _,Nat.zero_le _,⟨rfl,rfl,rfl,rfl,rfl,⟨[],by simp⟩,λ _ _=>Zg,rfl,λ w=>w⟩,rfl,A.same rfl rfl rfl,L.cur⟩
theorem ot.rF(V:ot F Fd jH c0 h lit list i kept c)(b:i<list.length):list[i]<c.cl.length/\2<=(aA c.cl list[i]).length/\(lit= -(w0 c list[i])\/lit= -(w1 c list[i])):=by
 have hm:list[i]∈aA c.wt (jy lit):=by rw[V.wt,j_ b];exact List.mem_append_right _ (List.mem_cons_self)
 obtain⟨h1,d,e⟩:=V.gH.wt.qX _ _ hm;exact⟨h1,d,e.imp vT vT⟩
theorem ot.az(V:ot F Fd jH c0 h lit list i kept c):h<c.av.length:=V.gH.hle
theorem ot.FZ(V:ot F Fd jH c0 h lit list i kept c):lit∈c.av:=by rw[<-V.kB];exact lY V.az
theorem ot.swap(V:ot F Fd jH c0 h lit list i kept c)(b:i<list.length):ot F Fd jH c0 h lit list i kept (lF c list[i] (kL (aA c.cl list[i]) 0 1)):=by
 obtain⟨h1,f,_⟩:=V.rF b;have hm:=wP (l:=aA c.cl list[i]) (i:=0) (j:=1) (by omega) (by omega);refine⟨V.gH.swap h1 f,V.kB,V.wt,V.kl,V.Du,V.sm.trans ⟨rfl,rfl,ry _ _ _,rfl,rfl,⟨[],by simp[lF]⟩,λ e x=>?_,rfl,λ w v d g=>by rw[ry];exact w v d g⟩,V.ag,V.jH.same rfl rfl rfl,V.cur⟩;rw[uq];split
 ·rename_i k;rw[<-k.1];exact hm x
 ·exact Zg
theorem ot.keep(V:ot F Fd jH c0 h lit list i kept c)(b:i<list.length)(hw:w1 c list[i]= -lit)(d:w0 c list[i]∈c.av):ot F Fd jH c0 h lit list (i+1) (kept++[list[i]]) c:=by
 obtain⟨h1,e,_⟩:=V.rF b;have L:=V.gH;rw[j_ b] at L;refine⟨L.kept h1 e (by omega) ?_ d (λ k hk=>?_),V.kB,?_,?_,b,V.sm,V.ag,V.jH,V.cur⟩
 ·rw[Zw,V.kB,hw];omega
 ·rw[Zw];exact V.cur k hk
 ·rw[V.wt,j_ b];simp
 ·rw[q_,e_];have:=V.kl;omega
theorem ot.move(V:ot F Fd jH c0 h lit list i kept c)(f:i<list.length)(hw:w1 c list[i]= -lit){k:Nat}(hk:2<=k)(g:k<(aA c.cl list[i]).length)(p:jY c (ai (aA c.cl list[i]) k)≠-1):
  ot F Fd jH c0 h lit list (i+1) kept (sk c list[i] k (kept++list.drop (i+1)))/\jy (-(ai (aA c.cl list[i]) k))≠jy lit:=by
 obtain⟨h1,z,_⟩:=V.rF f;have L:=V.gH;have T:=L.au;have n:=L.jG.mD _ h1;have q:=n.lt _ (lY g);have r:¬-(ai (aA c.cl list[i]) k)∈c.av:=λ b=>p ((T.xP q).2 b)
 have o:jy (-(ai (aA c.cl list[i]) k))≠jy lit:=λ e=>by
  have A:=vT e;have:ai (aA c.cl list[i]) 1=ai (aA c.cl list[i]) k:=by
   have B:w1 c list[i]=ai (aA c.cl list[i]) 1:=rfl;omega
  have:=uT n.nu (i:=1) (j:=k) (by omega) g this;omega
 have m: -(w1 c list[i])=lit:=by rw[hw];omega
 have s:=V.wt;rw[j_ f] at L;have t:=L.move (kept:=kept) h1 hk g (by omega) (by rw[Zw,V.kB,m]) r (by rw[m,s,j_ f]);have hm:=wP (l:=aA c.cl list[i]) (i:=1) (j:=k) (by omega) g;refine⟨⟨t,V.kB,?_,by have:=V.kl;omega,f,V.sm.trans ⟨rfl,rfl,ry _ _ _,rfl,?_,⟨[],by simp[sk,lF]⟩,λ e x=>?_,rfl,λ w v d u=>by show d<(lF c list[i] (kL (aA c.cl list[i]) 1 k)).cl.length;rw[ry];exact w v d u⟩,V.ag,V.jH.same rfl rfl rfl,V.cur⟩,o⟩
 ·show aA ((c.wt.set (jy (-(w1 c list[i]))) (kept++list.drop (i+1))).set (jy (-(ai (aA c.cl list[i]) k))) _) (jy lit)=_;have y:jy (-(w1 c list[i]))<c.wt.length:=by rw[L.wt.qW,m];exact(T.lit _ V.FZ).at
  rw[qI,if_neg (λ b=>o b.1),qI,if_pos ⟨by rw[m],y⟩]
 ·show((c.wt.set _ _).set _ _).length=_;rw[i_,i_]
 ·show x∈aA (lF c list[i] (kL (aA c.cl list[i]) 1 k)).cl e↔_;rw[uq];split
  ·rename_i b;rw[<-b.1];exact hm x
  ·exact Zg
theorem ot.F0(V:ot F Fd jH c0 h lit list i kept c)(g:i<list.length)(hw:w1 c list[i]= -lit)(j:∀k,2<=k->k<(aA c.cl list[i]).length->jY c (ai (aA c.cl list[i]) k)= -1):
  ∀x∈aA c.cl list[i],x≠w0 c list[i]-> -x∈c.av:=by
 obtain⟨h1,m,_⟩:=V.rF g;intro x b l;obtain⟨k,hk,e⟩:=qn.1 b;have az:=(V.gH.jG.mD _ h1).lt x b;rcases u_ k 2 with d|d
 ·rcases Nat.eq_zero_or_pos k with f|f
  ·subst f;exact absurd e.symm l
  ·obtain rfl:k=1:=by omega
   have:x= -lit:=by rw[<-e];exact hw
   rw[this,Zo];exact V.FZ
 ·exact(V.gH.au.xP az).1 (by rw[<-e];exact j k d hk)
theorem ot.Kz(V:ot F Fd jH c0 h lit list i kept c)(b:i<list.length)(hw:w1 c list[i]= -lit)(g:∀k,2<=k->k<(aA c.cl list[i]).length->jY c (ai (aA c.cl list[i]) k)= -1)(j:jY c (w0 c list[i])= -1):
  kf F Fd c h []/\∀x∈aA c.cl list[i],-x∈c.av:=by
 obtain⟨h1,l,_⟩:=V.rF b;have d:=V.gH.low (by omega) (λ k hk=>by rw[Zw];exact V.cur k hk);rw[Zw] at d;refine⟨d,λ x f=>?_⟩
 by_cases e:x=w0 c list[i]
 ·rw[e];exact(V.gH.au.xP ((V.gH.jG.mD _ h1).lt _ (e▸f))).1 j
 ·exact V.F0 b hw g x f e
theorem ot.set(V:ot F Fd jH c0 h lit list i kept c)(b:i<list.length)(hw:w1 c list[i]= -lit)(j:∀k,2<=k->k<(aA c.cl list[i]).length->jY c (ai (aA c.cl list[i]) k)= -1)(g:jY c (w0 c list[i])=0):
  ot F Fd jH c0 h lit list (i+1) (kept++[list[i]]) (k5 c (w0 c list[i]) (some list[i])):=by
 obtain⟨h1,p,_⟩:=V.rF b;have T:=V.gH.au;have l:=V.gH.jG.mD _ h1;have hm:w0 c list[i]∈aA c.cl list[i]:=lY (by omega);have f:=l.lt _ hm;have m:=V.gH.set (w:=some list[i]) f g ⟨h1,hm,V.F0 b hw j⟩;have n:ot F Fd jH c0 h lit list i kept (k5 c (w0 c list[i]) (some list[i])):=by
  refine⟨m,?_,V.wt,V.kl,V.Du,V.sm.trans ⟨rfl,rfl,rfl,rfl,rfl,⟨[_],rfl⟩,λ _ _=>Zg,by show ai (c.val.set _ _) 0=_;rw[o9,if_neg (by have:=f.1;omega)],λ w v d o=>pE.set w (some list[i]) (λ e he=>by injection he with he;rw[<-he];exact h1) v d o⟩,V.ag,V.jH.set T f g,V.cur⟩;show ai (c.av++[_]) h=lit;rw[sJ V.az];exact V.kB
 exact n.keep b hw (by show w0 c list[i]∈c.av++[_];simp)
theorem ot.done(V:ot F Fd jH c0 h lit list list.length kept c):kf F Fd c (h+1) []/\aA c.wt (jy lit)=kept:=by
 have h1:=V.gH;have b:=V.wt;rw[List.drop_length] at h1 b;exact⟨h1,by rw[b];simp⟩
end
end
section
structure pQ(c:Core)(mJ:List Int)(i level:Nat)(r:List Int):Prop where
 mem:∀x,x∈r↔x∈mJ
 len:r.length=mJ.length
 ag:ai r 0=ai mJ 0
 nu:r.Nodup
 le:∀k,1<=k->k<i->k<r.length->aS c (ai r k)<=level
 F1:2<=i->2<=r.length->aS c (ai r 1)=level
 low:i<=1->level=0
 lt:level<c.st.length
structure gU(F:List (List Int))(c:Core)(u:Int)(r:List Int):Prop where
 imp:pM F (u::r)
 F2: -u∈c.av
 F3:aS c u=c.st.length
 BD:∀x∈r,-x∈c.av/\1<=aS c x/\aS c x<c.st.length
 nu:r.Nodup
section
variable {F Fd:List (List Int)}{c:Core}{r mJ:List Int}{i level:Nat}{u:Int}
theorem pQ.start(b:mJ.Nodup)(hs:0<c.st.length):pQ c mJ 1 0 mJ:=
 ⟨λ _=>Zg,rfl,rfl,b,λ k h1 d=>by omega,λ h=>by omega,λ _=>rfl,hs⟩
theorem pQ.stay(h:pQ c mJ i level r)(h1:1<=i)(f:i<r.length)(hl:aS c (ai r i)<=level)(e:i=1->1<=aS c (ai r 1)):pQ c mJ (i+1) level r:=
 ⟨h.mem,h.len,h.ag,h.nu,λ k a b d=>by
  rcases u_ k i with hk|hk
  ·exact h.le k a hk d
  ·obtain rfl:k=i:=by omega
   exact hl,λ a b=>by
  rcases u_ i 2 with hk|hk
  ·obtain rfl:i=1:=by omega
   have:=e rfl;have:=h.low (r_ _);omega
  ·exact h.F1 hk b,λ a=>by omega,h.lt⟩
theorem pQ.iS(h:pQ c mJ i level r)(h1:1<=i)(f:i<r.length)(hl:level<aS c (ai r i))(hs:aS c (ai r i)<c.st.length):pQ c mJ (i+1) (aS c (ai r i)) (kL r 1 i):=by
 have g:=λ k=>qJ (l:=r) (i:=1) (j:=i) (by omega) f k
 refine⟨λ x=>(wP (by omega) f x).trans (h.mem x),(sj _ _ _).trans h.len,?_,FF (by omega) f h.nu,λ k a b d=>?_,λ a b=>?_,λ a=>by omega,hs⟩
 ·rw[g,if_neg (by omega),if_neg (by omega)];exact h.ag
 ·rw[sj] at d;rw[g]
  by_cases e:k=i
  ·rw[if_pos e];rcases u_ i 2 with hk|hk
   ·obtain rfl:i=1:=by omega
    exact r_ _
   ·have:=h.le 1 (r_ _) (by omega) (by omega);omega
  ·rw[if_neg e]
   by_cases m:k=1
   ·rw[if_pos m];exact r_ _
   ·rw[if_neg m];have:=h.le k a (by omega) d;omega
 ·rw[g]
  by_cases e:1=i
  ·rw[if_pos e];rw[e]
  ·rw[if_neg e,if_pos rfl]
theorem gU.nodup(h:gU F c u r)(T:jU c):(u::r).Nodup:=
 Zl.2 ⟨λ hu=>by have:=(h.BD u hu).2.2;have:=h.F3;omega,h.nu⟩
theorem pQ.done(h:pQ c (u::mJ) i level r)(o:r.length=i)(L:gU F c u mJ)(T:jU c):uU F c r level:=by
 have j:ai r 0=u:=h.ag;have hlen:r.length=mJ.length+1:=h.len;have f:∀x∈r,-x∈c.av:=λ x d=>by
  rcases s_.1 ((h.mem x).1 d) with rfl|d
  ·exact L.F2
  ·exact(L.BD x d).1
 refine⟨⟨λ e=>by rw[e] at hlen;simp at hlen,λ x d=>by have:=(T.lit _ (f x d)).neg;rwa[Zo] at this,h.nu,λ x d l=>T.apart (f x d) (by exact f _ l)⟩,?_,f,by rw[j];exact L.F3,λ k a b=>h.le k a (by omega) b,h.lt,λ g=>h.F1 (by omega) g,λ g=>h.low (by omega)⟩
 ·intro M m;obtain⟨x,d,n⟩:=L.imp M m;exact⟨x,(h.mem x).2 d,n⟩
end
end
section
def jl:Int:=1099511627776
def lE(s:an)(d:Nat):sq:=s.ci.getD d ⟨false,0,0⟩
structure mh(n:Nat)(A B:Int)(s:an):Prop where
 gV:s.c.n=n
 lJ:mb n s.ord s.pl
 kM:s.act.length=n+1
 pR:∀v,0<=ai s.act v/\ai s.act v<=A
 a0:ai s.act 0=0
 rG:1<=s.aW
 oU:s.aW<=A
 nE:s.bH.length=n+1
 oV:jr s.bH 0=false
 nX:s.ci.length=s.c.cl.length
 qg:∀d,0<=(lE s d).ac/\(lE s d).ac<=B/\0<=(lE s d).aS/\(lE s d).aS<=jl
 kW:∀d∈s.aJ,d<s.c.cl.length
structure ou(s s':an):Prop where
 c:s'.c=s.c
 bH:s'.bH=s.bH
 aJ:s'.aJ=s.aJ
 aD:s'.aD=s.aD
 aK:s'.aK=s.aK
 nl:s'.nl=s.nl
 jg:s'.jg=s.jg
 ol:s'.ord.length=s.ord.length
 same:vW s.pl s'.pl
 nX:s'.ci.length=s.ci.length
 ci:∀d,(lE s' d).kT=(lE s d).kT/\(lE s' d).aS=(lE s d).aS
theorem ou.refl(s:an):ou s s:=⟨rfl,rfl,rfl,rfl,rfl,rfl,rfl,rfl,.refl _,rfl,λ _=>⟨rfl,rfl⟩⟩
theorem ou.trans{a b c:an}(h:ou a b)(h':ou b c):ou a c:=
 ⟨h'.c.trans h.c,h'.bH.trans h.bH,h'.aJ.trans h.aJ,h'.aD.trans h.aD,h'.aK.trans h.aK,h'.nl.trans h.nl,h'.jg.trans h.jg,h'.ol.trans h.ol,h.same.trans h'.same,h'.nX.trans h.nX,
  λ d=>⟨(h'.ci d).1.trans (h.ci d).1,(h'.ci d).2.trans (h.ci d).2⟩⟩
structure pZ(s s':an):Prop where
 eq:∃o p,s'={s with ord:=o,pl:=p}
 lJ:mb s.c.n s'.ord s'.pl
 ol:s'.ord.length=s.ord.length
 same:vW s.pl s'.pl
theorem pZ.refl{s:an}(h:mb s.c.n s.ord s.pl):pZ s s:=⟨⟨s.ord,s.pl,rfl⟩,h,rfl,.refl _⟩
theorem pZ.trans{a b c:an}(h:pZ a b)(h':pZ b c):pZ a c:=by
 obtain⟨o,p,rfl⟩:=h.eq;obtain⟨d,e,rfl⟩:=h'.eq;exact⟨⟨d,e,rfl⟩,h'.lJ,h'.ol.trans h.ol,h.same.trans h'.same⟩
theorem pZ.hk{s s':an}(h:pZ s s'):ou s s':=by
 obtain⟨o,p,rfl⟩:=h.eq;exact⟨rfl,rfl,rfl,rfl,rfl,rfl,rfl,h.ol,h.same,rfl,λ _=>⟨rfl,rfl⟩⟩
theorem pZ.rg{s s':an}(h:pZ s s')(r:mh n A B s):mh n A B s':=by
 obtain⟨o,p,rfl⟩:=h.eq;have:=h.lJ;rw[r.gV] at this;exact⟨r.gV,this,r.kM,r.pR,r.a0,r.rG,r.oU,r.nE,r.oV,r.nX,r.qg,r.kW⟩
theorem Dv(h:l.length<=k):ai l k=0:=by simp[ai,x_,Z9 h]
theorem mh.act{n:Nat}{A A' B:Int}{s:an}(r:mh n A B s)(d:A<=A'){v:Nat}(e:1<=v){x:Int}(c:0<=x)(h1:x<=A'):mh n A' B (s.qd v x):=by
 refine⟨r.gV,r.lJ,by show(s.act.set v x).length=_;rw[i_];exact r.kM,λ u=>?_,?_,r.rG,by have:=r.oU;show s.aW<=_;omega,r.nE,r.oV,r.nX,r.qg,r.kW⟩
 ·show 0<=ai (s.act.set v x) u/\_;have b:ai (s.qd v x).act u=if v=u/\v<s.act.length then x else ai s.act u:=o9 _ _ _ _
  rw[show ai (s.act.set v x) u=_ from b,b];split
  ·exact⟨c,h1⟩
  ·have:=r.pR u;exact⟨this.1,by omega⟩
 ·show ai (s.act.set v x) 0=0;rw[o9,if_neg (by omega)];exact r.a0
theorem ou.act(s:an)(v:Nat)(x:Int):ou s (s.qd v x):=⟨rfl,rfl,rfl,rfl,rfl,rfl,rfl,rfl,.refl _,rfl,λ _=>⟨rfl,rfl⟩⟩
def an.wg(s:an)(x:Int):an:={s with aW:=x}
theorem mh.Ab{s:an}(r:mh n A B s)(b:A<=A'){x:Int}(c:1<=x)(h1:x<=A'):mh n A' B (s.wg x):=
 ⟨r.gV,r.lJ,r.kM,λ u=>by have:=r.pR u;exact⟨this.1,Zi this.2 b⟩,r.a0,c,h1,r.nE,r.oV,r.nX,r.qg,r.kW⟩
theorem ou.Ab(s:an)(x:Int):ou s (s.wg x):=⟨rfl,rfl,rfl,rfl,rfl,rfl,rfl,rfl,.refl _,rfl,λ _=>⟨rfl,rfl⟩⟩
theorem mh.mono{s:an}(r:mh n A B s)(b:A<=A')(c:B<=q5):mh n A' q5 s:=
 ⟨r.gV,r.lJ,r.kM,λ u=>by have:=r.pR u;exact⟨this.1,Zi this.2 b⟩,r.a0,r.rG,Zi r.oU b,r.nE,r.oV,r.nX,λ d=>by have:=r.qg d;exact⟨this.1,Zi this.2.1 c,this.2.2⟩,r.kW⟩
def an.wZ(s:an)(d:Nat)(x:Int):an:={s with ci:=s.ci.set d {lE s d with ac:=x}}
theorem Ac(s:an)(d:Nat)(x:Int)(e:Nat):lE (s.wZ d x) e=if d=e/\d<s.ci.length then {lE s e with ac:=x} else lE s e:=by
 unfold lE an.wZ;dsimp only;simp only[x_,List.getElem?_set]
 by_cases h:d=e
 ·subst h
  by_cases b:d<s.ci.length
  ·simp[b,lE,x_]
  ·simp[b]
 ·simp[h]
theorem mh.oK{s:an}(r:mh n A B s)(b:B<=q5){d:Nat}{x:Int}(c:0<=x)(h1:x<=q5):mh n A q5 (s.wZ d x):=by
 refine⟨r.gV,r.lJ,r.kM,r.pR,r.a0,r.rG,r.oU,r.nE,r.oV,by show(s.ci.set _ _).length=_;rw[i_];exact r.nX,λ e=>?_,r.kW⟩;rw[Ac];have:=r.qg e;split
 ·exact⟨c,h1,this.2.2⟩
 ·exact⟨this.1,Zi this.2.1 b,this.2.2⟩
theorem ou.oK(s:an)(d:Nat)(x:Int):ou s (s.wZ d x):=by
 refine⟨rfl,rfl,rfl,rfl,rfl,rfl,rfl,rfl,.refl _,by show(s.ci.set _ _).length=_;rw[i_],λ e=>?_⟩;rw[Ac];split<;>exact⟨rfl,rfl⟩
end
section
open Go.RowKit Go.Shelf
def an.swp(s:an)(i k:Nat):an:={s with ord:=kL s.ord i k,pl:=uw s.ord s.pl i k}
def BE(g7 g8 i k a b:Nat)(w:World):World:=(((((w.setCell ⟨g7,i,none⟩ (.int .i64 (b:Int))).setCell ⟨g7,k,none⟩ (.int .i64 (a:Int))).drew).setCell ⟨g8,b,none⟩ (.int .i64 (i:Int))).setCell ⟨g8,a,none⟩ (.int .i64 (k:Int))).drew
def F4(g7 g8 i k a b:Nat)(w:World)(e:Ending)(w':World):Prop:=e=.returned (.tuple #[])/\w'=BE g7 g8 i k a b w
theorem KA{n7 n8:Nat}(i k a b:Nat)(c:i≠k)(d:k≠i)(e:a≠b)(f:b≠a)(g:w.cell? ⟨G,10,none⟩=some (.slice (some ⟨g7,0,none⟩) n7 ia))(j:w.cell? ⟨G,11,none⟩=some (.slice (some ⟨g8,0,none⟩) n8 pF))
  (li:(i:Int)<(n7:Int)) (l:(k:Int)<(n7:Int)) (m:(a:Int)<(n8:Int)) (lb:(b:Int)<(n8:Int)) (c1:w.cell? ⟨g7,i,none⟩=some (.int .i64 (a:Int))) (c2:w.cell? ⟨g7,k,none⟩=some (.int .i64 (b:Int)))
  (d1:∃v,w.cell? ⟨g8,a,none⟩=some v) (d2:∃v,w.cell? ⟨g8,b,none⟩=some v) (f1:w.frozen? ⟨g7,i,none⟩=false) (f2:w.frozen? ⟨g7,k,none⟩=false) (f3:w.frozen? ⟨g8,a,none⟩=false) (f4:w.frozen? ⟨g8,b,none⟩=false) (n:G≠g7) (o:g7≠G) (p:G≠g8) (q:g7≠g8) (r:g8≠g7):
   Calls g_ 193 #[.pointer (some ⟨G,0,none⟩),.int .i64 i,.int .i64 k] w (F4 g7 g8 i k a b w):=by
 obtain⟨v1,d1⟩:=d1;obtain⟨v2,d2⟩:=d2;go_enter Tryz.func193,Tryz.ntmps193
 go_wp2_with fail
 go_region
 go_wp2_with fail
 go_region
 go_wp2;go_end0;exact⟨rfl,rfl⟩
theorem KB{n7 n8:Nat}(i a:Nat)(b:w.cell? ⟨G,10,none⟩=some (.slice (some ⟨g7,0,none⟩) n7 ia))(c:w.cell? ⟨G,11,none⟩=some (.slice (some ⟨g8,0,none⟩) n8 pF))
  (li:(i:Int)<(n7:Int)) (d:(a:Int)<(n8:Int)) (c1:w.cell? ⟨g7,i,none⟩=some (.int .i64 (a:Int)))
  (d1:∃v,w.cell? ⟨g8,a,none⟩=some v) (f1:w.frozen? ⟨g7,i,none⟩=false) (f3:w.frozen? ⟨g8,a,none⟩=false) (e:G≠g7) (f:g7≠G) (g:G≠g8) (j:g7≠g8) (k:g8≠g7):
   Calls g_ 193 #[.pointer (some ⟨G,0,none⟩),.int .i64 i,.int .i64 i] w (F4 g7 g8 i i a a w):=by
 obtain⟨v1,d1⟩:=d1;go_enter Tryz.func193,Tryz.ntmps193
 go_wp2_with fail
 go_region
 go_wp2_with fail
 go_region
 go_wp2;go_end0;exact⟨rfl,rfl⟩
theorem Dw{s:an}(h:aP K base w G hs cb s)(O:mb s.c.n s.ord s.pl)(i k:Nat)(l:i<s.ord.length)(hk:k<s.ord.length):
  Calls g_ 193 #[.pointer (some ⟨G,0,none⟩),.int .i64 i,.int .i64 k] w λ e w'=>e=.returned (.tuple #[])/\aP K base w' G hs cb (s.swp i k)/\aF K w w':=by
 have J:=O.sL;obtain⟨g7,f,y,f7⟩:=h.e.lN 10 7 rfl h.e.n7 (by omega);obtain⟨g8,g,z,f8⟩:=h.e.lN 11 8 rfl h.e.n8 (by omega);have m:=O.inv i l;have t:=O.inv k hk;obtain⟨a,u⟩:∃a:Nat,ai s.ord i=a:=⟨(ai s.ord i).toNat,by omega⟩
 obtain⟨b,o⟩:∃b:Nat,ai s.ord k=b:=⟨(ai s.ord k).toNat,by omega⟩
 have c1:=h.e.xY f l;have c2:=h.e.xY f hk;rw[u] at c1 m;rw[o] at c2 t;have A:i≠k->a≠b:=λ L e=>by
  rw[Zv] at m t;rw[e] at m;have:=m.2.2.symm.trans t.2.2;omega
 have d1:=h.e.wY g (k:=a) (by omega);have d2:=h.e.wY g (k:=b) (by omega);have p:=h.e.uz 7 g7 f;have B:=h.e.uz 8 g8 g;have q:g7≠g8:=h.e.wX (r:=7) (r':=8) (by omega) f g;have D:iW base (BE g7 g8 i k a b w) G hs cb (s.swp i k):=by
  have h1:=j5.below (iW.xX (iW.xX (s:=(s.tV i b).tV k a) (j5.below (iW.FT (iW.FT h.e f i b) f k a) (Zx _ _).drew) g b i) g a k) (Zx _ _).drew;have e:(((((s.tV i b).tV k a)).pY b i).pY a k)=s.swp i k:=by
   have E:ai (kL s.ord i k) i=if i=k then ai s.ord i else ai s.ord k:=by rw[qJ l hk];simp
   have F:ai (kL s.ord i k) k=ai s.ord i:=by rw[qJ l hk,if_pos rfl]
   have H:ai (kL s.ord i k) i=b:=by
    rw[E];split
    ·rename_i h;rw[<-o,h]
    ·exact o
   have I:ai (kL s.ord i k) k=a:=by rw[F,u]
   unfold an.swp uw;rw[H,I];unfold kL;rw[u,o];rfl
  rw[<-e];exact h1
 have hF:aF K w (BE g7 g8 i k a b w):=by
  have k7:=h.s.row 7 g7 f;have k8:=h.s.row 8 g8 g;have d:∀W:World,aF K W W.drew:=λ W=>⟨rfl,rfl,rfl,r_ _,λ _ _=>rfl⟩
  exact(((((aF.set g7 i _ k7).trans (aF.set g7 k _ k7)).trans (d _)).trans (aF.set g8 b _ k8)).trans (aF.set g8 a _ k8)).trans (d _)
 have C:aP K base (BE g7 g8 i k a b w) G hs cb (s.swp i k):=⟨D,h.s.more hF.size⟩
 by_cases j:i=k
 ·subst j;obtain rfl:a=b:=by omega
  exact(KB i a y z (by omega) (by omega) c1 ⟨_,d1⟩ (f7 i) (f8 a) p p.symm B q q.symm).mono λ e w' ⟨h1,v⟩=>by subst v;exact⟨h1,C,hF⟩
 ·exact(KA i k a b j (λ e=>j e.symm) (A j) (A j).symm y z (by omega) (by omega) (by omega) (by omega) c1 c2 ⟨_,d1⟩ ⟨_,d2⟩ (f7 i) (f7 k) (f8 a) (f8 b) p p.symm B q q.symm).mono λ e w' ⟨h1,v⟩=>by subst v;exact⟨h1,C,hF⟩
theorem pZ.swp{s:an}(O:mb s.c.n s.ord s.pl){i k:Nat}(b:i<s.ord.length)(hk:k<s.ord.length):pZ s (s.swp i k):=⟨⟨_,_,rfl⟩,O.swap b hk,sj _ _ _,O.FL b hk⟩
end
section
open Go.RowKit Go.Shelf
def BF(s:an)(v u:Nat):Bool:=decide (sg (oE (ai s.act u) (ai s.act v)) ((v:Int)-(u:Int))<0)
theorem KC{g c:Nat}(v u:Nat)(x y:Int)(q:w.cell? ⟨G,8,none⟩=some (.slice (some ⟨g,0,none⟩) n c))(b:(v:Int)<(n:Int))(hu:(u:Int)<(n:Int))(d:v<=65536)(f:u<=65536)
  (i:w.cell? ⟨g,v,none⟩=some (.int .i64 x)) (j:w.cell? ⟨g,u,none⟩=some (.int .i64 y)):
  Calls g_ 225 #[.pointer (some ⟨G,0,none⟩),.int .i64 v,.int .i64 u] w λ e w'=>e=.returned (.bool (decide (sg (oE y x) ((v:Int)-(u:Int))<0)))/\Below w.heap.size w w':=by
 have k:wrap64 ((v:Int)-(u:Int))=(v:Int)-(u:Int):=by unfold wrap64;omega
 go_enter Tryz.func225,Tryz.ntmps225
 go_wp2;refine wp_region_still_tail 18 (by kernel_rfl) (by kernel_rfl) ?_;simp only[List.take_succ_cons,List.take_zero,List.drop_succ_cons,List.drop_zero]
 iterate 14 still_step
 still_call ((zJ _ _ _).mono (λ e w' h=>⟨h.1,h.2.symm⟩))
 iterate 3 still_step
 refine wpStill_nil ?_;change wpList _ _ _ _ _ w.drew
 go_wp2_with fail
 refine(Bb w.heap.size (oE y x) ((v:Int)-(u:Int)) _ (by go_simp) (by go_simp)).mono ?_;rintro e w' ⟨rfl,rfl⟩;go_wp2;go_ret;exact⟨lS rfl,((Zx _ _).alloc (r_ _) _).drew⟩
section
variable {K:Nat->Prop}{base:Nat}{w:World}{G:Nat}{hs:Nat->aq}{cb:Nat->Nat}{s:an}
theorem KD(h:iW base w G hs cb s)(v u:Nat)(c:v<s.act.length)(hu:u<s.act.length)(hl:s.act.length<=65537):
  Calls g_ 225 #[.pointer (some ⟨G,0,none⟩),.int .i64 v,.int .i64 u] w λ e w'=>e=.returned (.bool (BF s v u))/\Below w.heap.size w w':=by
 obtain⟨g,b,q,f⟩:=h.lN 8 6 rfl h.n6 (by omega);exact KC v u _ _ q (by omega) (by omega) (by omega) (by omega) (h.yP b c) (h.yP b hu)
end
end
section
open Go.RowKit Go.Shelf
section
variable {K:Nat->Prop}{base:Nat}{w W:World}{G:Nat}{hs:Nat->aq}{cb:Nat->Nat}{s:an}
theorem oD.ahead(h:iW base W G hs cb s)(u:oD W){v z:Nat}(d:v<s.act.length)(f:z<s.act.length)(hl:s.act.length<=65537){b:Bool}(g:BF s v z=b):
  Calls g_ 225 #[.pointer (some ⟨G,0,none⟩),.int .i64 v,.int .i64 z] u.val λ e w'=>e=.returned (.bool b)/\∃i:oD W,w'=i.val:=
 oD.call u ((KD (h.below u.ok) v z d f hl).mono λ e w' c=>⟨c.1.trans (by rw[g]),c.2⟩)
end
def F5(K:Nat->Prop)(base:Nat)(w:World)(G:Nat)(hs:Nat->aq)(cb:Nat->Nat)(s:an)(e:Ending)(w':World):Prop:=
 e=.returned (.tuple #[])/\∃s',pZ s s'/\aP K base w' G hs cb s'/\aF K w w'
theorem yR(x:Nat)(h:x<=9223372036854775807):IntKind.i64.wrap (x:Int)=x:=by rw[IntKind.wrap_i64];omega
theorem mb.nat{ord pl:List Int}(O:mb n ord pl){i:Nat}(b:i<ord.length):∃a:Nat,ai ord i=a/\1<=a/\a<=n:=by
 have:=O.inv i b;exact⟨(ai ord i).toNat,by omega,by omega,by omega⟩
theorem Dx{s:an}(h:aP K base w G hs cb s)(O:mb s.c.n s.ord s.pl)(S:s.act.length=s.c.n+1)(af:s.c.n<=65536)(i:Nat)(T:i<s.ord.length)(ag:s.ord.length<=65537):
  Calls g_ 187 #[.pointer (some ⟨G,0,none⟩),.int .i64 i] w (F5 K base w G hs cb s):=by
 have H:=U h;have V:=U O;clear h O;go_enter Tryz.func187,Tryz.ntmps187
 go_wp2_with fail
 go_loopw [1] (λ s1 W=>∃(k:Nat)(s':an),s1=.int .i64 k/\k<s.ord.length/\pZ s s'/\aP K base W G hs cb s'/\aF K w W) (λ s1 _=>(intOf s1).toNat)
 case atStart=>exact⟨i,s,rfl,T,pZ.refl V.o,H.o,aF.refl⟩
 case round=>
  obtain⟨k,s',rfl,hk,hO,I,hF⟩:=hrel;have E:=U I;have F:=U hF;have r:=U hO;clear I hF
  by_cases X:k=0
  ·subst X;clear hO
   go_wp2_with fail
   refine A9 (by kernel_rfl) (by kernel_rfl) ?_
   repeat (go_big_quiet_step (fail))
   refine Z7 ?_;intro Y d;replace d:=oD.o d
   go_wp2_with fail
   go_end0;have:=E.o.below d;exact⟨rfl,s',r.o,this.1,F.o.trans this.2⟩
  ·obtain⟨m,rfl⟩:∃m,k=m+1:=⟨k-1,by omega⟩
   obtain⟨p,hp⟩:∃p,p=m/2:=⟨_,rfl⟩
   obtain⟨ah,ai,he⟩:=hO.eq;have t:s'.ord.length=s.ord.length:=hO.ol;have l:mb s'.c.n s'.ord s'.pl:=by rw[he];have:=hO.lJ;rw[he] at this;exact this
   have J:s'.act.length=s.c.n+1:=by rw[he];exact S
   have L:s'.c.n=s.c.n:=by rw[he]
   clear hO he;obtain⟨k0,y⟩:∃k0,k0=m+1:=⟨_,rfl⟩
   obtain⟨a,z,a1,a2⟩:=l.nat (i:=k0) (by omega);obtain⟨b,A,aj,ak⟩:=l.nat (i:=p) (by omega);obtain⟨g7,j,M,f7⟩:=E.o.e.lN 10 7 rfl (E.o.e.n7.trans t) (by omega);have c1:=E.o.e.xY j (k:=k0) (by omega);have c2:=E.o.e.xY j (k:=p) (by omega);rw[z] at c1;rw[A] at c2;have B:=E.o.e.rows.lt j;have Z:=λ u:oD wr=>u.cell (E.o.e.box.lt) M
   have aa:=λ u:oD wr=>u.cell B.2 c1
   have ab:=λ u:oD wr=>u.cell B.2 c2
   have al:(k0:Int)-1=(m:Int):=by omega
   have ao:Int.tdiv (m:Int) 2=(p:Int):=by rw[Int.tdiv_eq_ediv_of_nonneg (by omega)];omega
   have ar:=yR m (by omega);have k2:=yR p (by omega);have ad:(0:Int)<(k0:Int):=by omega
   have d0:decide ((0:Int)<(k0:Int))=true:=decide_eq_true ad;have d1:decide (0<k0)=true:=decide_eq_true (by omega);have au:(k0:Int)<(s.ord.length:Int):=by omega
   have av:(p:Int)<(s.ord.length:Int):=by omega
   have aw:=U z;have ax:=U A;have q:=U hp;have g:=U y;have N:=U l;have f:=U (v_ t (v_ J L));have ay:=U j;generalize P:BF s' a b=v;have ae:=U P;rw[<-y];clear z A hp y l t J L j B M c1 c2 P f7
   go_wp2_with fail
   refine A9 (by kernel_rfl) (by kernel_rfl) ?_
   repeat (go_big_quiet_step ((go_at_call 225;exact oD.ahead E.o.e _ (by have:=f.o;omega) (by have:=f.o;omega) (by have:=f.o;omega) ae.o)))
   refine Z7 ?_;intro Y d;replace d:=oD.o d;have Q:=U (E.o.below d).1;have R:=U (F.o.trans (E.o.below d).2);clear Z aa ab d
   cases v
   ·go_wp2_with fail
    go_end0;exact⟨rfl,s',r.o,Q.o,R.o⟩
   ·go_wp2_with (go_at_call 193;refine(Dw Q.o N.o k0 p (by have:=f.o;have:=g.o;omega) (by have:=f.o;have:=g.o;have:=q.o;omega)).mono ?_;rintro e az ⟨rfl,C,D⟩;have C:=U C;have D:=U D)
    go_roundw
    case rel=>exact⟨p,_,by go_num,by have:=g.o;have:=q.o;omega,r.o.trans (pZ.swp N.o (by have:=f.o;have:=g.o;omega) (by have:=f.o;have:=g.o;have:=q.o;omega)),C.o,R.o.trans D.o⟩
    case measure=>have:=g.o;have:=q.o;simp[intOf];omega
end
section
open Go.RowKit Go.Shelf
theorem F6{s:an}(h:aP K base w G hs cb s)(O:mb s.c.n s.ord s.pl)(ax:s.act.length=s.c.n+1)(aO:s.c.n<=65536)(i:Nat)(ay:i<s.ord.length)(aQ:s.ord.length<=65537):
  Calls g_ 194 #[.pointer (some ⟨G,0,none⟩),.int .i64 i] w (F5 K base w G hs cb s):=by
 have H:=U h;have az:=U O;clear h O;go_enter Tryz.func194,Tryz.ntmps194
 go_wp2_with fail
 go_loopw [1,4,6] (λ s1 _ _ W=>∃(k:Nat)(s':an),s1=.int .i64 k/\k<s.ord.length/\pZ s s'/\aP K base W G hs cb s'/\aF K w W) (λ s1 _ _ _=>s.ord.length-(intOf s1).toNat)
 case atStart=>exact⟨i,s,rfl,ay,pZ.refl az.o,H.o,aF.refl⟩
 case round=>
  obtain⟨k,s',rfl,hk,hO,ad,hF⟩:=hrel;have E:=U ad;have F:=U hF;have ae:=U hO;clear ad hF;obtain⟨aR,aS,he⟩:=hO.eq;have C:s'.ord.length=s.ord.length:=hO.ol;have D:mb s'.c.n s'.ord s'.pl:=by rw[he];have:=hO.lJ;rw[he] at this;exact this
  have P:s'.act.length=s.c.n+1:=by rw[he];exact ax
  have Q:s'.c.n=s.c.n:=by rw[he]
  clear hO he;obtain⟨c,R⟩:∃c,c=2*k+1:=⟨_,rfl⟩
  obtain⟨d,S⟩:∃d,d=2*k+2:=⟨_,rfl⟩
  have I:2*(k:Int)+1=(c:Int):=by omega
  have J:2*(k:Int)+2=(d:Int):=by omega
  have k0:=yR (2*k) (by omega);have aA:=yR c (by omega);have k2:=yR d (by omega);have aB:=U (v_ R S);clear R S
  go_wp2_with fail
  obtain⟨r,A⟩:∃r,r=wr.heap.size:=⟨_,rfl⟩
  have T:Below wr.heap.size wr (wr.alloc (.cells #[.int .i64 c,.int .i64 d] 3)):=bg wr _;have m1:(wr.alloc (.cells #[.int .i64 c,.int .i64 d] 3)).cell? ⟨r,0,none⟩=some (.int .i64 c):=by subst A;go_simp
  have m2:(wr.alloc (.cells #[.int .i64 c,.int .i64 d] 3)).cell? ⟨r,1,none⟩=some (.int .i64 d):=by subst A;go_simp
  have af:r<(wr.alloc (.cells #[.int .i64 c,.int .i64 d] 3)).heap.size:=by subst A;simp
  rw[<-A];have ag:=U (E.o.below T).1;have aC:=U (F.o.trans (E.o.below T).2);generalize (wr.alloc (.cells #[.int .i64 c,.int .i64 d] 3))=w1 at*;clear A T I J k0 aA k2;have M:=U (v_ m1 (v_ m2 af));clear m1 m2 af
  go_loopw [4,6,16] (λ iI _ V W=>∃(j b:Nat),V=.int .i64 j/\j<=2/\iI=.int .i64 b/\k<=b/\b<s.ord.length/\Below w1.heap.size w1 W) (λ _ _ V _=>2-(intOf V).toNat)
  case atStart=>exact⟨0,k,rfl,by omega,rfl,r_ _,hk,Zx _ _⟩
  case round=>
   obtain⟨j,b,rfl,ah,rfl,t,y,L⟩:=hrel;have z:=U L;have g:=U (ag.o.below L).1;have ai:=U (aC.o.trans (ag.o.below L).2);clear L
   by_cases aj:j<2
   ·obtain⟨x,aT,ak,al⟩:∃x:Nat,wr.cell? ⟨r,j,none⟩=some (.int .i64 x)/\k<x/\x<=2*k+2:=by
     obtain⟨R,S⟩:=aB.o;rcases u_ j 1 with h1|h1
     ·obtain rfl:j=0:=by omega
      exact⟨c,(z.o.cell M.o.2.2).trans M.o.1,by omega,by omega⟩
     ·obtain rfl:j=1:=by omega
      exact⟨d,(z.o.cell M.o.2.2).trans M.o.2.1,by omega,by omega⟩
    have aU:decide ((j:Int)<2)=true:=decide_eq_true (by omega);have aD:(j:Int)<2:=by omega
    have p:=U (v_ ah (v_ aj (v_ ak al)));clear ah aj ak al;obtain⟨g7,q,ao,f7⟩:=g.o.e.lN 10 7 rfl (g.o.e.n7.trans C) (by omega);have ar:=λ u:oD wr=>u.cell (g.o.e.box.lt) ao
    clear ao
    by_cases B:x<s.ord.length
    ·have X:(x:Int)<(s.ord.length:Int):=by omega
     have lb:(b:Int)<(s.ord.length:Int):=by omega
     have aE:decide ((x:Int)<(s.ord.length:Int))=true:=decide_eq_true X;have aG:decide (x<s.ord.length)=true:=decide_eq_true B;obtain⟨a,Y,a1,a2⟩:=D.nat (i:=x) (by omega);obtain⟨e,he,I,J⟩:=D.nat (i:=b) (by omega);have c1:=g.o.e.xY q (k:=x) (by omega);have c2:=g.o.e.xY q (k:=b) (by omega);rw[Y] at c1;rw[he] at c2;have Z:=g.o.e.rows.lt q;have aH:=λ u:oD wr=>u.cell Z.2 c1
     have aI:=λ u:oD wr=>u.cell Z.2 c2
     generalize au:BF s' a e=v;have aJ:=U au;have m:=U (v_ C (v_ P Q));have av:=U (v_ Y (v_ he (v_ a1 (v_ a2 (v_ I J)))));have aK:=U q;have f:=U (v_ t y);have aL:=U B;clear Y he c1 c2 Z au f7 q a1 a2 I J t y B
     go_wp2_with fail
     refine A9 (by kernel_rfl) (by kernel_rfl) ?_
     repeat (go_big_quiet_step ((go_at_call 225;exact oD.ahead g.o.e _ (by have:=m.o;have:=av.o;omega) (by have:=m.o;have:=av.o;omega) (by have:=m.o;omega) aJ.o)))
     refine Z7 ?_;intro aM l;replace l:=oD.o l;have N:=U (z.o.trans (l.mono z.o.size));clear ar aH aI l
     cases v
     ·go_wp2_with fail
      go_roundw
      case rel=>exact⟨j+1,b,by go_num,by have:=p.o;omega,rfl,f.o.1,f.o.2,N.o⟩
      case measure=>have:=p.o;simp[intOf];omega
     ·go_wp2_with fail
      go_roundw
      case rel=>exact⟨j+1,x,by go_num,by have:=p.o;omega,rfl,by have:=p.o;omega,aL.o,N.o⟩
      case measure=>have:=p.o;simp[intOf];omega
    ·have X:¬(x:Int)<(s.ord.length:Int):=by omega
     have aE:decide ((x:Int)<(s.ord.length:Int))=false:=decide_eq_false X;have aG:decide (x<s.ord.length)=false:=decide_eq_false B;have aK:=U q;have f:=U (v_ t y);clear f7 q t y B
     go_wp2_with fail
     refine A9 (by kernel_rfl) (by kernel_rfl) ?_
     repeat (go_big_quiet_step (fail))
     refine Z7 ?_;intro aM l;replace l:=oD.o l;have N:=U (z.o.trans (l.mono z.o.size));clear ar l
     go_wp2_with fail
     go_roundw
     case rel=>exact⟨j+1,b,by go_num,by have:=p.o;omega,rfl,f.o.1,f.o.2,N.o⟩
     case measure=>have:=p.o;simp[intOf];omega
   ·have aD:¬(j:Int)<2:=by omega
    by_cases aw:b=k
    ·subst aw
     go_wp2_with fail
     go_end0;exact⟨rfl,s',ae.o,g.o,ai.o⟩
    ·have aN:¬(b:Int)=(k:Int):=by omega
     have f:=U (v_ t (v_ y aw));have m:=U (v_ C (v_ P Q));clear t y C P Q;have aV:((b:Int)==(k:Int))=false:=by simpa using aN
     go_wp2_with (go_at_call 193;refine(Dw g.o D k b (by have:=m.o;omega) (by have:=m.o;have:=f.o;omega)).mono ?_;rintro e aW ⟨rfl,aa,ab⟩;have aa:=U aa;have ab:=U ab)
     go_roundw
     case rel=>exact⟨b,_,by go_num,by have:=f.o;omega,ae.o.trans (pZ.swp D (by have:=m.o;omega) (by have:=m.o;have:=f.o;omega)),aa.o,ai.o.trans ab.o⟩
     case measure=>have:=f.o;simp[intOf];omega
end
end Go.Proofs.YtogdlkfacflmaaaGreat
