/- Parts of the walk of the solver and its core; no condition. -/
import Derived.Test.YtogdlkfacflmaaaGreatZY2
import Derived.Orders
import Derived.Below
import Derived.Test.YtogdlkfacflmaaaGreatZY1
namespace Go.Proofs.YtogdlkfacflmaaaGreat
set_option linter.unusedVariables false
set_option linter.unusedSimpArgs false
open _root_.Array renaming getD_eq_getD_getElem?→z_,getElem?_eq_getElem→y_,all_eq_true_iff_forall_mem→x_,getElem?_setIfInBounds_self_of_lt→v_,getElem?_setIfInBounds_ne→o_,replicate→i_,mem_of_getElem?→Zw,getElem?_eq_some_iff→Zr,getElem?_eq_none→Zk,mem_toList_iff→Zh
open _root_.List renaming getD_eq_getElem?_getD→w_,mem_range→u_,mem_filter→r_,mem_cons→q_,range→p_,getElem?_eq_getElem→k_,take_append_of_le_length→h_,length_singleton→g_,getElem?_toArray→f_,length_take→e_,take_length→d_,length_append→c_,mem_singleton→b_,getElem?_map→Zz,all_eq_true→Zx,length_pos_iff→Zv,filter_eq_self→Zu,length_eq_zero_iff→Zo,replicate→Zj,length_filter_le→Zi,mem_map→Zd
open _root_.Or renaming inr→t_,inl→l_
open _root_.Nat renaming lt_or_ge→s_,le_refl→Zt,eq_zero_or_pos→Zs,strongRecOn→Zn,zero_add→Zf
open _root_.Go.Region renaming binds→n_,ready→j_,wanted→Zq
open _root_.Bool renaming and_eq_true→m_,and_true→Zy
open _root_.Int renaming toNat_natCast→a_,neg_neg→Zl,lt_or_le→Ze
open _root_.Option renaming getD_some→Zp,map_some→Zm
open _root_.Decidable renaming em→Zg
open _root_.Go.Value renaming int→Zc
variable{n i:Nat}{l:List Int}{a:Act}{v:Value}{ops:Array Oper}{listed:Array Bool}{ws:List (List Nat)}{iA:World->Prop}{G:Nat->Value->World->Prop}{dead:Nat->Option Nat}{w:World}
section
structure uY(F:List (List Int))(c:Core)(l:List Int)(level:Nat):Prop where
 ok:oN c.n l
 imp:rD F l
 Bn:∀x∈l,-x∈c.ax
 top:bp c (ak l 0)=c.st.length
 Kc:∀k,1<=k->k<l.length->bp c (ak l k)<=level
 mI:level<c.st.length
 snd:2<=l.length->bp c (ak l 1)=level
 one:l.length=1->level=0
section
variable {F Fd:List (List Int)}{c:Core}{l:List Int}{level:Nat}
theorem j9.at(T:j9 c){x:Int}(d: -x∈c.ax):∃j,j<c.ax.length/\ak c.ax j= -x/\lI c.st j=bp c x:=by
 obtain⟨j,b,e⟩:=qn.1 d;refine⟨j,b,e,?_⟩;rw[<-T.mI j b,e];unfold bp;rw[oW]
theorem uY.low(L:uY F c l level)(T:j9 c):∀x∈l,x≠ak l 0-> -x∈c.ax.take (hU c.st level):=by
 intro x b d;obtain⟨k,hk,e⟩:=qn.1 b;have f:1<=k:=by
  rcases Zs k with h|h
  ·subst h;exact absurd e.symm d
  ·exact h
 have h1:=L.Kc k f hk;rw[e] at h1;obtain⟨j,g,m,o⟩:=T.at (L.Bn x b);have p:¬hU c.st level<=j:=λ n=>by have:=(uj T (i:=j) L.mI).2 n;omega
 exact pP.2 ⟨j,by omega,g,m⟩
theorem uY.fresh(L:uY F c l level)(T:j9 c):ki (mN c level) (ak l 0)=0:=by
 have b:0<l.length:=Zv.2 L.ok.ne;have hm:=mc b;have d:=L.ok.lt _ hm;rw[(T.back L.mI).open d];have f:(mN c level).ax=c.ax.take (hU c.st level):=rfl;rw[f];refine⟨λ h=>T.apart (sw h) (L.Bn _ hm),λ h=>?_⟩;obtain⟨j,h1,g,k⟩:=pP.1 h;have e:bp c (ak l 0)=lI c.st j:=by
  rw[<-T.mI j g,k];unfold bp;rw[oW]
 have m:level<lI c.st j:=by rw[<-e,L.top];exact L.mI
 have:=(uj T (i:=j) L.mI).1 m;omega
def zR(c:Core)(l:List Int)(level:Nat):Core:=lC (kI (mN c level) l) (ak l 0) (some c.cl.length)
theorem kG.keep{h:Nat}(G:kG F Fd c h [])(L:uY F c l level):kG F Fd (zR c l level) (hU c.st level) []:=by
 have B:=G.back L.mI;have t:(mN c level).ax=c.ax.take (hU c.st level):=rfl;have r:(mN c level).st=c.st.take level:=rfl;have f:(mN c level).st.length=level:=by rw[r,e_];have:=L.mI;omega
 have u:=L.low G.aN;refine(B.FH (g:=l) L.ok L.imp (λ _=>Iff.rfl) (L.fresh G.aN) u (λ h1=>by rw[f];exact L.one h1) (λ b=>by rw[f];exact Nat.le_of_eq (L.snd b).symm) ?_).same (λ g v=>by simp[v]);intro k hk;rw[f] at hk;have b:2<=l.length:=by
  have z:0<l.length:=Zv.2 L.ok.ne;rcases s_ l.length 2 with d|d
  ·have:=L.one (by omega);omega
  ·exact d
 obtain⟨m0,m1,y,_⟩:=L.ok.w b;have s:∀x∈((mN c level).ax.take (hU (mN c level).st k)),x∈c.ax.take (hU c.st k):=λ x m=>by
  rw[t,r,uV hk] at m;rw[List.take_take] at m;exact Da m (by omega)
 have n:k<c.st.length:=by have:=L.mI;omega
 refine t_ ⟨_,m0,_,m1,y,λ o=>?_,λ o=>?_⟩
 ·obtain⟨j,d,p,q⟩:=pP.1 (s _ o);have e:bp c (ak l 0)=lI c.st j:=by rw[<-G.aN.mI j p,q];unfold bp;rw[oW]
  have:=(uj G.aN (i:=j) n).1 (by rw[<-e,L.top];exact n);omega
 ·obtain⟨j,d,p,q⟩:=pP.1 (s _ o);have e:bp c (ak l 1)=lI c.st j:=by rw[<-G.aN.mI j p,q];unfold bp;rw[oW]
  have:=(uj G.aN (i:=j) n).1 (by rw[<-e,L.snd b];exact hk);omega
theorem uY.new{h:Nat}(G:kG F Fd c h [])(L:uY F c l level):∀d,d<c.cl.length->¬∀x,x∈az c.cl d↔x∈l:=by
 intro d i b;have g:=L.low G.aN;rcases G.rH level L.mI d i with⟨x,f,j⟩|⟨x,f,y,k,m,h1,n⟩
 ·exact G.aN.apart (sw j) (L.Bn x ((b x).1 f))
 ·have ex:x=ak l 0:=by
   rcases Zg (x=ak l 0) with e|e
   ·exact e
   ·exact absurd (g x ((b x).1 f) e) h1
  have o:y=ak l 0:=by
   rcases Zg (y=ak l 0) with e|e
   ·exact e
   ·exact absurd (g y ((b y).1 k) e) n
  exact m (ex.trans o.symm)
end
def rK(l:List Int)(v:Nat):Nat:=if ((v:Int)∈l) then 1 else if (-(v:Int)∈l) then 2 else 0
def rZ(l:List Int):Nat->Nat
 |0=>0
 |n+1=>rZ l n+3^n*rK l (n+1)
theorem Ke(l:List Int)(v:Nat):rK l v<=2:=by unfold rK;split<;>(try split)<;>omega
theorem Bo(l:List Int):∀n,rZ l n<3^n
 |0=>by simp[rZ]
 |n+1=>by
  have h1:=Bo l n;have b:=Ke l (n+1);have c:3^n*rK l (n+1)<=3^n*2:=Nat.mul_le_mul_left _ b;rw[rZ,Nat.pow_succ];omega
theorem Dh{l l':List Int}:∀n,rZ l n=rZ l' n->∀v,1<=v->v<=n->rK l v=rK l' v
 |0,_,v,h1,c=>by omega
 |n+1,h,v,h1,c=>by
  rw[rZ,rZ] at h;have a:=Bo l n;have b:=Bo l' n;have e:rK l (n+1)=rK l' (n+1):=by
   have d:(rZ l n+3^n*rK l (n+1))/3^n=rK l (n+1):=by
    rw[Nat.add_mul_div_left _ _ (Nat.pow_pos (by omega)),Nat.div_eq_of_lt a,Zf]
   have f:(rZ l' n+3^n*rK l' (n+1))/3^n=rK l' (n+1):=by
    rw[Nat.add_mul_div_left _ _ (Nat.pow_pos (by omega)),Nat.div_eq_of_lt b,Zf]
   rw[<-d,h,f]
  rcases s_ v (n+1) with g|g
  ·exact Dh n (by rw[e] at h;omega) v h1 (by omega)
  ·obtain rfl:v=n+1:=by omega
   exact e
theorem Kf{l':List Int}(h:oN n l)(h':oN n l')(e:rZ l n=rZ l' n):∀x,x∈l↔x∈l':=by
 have key:∀{a b:List Int},oN n a->oN n b->(∀v,1<=v->v<=n->rK a v=rK b v)->∀x∈a,x∈b:=by
  intro a b i o d x f;have hl:=i.lt x f;have h1:=d (aD x) hl.1 hl.2;unfold rK at h1;rcases Ze x 0 with k|k
  ·have m:(-((aD x:Nat):Int))=x:=by unfold aD;omega
   have g:((aD x:Nat):Int)= -x:=by unfold aD;omega
   rw[m,g,if_neg (i.bM x f),if_pos f] at h1
   by_cases c: -x∈b
   ·rw[if_pos c] at h1;cases h1
   ·rw[if_neg c] at h1
    by_cases j:x∈b
    ·exact j
    ·rw[if_neg j] at h1;cases h1
  ·have g:((aD x:Nat):Int)=x:=by unfold aD;omega
   rw[g,if_pos f] at h1
   by_cases c:x∈b
   ·exact c
   ·rw[if_neg c] at h1;split at h1<;>cases h1
 have d:=Dh n e;exact λ x=>⟨key h h' d x,key h' h (λ v a b=>(d v a b).symm) x⟩
theorem Kg(h:oN n l):rZ l n≠0:=by
 intro e;have c:∀m,rZ [] m=0:=by
  intro m
  induction m with
  |zero=>rfl
  |succ m d=>rw[rZ,d];simp[rK]
 have f:=Dh (l:=l) (l':=[]) n (by rw[e,c]);obtain⟨x,b⟩:=List.exists_mem_of_ne_nil _ h.ne;have hl:=h.lt x b;have h1:=f (aD x) hl.1 hl.2;unfold rK at h1;simp only[List.not_mem_nil,if_false] at h1;rcases Ze x 0 with g|g
 ·have i:(-((aD x:Nat):Int))=x:=by unfold aD;omega
  rw[i,if_pos b] at h1;split at h1<;>cases h1
 ·have j:((aD x:Nat):Int)=x:=by unfold aD;omega
  rw[j,if_pos b] at h1
  cases h1
theorem xY:∀(m:Nat)(l:List Nat),l.Nodup->(∀x∈l,x<m)->l.length<=m
 |0,l,_,h=>by
  cases l with
  |nil=>simp
  |cons a r=>have:=h a (by simp);omega
 |m+1,l,b,h=>by
  have h1:=xY m (l.filter λ x=>x !=m) (b.sublist List.filter_sublist) (λ x c=>by
   obtain⟨d,f⟩:=r_.1 c;have:=h x d;have:x≠m:=by simpa using f
   omega)
  have d:l.length<=(l.filter λ x=>x !=m).length+1:=by
   clear h h1
   induction l with
   |nil=>simp
   |cons a r g=>
    rw[List.nodup_cons] at b
    by_cases e:a=m
    ·subst e;have:(r.filter λ x=>x !=a)=r:=Zu.2 λ x c=>by
      simp only[bne_iff_ne,ne_eq];rintro rfl;exact b.1 c
     simp[List.filter_cons,this]
    ·have:=g b.2;simp[List.filter_cons,e];omega
  omega
theorem FK{ls:List (List Int)}(c:∀l∈ls,oN n l)(d:ls.Pairwise λ a b=>¬∀x,x∈a↔x∈b):ls.length+1<=3^n:=by
 have f:(0::ls.map λ l=>rZ l n).Nodup:=by
  rw[List.nodup_cons];refine⟨λ h=>?_,?_⟩
  ·obtain⟨l,hl,e⟩:=Zd.1 h;exact Kg (c l hl) e
  ·rw[List.nodup_iff_pairwise_ne];rw[List.pairwise_map];exact d.imp_of_mem λ g i h e=>h (Kf (c _ g) (c _ i) e)
 have:=xY (3^n) _ f (λ x j=>by
  rcases q_.1 j with h|h
  ·subst h;exact Nat.pow_pos (by omega)
  ·obtain⟨l,_,rfl⟩:=Zd.1 h;exact Bo l n)
 simpa using this
structure ny(c:Core)(jW:List Int):Prop where
 ind:∀k,k<c.st.length->k<jW.length->ak jW k∈c.ax.take (if k+1<c.st.length then hU c.st (k+1) else c.ax.length)
 dec:∀i,i<c.ax.length->mH c.kF (aD (ak c.ax i))=none->∃k,k<c.st.length/\hU c.st k=i/\(k<jW.length->ak c.ax i=ak jW k)
section
variable {c:Core}{jW:List Int}
theorem ny.same{c':Core}(h:ny c jW)(h1:c'.ax=c.ax)(b:c'.st=c.st)(d:c'.kF=c.kF):ny c' jW:=
 ⟨by rw[h1,b];exact h.ind,by rw[h1,b,d];exact h.dec⟩
theorem ny.set(h:ny c jW)(T:j9 c){x:Int}{d:Nat}(f:gP c.n x)(g:ki c x=0):ny (lC c x (some d)) jW:=by
 have b:(lC c x (some d)).ax=c.ax++[x]:=rfl;refine⟨λ k hk j=>?_,λ i l hw=>?_⟩
 ·have:=h.ind k hk j;show ak jW k∈(c.ax++[x]).take (if k+1<c.st.length then hU c.st (k+1) else (c.ax++[x]).length);split
  ·rename_i h1;rw[if_pos h1] at this;rw[h_ (T.oz _ h1)];exact this
  ·rename_i h1;rw[if_neg h1,d_] at this;rw[d_];simp[this]
 ·rw[b,c_,g_] at l;have m:(lC c x (some d)).kF=c.kF.set (aD x) (some d):=rfl;have hl:aD x<c.kF.length:=by rw[T.pQ];have:=f.2;omega
  rw[m,b] at hw
  by_cases e:i<c.ax.length
  ·rw[tG e,wP,if_neg (λ o=>vV T f g (mc e) o.1.symm)] at hw;rw[b,tG e];exact h.dec i e hw
  ·obtain rfl:i=c.ax.length:=by omega
   rw[xU,wP,if_pos ⟨rfl,hl⟩] at hw
   cases hw
theorem ny.back(h:ny c jW)(T:j9 c){level:Nat}(hl:level<c.st.length):ny (mN c level) jW:=by
 have o:=T.oz level hl;have b:(mN c level).ax=c.ax.take (hU c.st level):=rfl;have f:(mN c level).st=c.st.take level:=rfl;have hlen:(mN c level).ax.length=hU c.st level:=by rw[b,e_];omega
 have g:(mN c level).st.length=level:=by rw[f,e_];omega
 refine⟨λ k hk l=>?_,λ i d hw=>?_⟩
 ·rw[g] at hk;have:=h.ind k (by omega) l;rw[g,hlen,b,f,List.take_take];rw[if_pos (show k+1<c.st.length by omega)] at this
  by_cases h1:k+1<level
  ·rw[if_pos h1,uV h1,Nat.min_eq_left (T.qZ _ _ (by omega) hl)];exact this
  ·rw[if_neg h1,Nat.min_self,show level=k+1 by omega];exact this
 ·rw[hlen] at d;have m:(mN c level).kF=sZ c.kF (c.ax.drop (hU c.st level)):=rfl;rw[b,wQ d,m,De _ _ _ (T.split (pP.2 ⟨i,d,by omega,rfl⟩))] at hw;obtain⟨k,hk,e,n⟩:=h.dec i (by omega) hw;have j:k<level:=by
   rcases s_ k level with h1|h1
   ·exact h1
   ·have:=T.qZ level k h1 hk;omega
  exact⟨k,by rw[g];exact j,by rw[f,uV j];exact e,by rw[b,wQ d];exact n⟩
theorem ny.level(h:ny c jW)(T:j9 c)(g:c.st.length<jW.length->ak jW c.st.length∈c.ax):ny (nx c) jW:=by
 have d:(nx c).st=c.st++[c.ax.length]:=rfl;have hlen:(nx c).st.length=c.st.length+1:=by rw[d];simp
 have j:(nx c).ax=c.ax:=rfl;refine⟨λ k hk f=>?_,λ i l hw=>?_⟩
 ·rw[hlen] at hk;rw[hlen,j]
  by_cases h1:k<c.st.length
  ·have:=h.ind k h1 f;rw[if_pos (by omega)]
   by_cases b:k+1<c.st.length
   ·rw[if_pos b] at this;rw[d,xV b];exact this
   ·rw[if_neg b] at this;rw[show k+1=c.st.length by omega,d,xW];exact this
  ·obtain rfl:k=c.st.length:=by omega
   rw[if_neg (by omega),d_];exact g f
 ·obtain⟨k,hk,e,b⟩:=h.dec i l hw;exact⟨k,by rw[hlen];omega,by rw[d,xV hk];exact e,b⟩
theorem ny.decide(h:ny c jW)(T:j9 c){x:Int}(m:gP c.n x)(o:ki c x=0)(j:c.st.length<jW.length->x=ak jW c.st.length):ny (lC (nx c) x none) jW:=by
 have d:(lC (nx c) x none).st=c.st++[c.ax.length]:=rfl;have hlen:(lC (nx c) x none).st.length=c.st.length+1:=by rw[d];simp
 have f:(lC (nx c) x none).ax=c.ax++[x]:=rfl;refine⟨λ k hk l=>?_,λ i p hw=>?_⟩
 ·rw[hlen] at hk;rw[hlen,f]
  by_cases h1:k<c.st.length
  ·have:=h.ind k h1 l;rw[if_pos (by omega)]
   by_cases b:k+1<c.st.length
   ·rw[if_pos b] at this;rw[d,xV b,h_ (T.oz _ b)];exact this
   ·rw[if_neg b] at this;rw[show k+1=c.st.length by omega,d,xW,h_ (Zt _)];exact this
  ·obtain rfl:k=c.st.length:=by omega
   rw[if_neg (by omega),d_,<-j l];simp
 ·rw[f,c_,g_] at p;have q:(lC (nx c) x none).kF=c.kF.set (aD x) none:=rfl;rw[q,f] at hw
  by_cases e:i<c.ax.length
  ·rw[tG e,wP,if_neg (λ r=>vV T m o (mc e) r.1.symm)] at hw;obtain⟨k,hk,s,b⟩:=h.dec i e hw;refine⟨k,by rw[hlen];omega,by rw[d,xV hk];exact s,λ g=>?_⟩;rw[f,tG e];exact b g
  ·obtain rfl:i=c.ax.length:=by omega
   refine⟨c.st.length,by rw[hlen];omega,by rw[d,xW],λ g=>?_⟩;rw[f,xU];exact j g
theorem ny.keep(h:ny c jW){F:List (List Int)}{l:List Int}{level:Nat}(T:j9 c)(L:uY F c l level):ny (zR c l level) jW:=by
 have b:0<l.length:=Zv.2 L.ok.ne;have h1:=(h.back T L.mI)
 have d:ny (kI (mN c level) l) jW:=h1.same rfl rfl rfl;exact d.set ((T.back L.mI).new) (L.ok.lt _ (mc b)) (L.fresh T)
theorem ny.all(h:ny c jW)(hl:jW.length<=c.st.length):∀x∈jW,x∈c.ax:=by
 intro x b;obtain⟨k,hk,e⟩:=qn.1 b;have:=h.ind k (by omega) hk;rw[e] at this;exact sw this
end
end
section
def iY(l:List Bool)(k:Nat):Bool:=l.getD k false
theorem Bp{l:List Bool}{k:Nat}(h:k<l.length):iY l k=l[k]:=by simp[iY,w_,k_ h]
theorem zS(l:List Bool)(k j:Nat)(x:Bool):iY (l.set k x) j=if k=j/\k<l.length then x else iY l j:=by
 simp only[iY,w_,List.getElem?_set]
 by_cases h:k=j
 ·subst h
  by_cases b:k<l.length
  ·simp[b]
  ·simp[b]
 ·simp[h]
def o4(c:Core)(aQ:List Bool)(j:Nat):Bool:=decide (lI c.st j=c.st.length)&&iY aQ (aD (ak c.ax j))
def nc(c:Core)(aQ:List Bool)(i:Nat):Nat:=(p_ i).countP (o4 c aQ)
theorem zT(c:Core)(aQ:List Bool)(i:Nat):nc c aQ (i+1)=nc c aQ i+if o4 c aQ i=true then 1 else 0:=by
 unfold nc;rw[List.range_succ,List.countP_append];simp[List.countP_cons]
theorem Bq{c:Core}{aQ:List Bool}:0<nc c aQ i↔∃j,j<i/\o4 c aQ j=true:=by
 unfold nc;rw[List.countP_pos_iff];exact⟨λ⟨j,h1,b⟩=>⟨j,u_.1 h1,b⟩,λ⟨j,h1,b⟩=>⟨j,u_.2 h1,b⟩⟩
structure oo(F:List (List Int))(c:Core)(i:Nat)(aQ:List Bool)(aN ex:List Int):Prop where
 tK:aQ.length=c.n+1
 qR:i<=c.ax.length
 uo:∀x∈aN,-x∈c.ax/\1<=bp c x/\bp c x<c.st.length/\iY aQ (aD x)=true
 xZ:aN.Nodup
 wX:∀x,-x∈c.ax->iY aQ (aD x)=true->x∈aN\/bp c x=c.st.length
 zU:∀v,iY aQ v=true->∃x,-x∈c.ax/\aD x=v
 x2:∀y∈ex,-y∈c.ax.take i
 wY:∀y∈ex,gP c.n y
 uq:∀M,sX M F->(∃y∈ex,M y=true)\/(∃x∈aN,M x=true)\/∃j,j<i/\o4 c aQ j=true/\M (-(ak c.ax j))=true
 act:∃j,j<i/\lI c.st j=c.st.length/\(iY aQ (aD (ak c.ax j))=true\/ -(ak c.ax j)∈ex)
section
variable {F Fd:List (List Int)}{c:Core}{i:Nat}{aQ:List Bool}{aN ex:List Int}
theorem Br(n:Nat)(v:Nat):iY (Zj n false) v=false:=by
 simp only[iY,w_,List.getElem?_replicate];split<;>rfl
theorem Kh(T:j9 c)(hs:0<c.st.length){j:Nat}(b:hU c.st (c.st.length-1)<=j):lI c.st j=c.st.length:=by
 have h1:=(uj T (i:=j) (k:=c.st.length-1) (by omega)).2 b;have:=wS c.st j;omega
theorem oo.start{h:Nat}{d:Nat}(G:kG F Fd c h [])(hs:0<c.st.length)(g:d<c.cl.length)(i:∀x∈az c.cl d,-x∈c.ax):oo F c c.ax.length (Zj (c.n+1) false) [] (az c.cl d):=by
 refine⟨by simp,Zt _,λ x b=>by(cases b),List.nodup_nil,λ x _ h1=>?_,λ v h1=>?_,λ y f=>by rw[d_];exact i y f,λ y f=>(G.jS.mM d g).lt y f,λ M l=>l_ (G.jS.imp d g M l),?_⟩
 ·rw[Br] at h1;cases h1
 ·rw[Br] at h1;cases h1
 ·have key:∀x∈az c.cl d,¬-x∈c.ax.take (hU c.st (c.st.length-1))->∃j,j<c.ax.length/\lI c.st j=c.st.length/\(iY (Zj (c.n+1) false) (aD (ak c.ax j))=true\/ -(ak c.ax j)∈az c.cl d):=by
   intro x b m;obtain⟨j,k,e,_⟩:=G.aN.at (i x b);refine⟨j,k,Kh G.aN hs ?_,t_ ?_⟩
   ·rcases s_ j (hU c.st (c.st.length-1)) with h1|h1
    ·exact absurd (pP.2 ⟨j,h1,k,e⟩) m
    ·exact h1
   ·rw[e,Zl];exact b
  rcases G.rH (c.st.length-1) (by omega) d g with⟨x,b,o⟩|⟨x,b,y,f,_,h1,_⟩
  ·exact absurd (sw o) (λ h1=>G.aN.apart h1 (i x b))
  ·exact key x b h1
theorem oo.drop{y:Int}(T:j9 c)(D:rF F Fd c)(h:oo F c i aQ aN (y::ex))(hs:0<c.st.length)(l:bp c y=0):oo F c i aQ aN ex:=by
 have m:=h.x2 y (by simp);obtain⟨j,h1,f,g⟩:=pP.1 m;have n:lI c.st j=0:=by rw[<-T.mI j f,g];unfold bp;rw[oW];exact l
 refine⟨h.tK,h.qR,h.uo,h.xZ,h.wX,h.zU,λ z b=>h.x2 z (by simp[b]),λ z b=>h.wY z (by simp[b]),λ M d=>?_,?_⟩
 ·rcases h.uq M d with⟨z,b,hm⟩|o
  ·rcases q_.1 b with e|e
   ·subst e;have:=yO T D d j f n;rw[g,d.1 z (h.wY z (by simp)).oM,hm] at this
    cases this
   ·exact l_ ⟨z,e,hm⟩
  ·exact t_ o
 ·obtain⟨k,p,q,r⟩:=h.act;refine⟨k,p,q,r.imp id λ s=>?_⟩;rcases q_.1 s with e|e
  ·exfalso;have hk:k<c.ax.length:=by have:=h.qR;omega
   have:bp c y=lI c.st k:=by rw[<-e,<-T.mI k hk];unfold bp;rw[oW]
   omega
  ·exact e
theorem oo.seen{y:Int}(T:j9 c)(h:oo F c i aQ aN (y::ex))(hs:iY aQ (aD y)=true):oo F c i aQ aN ex:=by
 have g:=h.x2 y (by simp);obtain⟨j,h1,n,l⟩:=pP.1 g;have m:aD (ak c.ax j)=aD y:=by rw[l,oW]
 refine⟨h.tK,h.qR,h.uo,h.xZ,h.wX,h.zU,λ z b=>h.x2 z (by simp[b]),λ z b=>h.wY z (by simp[b]),λ M o=>?_,?_⟩
 ·rcases h.uq M o with⟨z,b,hm⟩|p
  ·rcases q_.1 b with e|e
   ·subst e;rcases h.wX z (sw g) hs with d|d
    ·exact t_ (l_ ⟨z,d,hm⟩)
    ·refine t_ (t_ ⟨j,h1,?_,?_⟩)
     ·unfold o4;rw[m,hs,Zy,decide_eq_true_iff,<-d,<-T.mI j n];unfold bp;rw[m]
     ·rw[l,Zl];exact hm
   ·exact l_ ⟨z,e,hm⟩
  ·exact t_ p
 ·obtain⟨k,q,r,f⟩:=h.act;refine⟨k,q,r,?_⟩;rcases f with f|s
  ·exact l_ f
  ·rcases q_.1 s with e|e
   ·left;have:aD (ak c.ax k)=aD y:=by rw[<-e,oW]
    rw[this];exact hs
   ·exact t_ e
theorem Bs{c:Core}{aQ:List Bool}{y:Int}(b:aQ.length=c.n+1)(hl:gP c.n y)(v:Nat):iY (aQ.set (aD y) true) v=if aD y=v then true else iY aQ v:=by
 rw[zS];have:aD y<aQ.length:=by rw[b];have:=hl.2;omega
 by_cases e:aD y=v
 ·rw[if_pos ⟨e,this⟩,if_pos e]
 ·rw[if_neg (λ d=>e d.1),if_neg e]
theorem oo.mark{y:Int}(T:j9 c)(h:oo F c i aQ aN (y::ex))(hs:iY aQ (aD y)=false)(Y:bp c y≠0):
  (bp c y=c.st.length->oo F c i (aQ.set (aD y) true) aN ex/\nc c (aQ.set (aD y) true) i=nc c aQ i+1)/\
  (bp c y≠c.st.length->oo F c i (aQ.set (aD y) true) (aN++[y]) ex/\nc c (aQ.set (aD y) true) i=nc c aQ i):=by
 have C:=h.x2 y (by simp);have Q:=h.wY y (by simp);obtain⟨j,h1,E,I⟩:=pP.1 C;have D:aD (ak c.ax j)=aD y:=by rw[I,oW]
 have J:lI c.st j=bp c y:=by rw[<-T.mI j E];unfold bp;rw[D]
 have o:=Bs (c:=c) h.tK Q;have u:∀v,iY aQ v=true->iY (aQ.set (aD y) true) v=true:=λ v w=>by rw[o];split;rfl;exact w
 have K:∀k,k<c.ax.length->o4 c (aQ.set (aD y) true) k=if k=j then decide (bp c y=c.st.length) else o4 c aQ k:=by
  intro k hk;unfold o4;rw[o]
  by_cases e:k=j
  ·subst e;rw[if_pos D.symm,if_pos rfl,Zy,J]
  ·rw[if_neg e]
   by_cases f:aD y=aD (ak c.ax k)
   ·exact absurd (T.place hk E (by rw[D,f])) e
   ·rw[if_neg f]
 have L:∃k,k<i/\lI c.st k=c.st.length/\(iY (aQ.set (aD y) true) (aD (ak c.ax k))=true\/ -(ak c.ax k)∈ex):=by
  obtain⟨k,A,l,p⟩:=h.act;refine⟨k,A,l,?_⟩;rcases p with p|R
  ·exact l_ (u _ p)
  ·rcases q_.1 R with e|e
   ·left;rw[o,if_pos];rw[<-e,oW]
   ·exact t_ e
 have Z:bp c y<=c.st.length:=by rw[<-J];exact wS _ _
 have S:∀x∈aN,aD x≠aD y:=λ x n e=>by
  have:=(h.uo x n).2.2.2;rw[e,hs] at this;cases this
 have N:∀v,iY (aQ.set (aD y) true) v=true->∃x,-x∈c.ax/\aD x=v:=λ v w=>by
  rw[o] at w
  by_cases e:aD y=v
  ·exact⟨y,sw C,e⟩
  ·rw[if_neg e] at w;exact h.zU v w
 have O:∀m,m<=c.ax.length->nc c (aQ.set (aD y) true) m=nc c aQ m+if j<m/\bp c y=c.st.length then 1 else 0:=by
  intro m
  induction m with
  |zero=>intro _;simp[nc]
  |succ m U=>
   intro hm;rw[zT,zT,U (by omega),K m (by omega)]
   by_cases e:m=j
   ·subst e;have V:o4 c aQ m=false:=by unfold o4;rw[D,hs,Bool.and_false]
    rw[if_pos rfl,V]
    by_cases f:bp c y=c.st.length
    ·simp[f]
    ·simp[f]
   ·rw[if_neg e];generalize (if o4 c aQ m=true then 1 else 0)=q;have P:(j<m/\bp c y=c.st.length)↔(j<m+1/\bp c y=c.st.length):=⟨λ r=>⟨by omega,r.2⟩,λ r=>⟨by omega,r.2⟩⟩
    by_cases f:j<m/\bp c y=c.st.length
    ·rw[if_pos f,if_pos (P.1 f)];omega
    ·rw[if_neg f,if_neg (λ r=>f (P.2 r))];omega
 constructor
 ·intro t;refine⟨⟨by simp[h.tK],h.qR,λ x n=>?_,h.xZ,λ x n s=>?_,N,λ z g=>h.x2 z (by simp[g]),λ z g=>h.wY z (by simp[g]),λ M G=>?_,L⟩,?_⟩
  ·obtain⟨a,b,d,e⟩:=h.uo x n;exact⟨a,b,d,u _ e⟩
  ·rw[o] at s
   by_cases e:aD y=aD x
   ·right;unfold bp at t⊢;rw[<-e];exact t
   ·rw[if_neg e] at s;exact h.wX x n s
  ·rcases h.uq M G with⟨z,g,hm⟩|B|⟨k,A,l,p⟩
   ·rcases q_.1 g with e|e
    ·subst e;refine t_ (t_ ⟨j,h1,?_,by rw[I,Zl];exact hm⟩);rw[K j E,if_pos rfl,decide_eq_true_iff];exact t
    ·exact l_ ⟨z,e,hm⟩
   ·exact t_ (l_ B)
   ·refine t_ (t_ ⟨k,A,?_,p⟩);unfold o4 at l⊢;rw[m_] at l⊢;exact⟨l.1,u _ l.2⟩
  ·rw[O i h.qR,if_pos ⟨h1,t⟩]
 ·intro t;refine⟨⟨by simp[h.tK],h.qR,λ x n=>?_,?_,λ x n s=>?_,N,λ z g=>h.x2 z (by simp[g]),λ z g=>h.wY z (by simp[g]),λ M G=>?_,L⟩,?_⟩
  ·rcases List.mem_append.1 n with B|B
   ·obtain⟨a,b,d,e⟩:=h.uo x B;exact⟨a,b,d,u _ e⟩
   ·rw[b_.1 B];exact⟨sw C,by omega,by omega,by rw[o,if_pos rfl]⟩
  ·rw[List.nodup_append];refine⟨h.xZ,by simp,λ a W b X e=>?_⟩;rw[b_.1 X] at e;exact S a W (by rw[e])
  ·rw[o] at s
   by_cases e:aD y=aD x
   ·left;rcases C8 e with f|f
    ·simp[f]
    ·exfalso;have H:x∈c.ax:=by
      have:=sw C;rw[f,Zl] at this;exact this
     exact T.apart H n
   ·rw[if_neg e] at s;exact(h.wX x n s).imp (λ H=>by simp[H]) id
  ·rcases h.uq M G with⟨z,g,hm⟩|⟨z,g,hm⟩|⟨k,A,l,p⟩
   ·rcases q_.1 g with e|e
    ·subst e;exact t_ (l_ ⟨z,by simp,hm⟩)
    ·exact l_ ⟨z,e,hm⟩
   ·exact t_ (l_ ⟨z,by simp[g],hm⟩)
   ·refine t_ (t_ ⟨k,A,?_,p⟩);unfold o4 at l⊢;rw[m_] at l⊢;exact⟨l.1,u _ l.2⟩
  ·rw[O i h.qR,if_neg (λ r=>t r.2)];rfl
theorem oo.open(h:oo F c i aQ aN []):0<nc c aQ i:=by
 rw[Bq];obtain⟨k,d,e,b⟩:=h.act;refine⟨k,d,?_⟩;unfold o4;rcases b with b|b
 ·rw[b,Zy,decide_eq_true_iff];exact e
 ·cases b
theorem oo.down(h:oo F c (i+1) aQ aN [])(hs:iY aQ (aD (ak c.ax i))=false):oo F c i aQ aN []/\nc c aQ i=nc c aQ (i+1):=by
 have g:o4 c aQ i=false:=by unfold o4;rw[hs,Bool.and_false]
 refine⟨⟨h.tK,by have:=h.qR;omega,h.uo,h.xZ,h.wX,h.zU,λ y f=>by(cases f),λ y f=>by(cases f),λ M j=>?_,?_⟩,by rw[zT,g];rfl⟩
 ·rcases h.uq M j with h1|h1|⟨k,l,d,b⟩
  ·exact l_ h1
  ·exact t_ (l_ h1)
  ·refine t_ (t_ ⟨k,?_,d,b⟩);rcases s_ k i with e|e
   ·exact e
   ·obtain rfl:k=i:=by omega
    rw[g] at d;cases d
 ·obtain⟨k,l,d,b⟩:=h.act;refine⟨k,?_,d,b⟩;rcases s_ k i with e|e
  ·exact e
  ·obtain rfl:k=i:=by omega
   rcases b with b|b
   ·rw[hs] at b;cases b
   ·cases b
theorem oo.top(T:j9 c)(h:oo F c (i+1) aQ aN []):lI c.st i=c.st.length:=by
 obtain⟨k,d,b,_⟩:=Bq.1 h.open|>.imp λ k ⟨d,b⟩=>(⟨d,(by unfold o4 at b;rw[m_,decide_eq_true_iff] at b;exact b.1),trivial⟩:k<i+1/\lI c.st k=c.st.length/\True)
 have h1:=C9 (st:=c.st) (i:=k) (j:=i) (by omega);have:=wS c.st i;omega
theorem oo.done(T:j9 c)(h:oo F c (i+1) aQ aN [])(hs:iY aQ (aD (ak c.ax i))=true)(h1:nc c aQ (i+1)=1):rD F (-(ak c.ax i)::aN):=by
 have b:o4 c aQ i=true:=by unfold o4;rw[hs,Zy,decide_eq_true_iff];exact h.top T
 rw[zT,b,if_pos rfl] at h1;intro M d;rcases h.uq M d with⟨y,f,_⟩|⟨x,g,hm⟩|⟨k,m,j,l⟩
 ·cases f
 ·exact⟨x,by simp[g],hm⟩
 ·by_cases e:k=i
  ·subst e;exact⟨_,by simp,l⟩
  ·have:0<nc c aQ i:=Bq.2 ⟨k,by omega,j⟩;omega
theorem oo.reason(T:j9 c)(D:rF F Fd c)(h:oo F c (i+1) aQ aN [])(hs:iY aQ (aD (ak c.ax i))=true)(h1:nc c aQ (i+1)≠1):
  ∃d,mH c.kF (aD (ak c.ax i))=some d/\d<c.cl.length/\oo F c i aQ aN ((az c.cl d).filter λ y=>y !=ak c.ax i)/\nc c aQ (i+1)=nc c aQ i+1:=by
 have s:=h.top T;have t:o4 c aQ i=true:=by unfold o4;rw[hs,Zy,decide_eq_true_iff];exact s
 have u:nc c aQ (i+1)=nc c aQ i+1:=by rw[zT,t,if_pos rfl]
 have p:i<c.ax.length:=by have:=h.qR;omega
 obtain⟨k,v,f⟩:=Bq.1 (show 0<nc c aQ i by have:=h.open;omega);have w:lI c.st k=c.st.length:=by unfold o4 at f;rw[m_,decide_eq_true_iff] at f;exact f.1
 have hw:=T.p7 i p
 cases q:mH c.kF (aD (ak c.ax i)) with
 |none=>
  rw[q] at hw;obtain⟨m,hm,e⟩:=hw;have:=(uj T (i:=k) hm).1 (by omega);omega
 |some d=>
  rw[q] at hw;obtain⟨g,C,z⟩:=hw;refine⟨d,rfl,g,⟨h.tK,by omega,h.uo,h.xZ,h.wX,h.zU,λ y b=>?_,λ y b=>?_,λ M l=>?_,⟨k,v,w,l_ ?_⟩⟩,u⟩
  ·obtain⟨n,A⟩:=r_.1 b;exact z y n (by simpa using A)
  ·exact(D.mM d g).lt y (r_.1 b).1
  ·rcases h.uq M l with⟨y,b,_⟩|n|⟨j,E,B,o⟩
   ·cases b
   ·exact t_ (l_ n)
   ·by_cases e:j=i
    ·subst e;obtain⟨y,b,hm⟩:=D.imp d g M l
     by_cases r:y=ak c.ax j
     ·rw[l.1 _ (T.lit _ (mc p)).oM,<-r,hm] at o;cases o
     ·exact l_ ⟨y,r_.2 ⟨b,by simpa using r⟩,hm⟩
    ·exact t_ (t_ ⟨j,by omega,B,o⟩)
  ·unfold o4 at f;rw[m_] at f;exact f.2
inductive q4(c:Core)(aQ:List Bool):Int->Prop
 |mk (x:Int) (d:Nat) (hw:mH c.kF (aD x)=some d) (h:∀y∈az c.cl d,y≠-x->iY aQ (aD y)=false->bp c y≠0->q4 c aQ y):q4 c aQ x
def pos(c:Core)(x:Int):Nat:=c.ax.idxOf (-x)
theorem pos_at(T:j9 c){x:Int}{j:Nat}(b:j<c.ax.length)(e:ak c.ax j= -x):pos c x=j:=by
 have d: -x∈c.ax:=qn.2 ⟨j,b,e⟩;unfold pos;have h1:=List.idxOf_lt_length_of_mem d;have f:ak c.ax (c.ax.idxOf (-x))= -x:=by rw[nu h1];exact List.getElem_idxOf h1
 exact T.place h1 b (by rw[f,e])
theorem Ki(T:j9 c)(D:rF F Fd c)(hm:∀x,-x∈c.ax->iY aQ (aD x)=true->x∈aN\/bp c x=c.st.length){M:Int->Bool}(b:sX M F):∀(k:Nat)(x:Int),pos c x=k-> -x∈c.ax->bp c x<c.st.length->q4 c aQ x->(∀z∈aN,pos c z<k->M z=false)->M x=false:=by
 intro k
 induction k using Zn with
 |_ k v=>
  intro x hk n hl w o;obtain⟨_,d,hw,A⟩:=w;obtain⟨j,p,e,N⟩:=T.at n;have B:j=k:=by rw[<-hk];exact(pos_at T p e).symm
  subst B;have q:=T.p7 j p;rw[e,oW,hw] at q;obtain⟨r,O,C⟩:=q;obtain⟨y,g,f⟩:=D.imp d r M b;have E:x≠0:=by have:=(T.lit _ n).oM;omega
  by_cases l:y= -x
  ·rw[l,b.1 x E] at f
   cases G:M x with
   |true=>rw[G] at f;cases f
   |false=>rfl
  ·exfalso;obtain⟨m,m1,m2,m3⟩:=pP.1 (C y g l);have H:pos c y=m:=pos_at T m2 m3;have P:bp c y=lI c.st m:=by rw[<-T.mI m m2,m3];unfold bp;rw[oW]
   have s: -y∈c.ax:=qn.2 ⟨m,m2,m3⟩;have I:bp c y<c.st.length:=by
    have:=C9 (st:=c.st) (i:=m) (j:=j) (by omega);omega
   have t:M y=false:=by
    by_cases h1:iY aQ (aD y)=true
    ·rcases hm y s h1 with u|u
     ·exact o y u (by omega)
     ·omega
    by_cases h1:bp c y=0
    ·have:=yO T D b m m2 (by omega);rw[m3,b.1 y ((D.mM d r).lt y g).oM] at this
     cases J:M y with
     |true=>rw[J] at this;cases this
     |false=>rfl
    ·rename_i K;exact v m m1 y H s I (A y g l (by simpa using K) h1) (λ z L Q=>o z L (by omega))
   rw[f] at t;cases t
theorem Kj(T:j9 c)(D:rF F Fd c)(hm:∀x,-x∈c.ax->iY aQ (aD x)=true->x∈aN\/bp c x=c.st.length)(g:∀x∈aN,-x∈c.ax/\bp c x<c.st.length){u:Int}(l:rD F (u::aN)){r:List Int}(m:∀x∈aN,x∈r\/q4 c aQ x):rD F (u::r):=by
 intro M i;rcases Zg (∃x∈u::r,M x=true) with h|h
 ·exact h
 ·exfalso;have j:∀x∈u::r,M x=false:=λ x d=>by
   cases b:M x with
   |false=>rfl
   |true=>exact absurd ⟨x,d,b⟩ h
  have key:∀(k:Nat)(z:Int),pos c z=k->z∈aN->M z=false:=by
   intro k
   induction k using Zn with
   |_ k n=>
    intro z hk f;rcases m z f with h1|h1
    ·exact j z (by simp[h1])
    ·exact Ki T D hm i k z hk (g z f).1 (g z f).2 h1 (λ y o p=>n _ p y rfl o)
  obtain⟨x,d,b⟩:=l M i;rcases q_.1 d with e|e
  ·rw[j x (by simp[e])] at b;cases b
  ·rw[key _ x rfl e] at b;cases b
end
structure qH(F:List (List Int))(c:Core)(p:Int)(i:Nat)(mk:Int->Bool)(out:List Int):Prop where
 qR:i<=c.ax.length
 Bt:∀x∈out,x=p\/(x∈c.ax/\mH c.kF (aD x)=none)
 uq:∀M,sX M F->(∀x∈p::out,M x=true)->∃j,j<i/\1<=lI c.st j/\mk (aD (ak c.ax j))=true/\M (ak c.ax j)=false
section
variable {F Fd:List (List Int)}{c:Core}{p:Int}{i:Nat}{mk:Int->Bool}{out:List Int}
theorem qH.start(T:j9 c)(hp: -p∈c.ax)(hl:1<=bp c p)(hm:mk (aD p)=true):qH F c p c.ax.length mk [p]:=by
 refine⟨Zt _,λ x b=>l_ (b_.1 b),λ M d f=>?_⟩;obtain⟨j,g,e,h1⟩:=T.at hp;refine⟨j,g,by omega,by rw[e,oW];exact hm,?_⟩;rw[e,d.1 p (by have:=(T.lit _ hp).oM;omega),f p (by simp)];rfl
theorem qH.skip(h:qH F c p (i+1) mk out)(hs:mk (aD (ak c.ax i))=false):qH F c p i mk out:=by
 refine⟨by have:=h.qR;omega,h.Bt,λ M e f=>?_⟩;obtain⟨j,h1,g,b,k⟩:=h.uq M e f;refine⟨j,?_,g,b,k⟩;rcases s_ j i with d|d
 ·exact d
 ·obtain rfl:j=i:=by omega
  rw[hs] at b;cases b
theorem qH.decision(h:qH F c p (i+1) mk out)(k:mH c.kF (aD (ak c.ax i))=none):qH F c p i mk (out++[ak c.ax i]):=by
 have l:i<c.ax.length:=by have:=h.qR;omega
 refine⟨by omega,λ x b=>?_,λ M m f=>?_⟩
 ·rcases List.mem_append.1 b with h1|h1
  ·exact h.Bt x h1
  ·rw[b_.1 h1];exact t_ ⟨mc l,k⟩
 ·obtain⟨j,h1,n,o,d⟩:=h.uq M m (λ x b=>f x (by rcases q_.1 b with e|e<;>simp[e]));refine⟨j,?_,n,o,d⟩;rcases s_ j i with g|g
  ·exact g
  ·obtain rfl:j=i:=by omega
   rw[f _ (by simp)] at d;cases d
theorem qH.reason(T:j9 c)(D:rF F Fd c)(h:qH F c p (i+1) mk out){d:Nat}(hw:mH c.kF (aD (ak c.ax i))=some d){mk':Int->Bool}(hm:∀v,mk v=true->mk' v=true)(t:∀y∈az c.cl d,y≠ak c.ax i->0<bp c y->mk' (aD y)=true):qH F c p i mk' out:=by
 have u:i<c.ax.length:=by have:=h.qR;omega
 refine⟨by omega,h.Bt,λ M b w=>?_⟩;obtain⟨j,h1,z,A,f⟩:=h.uq M b w
 by_cases e:j=i
 ·subst e;have n:=T.p7 j u;rw[hw] at n;obtain⟨o,E,B⟩:=n;obtain⟨y,g,q⟩:=D.imp d o M b;have r:y≠ak c.ax j:=by rintro rfl;rw[q] at f;cases f
  obtain⟨k,G,s,l⟩:=pP.1 (B y g r);have H:bp c y=lI c.st k:=by rw[<-T.mI k s,l];unfold bp;rw[oW]
  have m:M (ak c.ax k)=false:=by rw[l,b.1 y ((D.mM d o).lt y g).oM,q];rfl
  by_cases C:lI c.st k=0
  ·rw[yO T D b k s C] at m;cases m
  ·exact⟨k,by omega,by omega,by rw[l,oW];exact t y g r (by omega),m⟩
 ·exact⟨j,by omega,z,hm _ A,f⟩
theorem qH.done(T:j9 c)(h:qH F c p i mk out)(hs:0<c.st.length)(e:i<=hU c.st 0):∀M,sX M F->¬∀x∈p::out,M x=true:=by
 intro M b d;obtain⟨j,h1,f,_⟩:=h.uq M b d;have:=(uj T (i:=j) hs).1 (by omega);omega
end
end
section
structure mw(n:Nat)(ord pl:List Int):Prop where
 sx:pl.length=n+1
 inv:∀i,i<ord.length->1<=ak ord i/\ak ord i<=n/\ak pl (ak ord i).toNat=i
 o:∀v:Nat,1<=v->v<=n->0<=ak pl v->ak pl v<ord.length/\ak ord (ak pl v).toNat=v
 ur:∀v,-1<=ak pl v
section
variable {n:Nat}{ord pl:List Int}
theorem mw.inj(h:mw n ord pl){i j:Nat}(b:i<ord.length)(c:j<ord.length)(e:ak ord i=ak ord j):i=j:=by
 have h1:=(h.inv i b).2.2;have d:=(h.inv j c).2.2;rw[e] at h1;omega
def uu(ord pl:List Int)(i k:Nat):List Int:=(pl.set (ak (kX ord i k) i).toNat (i:Int)).set (ak (kX ord i k) k).toNat (k:Int)
theorem yP(h:mw n ord pl){i k:Nat}(d:i<ord.length)(hk:k<ord.length)(v:Nat):
  ak (uu ord pl i k) v=if (v:Int)=ak ord i then (k:Int) else if (v:Int)=ak ord k then (i:Int) else ak pl v:=by
 have a:=h.inv i d;have b:=h.inv k hk;have j:ak (kX ord i k) k=ak ord i:=by rw[qF d hk,if_pos rfl]
 have l:ak (kX ord i k) i=if i=k then ak ord i else ak ord k:=by rw[qF d hk];simp
 unfold uu;rw[j,l,oZ]
 by_cases c:(v:Int)=ak ord i
 ·rw[if_pos c,if_pos ⟨by omega,by rw[List.length_set,h.sx];omega⟩]
 ·rw[if_neg c,if_neg (λ f=>c (by omega)),oZ]
  by_cases g:i=k
  ·subst g;rw[if_pos rfl,if_neg (λ f=>c (by omega)),if_neg c]
  ·rw[if_neg g]
   by_cases e:(v:Int)=ak ord k
   ·rw[if_pos e,if_pos ⟨by omega,by rw[h.sx];omega⟩]
   ·rw[if_neg e,if_neg (λ f=>e (by omega))]
theorem mw.swap(h:mw n ord pl){i k:Nat}(d:i<ord.length)(hk:k<ord.length):mw n (kX ord i k) (uu ord pl i k):=by
 have a:=h.inv i d;have b:=h.inv k hk;refine⟨by unfold uu;simp[h.sx],λ j l=>?_,λ v h1 r m=>?_,λ v=>?_⟩
 ·rw[rX] at l;have c:=h.inv j l;rw[qF d hk]
  by_cases e:j=k
  ·rw[if_pos e];refine⟨a.1,a.2.1,?_⟩;rw[yP h d hk,if_pos (by omega),e]
  ·rw[if_neg e]
   by_cases f:j=i
   ·rw[if_pos f];refine⟨b.1,b.2.1,?_⟩;rw[yP h d hk]
    by_cases q:((ak ord k).toNat:Int)=ak ord i
    ·have:=h.inj hk d (by omega);omega
    ·rw[if_neg q,if_pos (by omega),f]
   ·rw[if_neg f];refine⟨c.1,c.2.1,?_⟩;rw[yP h d hk,if_neg (λ g=>f (h.inj l d (by omega))),if_neg (λ g=>e (h.inj l hk (by omega)))];exact c.2.2
 ·rw[yP h d hk] at m⊢;rw[rX]
  by_cases e:(v:Int)=ak ord i
  ·rw[if_pos e,qF d hk,if_pos (by omega)];exact⟨by omega,e.symm⟩
  ·rw[if_neg e] at m⊢
   by_cases f:(v:Int)=ak ord k
   ·rw[if_pos f,qF d hk];have q:i≠k:=by rintro rfl;exact e f
    rw[if_neg (by omega),if_pos (by omega)];exact⟨by omega,f.symm⟩
   ·rw[if_neg f] at m⊢;obtain⟨s,p⟩:=h.o v h1 r m;refine⟨s,?_⟩;rw[qF d hk,if_neg (λ g=>f (by rw[<-p,g])),if_neg (λ g=>e (by rw[<-p,g]))];exact p
 ·rw[yP h d hk];split
  ·omega
  ·split
   ·omega
   ·exact h.ur v
def vW(pl b:List Int):Prop:=∀v,0<=ak b v↔0<=ak pl v
theorem vW.refl(pl:List Int):vW pl pl:=λ _=>Iff.rfl
theorem vW.trans{a b c:List Int}(h:vW a b)(h':vW b c):vW a c:=λ v=>(h' v).trans (h v)
theorem mw.FL(h:mw n ord pl){i k:Nat}(d:i<ord.length)(hk:k<ord.length):vW pl (uu ord pl i k):=by
 intro v;rw[yP h d hk]
 by_cases b:(v:Int)=ak ord i
 ·rw[if_pos b];have:=(h.inv i d).2.2;rw[<-b] at this;simp only[a_] at this;omega
 ·rw[if_neg b]
  by_cases c:(v:Int)=ak ord k
  ·rw[if_pos c];have:=(h.inv k hk).2.2;rw[<-c] at this;simp only[a_] at this;omega
  ·rw[if_neg c]
theorem mw.push(h:mw n ord pl){v:Nat}(h1:1<=v)(k:v<=n)(l:ak pl v<0):mw n (ord++[(v:Int)]) (pl.set v (ord.length:Int)):=by
 have d:∀u,ak (pl.set v (ord.length:Int)) u=if v=u then (ord.length:Int) else ak pl u:=λ u=>by
  rw[oZ]
  by_cases e:v=u
  ·rw[if_pos e,if_pos ⟨e,by rw[h.sx];omega⟩]
  ·rw[if_neg e,if_neg (λ f=>e f.1)]
 refine⟨by simp[h.sx],λ i g=>?_,λ u a b c=>?_,λ u=>?_⟩
 ·rw[c_,g_] at g
  by_cases e:i<ord.length
  ·rw[tG e];have:=h.inv i e;refine⟨this.1,this.2.1,?_⟩;rw[d,if_neg]
   ·exact this.2.2
   ·rintro rfl;have:=this.2.2;omega
  ·obtain rfl:i=ord.length:=by omega
   rw[xU];refine⟨by omega,by omega,?_⟩;rw[d,if_pos (by omega)]
 ·rw[d] at c⊢;rw[c_,g_]
  by_cases e:v=u
  ·rw[if_pos e];refine⟨by omega,?_⟩;rw[a_,xU,e]
  ·rw[if_neg e] at c⊢;obtain⟨m,j⟩:=h.o u a b c;exact⟨by omega,by rw[tG (by omega)];exact j⟩
 ·rw[d];split
  ·omega
  ·exact h.ur u
theorem mw.pop(h:mw n ord pl)(hl:0<ord.length):mw n (ord.take (ord.length-1)) (pl.set (ak ord (ord.length-1)).toNat (-1)):=by
 obtain⟨m,hm⟩:∃m,ord.length=m+1:=⟨ord.length-1,by omega⟩
 have p:ord.length-1=m:=by omega
 rw[p];have a:=h.inv m (by omega);have f:∀u,ak (pl.set (ak ord m).toNat (-1)) u=if (ak ord m).toNat=u then-1 else ak pl u:=λ u=>by
  rw[oZ]
  by_cases e:(ak ord m).toNat=u
  ·rw[if_pos e,if_pos ⟨e,by rw[h.sx];omega⟩]
  ·rw[if_neg e,if_neg (λ g=>e g.1)]
 have hlen:(ord.take m).length=m:=by rw[e_];omega
 refine⟨by simp[h.sx],λ i l=>?_,λ u b c d=>?_,λ u=>?_⟩
 ·rw[hlen] at l;rw[wQ l];have:=h.inv i (by omega);refine⟨this.1,this.2.1,?_⟩;rw[f,if_neg]
  ·exact this.2.2
  ·intro e;have:=h.inj (i:=m) (j:=i) (by omega) (by omega) (by omega);omega
 ·rw[f] at d⊢;rw[hlen]
  by_cases e:(ak ord m).toNat=u
  ·rw[if_pos e] at d;omega
  ·rw[if_neg e] at d⊢;obtain⟨q,k⟩:=h.o u b c d;have r:ak pl u≠m:=λ g=>e (by rw[g] at k;simp only[a_] at k;omega)
   exact⟨by omega,by rw[wQ (by omega)];exact k⟩
 ·rw[f];split
  ·omega
  ·exact h.ur u
end
end
section
open Go.RowKit
def s0:TypeId:=162
def vv:TypeId:=166
def zV:TypeId:=160
def x3:TypeId:=164
def zW:TypeId:=171
def Kk:TypeId:=126
def iI(k:Nat):Nat:=13+3*k
def kO(k:Nat):Nat:=14+3*k
def qS(r:Nat):TypeId:=
 if r=0 then zV else if r=1 then zW else if r=3 then x3 else if r=9 then 4 else if r=10 then x3 else if r=11 then Kk else if r=12 then 4
 else if r<13 then 3 else if r%3=1 then x3 else 3
def nL(r:Nat):Nat:=if r=11 then 2 else 1
structure r0 where
 k6:Bool
 bp:Int
 ac:Int
structure nE where
 lQ:Int
 h:ay
structure au where
 c:Core
 ci:List r0
 act:List Int
 bz:Int
 ord:List Int
 pl:List Int
 ia:List Bool
 aO:List Nat
 aF:List nE
 aQ:List Bool
 nl:List (List Int)
 jG:Option ay
def jj(l:List Int):List Value:=l.map (Zc .i64)
def qo(l:List Nat):List Value:=l.map λ x:Nat=>Zc .i64 (x:Int)
def s4(l:List Int):List Value:=l.map (Zc .i8)
def pR(l:List Bool):List Value:=l.map Value.bool
def s5(cb:Nat->Nat)(d:Nat):Value:=.pointer (some ⟨cb d,0,none⟩)
def qT(cb:Nat->Nat):Option Nat->Value
 |none=>.pointer none
 |some d=>s5 cb d
def k7(cb:Nat->Nat)(l:List Nat):List Value:=l.map (s5 cb)
def uv(cb:Nat->Nat)(l:List (Option Nat)):List Value:=l.map (qT cb)
def mC(l:List nE):List Value:=(l.map λ p=> [Zc .i64 p.lQ,p.h.v]).flatten
def cont(hs:Nat->ay)(cb:Nat->Nat)(s:au)(r:Nat):List Value:=
 if r=0 then (p_ s.c.wt.length).map λ k=>(hs (iI k)).v
 else if r=1 then s4 s.c.val else if r=2 then qo s.c.lvl else if r=3 then uv cb s.c.kF else if r=4 then jj s.c.ax else if r=5 then qo s.c.st
 else if r=6 then jj s.act else if r=7 then jj s.ord else if r=8 then jj s.pl else if r=9 then pR s.ia else if r=10 then k7 cb s.aO
 else if r=11 then (match s.jG with|some _=> []|none=>mC s.aF) else if r=12 then pR s.aQ
 else if r%3=1 then k7 cb (az s.c.wt ((r-13)/3)) else if r%3=2 then jj (az s.c.cl ((r-14)/3)) else jj (az s.nl ((r-15)/3))
def oO(hs:Nat->ay)(s:au):Value:=match s.jG with
 |some h=>h.v
 |none=>(hs 11).v
def q5(hs:Nat->ay)(s:au):List Value:=
 [.int .i64 s.c.n,(hs 0).v,(hs 1).v,(hs 2).v,(hs 3).v,(hs 4).v,(hs 5).v,.int .i64 s.c.ag,(hs 6).v,.int .i64 s.bz,(hs 7).v,(hs 8).v,(hs 9).v,(hs 10).v,oO hs s,.bool s.c.mm,(hs 12).v]
def tL(hs:Nat->ay)(s:au)(d:Nat):List Value:=
 [(hs (kO d)).v,.bool (s.ci.getD d ⟨false,0,0⟩).k6,.int .i64 (s.ci.getD d ⟨false,0,0⟩).bp,.int .i64 (s.ci.getD d ⟨false,0,0⟩).ac]
structure kA(base:Nat)(w:World)(G:Nat)(hs:Nat->ay)(cb:Nat->Nat)(gr:List Value)(cls:Nat->List Value)(n:Nat)(X:Nat->List Value):Prop where
 box:aR w G s0 gr
 rows:mu base qS nL w hs X
 cls:∀d,d<n->aR w (cb d) vv (cls d)
 inj:∀d e,d<n->e<n->cb d=cb e->d=e
 q6:base<=G
 rL:∀d,d<n->base<=cb d
abbrev jm(base:Nat)(w:World)(G:Nat)(hs:Nat->ay)(cb:Nat->Nat)(s:au):Prop:=kA base w G hs cb (q5 hs s) (tL hs s) s.c.cl.length (cont hs cb s)
def au.o5(s:au)(k:Nat)(x:Int):au:={s with c:={s.c with val:=s.c.val.set k x}}
def au.rM(s:au)(k:Nat)(x:Nat):au:={s with c:={s.c with lvl:=s.c.lvl.set k x}}
def au.qI(s:au)(k:Nat)(x:Option Nat):au:={s with c:={s.c with kF:=s.c.kF.set k x}}
def au.wZ(s:au)(k:Nat)(x:Int):au:={s with c:={s.c with ax:=s.c.ax.set k x}}
def au.p8(s:au)(k:Nat)(x:Int):au:={s with act:=s.act.set k x}
def au.tM(s:au)(k:Nat)(x:Int):au:={s with ord:=s.ord.set k x}
def au.pS(s:au)(k:Nat)(x:Int):au:={s with pl:=s.pl.set k x}
def au.uw(s:au)(k:Nat)(x:Bool):au:={s with ia:=s.ia.set k x}
def au.s6(s:au)(k:Nat)(x:Bool):au:={s with aQ:=s.aQ.set k x}
def au.yQ(s:au)(x:Int):au:={s with c:={s.c with ax:=s.c.ax++[x]}}
theorem Di(r:Nat):qS r≠s0/\qS r≠vv:=by
 unfold qS
 repeat (split;·exact⟨by decide,by decide⟩)
 exact⟨by decide,by decide⟩
section
variable {base:Nat}{w w':World}{G:Nat}{hs:Nat->ay}{cb:Nat->Nat}{gr:List Value}{cls:Nat->List Value}{n:Nat}{X:Nat->List Value}
theorem kA.below(h:kA base w G hs cb gr cls n X)(b:Below w.heap.size w w'):kA base w' G hs cb gr cls n X:=
 ⟨h.box.below b,h.rows.below b,λ d c=>(h.cls d c).below b,h.inj,h.q6,h.rL⟩
theorem kA.Dj(h:kA base w G hs cb gr cls n X){d:Nat}(c:d<n):G≠cb d:=by
 intro e;have h1:=h.box;have b:=h.cls d c;rw[<-e] at b;unfold aR at h1 b;rw[h1] at b;injection b with b
 injection b with _ b
 exact absurd b (by decide)
theorem kA.ux(h:kA base w G hs cb gr cls n X)(r g:Nat)(c:(hs r).b=some g):G≠g:=by
 have:=h.rows.C7 h.box (λ r=>(Di r).1) r g c;intro e;exact this (by rw[e])
theorem kA.x4(h:kA base w G hs cb gr cls n X){d:Nat}(c:d<n)(r g:Nat)(f:(hs r).b=some g):cb d≠g:=by
 have:=h.rows.C7 (h.cls d c) (λ r=>(Di r).2) r g f;intro e;exact this (by rw[e])
theorem kA.field(h:kA base w G hs cb gr cls n X)(k:Nat)(v:Value):kA base (w.setCell ⟨G,k,none⟩ v) G hs cb (gr.set k v) cls n X:=
 ⟨h.box.set k v,h.rows.kept (lq w G k v) (λ r g c e=>h.ux r g c (by injection e)),λ d b=>(h.cls d b).kept (lq w G k v) (λ e=>h.Dj b (by injection e with e;exact e.symm)),h.inj,h.q6,h.rL⟩
theorem kA.Kl(h:kA base w G hs cb gr cls n X){d:Nat}(b:d<n)(k:Nat)(v:Value):kA base (w.setCell ⟨cb d,k,none⟩ v) G hs cb gr (iV cls d ((cls d).set k v)) n X:=by
 refine⟨h.box.kept (lq w (cb d) k v) (λ e=>h.Dj b (by injection e)),h.rows.kept (lq w (cb d) k v) (λ r g f e=>h.x4 b r g f (by injection e)),λ e he=>?_,h.inj,h.q6,h.rL⟩
 by_cases c:e=d
 ·subst c;rw[jT];exact(h.cls e he).set k v
 ·rw[bq _ _ c];exact(h.cls e he).kept (lq w (cb d) k v) (λ i=>c (h.inj e d he b (by injection i)))
theorem kA.cell(h:kA base w G hs cb gr cls n X){r g:Nat}(c:(hs r).b=some g)(k:Nat)(v:Value):kA base (w.setCell ⟨g,k,none⟩ v) G hs cb gr cls n (iV X r ((X r).set k v)):=
 ⟨h.box.kept (lq w g k v) (λ e=>h.ux r g c (by injection e)),h.rows.set c k v,λ d f=>(h.cls d f).kept (lq w g k v) (λ e=>h.x4 f r g c (by injection e)),h.inj,h.q6,h.rL⟩
theorem kA.ji(h:kA base w G hs cb gr cls n X){r:Nat}{h':ay}{ys:List Value}(c:w.grownBy w' (hs r).b)(i:w'.ownsRow base (qS r) (nL r) h'.v h'.n ys)(j:h'.b=(hs r).b\/∀g,h'.b=some g->w.heap.size<=g):
  kA base w' G (iV hs r h') cb gr cls n (iV X r ys):=by
 refine⟨h.box.kept c (λ e=>?_),h.rows.ji c i j,λ d f=>(h.cls d f).kept c (λ e=>?_),h.inj,h.q6,h.rL⟩
 ·exact h.ux r G e.symm rfl
 ·exact h.x4 f r (cb d) e.symm rfl
theorem kA.cut(h:kA base w G hs cb gr cls n X){r g:Nat}(d:(hs r).b=some g){k:Nat}(hk:k<=(hs r).n):kA base w G (iV hs r ⟨(hs r).A,k,(hs r).c⟩) cb gr cls n (iV X r ((X r).take (k*nL r))):=
 ⟨h.box,h.rows.cut d hk,h.cls,h.inj,h.q6,h.rL⟩
theorem kA.eq{hs':Nat->ay}{r4:Nat->Nat}{zX:List Value}{FM:Nat->List Value}{iw:Nat}{lV:Nat->List Value}(h:kA base w G hs cb gr cls n X)(h1:hs=hs')(c:cb=r4)(e:gr=zX)(f:∀d,d<n->cls d=FM d)(g:n=iw)(i:∀r,X r=lV r):kA base w G hs' r4 zX FM iw lV:=by
 subst h1 c e g;have j:X=lV:=funext i;subst j;exact⟨h.box,h.rows,λ d b=>by rw[<-f d b];exact h.cls d b,h.inj,h.q6,h.rL⟩
end
end
section
open Go.RowKit
def oA(ops:Array Oper)(j:Nat):Option Tmp:=(ops[j]?).bind λ o:Oper=>o.dst
def jM(ops:Array Oper)(vals:Nat->Value)(L:Nat->Bool)(a:Act):Nat->Act
 |0=>a
 |k+1=>if L k=true then (jM ops vals L a k).put (oA ops k) (vals k) else jM ops vals L a k
def kH(vals:Nat->Value)(i:Nat)(v:Value):Nat->Value:=λ j=>if j=i then v else vals j
def lR(L:Nat->Bool)(i:Nat):Nat->Bool:=λ j=>if j=i then true else L j
theorem put_comm{d e:Option Tmp}{u:Value}(h:∀s,d=some s->e≠some s):(a.put d u).put e v=(a.put e v).put d u:=by
 cases d with
 |none=>rfl
 |some d=>
  cases e with
  |none=>rfl
  |some e=>
   have b:d≠e:=λ x=>h d rfl (x▸rfl)
   simp only[Act.put];rw[Array.setIfInBounds_comm _ _ b]
section
variable {ops:Array Oper}{vals:Nat->Value}{L:Nat->Bool}{a:Act}{i:Nat}{v:Value}
theorem FN:∀k,k<=i->jM ops (kH vals i v) (lR L i) a k=jM ops vals L a k
 |0,_=>rfl
 |k+1,hk=>by
  have b:k≠i:=by omega
  simp only[jM,FN k (by omega)];have c:lR L i k=L k:=by unfold lR;rw[if_neg b]
  have d:kH vals i v k=vals k:=by unfold kH;rw[if_neg b]
  rw[c,d]
theorem zY(d:∀j,j≠i->∀s,oA ops i=some s->oA ops j≠some s)(f:L i=false):∀k,i<k->
  (jM ops vals L a k).put (oA ops i) v=jM ops (kH vals i v) (lR L i) a k
 |0,h=>by omega
 |k+1,h=>by
  by_cases e:k=i
  ·subst e;simp only[jM];rw[FN k (Zt _),f];have b:lR L k k=true:=by unfold lR;rw[if_pos rfl]
   have c:kH vals k v k=v:=by unfold kH;rw[if_pos rfl]
   rw[b,c];simp
  ·simp only[jM];have b:lR L i k=L k:=by unfold lR;rw[if_neg e]
   have c:kH vals i v k=vals k:=by unfold kH;rw[if_neg e]
   rw[b,c,<-zY d f k (by omega)]
   by_cases hk:L k=true
   ·rw[if_pos hk,if_pos hk];exact put_comm λ s h1 g=>d k e s g h1
   ·rw[if_neg hk,if_neg hk]
theorem Km(a:Act)(d:Option Tmp)(v:Value):(a.put d v).tmps.size=a.tmps.size:=by
 cases d<;>simp[Act.put]
theorem Dk:∀k,(jM ops vals L a k).tmps.size=a.tmps.size
 |0=>rfl
 |k+1=>by
  simp only[jM];split
  ·rw[Km,Dk k]
  ·exact Dk k
theorem FO{a:Act}{d:Option Tmp}{v:Value}{x:Operand}(h:∀s,d=some s->x≠ .tmp s):(a.put d v).eval x=a.eval x:=by
 cases d with
 |none=>rfl
 |some s=>
  cases x with
  |tmp t=>
   have b:s≠t:=λ e=>h s rfl (e▸rfl)
   simp only[Act.put,Act.eval];rw[z_,z_,o_ b]
  |const v=>rfl
  |global g=>rfl
  |func f=>rfl
theorem Kn{a:Act}{s:Tmp}{v:Value}(h:s<a.tmps.size):(a.put (some s) v).eval (.tmp s)=v:=by
 simp only[Act.put,Act.eval];rw[z_,v_ h];rfl
theorem yR{x:Operand}(h:∀j s,L j=true->oA ops j=some s->x≠ .tmp s):∀k,(jM ops vals L a k).eval x=a.eval x
 |0=>rfl
 |k+1=>by
  simp only[jM]
  by_cases hk:L k=true
  ·rw[if_pos hk,FO (λ s=>h k s hk),yR h k]
  ·rw[if_neg hk];exact yR h k
theorem yS{j:Nat}{s:Tmp}(b:oA ops j=some s)(hs:s<a.tmps.size)(c:L j=true)(d:∀i,i≠j->oA ops i≠some s):∀k,j<k->(jM ops vals L a k).eval (.tmp s)=vals j
 |0,h=>by omega
 |k+1,h=>by
  by_cases e:k=j
  ·subst e;simp only[jM];rw[if_pos c,b,Kn (by rw[Dk];exact hs)]
  ·simp only[jM];split
   ·rw[FO (λ t g f=>d k e (by rw[g];injection f with f;rw[f]))];exact yS b hs c d k (by omega)
   ·exact yS b hs c d k (by omega)
end
def bQ(P:Program)(post:Value->World->Prop):Result Next->Prop
 | .ok (.value v) w'=>post v w'
 | .ok .skip w'=>post undef w'
 | .ok (.enter f args) w'=>Calls P f args w' λ e b=>∃v,e=.returned v/\post v b
 |_=>False
def bh(P:Program)(b:Operand->Value)(o:Oper)(w:World)(post:Value->World->Prop):Prop:=bQ P post ((execOp b o).run P w)
theorem bh.wp{P:Program}{o:Oper}{a:Act}{w:World}{post:Value->World->Prop}{K:Act->World->Prop}{Q:Exit->Act->World->Prop}(h:bh P a.eval o w post)(hk:∀v w',post v w'->K (a.put o.dst v) w'):o.wp P a w K Q:=by
 unfold bh at h;unfold Oper.wp;generalize (execOp a.eval o).run P w=r at*
 cases r with
 |ok n w'=>
  cases n<;>simp only[bQ] at h<;>simp only[Oper.upon]
  case value u=>exact hk _ _ h
  case skip=>exact hk _ _ h
  case enter f args=>
   refine h.mono λ e b ⟨v,he,hp⟩=>?_
   subst he;exact hk _ _ hp
 |halt x w'=>simp only[bQ] at h
def rN(ops:Array Oper):Bool:=(p_ ops.size).all λ i=>(p_ ops.size).all λ j=>j==i||match oA ops i with
 |some s=>oA ops j !=some s
 |none=>true
def pT(ops:Array Oper):Bool:=ops.all λ o=>o.guard.isNone
theorem w5(h:rN ops=true){i j:Nat}(e:j≠i){s:Tmp}(c:oA ops i=some s):oA ops j≠some s:=by
 intro d;have f:i<ops.size:=by
  cases b:ops[i]? with
  |none=>unfold oA at c;rw[b] at c;cases c
  |some o=>exact(Zr.1 b).1
 have g:j<ops.size:=by
  cases b:ops[j]? with
  |none=>unfold oA at d;rw[b] at d;cases d
  |some o=>exact(Zr.1 b).1
 unfold rN at h;simp only[Zx,u_] at h;have h1:=h i f j g;rw[c] at h1;simp only[Bool.or_eq_true,beq_iff_eq,e,false_or,bne_iff_ne,ne_eq] at h1;exact h1 d
def gQ(listed:Array Bool):Nat->Bool:=λ j=>listed.getD j false
theorem oP(h:i<listed.size):gQ (listed.setIfInBounds i true)=lR (gQ listed) i:=by
 funext j;unfold gQ lR
 by_cases e:j=i
 ·subst e;rw[if_pos rfl,z_,v_ h];rfl
 ·rw[if_neg e];show(listed.setIfInBounds i true).getD j false=listed.getD j false;rw[z_,z_,o_ (λ x=>e x.symm)]
def uy(G:Nat->Value->World->Prop)(dead:Nat->Option Nat)(L:Nat->Bool)(vals:Nat->Value)(w:World):Prop:=
 ∀j,L j=true->(∀c,dead j=some c->L c=false)->G j (vals j) w
def p9(ds:List (Option Tmp))(j:Nat):Option Tmp:=ds.getD j none
def q7(ds:List (Option Tmp))(G:Nat->Value->World->Prop)(dead:Nat->Option Nat)(i:Nat)(vals:Nat->Value)(w:World)(b:Operand->Value):List Edge->Prop
 |[]=>True
 |e::r=>(n_ .any e=true->((dead e.on=none\/dead e.on=some i)->G e.on (vals e.on) w)/\∀s,p9 ds e.on=some s->b (.tmp s)=vals e.on)/\q7 ds G dead i vals w b r
def q8(ws:List (List Nat))(j i:Nat):Bool:=(ws.getD j []).contains i
def mV(b:Operand->Value):List (Tmp×Value)->Prop
 |[]=>True
 |p::r=>b (.tmp p.1)=p.2/\mV b r
def uz(ds:List (Option Tmp))(ws:List (List Nat))(i:Nat)(s:Tmp):Bool:=(p_ ds.length).all λ j=>p9 ds j !=some s||q8 ws j i
def oB(ds:List (Option Tmp))(ws:List (List Nat))(i:Nat)(b:Operand->Value):List (Tmp×Value)->Prop
 |[]=>True
 |p::r=>(uz ds ws i p.1=true->b (.tmp p.1)=p.2)/\oB ds ws i b r
theorem oB.of{qa FP:Operand->Value}{ds:List (Option Tmp)}{ws:List (List Nat)}{i:Nat}(he:∀s,uz ds ws i s=true->FP (.tmp s)=qa (.tmp s)):∀{l:List (Tmp×Value)},mV qa l->oB ds ws i FP l
 |[],_=>trivial
 |p::r,h=>⟨λ b=>(he _ b).trans h.1,oB.of he h.2⟩
theorem Bu{ds:List (Option Tmp)}{s:Tmp}(h:uz ds ws i s=true){j:Nat}(b:p9 ds j=some s):q8 ws j i=true:=by
 have c:j<ds.length:=by
  rcases s_ j ds.length with h1|h1
  ·exact h1
  ·unfold p9 at b;rw[w_,List.getElem?_eq_none h1] at b;cases b
 unfold uz at h;rw[Zx] at h;have:=h j (u_.2 c);rw[b] at this;simpa using this
def oC(b:Operand->Value):Prop:=(∀v,b (.const v)=v)/\(∀g,b (.global g)=.pointer (some ⟨g,0,none⟩))/\∀f,b (.func f)=.func (.func f) #[] #[]
theorem oC.act(a:Act):oC a.eval:=⟨λ _=>rfl,λ _=>rfl,λ _=>rfl⟩
def nT(ws:List (List Nat)):Nat->Nat->Nat->Bool
 |0,j,i=>q8 ws j i
 |n+1,j,i=>q8 ws j i||(ws.getD j []).any λ k=>nT ws n k i
def zZ(ws:List (List Nat))(iA:World->Prop)(G:Nat->Value->World->Prop)(dead:Nat->Option Nat)(i:Nat)(w:World)(v:Value)(w':World):Prop:=
 iA w'/\G i v w'/\∀j u,j≠i->dead j≠some i->nT ws 8 j i=false->(∀c,dead j=some c->nT ws 8 i c=false)->G j u w->G j u w'
theorem zZ.same(b:iA w)(h:G i v w):zZ ws iA G dead i w v w:=⟨b,h,λ _ _ _ _ _ _ h=>h⟩
theorem zZ.more{w':World}(hm:∀j u w w',Below w.heap.size w w'->G j u w->G j u w')(b:Below w.heap.size w w')(c:iA w')(h:G i v w'):zZ ws iA G dead i w v w':=⟨c,h,λ j u _ _ _ _ h=>hm j u w w' b h⟩
def z1(P:Program)(ds:List (Option Tmp))(ws:List (List Nat))(old:List (Tmp×Value))(iA:World->Prop)(G:Nat->Value->World->Prop)(dead:Nat->Option Nat)(i:Nat)(o:Oper):Prop:=
 ∀(vals:Nat->Value)(w:World)(b:Operand->Value),iA w->q7 ds G dead i vals w b o.after.toList->oB ds ws i b old->oC b->
  bh P b o w (zZ ws iA G dead i w)
def w6(P:Program)(ds:List (Option Tmp))(ws:List (List Nat))(old:List (Tmp×Value))(iA:World->Prop)(G:Nat->Value->World->Prop)(dead:Nat->Option Nat):Nat->List Oper->Prop
 |_,[]=>True
 |k,o::r=>z1 P ds ws old iA G dead k o/\w6 P ds ws old iA G dead (k+1) r
theorem w6.at{P:Program}{ds:List (Option Tmp)}{ws:List (List Nat)}{old:List (Tmp×Value)}{iA:World->Prop}{G:Nat->Value->World->Prop}{dead:Nat->Option Nat}:∀{l:List Oper}{k i:Nat}{o:Oper},w6 P ds ws old iA G dead k l->l[i]? =some o->z1 P ds ws old iA G dead (k+i) o
 |[],k,i,o,_,h=>by simp at h
 |x::l,k,0,o,hs,h=>by
  simp only[List.getElem?_cons_zero,Option.some.injEq] at h;subst h;exact hs.1
 |x::l,k,i+1,o,hs,h=>by
  rw[List.getElem?_cons_succ] at h;have:=w6.at hs.2 h
  rwa[show k+1+i=k+(i+1) by omega] at this
theorem q7.of{ds:List (Option Tmp)}{G:Nat->Value->World->Prop}{dead:Nat->Option Nat}{i:Nat}{vals:Nat->Value}{w:World}{aq:Operand->Value}:∀{l:List Edge},(∀e∈l,n_ .any e=true->((dead e.on=none\/dead e.on=some i)->G e.on (vals e.on) w)/\∀s,p9 ds e.on=some s->aq (.tmp s)=vals e.on)->q7 ds G dead i vals w aq l
 |[],_=>trivial
 |e::r,h=>⟨h e (by simp),q7.of λ b he=>h b (by simp[he])⟩
def rO(ops:Array Oper)(n:Nat):Bool:=ops.all λ o=>match o.dst with|some s=>decide (s<n)|none=>true
theorem Bv(h:rO ops n=true){j:Nat}{s:Tmp}(hs:oA ops j=some s):s<n:=by
 unfold oA at hs
 cases b:ops[j]? with
 |none=>rw[b] at hs;cases hs
 |some o=>
  rw[b] at hs;have hs':o.dst=some s:=hs;unfold rO at h;rw[x_] at h;have:=h o (Zw b);simp only[hs',decide_eq_true_eq] at this;exact this
theorem uA{md:Region.Mode}(h:i∈j_ md ops listed):i<ops.size/\listed.getD i true=false/\∃o,ops[i]? =some o/\∀e∈o.after,n_ md e=true->listed.getD e.on false=true:=by
 unfold j_ at h;obtain⟨h1,c⟩:=r_.1 h;have d:=u_.1 h1;simp only[m_,Bool.not_eq_true'] at c;refine⟨d,c.1,ops[i],y_ d,λ e he g=>?_⟩;have b:=c.2;rw[y_ d] at b;simp only[Zm,Zp] at b;rw[x_] at b;have f:=b e he;rw[g] at f;simpa using f
section
variable {ops:Array Oper}
def oD(ops:Array Oper)(listed:Array Bool):Nat:=((p_ ops.size).filter λ i=> !listed.getD i true).length
theorem Bw{listed:Array Bool}{i:Nat}(b:i<ops.size)(h:listed.getD i true=false):oD ops (listed.setIfInBounds i true)<oD ops listed:=by
 unfold oD;have c:i<listed.size:=by
  rcases s_ i listed.size with h1|h1
  ·exact h1
  ·rw[z_,Zk h1] at h;cases h
 have e:((p_ ops.size).filter λ j=> !(listed.setIfInBounds i true).getD j true)=((p_ ops.size).filter λ j=> !listed.getD j true).filter λ j=>j !=i:=by
  rw[List.filter_filter];refine List.filter_congr λ j _=>?_
  by_cases e:j=i
  ·subst e;rw[z_,v_ c];simp
  ·rw[z_,o_ (λ x=>e x.symm),z_];simp[e]
 rw[e];have hm:i∈(p_ ops.size).filter λ j=> !listed.getD j true:=r_.2 ⟨u_.2 b,by rw[h];rfl⟩
 generalize ((p_ ops.size).filter λ j=> !listed.getD j true)=l at*;clear e;rcases s_ (l.filter λ j=>j !=i).length l.length with h1|h1
 ·exact h1
 ·have d:=Zu.1 (List.length_filter_eq_length_iff.1 (Nat.le_antisymm (Zi _ _) h1)|>λ h=>Zu.2 h);have:=d i hm;simp at this
end
def tN(ops:Array Oper):Bool:=(p_ ops.size).all λ i=>match ops[i]? with
 |some o=>o.after.all λ e=> !Region.binds .any e||decide (e.on<i)
 |none=>true
theorem Bx(h:tN ops=true){listed:Array Bool}(m:listed.size=ops.size)(f:j_ .any ops listed=[]):oD ops listed=0:=by
 have key:∀i,i<ops.size->listed.getD i true=true:=by
  intro i
  induction i using Zn with
  |_ i g=>
   intro b
   cases hl:listed.getD i true with
   |true=>rfl
   |false=>
    exfalso;have:i∈j_ .any ops listed:=by
     unfold j_;refine r_.2 ⟨u_.2 b,?_⟩;rw[hl,y_ b];simp only[Bool.not_false,Bool.true_and,Zm,Zp];rw[x_];intro e he
     cases j:n_ .any e with
     |false=>rfl
     |true=>
      unfold tN at h;simp only[Zx,u_] at h;have h1:=h i b;rw[y_ b] at h1;simp only[] at h1;rw[x_] at h1;have c:=h1 e he;rw[j] at c;have k:e.on<i:=by simpa using c
      have d:=g e.on k (by omega);have l:e.on<listed.size:=by omega
      rw[z_,y_ l] at d⊢;simpa using d
    rw[f] at this;cases this
 unfold oD;rw[Zo,List.filter_eq_nil_iff];intro i b;rw[key i (u_.1 b)];simp
theorem w8(l:List Oper)(j:Nat):oA l.toArray j=p9 (l.map λ o:Oper=>o.dst) j:=by
 unfold oA p9;rw[f_,w_,Zz]
 cases l[j]? <;>rfl
def mJ:List (Option Tmp)->Nat->(Nat->Value)->Act->Act
 |[],_,_,a=>a
 |d::r,k,vals,a=>mJ r (k+1) vals (a.put d (vals k))
theorem FQ:∀(l:List (Option Tmp))(d:Option Tmp)(k:Nat)(vals:Nat->Value)(a:Act),mJ (l++[d]) k vals a=(mJ l k vals a).put d (vals (k+l.length))
 |[],d,k,vals,a=>rfl
 |e::l,d,k,vals,a=>by
  rw[List.cons_append,mJ,FQ l d,mJ,List.length_cons]
  congr 2
  omega
def mD(n:Nat):Nat->Bool:=λ j=>decide (j<n)
theorem z6(l:List Oper)(vals:Nat->Value)(a:Act)(n:Nat):∀k,k<=n->k<=l.length->jM l.toArray vals (mD n) a k=mJ ((l.map λ o:Oper=>o.dst).take k) 0 vals a
 |0,_,_=>rfl
 |k+1,hk,hl=>by
  have e:(l.map λ o:Oper=>o.dst).take (k+1)=(l.map λ o:Oper=>o.dst).take k++[oA l.toArray k]:=by
   rw[List.take_add_one]
   congr 1
   rw[Zz,k_ (by omega)];unfold oA;rw[f_,k_ (by omega)];rfl
  rw[e,FQ];simp only[jM];have b:mD n k=true:=by unfold mD;simp;omega
  rw[if_pos b,z6 l vals a n k (by omega) (by omega),e_,List.length_map]
  congr 2
  omega
def vX(l:List Oper)(n:Nat):Bool:=match l[n]? with
 |some o=>(p_ n).all λ j=>o.after.any λ e=>n_ .any e&&e.on==j
 |none=>false
section
variable {P:Program}{l:List Oper}{Q:Exit->Act->World->Prop}{a:Act}{old:List (Tmp×Value)}{iA:World->Prop}{G:Nat->Value->World->Prop}{dead:Nat->Option Nat}
theorem z7{ops:Array Oper}{vals:Nat->Value}{L Dl:Nat->Bool}{a:Act}:∀k,(∀j,j<k->L j=Dl j)->jM ops vals L a k=jM ops vals Dl a k
 |0,_=>rfl
 |k+1,h=>by
  simp only[jM];rw[z7 k (λ j b=>h j (by omega)),h k (by omega)]
theorem w9{ops:Array Oper}{listed:Array Bool}(e:listed.size=ops.size)(b:oD ops listed=0):∀j,j<ops.size->gQ listed j=true:=λ j c=>by
 cases hl:gQ listed j with
 |true=>rfl
 |false=>
  have h1:j∈(p_ ops.size).filter λ i=> !listed.getD i true:=by
   refine r_.2 ⟨u_.2 c,?_⟩;unfold gQ at hl;have d:j<listed.size:=by omega
   rw[z_,y_ d] at hl⊢;simpa using hl
  unfold oD at b;rw[Zo] at b;rw[b] at h1;cases h1
theorem x5{ws:List (List Nat)}(c:ws=l.map λ o:Oper=>(o.after.toList.filter (n_ .any)).map (·.on)){j i:Nat}(h:q8 ws j i=true):∃o,l.toArray[j]? =some o/\∃e∈o.after,n_ .any e=true/\e.on=i:=by
 unfold q8 at h;rw[c,w_,Zz] at h
 cases b:l[j]? with
 |none=>rw[b] at h;simp at h
 |some o=>
  rw[b] at h;simp only[Zm,Zp,List.contains_eq_mem,decide_eq_true_eq] at h;obtain⟨e,he,d⟩:=Zd.1 h;obtain⟨f,g⟩:=r_.1 he;exact⟨o,by rw[f_];exact b,e,Zh.1 f,g,d⟩
def q9(ws:List (List Nat))(L:Nat->Bool):Prop:=∀j i,L j=true->q8 ws j i=true->L i=true
theorem q9.reach{ws:List (List Nat)}{L:Nat->Bool}(h:q9 ws L):∀(n j i:Nat),L j=true->nT ws n j i=true->L i=true
 |0,j,i,c,b=>h j i c b
 |n+1,j,i,c,b=>by
  unfold nT at b;rw[Bool.or_eq_true] at b;rcases b with b|b
  ·exact h j i c b
  ·obtain⟨k,hk,d⟩:=List.any_eq_true.1 b;exact h.reach n k i (h j k c (by unfold q8;simpa using hk)) d
theorem Ko{ds:List (Option Tmp)}{ws:List (List Nat)}(O:ws=l.map λ o:Oper=>(o.after.toList.filter (n_ .any)).map (·.on))(A:ds=l.map λ o:Oper=>o.dst)(B:rN l.toArray=true)(t:pT l.toArray=true)(R:rO l.toArray a.tmps.size=true)
  (hold:mV a.eval old)
  {i:Nat} {o:Oper} (m:l.toArray[i]? =some o) (C:z1 P ds ws old iA G dead i o) {listed:Array Bool} {vals:Nat->Value} {w:World} {K:Act->World->Prop} (ak:listed.size=l.toArray.size) (S:iA w) (hF:uy G dead (gQ listed) vals w)
  (T:i∈j_ .any l.toArray listed) (hC:q9 ws (gQ listed))
  (U:∀v w',iA w'->q9 ws (gQ (listed.setIfInBounds i true))->uy G dead (gQ (listed.setIfInBounds i true)) (kH vals i v) w'->K (jM l.toArray (kH vals i v) (gQ (listed.setIfInBounds i true)) a l.toArray.size) w'):
  wpOp P l.toArray Q i K (jM l.toArray vals (gQ listed) a l.toArray.size) w:=by
 obtain⟨h1,D,V,E,F⟩:=uA T;obtain rfl:o=V:=by rw[m] at E;injection E
 have f:i<listed.size:=by omega
 have p:gQ listed i=false:=by
  unfold gQ;rw[z_,y_ f] at D⊢;simpa using D
 unfold wpOp;simp only[m];have W:o.guard=none:=by
  unfold pT at t;rw[x_] at t;have:=t o (Zw m);simpa using this
 have hw:Zq o (yielded l.toArray (jM l.toArray vals (gQ listed) a l.toArray.size).tmps)=true:=by unfold Zq;rw[W]
 rw[if_pos hw];left;unfold z1 at C;have X:=C vals w (jM l.toArray vals (gQ listed) a l.toArray.size).eval S (q7.of λ e he u=>by
  have hl:=F e (Zh.1 he) u;have Y:e.on<l.toArray.size:=by
   rcases s_ e.on listed.size with h|h
   ·omega
   ·rw[z_,Zk h] at hl;cases hl
  refine⟨λ n=>hF e.on hl λ c d=>?_,λ s hs=>?_⟩
  ·rcases n with n|n
   ·rw[n] at d;cases d
   ·rw[n] at d;injection d with d
    rw[<-d];exact p
  ·rw[A,<-w8] at hs;exact yS hs (Bv R hs) hl (λ k hk=>w5 B hk hs) _ Y) (oB.of (λ s hs=>yR (λ j s' hl b y=>by
   injection y with y
   subst y;rw[w8,<-A] at b;have:=hC j i hl (Bu hs b);rw[p] at this;cases this) _) hold) (oC.act _)
 refine X.wp λ v w' ⟨Z,aa,ab⟩=>?_
 have ad:(jM l.toArray vals (gQ listed) a l.toArray.size).put o.dst v=jM l.toArray (kH vals i v) (gQ (listed.setIfInBounds i true)) a l.toArray.size:=by
  rw[oP f];have ae:oA l.toArray i=o.dst:=by unfold oA;rw[m];rfl
  have:=zY (ops:=l.toArray) (vals:=vals) (L:=gQ listed) (a:=a) (i:=i) (v:=v) (λ j b s hs=>w5 B b hs) p l.toArray.size h1;rw[ae] at this;exact this
 rw[ad];have H:q9 ws (gQ (listed.setIfInBounds i true)):=by
  rw[oP f];intro j k b I;unfold lR at b⊢
  by_cases e:k=i
  ·rw[if_pos e]
  ·rw[if_neg e]
   by_cases g:j=i
   ·subst g;obtain⟨al,q,af,ag,u,ah⟩:=x5 O I;rw[m] at q;injection q with q
    subst q;have:=F af ag u;rw[ah] at this;exact this
   ·rw[if_neg g] at b;exact hC j k b I
 refine U v w' Z H λ j b r=>?_
 rw[oP f] at b r
 by_cases e:j=i
 ·subst e;have g:kH vals j v j=v:=by unfold kH;rw[if_pos rfl]
  rw[g];exact aa
 ·have g:kH vals i v j=vals j:=by unfold kH;rw[if_neg e]
  have ai:lR (gQ listed) i j=gQ listed j:=by unfold lR;rw[if_neg e]
  rw[g];rw[ai] at b;refine ab j _ e (λ aj=>?_) ?_ (λ c d=>?_) (hF j b λ c d=>?_)
  ·have:=r i aj;unfold lR at this;rw[if_pos rfl] at this;cases this
  ·cases z:nT ws 8 j i with
   |false=>rfl
   |true=>
    have:=hC.reach 8 j i b z;rw[p] at this;cases this
  ·cases z:nT ws 8 i c with
   |false=>rfl
   |true=>
    have J:=r c d;have M:=H.reach 8 i c (by rw[oP f];unfold lR;rw[if_pos rfl]) z;rw[oP f] at M;rw[M] at J;cases J
  ·have:=r c d;unfold lR at this
   by_cases N:c=i
   ·rw[if_pos N] at this;cases this
   ·rw[if_neg N] at this;exact this
theorem Kq{ds:List (Option Tmp)}{ws:List (List Nat)}(H:ws=l.map λ o:Oper=>(o.after.toList.filter (n_ .any)).map (·.on))(I:ds=l.map λ o:Oper=>o.dst)(n:Nat)(hlen:l.length=n+1)(J:rN l.toArray=true)(q:pT l.toArray=true)(K:rO l.toArray a.tmps.size=true)(L:tN l.toArray=true)(s:vX l n=true)(hold:mV a.eval old)
  (M:w6 P ds ws old iA G dead 0 (l.take n))
  (N:∀o vals w,l[n]? =some o->iA w->(∀j,j<n->dead j=none->G j (vals j) w)->bh P (jM l.toArray vals (mD n) a n).eval o w λ v w'=>Q .normal ((jM l.toArray vals (mD n) a n).put o.dst v) w'):
  ∀(fuel:Nat)(listed:Array Bool)(vals:Nat->Value)(w:World),listed.size=l.toArray.size->oD l.toArray listed<=fuel->0<oD l.toArray listed->gQ listed n=false->q9 ws (gQ listed)->iA w->uy G dead (gQ listed) vals w->
   wpAny P .any l.toArray Q fuel listed (jM l.toArray vals (gQ listed) a l.toArray.size) w:=by
 intro fuel
 induction fuel with
 |zero=>intro listed vals w m O R;omega
 |succ fuel S=>
  intro listed vals w m O R z hC A hF;refine⟨λ h=>by have:=Bx L m h;omega,λ i B=>?_⟩;obtain⟨h1,T,o,p,U⟩:=uA B;have C:i<listed.size:=by omega
  have ah:i<l.length:=by simpa using h1
  have t:l[i]? =some o:=by rw[f_] at p;exact p
  by_cases D:i=n
  ·subst D;have u:∀j,j<i->gQ listed j=true:=λ j d=>by
    unfold vX at s;rw[t] at s;simp only[Zx,u_] at s;have b:=s j d;rw[Array.any_eq_true'] at b;obtain⟨e,he,y⟩:=b;simp only[m_,beq_iff_eq] at y;have:=U e he y.1;rw[y.2] at this;exact this
   have V:jM l.toArray vals (gQ listed) a l.toArray.size=jM l.toArray vals (mD i) a i:=by
    have W:l.toArray.size=i+1:=by simp[hlen]
    rw[W];simp only[jM];rw[z];simp only[Bool.false_eq_true,if_false];exact z7 i λ j d=>by rw[u j d];unfold mD;simp[d]
   rw[V];unfold wpOp;simp only[p];have X:o.guard=none:=by
    unfold pT at q;rw[x_] at q;have:=q o (Zw p);simpa using this
   have hw:Zq o (yielded l.toArray (jM l.toArray vals (mD i) a i).tmps)=true:=by unfold Zq;rw[X]
   rw[if_pos hw];left;refine(N o vals w t A λ j d Y=>hF j (u j d) λ c E=>by rw[Y] at E;cases E).wp λ v w' Z=>?_
   refine wpAny_done ?_ Z _;rcases aa:j_ .any l.toArray (listed.setIfInBounds i true) with _|⟨k,r⟩
   ·rfl
   ·have hk:k∈j_ .any l.toArray (listed.setIfInBounds i true):=by rw[aa];simp
    obtain⟨b,f,_⟩:=uA hk;exfalso;have ai:k<i+1:=by simpa[hlen] using b
    by_cases e:k=i
    ·subst e;rw[z_,v_ C] at f
     cases f
    ·have g:=u k (by omega);rw[z_,o_ (λ x=>e x.symm)] at f;unfold gQ at g;rw[z_] at g;have ab:k<listed.size:=by omega
     rw[y_ ab] at f g;simp at f g;rw[f] at g;cases g
  ·have ad:z1 P ds ws old iA G dead i o:=by
    have b:(l.take n)[i]? =some o:=by rw[List.getElem?_take,if_pos (by omega)];exact t
    have:=w6.at M b
    rwa[Zf] at this
   refine Ko H I J q K hold p ad m A hF B hC λ v w' ae af ag=>?_
   have F:gQ (listed.setIfInBounds i true) n=false:=by
    rw[oP C];unfold lR;rw[if_neg (λ e=>D e.symm)];exact z
   refine S _ _ w' (by simp[m]) (by have:=Bw (ops:=l.toArray) h1 T;omega) ?_ F af ae ag;rcases Zs (oD l.toArray (listed.setIfInBounds i true)) with b|b
   ·have:=w9 (ops:=l.toArray) (listed:=listed.setIfInBounds i true) (by simp[m]) b n (by simp[hlen]);rw[F] at this;cases this
   ·exact b
end
def vY:Code->Nat->Option (List Oper)
 | .region id ops _,k=>if id=k then some ops.toList else none
 | .seq x y,k=>(vY x k).or (vY y k)
 | .cond _ x y,k=>(vY x k).or (vY y k)
 | .block _ x,k=>vY x k
 | .loop x,k=>vY x k
 | .rangeFunc _ _ x y,k=>(vY x k).or (vY y k)
 |_,_=>none
def qb(f:Func)(k:Nat):List Oper:=(f.body.bind λ c=>vY c k).getD []
theorem Kr{P:Program}{id:Nat}{Q:Exit->Act->World->Prop}(l:List Oper)(n N:Nat)(ds:List (Option Tmp))(ws:List (List Nat))(old:List (Tmp×Value))(iA:World->Prop)(G:Nat->Value->World->Prop)(dead:Nat->Option Nat)
  (q:ops=l.toArray) (hm:P.follows .mixedOrders=true)
  (m:ds=l.map λ o:Oper=>o.dst) (r:ws=l.map λ o:Oper=>(o.after.toList.filter (n_ .any)).map (·.on)) (hlen:l.length=n+1) (s:rN l.toArray=true) (t:pT l.toArray=true) (u:tN l.toArray=true) (y:vX l n=true) (z:rO l.toArray N=true)
  (A:a.tmps.size=N) (hold:mV a.eval old) (B:iA w.drew)
  (C:w6 P ds ws old iA G dead 0 (l.take n))
  (ol:Oper) (D:l[n]? =some ol) (E:∀vals w,iA w->(∀j,j<n->dead j=none->G j (vals j) w)->∀f,mJ (ds.take n) 0 vals a=f->bh P f.eval ol w λ v w'=>Q .normal (f.put ol.dst v) w'):(Code.region id ops true).wp P Q a w:=by
 subst q;subst A;refine wp_region_any hm ?_;have F:∀o vals w,l[n]? =some o->iA w->(∀j,j<n->dead j=none->G j (vals j) w)->bh P (jM l.toArray vals (mD n) a n).eval o w λ v w'=>Q .normal ((jM l.toArray vals (mD n) a n).put o.dst v) w':=by
  intro o vals w d H I;rw[D] at d;injection d with d
  subst d;rw[z6 l vals a n n (Zt _) (by omega),<-m];exact E vals w H I _ rfl
 have b:∀k,gQ (i_ l.toArray.size false) k=false:=λ k=>by
  unfold gQ;rw[z_,Array.getElem?_replicate];split<;>rfl
 have e:a=jM l.toArray (λ _=>undef) (gQ (i_ l.toArray.size false)) a l.toArray.size:=by
  have:∀k,jM l.toArray (λ _=>undef) (gQ (i_ l.toArray.size false)) a k=a:=by
   intro k
   induction k with
   |zero=>rfl
   |succ k J=>
    simp only[jM];rw[b k,J];simp
  exact(this _).symm
 have p:=Kq (P:=P) (Q:=Q) (a:=a) (iA:=iA) (G:=G) (dead:=dead) r m n hlen s t z u y hold C F l.toArray.size (i_ l.toArray.size false) (λ _=>undef) w.drew (by simp)
  (by unfold oD;exact Nat.le_trans (Zi _ _) (by simp)) ?_ (b n) (λ j i c=>by rw[b j] at c;cases c) B (λ j c=>by rw[b j] at c;cases c)
 ·rw[<-e] at p;exact p
 ·rcases Zs (oD l.toArray (i_ l.toArray.size false)) with g|g
  ·have:=w9 (ops:=l.toArray) (listed:=i_ l.toArray.size false) (by simp) g n (by simp[hlen]);rw[b n] at this;cases this
  ·exact g
end
section
open Go.RowKit Go.Shelf
section
variable {base:Nat}{w w':World}{G:Nat}{hs:Nat->ay}{cb:Nat->Nat}{gr:List Value}{cls:Nat->List Value}{n:Nat}{X:Nat->List Value}
theorem kA.xb(h:kA base w G hs cb gr cls n X){r m:Nat}(d:(hs r).n=m)(e:m≠0):∃g,(hs r).A=some ⟨g,0,none⟩/\(hs r).b=some g/\(hs r).v=.slice (some ⟨g,0,none⟩) m (hs r).c:=by
 obtain⟨g,h1,f⟩:=h.rows.addr (r:=r) (by rw[d];exact e);exact⟨g,h1,f,by unfold ay.v;rw[h1,d]⟩
theorem kA.get(h:kA base w G hs cb gr cls n X){r g:Nat}(d:(hs r).b=some g){k:Nat}{v:Value}(c:(X r)[k]? =some v):w.cell? ⟨g,k,none⟩=some v:=by
 have hl:=h.rows.len r;have hk:k<(X r).length:=(List.getElem?_eq_some_iff.1 c).1;rw[h.rows.cell d (by omega)];exact c
theorem kA.kP(h:kA base w G hs cb gr cls n X){k:Nat}{v:Value}(b:gr[k]? =some v):w.cell? ⟨G,k,none⟩=some v:=by rw[h.box.cell];exact b
end
theorem By{k:IntKind}{x y:Int}(h:x=y):Ending.returned (.int k x)=.returned (.int k y):=by rw[h]
theorem s7(l:Int)(w:World)(b: -1000000<=l)(h1:l<=1000000):Calls Tryz.prog 97 #[.int .i64 l] w λ e w'=>e=.returned (.int .i64 (aD l))/\w=w':=by
 have c:wrap64 (-l)= -l:=by unfold wrap64;omega
 rcases Ze l (-l) with h|h
 ·have e:bF (-l=(aD l:Int)):=U (by unfold aD;omega);go_enter Tryz.func97,Tryz.ntmps97
  go_wp2
  all_goals
   go_ret;exact⟨By e.o,rfl⟩
 ·have e:bF (l=(aD l:Int)):=U (by unfold aD;omega);go_enter Tryz.func97,Tryz.ntmps97
  go_wp2
  all_goals
   go_ret;exact⟨By e.o,rfl⟩
theorem Dm(l:Int)(w:World)(d: -1000000<=l)(h1:l<=1000000):Calls Tryz.prog 181 #[.int .i64 l] w λ e w'=>e=.returned (.int .i64 (jR l))/\w=w':=by
 by_cases hl:l<0
 ·have b:wrap64 (-2*l)= -2*l:=by unfold wrap64;omega
  have f:wrap64 (-2*l+1)= -2*l+1:=by unfold wrap64;omega
  have c: -2*l+1=(jR l:Int):=by unfold jR;rw[if_pos hl];omega
  go_enter Tryz.func181,Tryz.ntmps181
  go_wp2;go_ret;exact⟨rfl,rfl⟩
 ·have b:wrap64 (2*l)=2*l:=by unfold wrap64;omega
  have c:2*l=(jR l:Int):=by unfold jR;rw[if_neg hl];omega
  go_enter Tryz.func181,Tryz.ntmps181
  go_wp2;go_ret;exact⟨rfl,rfl⟩
theorem Ks{base:Nat}{G:Nat}{hs:Nat->ay}{cb:Nat->Nat}{s:au}(h:jm base w G hs cb s)(l:Int)(f:aD l<s.c.val.length)(i:∀v,ak s.c.val v=0\/ak s.c.val v=1\/ak s.c.val v= -1)(hl:aD l<=65536):
  Calls Tryz.prog 152 #[.pointer (some ⟨G,0,none⟩),.int .i64 l] w λ e w'=>e=.returned (.int .i8 (ki s.c l))/\w=w':=by
 obtain⟨n,j⟩:∃n,(hs 1).n=n:=⟨_,rfl⟩
 have hlen:=h.rows.len 1;have q:s.c.val.length=n:=by
  have:(cont hs cb s 1).length=s.c.val.length:=by simp[cont,s4]
  rw[this] at hlen;have:nL 1=1:=rfl;rw[this] at hlen;omega
 obtain⟨g,-,y,k⟩:=h.xb (r:=1) j (by omega);have B:w.cell? ⟨G,2,none⟩=some (.slice (some ⟨g,0,none⟩) n (hs 1).c):=h.kP (by rw[<-k];rfl);obtain⟨x,b⟩:∃x,ak s.c.val (aD l)=x:=⟨_,rfl⟩
 have z:w.cell? ⟨g,aD l,none⟩=some (.int .i8 x):=h.get y (by
  show(s4 s.c.val)[aD l]? =_;unfold s4;rw[Zz,k_ f];rw[nu f] at b;rw[b];rfl)
 have t:=i (aD l);rw[b] at t;have A:aD l<n:=by omega
 obtain⟨m,hm⟩:∃m:Nat,aD l=m:=⟨_,rfl⟩
 rw[hm] at z A hl;have C:(m:Int)<(n:Int):=by omega
 by_cases u:l<0
 ·have d:ki s.c l= -x:=by unfold ki;rw[if_pos u,b]
  have D:wrap64 (-l)=(m:Int):=by unfold wrap64;unfold aD at hm;omega
  obtain rfl:l= -(m:Int):=by unfold aD at hm;omega
  have p:=U d;have E:=U hm;clear h i f j hlen q k b d hm;have F:IntKind.i8.wrap (-x)= -x:=by rcases t with rfl|rfl|rfl<;>rfl
  go_enter Tryz.func152,Tryz.ntmps152
  go_wp2;go_ret;exact⟨By p.o.symm,rfl⟩
 ·have d:ki s.c l=x:=by unfold ki;rw[if_neg u,b]
  obtain rfl:l=(m:Int):=by unfold aD at hm;omega
  have p:=U d;clear h i f j hlen q k b d hm;go_enter Tryz.func152,Tryz.ntmps152
  go_wp2;go_ret;exact⟨By p.o.symm,rfl⟩
end
end Go.Proofs.YtogdlkfacflmaaaGreat
