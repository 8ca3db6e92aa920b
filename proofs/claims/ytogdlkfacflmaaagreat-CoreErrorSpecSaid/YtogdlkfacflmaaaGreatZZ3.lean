/- Parts of the walk of the solver and its core; no condition. -/
import Derived.Test.YtogdlkfacflmaaaGreatZZ2
import Derived.Orders
import Derived.Below
import Derived.Test.YtogdlkfacflmaaaGreatZZ1
namespace Go.Proofs.YtogdlkfacflmaaaGreat
set_option linter.unusedVariables false
set_option linter.unusedSimpArgs false
open _root_.Array renaming getD_eq_getD_getElem?→z_,getElem?_eq_getElem→y_,all_eq_true_iff_forall_mem→x_,getElem?_setIfInBounds_self_of_lt→v_,getElem?_setIfInBounds_ne→o_,replicate→i_,mem_of_getElem?→Zw,getElem?_eq_some_iff→Zr,getElem?_eq_none→Zk,mem_toList_iff→Zh
open _root_.List renaming getD_eq_getElem?_getD→w_,mem_range→u_,mem_filter→r_,mem_cons→q_,range→p_,getElem?_eq_getElem→k_,take_append_of_le_length→h_,length_singleton→g_,getElem?_toArray→f_,length_take→e_,take_length→d_,length_append→c_,mem_singleton→b_,getElem?_map→Zz,all_eq_true→Zx,length_pos_iff→Zv,filter_eq_self→Zu,length_eq_zero_iff→Zo,replicate→Zj,length_filter_le→Zi,mem_map→Zd
open _root_.Or renaming inr→t_,inl→l_
open _root_.Nat renaming lt_or_ge→s_,le_refl→Zt,eq_zero_or_pos→Zs,strongRecOn→Zn,zero_add→Zf
open _root_.Go.Region renaming binds→n_,ready→j_,wanted→Zq
open _root_.Bool renaming and_eq_true→m_,and_true→Zy
open _root_.Int renaming toNat_natCast→a_,neg_neg→Zl,lt_or_le→Ze
open _root_.Option renaming getD_some→Zp,map_some→Zm
open _root_.Decidable renaming em→Zg
open _root_.Go.Value renaming int→Zc
variable{n i:Nat}{l:List Int}{a:Act}{v:Value}{ops:Array Oper}{listed:Array Bool}{ws:List (List Nat)}{iq:World->Prop}{G:Nat->Value->World->Prop}{dead:Nat->Option Nat}{w:World}
section
structure uI(F:List (List Int))(c:Core)(l:List Int)(level:Nat):Prop where
 ok:oD c.n l
 imp:rq F l
 A0:∀x∈l,-x∈c.av
 top:bh c (aj l 0)=c.st.length
 JS:∀k,1<=k->k<l.length->bh c (aj l k)<=level
 mA:level<c.st.length
 snd:2<=l.length->bh c (aj l 1)=level
 one:l.length=1->level=0
section
variable {F Fd:List (List Int)}{c:Core}{l:List Int}{level:Nat}
theorem j6.at(T:j6 c){x:Int}(b: -x∈c.av):∃j,j<c.av.length/\aj c.av j= -x/\lE c.st j=bh c x:=by
 obtain⟨j,a,e⟩:=qf.1 b;refine⟨j,a,e,?_⟩;rw[<-T.mA j a,e];unfold bh;rw[oO]
theorem uI.low(L:uI F c l level)(T:j6 c):∀x∈l,x≠aj l 0-> -x∈c.av.take (gZ c.st level):=by
 intro x a b;obtain⟨k,hk,e⟩:=qf.1 a;have d:1<=k:=by
  rcases Zs k with h|h
  ·subst h;exact absurd e.symm b
  ·exact h
 have h1:=L.JS k d hk;rw[e] at h1;obtain⟨j,f,g,n⟩:=T.at (L.A0 x a);have o:¬gZ c.st level<=j:=λ m=>by have:=(tS T (i:=j) L.mA).2 m;omega
 exact pJ.2 ⟨j,by omega,f,g⟩
theorem uI.fresh(L:uI F c l level)(T:j6 c):j9 (mG c level) (aj l 0)=0:=by
 have a:0<l.length:=Zv.2 L.ok.ne;have hm:=lZ a;have b:=L.ok.lt _ hm;rw[(T.back L.mA).open b];have d:(mG c level).av=c.av.take (gZ c.st level):=rfl;rw[d];refine⟨λ h=>T.apart (sj h) (L.A0 _ hm),λ h=>?_⟩;obtain⟨j,h1,f,g⟩:=pJ.1 h;have e:bh c (aj l 0)=lE c.st j:=by
  rw[<-T.mA j f,g];unfold bh;rw[oO]
 have k:level<lE c.st j:=by rw[<-e,L.top];exact L.mA
 have:=(tS T (i:=j) L.mA).1 k;omega
def zv(c:Core)(l:List Int)(level:Nat):Core:=lp (kF (mG c level) l) (aj l 0) (some c.cl.length)
theorem kC.keep{h:Nat}(G:kC F Fd c h [])(L:uI F c l level):kC F Fd (zv c l level) (gZ c.st level) []:=by
 have B:=G.back L.mA;have s:(mG c level).av=c.av.take (gZ c.st level):=rfl;have q:(mG c level).st=c.st.take level:=rfl;have d:(mG c level).st.length=level:=by rw[q,e_];have:=L.mA;omega
 have t:=L.low G.aK;refine(B.Fm (g:=l) L.ok L.imp (λ _=>Iff.rfl) (L.fresh G.aK) t (λ h1=>by rw[d];exact L.one h1) (λ a=>by rw[d];exact Nat.le_of_eq (L.snd a).symm) ?_).same (λ g u=>by simp[u]);intro k hk;rw[d] at hk;have a:2<=l.length:=by
  have y:0<l.length:=Zv.2 L.ok.ne;rcases s_ l.length 2 with b|b
  ·have:=L.one (by omega);omega
  ·exact b
 obtain⟨m0,m1,v,_⟩:=L.ok.w a;have r:∀x∈((mG c level).av.take (gZ (mG c level).st k)),x∈c.av.take (gZ c.st k):=λ x f=>by
  rw[s,q,uF hk] at f;rw[List.take_take] at f;exact CU f (by omega)
 have m:k<c.st.length:=by have:=L.mA;omega
 refine t_ ⟨_,m0,_,m1,v,λ n=>?_,λ n=>?_⟩
 ·obtain⟨j,b,o,p⟩:=pJ.1 (r _ n);have e:bh c (aj l 0)=lE c.st j:=by rw[<-G.aK.mA j o,p];unfold bh;rw[oO]
  have:=(tS G.aK (i:=j) m).1 (by rw[<-e,L.top];exact m);omega
 ·obtain⟨j,b,o,p⟩:=pJ.1 (r _ n);have e:bh c (aj l 1)=lE c.st j:=by rw[<-G.aK.mA j o,p];unfold bh;rw[oO]
  have:=(tS G.aK (i:=j) m).1 (by rw[<-e,L.snd a];exact hk);omega
theorem uI.new{h:Nat}(G:kC F Fd c h [])(L:uI F c l level):∀d,d<c.cl.length->¬∀x,x∈ay c.cl d↔x∈l:=by
 intro d g a;have f:=L.low G.aK;rcases G.rA level L.mA d g with⟨x,b,i⟩|⟨x,b,y,j,k,h1,m⟩
 ·exact G.aK.apart (sj i) (L.A0 x ((a x).1 b))
 ·have ex:x=aj l 0:=by
   rcases Zg (x=aj l 0) with e|e
   ·exact e
   ·exact absurd (f x ((a x).1 b) e) h1
  have n:y=aj l 0:=by
   rcases Zg (y=aj l 0) with e|e
   ·exact e
   ·exact absurd (f y ((a y).1 j) e) m
  exact k (ex.trans n.symm)
end
def rD(l:List Int)(v:Nat):Nat:=if ((v:Int)∈l) then 1 else if (-(v:Int)∈l) then 2 else 0
def rR(l:List Int):Nat->Nat
 |0=>0
 |n+1=>rR l n+3^n*rD l (n+1)
theorem JT(l:List Int)(v:Nat):rD l v<=2:=by unfold rD;split<;>(try split)<;>omega
theorem A1(l:List Int):∀n,rR l n<3^n
 |0=>by simp[rR]
 |n+1=>by
  have h1:=A1 l n;have a:=JT l (n+1);have b:3^n*rD l (n+1)<=3^n*2:=Nat.mul_le_mul_left _ a;rw[rR,Nat.pow_succ];omega
theorem C1{l l':List Int}:∀n,rR l n=rR l' n->∀v,1<=v->v<=n->rD l v=rD l' v
 |0,_,v,h1,c=>by omega
 |n+1,h,v,h1,c=>by
  rw[rR,rR] at h;have a:=A1 l n;have b:=A1 l' n;have e:rD l (n+1)=rD l' (n+1):=by
   have d:(rR l n+3^n*rD l (n+1))/3^n=rD l (n+1):=by
    rw[Nat.add_mul_div_left _ _ (Nat.pow_pos (by omega)),Nat.div_eq_of_lt a,Zf]
   have f:(rR l' n+3^n*rD l' (n+1))/3^n=rD l' (n+1):=by
    rw[Nat.add_mul_div_left _ _ (Nat.pow_pos (by omega)),Nat.div_eq_of_lt b,Zf]
   rw[<-d,h,f]
  rcases s_ v (n+1) with g|g
  ·exact C1 n (by rw[e] at h;omega) v h1 (by omega)
  ·obtain rfl:v=n+1:=by omega
   exact e
theorem JU{l':List Int}(h:oD n l)(h':oD n l')(e:rR l n=rR l' n):∀x,x∈l↔x∈l':=by
 have key:∀{a b:List Int},oD n a->oD n b->(∀v,1<=v->v<=n->rD a v=rD b v)->∀x∈a,x∈b:=by
  intro a b i o d x f;have hl:=i.lt x f;have h1:=d (aC x) hl.1 hl.2;unfold rD at h1;rcases Ze x 0 with k|k
  ·have m:(-((aC x:Nat):Int))=x:=by unfold aC;omega
   have g:((aC x:Nat):Int)= -x:=by unfold aC;omega
   rw[m,g,if_neg (i.bn x f),if_pos f] at h1
   by_cases c: -x∈b
   ·rw[if_pos c] at h1;cases h1
   ·rw[if_neg c] at h1
    by_cases j:x∈b
    ·exact j
    ·rw[if_neg j] at h1;cases h1
  ·have g:((aC x:Nat):Int)=x:=by unfold aC;omega
   rw[g,if_pos f] at h1
   by_cases c:x∈b
   ·exact c
   ·rw[if_neg c] at h1;split at h1<;>cases h1
 have d:=C1 n e;exact λ x=>⟨key h h' d x,key h' h (λ v a b=>(d v a b).symm) x⟩
theorem JV(h:oD n l):rR l n≠0:=by
 intro e;have b:∀m,rR [] m=0:=by
  intro m
  induction m with
  |zero=>rfl
  |succ m c=>rw[rR,c];simp[rD]
 have d:=C1 (l:=l) (l':=[]) n (by rw[e,b]);obtain⟨x,a⟩:=List.exists_mem_of_ne_nil _ h.ne;have hl:=h.lt x a;have h1:=d (aC x) hl.1 hl.2;unfold rD at h1;simp only[List.not_mem_nil,if_false] at h1;rcases Ze x 0 with f|f
 ·have g:(-((aC x:Nat):Int))=x:=by unfold aC;omega
  rw[g,if_pos a] at h1;split at h1<;>cases h1
 ·have i:((aC x:Nat):Int)=x:=by unfold aC;omega
  rw[i,if_pos a] at h1
  cases h1
theorem xC:∀(m:Nat)(l:List Nat),l.Nodup->(∀x∈l,x<m)->l.length<=m
 |0,l,_,h=>by
  cases l with
  |nil=>simp
  |cons a r=>have:=h a (by simp);omega
 |m+1,l,b,h=>by
  have h1:=xC m (l.filter λ x=>x !=m) (b.sublist List.filter_sublist) (λ x c=>by
   obtain⟨d,f⟩:=r_.1 c;have:=h x d;have:x≠m:=by simpa using f
   omega)
  have d:l.length<=(l.filter λ x=>x !=m).length+1:=by
   clear h h1
   induction l with
   |nil=>simp
   |cons a r g=>
    rw[List.nodup_cons] at b
    by_cases e:a=m
    ·subst e;have:(r.filter λ x=>x !=a)=r:=Zu.2 λ x c=>by
      simp only[bne_iff_ne,ne_eq];rintro rfl;exact b.1 c
     simp[List.filter_cons,this]
    ·have:=g b.2;simp[List.filter_cons,e];omega
  omega
theorem Fq{ls:List (List Int)}(c:∀l∈ls,oD n l)(d:ls.Pairwise λ a b=>¬∀x,x∈a↔x∈b):ls.length+1<=3^n:=by
 have f:(0::ls.map λ l=>rR l n).Nodup:=by
  rw[List.nodup_cons];refine⟨λ h=>?_,?_⟩
  ·obtain⟨l,hl,e⟩:=Zd.1 h;exact JV (c l hl) e
  ·rw[List.nodup_iff_pairwise_ne];rw[List.pairwise_map];exact d.imp_of_mem λ g i h e=>h (JU (c _ g) (c _ i) e)
 have:=xC (3^n) _ f (λ x j=>by
  rcases q_.1 j with h|h
  ·subst h;exact Nat.pow_pos (by omega)
  ·obtain⟨l,_,rfl⟩:=Zd.1 h;exact A1 l n)
 simpa using this
structure nr(c:Core)(jS:List Int):Prop where
 ind:∀k,k<c.st.length->k<jS.length->aj jS k∈c.av.take (if k+1<c.st.length then gZ c.st (k+1) else c.av.length)
 dec:∀i,i<c.av.length->mz c.kB (aC (aj c.av i))=none->∃k,k<c.st.length/\gZ c.st k=i/\(k<jS.length->aj c.av i=aj jS k)
section
variable {c:Core}{jS:List Int}
theorem nr.same{c':Core}(h:nr c jS)(h1:c'.av=c.av)(a:c'.st=c.st)(b:c'.kB=c.kB):nr c' jS:=
 ⟨by rw[h1,a];exact h.ind,by rw[h1,a,b];exact h.dec⟩
theorem nr.set(h:nr c jS)(T:j6 c){x:Int}{d:Nat}(b:gK c.n x)(f:j9 c x=0):nr (lp c x (some d)) jS:=by
 have a:(lp c x (some d)).av=c.av++[x]:=rfl;refine⟨λ k hk g=>?_,λ i j hw=>?_⟩
 ·have:=h.ind k hk g;show aj jS k∈(c.av++[x]).take (if k+1<c.st.length then gZ c.st (k+1) else (c.av++[x]).length);split
  ·rename_i h1;rw[if_pos h1] at this;rw[h_ (T.om _ h1)];exact this
  ·rename_i h1;rw[if_neg h1,d_] at this;rw[d_];simp[this]
 ·rw[a,c_,g_] at j;have l:(lp c x (some d)).kB=c.kB.set (aC x) (some d):=rfl;have hl:aC x<c.kB.length:=by rw[T.pK];have:=b.2;omega
  rw[l,a] at hw
  by_cases e:i<c.av.length
  ·rw[tj e,wg,if_neg (λ m=>vB T b f (lZ e) m.1.symm)] at hw;rw[a,tj e];exact h.dec i e hw
  ·obtain rfl:i=c.av.length:=by omega
   rw[xy,wg,if_pos ⟨rfl,hl⟩] at hw
   cases hw
theorem nr.back(h:nr c jS)(T:j6 c){level:Nat}(hl:level<c.st.length):nr (mG c level) jS:=by
 have n:=T.om level hl;have a:(mG c level).av=c.av.take (gZ c.st level):=rfl;have d:(mG c level).st=c.st.take level:=rfl;have hlen:(mG c level).av.length=gZ c.st level:=by rw[a,e_];omega
 have f:(mG c level).st.length=level:=by rw[d,e_];omega
 refine⟨λ k hk j=>?_,λ i b hw=>?_⟩
 ·rw[f] at hk;have:=h.ind k (by omega) j;rw[f,hlen,a,d,List.take_take];rw[if_pos (show k+1<c.st.length by omega)] at this
  by_cases h1:k+1<level
  ·rw[if_pos h1,uF h1,Nat.min_eq_left (T.qT _ _ (by omega) hl)];exact this
  ·rw[if_neg h1,Nat.min_self,show level=k+1 by omega];exact this
 ·rw[hlen] at b;have l:(mG c level).kB=sP c.kB (c.av.drop (gZ c.st level)):=rfl;rw[a,wh b,l,CY _ _ _ (T.split (pJ.2 ⟨i,b,by omega,rfl⟩))] at hw;obtain⟨k,hk,e,m⟩:=h.dec i (by omega) hw;have g:k<level:=by
   rcases s_ k level with h1|h1
   ·exact h1
   ·have:=T.qT level k h1 hk;omega
  exact⟨k,by rw[f];exact g,by rw[d,uF g];exact e,by rw[a,wh b];exact m⟩
theorem nr.level(h:nr c jS)(T:j6 c)(f:c.st.length<jS.length->aj jS c.st.length∈c.av):nr (nk c) jS:=by
 have b:(nk c).st=c.st++[c.av.length]:=rfl;have hlen:(nk c).st.length=c.st.length+1:=by rw[b];simp
 have g:(nk c).av=c.av:=rfl;refine⟨λ k hk d=>?_,λ i j hw=>?_⟩
 ·rw[hlen] at hk;rw[hlen,g]
  by_cases h1:k<c.st.length
  ·have:=h.ind k h1 d;rw[if_pos (by omega)]
   by_cases a:k+1<c.st.length
   ·rw[if_pos a] at this;rw[b,xz a];exact this
   ·rw[if_neg a] at this;rw[show k+1=c.st.length by omega,b,xA];exact this
  ·obtain rfl:k=c.st.length:=by omega
   rw[if_neg (by omega),d_];exact f d
 ·obtain⟨k,hk,e,a⟩:=h.dec i j hw;exact⟨k,by rw[hlen];omega,by rw[b,xz hk];exact e,a⟩
theorem nr.decide(h:nr c jS)(T:j6 c){x:Int}(l:gK c.n x)(m:j9 c x=0)(g:c.st.length<jS.length->x=aj jS c.st.length):nr (lp (nk c) x none) jS:=by
 have b:(lp (nk c) x none).st=c.st++[c.av.length]:=rfl;have hlen:(lp (nk c) x none).st.length=c.st.length+1:=by rw[b];simp
 have d:(lp (nk c) x none).av=c.av++[x]:=rfl;refine⟨λ k hk j=>?_,λ i o hw=>?_⟩
 ·rw[hlen] at hk;rw[hlen,d]
  by_cases h1:k<c.st.length
  ·have:=h.ind k h1 j;rw[if_pos (by omega)]
   by_cases a:k+1<c.st.length
   ·rw[if_pos a] at this;rw[b,xz a,h_ (T.om _ a)];exact this
   ·rw[if_neg a] at this;rw[show k+1=c.st.length by omega,b,xA,h_ (Zt _)];exact this
  ·obtain rfl:k=c.st.length:=by omega
   rw[if_neg (by omega),d_,<-g j];simp
 ·rw[d,c_,g_] at o;have p:(lp (nk c) x none).kB=c.kB.set (aC x) none:=rfl;rw[p,d] at hw
  by_cases e:i<c.av.length
  ·rw[tj e,wg,if_neg (λ q=>vB T l m (lZ e) q.1.symm)] at hw;obtain⟨k,hk,r,a⟩:=h.dec i e hw;refine⟨k,by rw[hlen];omega,by rw[b,xz hk];exact r,λ f=>?_⟩;rw[d,tj e];exact a f
  ·obtain rfl:i=c.av.length:=by omega
   refine⟨c.st.length,by rw[hlen];omega,by rw[b,xA],λ f=>?_⟩;rw[d,xy];exact g f
theorem nr.keep(h:nr c jS){F:List (List Int)}{l:List Int}{level:Nat}(T:j6 c)(L:uI F c l level):nr (zv c l level) jS:=by
 have a:0<l.length:=Zv.2 L.ok.ne;have h1:=(h.back T L.mA)
 have b:nr (kF (mG c level) l) jS:=h1.same rfl rfl rfl;exact b.set ((T.back L.mA).new) (L.ok.lt _ (lZ a)) (L.fresh T)
theorem nr.all(h:nr c jS)(hl:jS.length<=c.st.length):∀x∈jS,x∈c.av:=by
 intro x a;obtain⟨k,hk,e⟩:=qf.1 a;have:=h.ind k (by omega) hk;rw[e] at this;exact sj this
end
end
section
def iE(l:List Bool)(k:Nat):Bool:=l.getD k false
theorem A2{l:List Bool}{k:Nat}(h:k<l.length):iE l k=l[k]:=by simp[iE,w_,k_ h]
theorem zw(l:List Bool)(k j:Nat)(x:Bool):iE (l.set k x) j=if k=j/\k<l.length then x else iE l j:=by
 simp only[iE,w_,List.getElem?_set]
 by_cases h:k=j
 ·subst h
  by_cases a:k<l.length
  ·simp[a]
  ·simp[a]
 ·simp[h]
def oQ(c:Core)(aO:List Bool)(j:Nat):Bool:=decide (lE c.st j=c.st.length)&&iE aO (aC (aj c.av j))
def mT(c:Core)(aO:List Bool)(i:Nat):Nat:=(p_ i).countP (oQ c aO)
theorem zx(c:Core)(aO:List Bool)(i:Nat):mT c aO (i+1)=mT c aO i+if oQ c aO i=true then 1 else 0:=by
 unfold mT;rw[List.range_succ,List.countP_append];simp[List.countP_cons]
theorem A3{c:Core}{aO:List Bool}:0<mT c aO i↔∃j,j<i/\oQ c aO j=true:=by
 unfold mT;rw[List.countP_pos_iff];exact⟨λ⟨j,h1,a⟩=>⟨j,u_.1 h1,a⟩,λ⟨j,h1,a⟩=>⟨j,u_.2 h1,a⟩⟩
structure nD(F:List (List Int))(c:Core)(i:Nat)(aO:List Bool)(aK ex:List Int):Prop where
 tu:aO.length=c.n+1
 qK:i<=c.av.length
 tV:∀x∈aK,-x∈c.av/\1<=bh c x/\bh c x<c.st.length/\iE aO (aC x)=true
 xD:aK.Nodup
 wv:∀x,-x∈c.av->iE aO (aC x)=true->x∈aK\/bh c x=c.st.length
 zy:∀v,iE aO v=true->∃x,-x∈c.av/\aC x=v
 xE:∀y∈ex,-y∈c.av.take i
 wz:∀y∈ex,gK c.n y
 tW:∀M,tQ M F->(∃y∈ex,M y=true)\/(∃x∈aK,M x=true)\/∃j,j<i/\oQ c aO j=true/\M (-(aj c.av j))=true
 act:∃j,j<i/\lE c.st j=c.st.length/\(iE aO (aC (aj c.av j))=true\/ -(aj c.av j)∈ex)
section
variable {F Fd:List (List Int)}{c:Core}{i:Nat}{aO:List Bool}{aK ex:List Int}
theorem A4(n:Nat)(v:Nat):iE (Zj n false) v=false:=by
 simp only[iE,w_,List.getElem?_replicate];split<;>rfl
theorem JW(T:j6 c)(hs:0<c.st.length){j:Nat}(a:gZ c.st (c.st.length-1)<=j):lE c.st j=c.st.length:=by
 have h1:=(tS T (i:=j) (k:=c.st.length-1) (by omega)).2 a;have:=wk c.st j;omega
theorem nD.start{h:Nat}{d:Nat}(G:kC F Fd c h [])(hs:0<c.st.length)(f:d<c.cl.length)(g:∀x∈ay c.cl d,-x∈c.av):nD F c c.av.length (Zj (c.n+1) false) [] (ay c.cl d):=by
 refine⟨by simp,Zt _,λ x a=>by(cases a),List.nodup_nil,λ x _ h1=>?_,λ v h1=>?_,λ y b=>by rw[d_];exact g y b,λ y b=>(G.jN.mF d f).lt y b,λ M k=>l_ (G.jN.imp d f M k),?_⟩
 ·rw[A4] at h1;cases h1
 ·rw[A4] at h1;cases h1
 ·have key:∀x∈ay c.cl d,¬-x∈c.av.take (gZ c.st (c.st.length-1))->∃j,j<c.av.length/\lE c.st j=c.st.length/\(iE (Zj (c.n+1) false) (aC (aj c.av j))=true\/ -(aj c.av j)∈ay c.cl d):=by
   intro x a l;obtain⟨j,i,e,_⟩:=G.aK.at (g x a);refine⟨j,i,JW G.aK hs ?_,t_ ?_⟩
   ·rcases s_ j (gZ c.st (c.st.length-1)) with h1|h1
    ·exact absurd (pJ.2 ⟨j,h1,i,e⟩) l
    ·exact h1
   ·rw[e,Zl];exact a
  rcases G.rA (c.st.length-1) (by omega) d f with⟨x,a,m⟩|⟨x,a,y,b,_,h1,_⟩
  ·exact absurd (sj m) (λ h1=>G.aK.apart h1 (g x a))
  ·exact key x a h1
theorem nD.drop{y:Int}(T:j6 c)(D:ry F Fd c)(h:nD F c i aO aK (y::ex))(hs:0<c.st.length)(g:bh c y=0):nD F c i aO aK ex:=by
 have l:=h.xE y (by simp);obtain⟨j,h1,d,f⟩:=pJ.1 l;have m:lE c.st j=0:=by rw[<-T.mA j d,f];unfold bh;rw[oO];exact g
 refine⟨h.tu,h.qK,h.tV,h.xD,h.wv,h.zy,λ z a=>h.xE z (by simp[a]),λ z a=>h.wz z (by simp[a]),λ M b=>?_,?_⟩
 ·rcases h.tW M b with⟨z,a,hm⟩|n
  ·rcases q_.1 a with e|e
   ·subst e;have:=yp T D b j d m;rw[f,b.1 z (h.wz z (by simp)).oC,hm] at this
    cases this
   ·exact l_ ⟨z,e,hm⟩
  ·exact t_ n
 ·obtain⟨k,o,p,q⟩:=h.act;refine⟨k,o,p,q.imp id λ r=>?_⟩;rcases q_.1 r with e|e
  ·exfalso;have hk:k<c.av.length:=by have:=h.qK;omega
   have:bh c y=lE c.st k:=by rw[<-e,<-T.mA k hk];unfold bh;rw[oO]
   omega
  ·exact e
theorem nD.seen{y:Int}(T:j6 c)(h:nD F c i aO aK (y::ex))(hs:iE aO (aC y)=true):nD F c i aO aK ex:=by
 have f:=h.xE y (by simp);obtain⟨j,h1,m,g⟩:=pJ.1 f;have l:aC (aj c.av j)=aC y:=by rw[g,oO]
 refine⟨h.tu,h.qK,h.tV,h.xD,h.wv,h.zy,λ z a=>h.xE z (by simp[a]),λ z a=>h.wz z (by simp[a]),λ M n=>?_,?_⟩
 ·rcases h.tW M n with⟨z,a,hm⟩|o
  ·rcases q_.1 a with e|e
   ·subst e;rcases h.wv z (sj f) hs with b|b
    ·exact t_ (l_ ⟨z,b,hm⟩)
    ·refine t_ (t_ ⟨j,h1,?_,?_⟩)
     ·unfold oQ;rw[l,hs,Zy,decide_eq_true_iff,<-b,<-T.mA j m];unfold bh;rw[l]
     ·rw[g,Zl];exact hm
   ·exact l_ ⟨z,e,hm⟩
  ·exact t_ o
 ·obtain⟨k,p,q,d⟩:=h.act;refine⟨k,p,q,?_⟩;rcases d with d|r
  ·exact l_ d
  ·rcases q_.1 r with e|e
   ·left;have:aC (aj c.av k)=aC y:=by rw[<-e,oO]
    rw[this];exact hs
   ·exact t_ e
theorem A5{c:Core}{aO:List Bool}{y:Int}(a:aO.length=c.n+1)(hl:gK c.n y)(v:Nat):iE (aO.set (aC y) true) v=if aC y=v then true else iE aO v:=by
 rw[zw];have:aC y<aO.length:=by rw[a];have:=hl.2;omega
 by_cases e:aC y=v
 ·rw[if_pos ⟨e,this⟩,if_pos e]
 ·rw[if_neg (λ b=>e b.1),if_neg e]
theorem nD.mark{y:Int}(T:j6 c)(h:nD F c i aO aK (y::ex))(hs:iE aO (aC y)=false)(Y:bh c y≠0):
  (bh c y=c.st.length->nD F c i (aO.set (aC y) true) aK ex/\mT c (aO.set (aC y) true) i=mT c aO i+1)/\
  (bh c y≠c.st.length->nD F c i (aO.set (aC y) true) (aK++[y]) ex/\mT c (aO.set (aC y) true) i=mT c aO i):=by
 have C:=h.xE y (by simp);have Q:=h.wz y (by simp);obtain⟨j,h1,E,I⟩:=pJ.1 C;have D:aC (aj c.av j)=aC y:=by rw[I,oO]
 have J:lE c.st j=bh c y:=by rw[<-T.mA j E];unfold bh;rw[D]
 have o:=A5 (c:=c) h.tu Q;have u:∀v,iE aO v=true->iE (aO.set (aC y) true) v=true:=λ v w=>by rw[o];split;rfl;exact w
 have K:∀k,k<c.av.length->oQ c (aO.set (aC y) true) k=if k=j then decide (bh c y=c.st.length) else oQ c aO k:=by
  intro k hk;unfold oQ;rw[o]
  by_cases e:k=j
  ·subst e;rw[if_pos D.symm,if_pos rfl,Zy,J]
  ·rw[if_neg e]
   by_cases f:aC y=aC (aj c.av k)
   ·exact absurd (T.place hk E (by rw[D,f])) e
   ·rw[if_neg f]
 have L:∃k,k<i/\lE c.st k=c.st.length/\(iE (aO.set (aC y) true) (aC (aj c.av k))=true\/ -(aj c.av k)∈ex):=by
  obtain⟨k,A,l,p⟩:=h.act;refine⟨k,A,l,?_⟩;rcases p with p|R
  ·exact l_ (u _ p)
  ·rcases q_.1 R with e|e
   ·left;rw[o,if_pos];rw[<-e,oO]
   ·exact t_ e
 have Z:bh c y<=c.st.length:=by rw[<-J];exact wk _ _
 have S:∀x∈aK,aC x≠aC y:=λ x n e=>by
  have:=(h.tV x n).2.2.2;rw[e,hs] at this;cases this
 have N:∀v,iE (aO.set (aC y) true) v=true->∃x,-x∈c.av/\aC x=v:=λ v w=>by
  rw[o] at w
  by_cases e:aC y=v
  ·exact⟨y,sj C,e⟩
  ·rw[if_neg e] at w;exact h.zy v w
 have O:∀m,m<=c.av.length->mT c (aO.set (aC y) true) m=mT c aO m+if j<m/\bh c y=c.st.length then 1 else 0:=by
  intro m
  induction m with
  |zero=>intro _;simp[mT]
  |succ m U=>
   intro hm;rw[zx,zx,U (by omega),K m (by omega)]
   by_cases e:m=j
   ·subst e;have V:oQ c aO m=false:=by unfold oQ;rw[D,hs,Bool.and_false]
    rw[if_pos rfl,V]
    by_cases f:bh c y=c.st.length
    ·simp[f]
    ·simp[f]
   ·rw[if_neg e];generalize (if oQ c aO m=true then 1 else 0)=q;have P:(j<m/\bh c y=c.st.length)↔(j<m+1/\bh c y=c.st.length):=⟨λ r=>⟨by omega,r.2⟩,λ r=>⟨by omega,r.2⟩⟩
    by_cases f:j<m/\bh c y=c.st.length
    ·rw[if_pos f,if_pos (P.1 f)];omega
    ·rw[if_neg f,if_neg (λ r=>f (P.2 r))];omega
 constructor
 ·intro t;refine⟨⟨by simp[h.tu],h.qK,λ x n=>?_,h.xD,λ x n s=>?_,N,λ z g=>h.xE z (by simp[g]),λ z g=>h.wz z (by simp[g]),λ M G=>?_,L⟩,?_⟩
  ·obtain⟨a,b,d,e⟩:=h.tV x n;exact⟨a,b,d,u _ e⟩
  ·rw[o] at s
   by_cases e:aC y=aC x
   ·right;unfold bh at t⊢;rw[<-e];exact t
   ·rw[if_neg e] at s;exact h.wv x n s
  ·rcases h.tW M G with⟨z,g,hm⟩|B|⟨k,A,l,p⟩
   ·rcases q_.1 g with e|e
    ·subst e;refine t_ (t_ ⟨j,h1,?_,by rw[I,Zl];exact hm⟩);rw[K j E,if_pos rfl,decide_eq_true_iff];exact t
    ·exact l_ ⟨z,e,hm⟩
   ·exact t_ (l_ B)
   ·refine t_ (t_ ⟨k,A,?_,p⟩);unfold oQ at l⊢;rw[m_] at l⊢;exact⟨l.1,u _ l.2⟩
  ·rw[O i h.qK,if_pos ⟨h1,t⟩]
 ·intro t;refine⟨⟨by simp[h.tu],h.qK,λ x n=>?_,?_,λ x n s=>?_,N,λ z g=>h.xE z (by simp[g]),λ z g=>h.wz z (by simp[g]),λ M G=>?_,L⟩,?_⟩
  ·rcases List.mem_append.1 n with B|B
   ·obtain⟨a,b,d,e⟩:=h.tV x B;exact⟨a,b,d,u _ e⟩
   ·rw[b_.1 B];exact⟨sj C,by omega,by omega,by rw[o,if_pos rfl]⟩
  ·rw[List.nodup_append];refine⟨h.xD,by simp,λ a W b X e=>?_⟩;rw[b_.1 X] at e;exact S a W (by rw[e])
  ·rw[o] at s
   by_cases e:aC y=aC x
   ·left;rcases CS e with f|f
    ·simp[f]
    ·exfalso;have H:x∈c.av:=by
      have:=sj C;rw[f,Zl] at this;exact this
     exact T.apart H n
   ·rw[if_neg e] at s;exact(h.wv x n s).imp (λ H=>by simp[H]) id
  ·rcases h.tW M G with⟨z,g,hm⟩|⟨z,g,hm⟩|⟨k,A,l,p⟩
   ·rcases q_.1 g with e|e
    ·subst e;exact t_ (l_ ⟨z,by simp,hm⟩)
    ·exact l_ ⟨z,e,hm⟩
   ·exact t_ (l_ ⟨z,by simp[g],hm⟩)
   ·refine t_ (t_ ⟨k,A,?_,p⟩);unfold oQ at l⊢;rw[m_] at l⊢;exact⟨l.1,u _ l.2⟩
  ·rw[O i h.qK,if_neg (λ r=>t r.2)];rfl
theorem nD.open(h:nD F c i aO aK []):0<mT c aO i:=by
 rw[A3];obtain⟨k,b,d,a⟩:=h.act;refine⟨k,b,?_⟩;unfold oQ;rcases a with a|a
 ·rw[a,Zy,decide_eq_true_iff];exact d
 ·cases a
theorem nD.down(h:nD F c (i+1) aO aK [])(hs:iE aO (aC (aj c.av i))=false):nD F c i aO aK []/\mT c aO i=mT c aO (i+1):=by
 have f:oQ c aO i=false:=by unfold oQ;rw[hs,Bool.and_false]
 refine⟨⟨h.tu,by have:=h.qK;omega,h.tV,h.xD,h.wv,h.zy,λ y e=>by(cases e),λ y e=>by(cases e),λ M g=>?_,?_⟩,by rw[zx,f];rfl⟩
 ·rcases h.tW M g with h1|h1|⟨k,j,b,a⟩
  ·exact l_ h1
  ·exact t_ (l_ h1)
  ·refine t_ (t_ ⟨k,?_,b,a⟩);rcases s_ k i with d|d
   ·exact d
   ·obtain rfl:k=i:=by omega
    rw[f] at b;cases b
 ·obtain⟨k,j,b,a⟩:=h.act;refine⟨k,?_,b,a⟩;rcases s_ k i with d|d
  ·exact d
  ·obtain rfl:k=i:=by omega
   rcases a with a|a
   ·rw[hs] at a;cases a
   ·cases a
theorem nD.top(T:j6 c)(h:nD F c (i+1) aO aK []):lE c.st i=c.st.length:=by
 obtain⟨k,b,a,_⟩:=A3.1 h.open|>.imp λ k ⟨b,a⟩=>(⟨b,(by unfold oQ at a;rw[m_,decide_eq_true_iff] at a;exact a.1),trivial⟩:k<i+1/\lE c.st k=c.st.length/\True)
 have h1:=CT (st:=c.st) (i:=k) (j:=i) (by omega);have:=wk c.st i;omega
theorem nD.done(T:j6 c)(h:nD F c (i+1) aO aK [])(hs:iE aO (aC (aj c.av i))=true)(h1:mT c aO (i+1)=1):rq F (-(aj c.av i)::aK):=by
 have a:oQ c aO i=true:=by unfold oQ;rw[hs,Zy,decide_eq_true_iff];exact h.top T
 rw[zx,a,if_pos rfl] at h1;intro M b;rcases h.tW M b with⟨y,d,_⟩|⟨x,f,hm⟩|⟨k,l,g,j⟩
 ·cases d
 ·exact⟨x,by simp[f],hm⟩
 ·by_cases e:k=i
  ·subst e;exact⟨_,by simp,j⟩
  ·have:0<mT c aO i:=A3.2 ⟨k,by omega,g⟩;omega
theorem nD.reason(T:j6 c)(D:ry F Fd c)(h:nD F c (i+1) aO aK [])(hs:iE aO (aC (aj c.av i))=true)(h1:mT c aO (i+1)≠1):
  ∃d,mz c.kB (aC (aj c.av i))=some d/\d<c.cl.length/\nD F c i aO aK ((ay c.cl d).filter λ y=>y !=aj c.av i)/\mT c aO (i+1)=mT c aO i+1:=by
 have r:=h.top T;have s:oQ c aO i=true:=by unfold oQ;rw[hs,Zy,decide_eq_true_iff];exact r
 have t:mT c aO (i+1)=mT c aO i+1:=by rw[zx,s,if_pos rfl]
 have o:i<c.av.length:=by have:=h.qK;omega
 obtain⟨k,u,b⟩:=A3.1 (show 0<mT c aO i by have:=h.open;omega);have v:lE c.st k=c.st.length:=by unfold oQ at b;rw[m_,decide_eq_true_iff] at b;exact b.1
 have hw:=T.pY i o
 cases p:mz c.kB (aC (aj c.av i)) with
 |none=>
  rw[p] at hw;obtain⟨m,hm,e⟩:=hw;have:=(tS T (i:=k) hm).1 (by omega);omega
 |some d=>
  rw[p] at hw;obtain⟨f,A,w⟩:=hw;refine⟨d,rfl,f,⟨h.tu,by omega,h.tV,h.xD,h.wv,h.zy,λ y a=>?_,λ y a=>?_,λ M g=>?_,⟨k,u,v,l_ ?_⟩⟩,t⟩
  ·obtain⟨l,x⟩:=r_.1 a;exact w y l (by simpa using x)
  ·exact(D.mF d f).lt y (r_.1 a).1
  ·rcases h.tW M g with⟨y,a,_⟩|l|⟨j,B,z,n⟩
   ·cases a
   ·exact t_ (l_ l)
   ·by_cases e:j=i
    ·subst e;obtain⟨y,a,hm⟩:=D.imp d f M g
     by_cases q:y=aj c.av j
     ·rw[g.1 _ (T.lit _ (lZ o)).oC,<-q,hm] at n;cases n
     ·exact l_ ⟨y,r_.2 ⟨a,by simpa using q⟩,hm⟩
    ·exact t_ (t_ ⟨j,by omega,z,n⟩)
  ·unfold oQ at b;rw[m_] at b;exact b.2
inductive qV(c:Core)(aO:List Bool):Int->Prop
 |mk (x:Int) (d:Nat) (hw:mz c.kB (aC x)=some d) (h:∀y∈ay c.cl d,y≠-x->iE aO (aC y)=false->bh c y≠0->qV c aO y):qV c aO x
def pos(c:Core)(x:Int):Nat:=c.av.idxOf (-x)
theorem pos_at(T:j6 c){x:Int}{j:Nat}(a:j<c.av.length)(e:aj c.av j= -x):pos c x=j:=by
 have b: -x∈c.av:=qf.2 ⟨j,a,e⟩;unfold pos;have h1:=List.idxOf_lt_length_of_mem b;have d:aj c.av (c.av.idxOf (-x))= -x:=by rw[ng h1];exact List.getElem_idxOf h1
 exact T.place h1 a (by rw[d,e])
theorem JX(T:j6 c)(D:ry F Fd c)(hm:∀x,-x∈c.av->iE aO (aC x)=true->x∈aK\/bh c x=c.st.length){M:Int->Bool}(a:tQ M F):∀(k:Nat)(x:Int),pos c x=k-> -x∈c.av->bh c x<c.st.length->qV c aO x->(∀z∈aK,pos c z<k->M z=false)->M x=false:=by
 intro k
 induction k using Zn with
 |_ k t=>
  intro x hk h hl u l;obtain⟨_,d,hw,v⟩:=u;obtain⟨j,n,e,K⟩:=T.at h;have w:j=k:=by rw[<-hk];exact(pos_at T n e).symm
  subst w;have o:=T.pY j n;rw[e,oO,hw] at o;obtain⟨p,L,A⟩:=o;obtain⟨y,f,b⟩:=D.imp d p M a;have B:x≠0:=by have:=(T.lit _ h).oC;omega
  by_cases g:y= -x
  ·rw[g,a.1 x B] at b
   cases C:M x with
   |true=>rw[C] at b;cases b
   |false=>rfl
  ·exfalso;obtain⟨m,m1,m2,m3⟩:=pJ.1 (A y f g);have E:pos c y=m:=pos_at T m2 m3;have N:bh c y=lE c.st m:=by rw[<-T.mA m m2,m3];unfold bh;rw[oO]
   have q: -y∈c.av:=qf.2 ⟨m,m2,m3⟩;have G:bh c y<c.st.length:=by
    have:=CT (st:=c.st) (i:=m) (j:=j) (by omega);omega
   have r:M y=false:=by
    by_cases h1:iE aO (aC y)=true
    ·rcases hm y q h1 with s|s
     ·exact l y s (by omega)
     ·omega
    by_cases h1:bh c y=0
    ·have:=yp T D a m m2 (by omega);rw[m3,a.1 y ((D.mF d p).lt y f).oC] at this
     cases H:M y with
     |true=>rw[H] at this;cases this
     |false=>rfl
    ·rename_i I;exact t m m1 y E q G (v y f g (by simpa using I) h1) (λ z J O=>l z J (by omega))
   rw[b] at r;cases r
theorem JY(T:j6 c)(D:ry F Fd c)(hm:∀x,-x∈c.av->iE aO (aC x)=true->x∈aK\/bh c x=c.st.length)(f:∀x∈aK,-x∈c.av/\bh c x<c.st.length){u:Int}(j:rq F (u::aK)){r:List Int}(l:∀x∈aK,x∈r\/qV c aO x):rq F (u::r):=by
 intro M g;rcases Zg (∃x∈u::r,M x=true) with h|h
 ·exact h
 ·exfalso;have i:∀x∈u::r,M x=false:=λ x b=>by
   cases a:M x with
   |false=>rfl
   |true=>exact absurd ⟨x,b,a⟩ h
  have key:∀(k:Nat)(z:Int),pos c z=k->z∈aK->M z=false:=by
   intro k
   induction k using Zn with
   |_ k m=>
    intro z hk d;rcases l z d with h1|h1
    ·exact i z (by simp[h1])
    ·exact JX T D hm g k z hk (f z d).1 (f z d).2 h1 (λ y n o=>m _ o y rfl n)
  obtain⟨x,b,a⟩:=j M g;rcases q_.1 b with e|e
  ·rw[i x (by simp[e])] at a;cases a
  ·rw[key _ x rfl e] at a;cases a
end
structure qB(F:List (List Int))(c:Core)(p:Int)(i:Nat)(mk:Int->Bool)(out:List Int):Prop where
 qK:i<=c.av.length
 A6:∀x∈out,x=p\/(x∈c.av/\mz c.kB (aC x)=none)
 tW:∀M,tQ M F->(∀x∈p::out,M x=true)->∃j,j<i/\1<=lE c.st j/\mk (aC (aj c.av j))=true/\M (aj c.av j)=false
section
variable {F Fd:List (List Int)}{c:Core}{p:Int}{i:Nat}{mk:Int->Bool}{out:List Int}
theorem qB.start(T:j6 c)(hp: -p∈c.av)(hl:1<=bh c p)(hm:mk (aC p)=true):qB F c p c.av.length mk [p]:=by
 refine⟨Zt _,λ x a=>l_ (b_.1 a),λ M b d=>?_⟩;obtain⟨j,f,e,h1⟩:=T.at hp;refine⟨j,f,by omega,by rw[e,oO];exact hm,?_⟩;rw[e,b.1 p (by have:=(T.lit _ hp).oC;omega),d p (by simp)];rfl
theorem qB.skip(h:qB F c p (i+1) mk out)(hs:mk (aC (aj c.av i))=false):qB F c p i mk out:=by
 refine⟨by have:=h.qK;omega,h.A6,λ M d e=>?_⟩;obtain⟨j,h1,f,a,g⟩:=h.tW M d e;refine⟨j,?_,f,a,g⟩;rcases s_ j i with b|b
 ·exact b
 ·obtain rfl:j=i:=by omega
  rw[hs] at a;cases a
theorem qB.decision(h:qB F c p (i+1) mk out)(g:mz c.kB (aC (aj c.av i))=none):qB F c p i mk (out++[aj c.av i]):=by
 have k:i<c.av.length:=by have:=h.qK;omega
 refine⟨by omega,λ x a=>?_,λ M l d=>?_⟩
 ·rcases List.mem_append.1 a with h1|h1
  ·exact h.A6 x h1
  ·rw[b_.1 h1];exact t_ ⟨lZ k,g⟩
 ·obtain⟨j,h1,m,n,b⟩:=h.tW M l (λ x a=>d x (by rcases q_.1 a with e|e<;>simp[e]));refine⟨j,?_,m,n,b⟩;rcases s_ j i with f|f
  ·exact f
  ·obtain rfl:j=i:=by omega
   rw[d _ (by simp)] at b;cases b
theorem qB.reason(T:j6 c)(D:ry F Fd c)(h:qB F c p (i+1) mk out){d:Nat}(hw:mz c.kB (aC (aj c.av i))=some d){mk':Int->Bool}(hm:∀v,mk v=true->mk' v=true)(s:∀y∈ay c.cl d,y≠aj c.av i->0<bh c y->mk' (aC y)=true):qB F c p i mk' out:=by
 have t:i<c.av.length:=by have:=h.qK;omega
 refine⟨by omega,h.A6,λ M a u=>?_⟩;obtain⟨j,h1,w,x,b⟩:=h.tW M a u
 by_cases e:j=i
 ·subst e;have m:=T.pY j t;rw[hw] at m;obtain⟨n,B,z⟩:=m;obtain⟨y,f,o⟩:=D.imp d n M a;have q:y≠aj c.av j:=by rintro rfl;rw[o] at b;cases b
  obtain⟨k,C,r,g⟩:=pJ.1 (z y f q);have E:bh c y=lE c.st k:=by rw[<-T.mA k r,g];unfold bh;rw[oO]
  have l:M (aj c.av k)=false:=by rw[g,a.1 y ((D.mF d n).lt y f).oC,o];rfl
  by_cases A:lE c.st k=0
  ·rw[yp T D a k r A] at l;cases l
  ·exact⟨k,by omega,by omega,by rw[g,oO];exact s y f q (by omega),l⟩
 ·exact⟨j,by omega,w,hm _ x,b⟩
theorem qB.done(T:j6 c)(h:qB F c p i mk out)(hs:0<c.st.length)(d:i<=gZ c.st 0):∀M,tQ M F->¬∀x∈p::out,M x=true:=by
 intro M a b;obtain⟨j,h1,e,_⟩:=h.tW M a b;have:=(tS T (i:=j) hs).1 (by omega);omega
end
end
section
structure me(n:Nat)(ord pl:List Int):Prop where
 sk:pl.length=n+1
 inv:∀i,i<ord.length->1<=aj ord i/\aj ord i<=n/\aj pl (aj ord i).toNat=i
 o:∀v:Nat,1<=v->v<=n->0<=aj pl v->aj pl v<ord.length/\aj ord (aj pl v).toNat=v
 tX:∀v,-1<=aj pl v
section
variable {n:Nat}{ord pl:List Int}
theorem me.inj(h:me n ord pl){i j:Nat}(a:i<ord.length)(b:j<ord.length)(e:aj ord i=aj ord j):i=j:=by
 have h1:=(h.inv i a).2.2;have c:=(h.inv j b).2.2;rw[e] at h1;omega
def tY(ord pl:List Int)(i k:Nat):List Int:=(pl.set (aj (kQ ord i k) i).toNat (i:Int)).set (aj (kQ ord i k) k).toNat (k:Int)
theorem yq(h:me n ord pl){i k:Nat}(d:i<ord.length)(hk:k<ord.length)(v:Nat):
  aj (tY ord pl i k) v=if (v:Int)=aj ord i then (k:Int) else if (v:Int)=aj ord k then (i:Int) else aj pl v:=by
 have a:=h.inv i d;have b:=h.inv k hk;have j:aj (kQ ord i k) k=aj ord i:=by rw[qz d hk,if_pos rfl]
 have l:aj (kQ ord i k) i=if i=k then aj ord i else aj ord k:=by rw[qz d hk];simp
 unfold tY;rw[j,l,oP]
 by_cases c:(v:Int)=aj ord i
 ·rw[if_pos c,if_pos ⟨by omega,by rw[List.length_set,h.sk];omega⟩]
 ·rw[if_neg c,if_neg (λ f=>c (by omega)),oP]
  by_cases g:i=k
  ·subst g;rw[if_pos rfl,if_neg (λ f=>c (by omega)),if_neg c]
  ·rw[if_neg g]
   by_cases e:(v:Int)=aj ord k
   ·rw[if_pos e,if_pos ⟨by omega,by rw[h.sk];omega⟩]
   ·rw[if_neg e,if_neg (λ f=>e (by omega))]
theorem me.swap(h:me n ord pl){i k:Nat}(d:i<ord.length)(hk:k<ord.length):me n (kQ ord i k) (tY ord pl i k):=by
 have a:=h.inv i d;have b:=h.inv k hk;refine⟨by unfold tY;simp[h.sk],λ j l=>?_,λ v h1 r m=>?_,λ v=>?_⟩
 ·rw[rP] at l;have c:=h.inv j l;rw[qz d hk]
  by_cases e:j=k
  ·rw[if_pos e];refine⟨a.1,a.2.1,?_⟩;rw[yq h d hk,if_pos (by omega),e]
  ·rw[if_neg e]
   by_cases f:j=i
   ·rw[if_pos f];refine⟨b.1,b.2.1,?_⟩;rw[yq h d hk]
    by_cases q:((aj ord k).toNat:Int)=aj ord i
    ·have:=h.inj hk d (by omega);omega
    ·rw[if_neg q,if_pos (by omega),f]
   ·rw[if_neg f];refine⟨c.1,c.2.1,?_⟩;rw[yq h d hk,if_neg (λ g=>f (h.inj l d (by omega))),if_neg (λ g=>e (h.inj l hk (by omega)))];exact c.2.2
 ·rw[yq h d hk] at m⊢;rw[rP]
  by_cases e:(v:Int)=aj ord i
  ·rw[if_pos e,qz d hk,if_pos (by omega)];exact⟨by omega,e.symm⟩
  ·rw[if_neg e] at m⊢
   by_cases f:(v:Int)=aj ord k
   ·rw[if_pos f,qz d hk];have q:i≠k:=by rintro rfl;exact e f
    rw[if_neg (by omega),if_pos (by omega)];exact⟨by omega,f.symm⟩
   ·rw[if_neg f] at m⊢;obtain⟨s,p⟩:=h.o v h1 r m;refine⟨s,?_⟩;rw[qz d hk,if_neg (λ g=>f (by rw[<-p,g])),if_neg (λ g=>e (by rw[<-p,g]))];exact p
 ·rw[yq h d hk];split
  ·omega
  ·split
   ·omega
   ·exact h.tX v
def vC(pl a:List Int):Prop:=∀v,0<=aj a v↔0<=aj pl v
theorem vC.refl(pl:List Int):vC pl pl:=λ _=>Iff.rfl
theorem vC.trans{a b c:List Int}(h:vC a b)(h':vC b c):vC a c:=λ v=>(h' v).trans (h v)
theorem me.Fs(h:me n ord pl){i k:Nat}(c:i<ord.length)(hk:k<ord.length):vC pl (tY ord pl i k):=by
 intro v;rw[yq h c hk]
 by_cases a:(v:Int)=aj ord i
 ·rw[if_pos a];have:=(h.inv i c).2.2;rw[<-a] at this;simp only[a_] at this;omega
 ·rw[if_neg a]
  by_cases b:(v:Int)=aj ord k
  ·rw[if_pos b];have:=(h.inv k hk).2.2;rw[<-b] at this;simp only[a_] at this;omega
  ·rw[if_neg b]
theorem me.push(h:me n ord pl){v:Nat}(h1:1<=v)(k:v<=n)(l:aj pl v<0):me n (ord++[(v:Int)]) (pl.set v (ord.length:Int)):=by
 have d:∀u,aj (pl.set v (ord.length:Int)) u=if v=u then (ord.length:Int) else aj pl u:=λ u=>by
  rw[oP]
  by_cases e:v=u
  ·rw[if_pos e,if_pos ⟨e,by rw[h.sk];omega⟩]
  ·rw[if_neg e,if_neg (λ f=>e f.1)]
 refine⟨by simp[h.sk],λ i g=>?_,λ u a b c=>?_,λ u=>?_⟩
 ·rw[c_,g_] at g
  by_cases e:i<ord.length
  ·rw[tj e];have:=h.inv i e;refine⟨this.1,this.2.1,?_⟩;rw[d,if_neg]
   ·exact this.2.2
   ·rintro rfl;have:=this.2.2;omega
  ·obtain rfl:i=ord.length:=by omega
   rw[xy];refine⟨by omega,by omega,?_⟩;rw[d,if_pos (by omega)]
 ·rw[d] at c⊢;rw[c_,g_]
  by_cases e:v=u
  ·rw[if_pos e];refine⟨by omega,?_⟩;rw[a_,xy,e]
  ·rw[if_neg e] at c⊢;obtain⟨m,j⟩:=h.o u a b c;exact⟨by omega,by rw[tj (by omega)];exact j⟩
 ·rw[d];split
  ·omega
  ·exact h.tX u
theorem me.pop(h:me n ord pl)(hl:0<ord.length):me n (ord.take (ord.length-1)) (pl.set (aj ord (ord.length-1)).toNat (-1)):=by
 obtain⟨m,hm⟩:∃m,ord.length=m+1:=⟨ord.length-1,by omega⟩
 have p:ord.length-1=m:=by omega
 rw[p];have a:=h.inv m (by omega);have f:∀u,aj (pl.set (aj ord m).toNat (-1)) u=if (aj ord m).toNat=u then-1 else aj pl u:=λ u=>by
  rw[oP]
  by_cases e:(aj ord m).toNat=u
  ·rw[if_pos e,if_pos ⟨e,by rw[h.sk];omega⟩]
  ·rw[if_neg e,if_neg (λ g=>e g.1)]
 have hlen:(ord.take m).length=m:=by rw[e_];omega
 refine⟨by simp[h.sk],λ i l=>?_,λ u b c d=>?_,λ u=>?_⟩
 ·rw[hlen] at l;rw[wh l];have:=h.inv i (by omega);refine⟨this.1,this.2.1,?_⟩;rw[f,if_neg]
  ·exact this.2.2
  ·intro e;have:=h.inj (i:=m) (j:=i) (by omega) (by omega) (by omega);omega
 ·rw[f] at d⊢;rw[hlen]
  by_cases e:(aj ord m).toNat=u
  ·rw[if_pos e] at d;omega
  ·rw[if_neg e] at d⊢;obtain⟨q,k⟩:=h.o u b c d;have r:aj pl u≠m:=λ g=>e (by rw[g] at k;simp only[a_] at k;omega)
   exact⟨by omega,by rw[wh (by omega)];exact k⟩
 ·rw[f];split
  ·omega
  ·exact h.tX u
end
end
section
open Go.RowKit
def sQ:TypeId:=162
def vc:TypeId:=166
def zz:TypeId:=160
def xF:TypeId:=164
def zA:TypeId:=171
def JZ:TypeId:=126
def iF(k:Nat):Nat:=13+3*k
def kI(k:Nat):Nat:=14+3*k
def qL(r:Nat):TypeId:=
 if r=0 then zz else if r=1 then zA else if r=3 then xF else if r=9 then 4 else if r=10 then xF else if r=11 then JZ else if r=12 then 4
 else if r<13 then 3 else if r%3=1 then xF else 3
def nE(r:Nat):Nat:=if r=11 then 2 else 1
structure rS where
 kZ:Bool
 bh:Int
 ac:Int
structure nw where
 lH:Int
 h:ax
structure aq where
 c:Core
 ci:List rS
 act:List Int
 bt:Int
 ord:List Int
 pl:List Int
 hM:List Bool
 aM:List Nat
 aF:List nw
 aO:List Bool
 nl:List (List Int)
 jB:Option ax
def jc(l:List Int):List Value:=l.map (Zc .i64)
def qg(l:List Nat):List Value:=l.map λ x:Nat=>Zc .i64 (x:Int)
def sR(l:List Int):List Value:=l.map (Zc .i8)
def pL(l:List Bool):List Value:=l.map Value.bool
def sS(cb:Nat->Nat)(d:Nat):Value:=.pointer (some ⟨cb d,0,none⟩)
def qM(cb:Nat->Nat):Option Nat->Value
 |none=>.pointer none
 |some d=>sS cb d
def k3(cb:Nat->Nat)(l:List Nat):List Value:=l.map (sS cb)
def tZ(cb:Nat->Nat)(l:List (Option Nat)):List Value:=l.map (qM cb)
def mj(l:List nw):List Value:=(l.map λ p=> [Zc .i64 p.lH,p.h.v]).flatten
def cont(hs:Nat->ax)(cb:Nat->Nat)(s:aq)(r:Nat):List Value:=
 if r=0 then (p_ s.c.wt.length).map λ k=>(hs (iF k)).v
 else if r=1 then sR s.c.val else if r=2 then qg s.c.lvl else if r=3 then tZ cb s.c.kB else if r=4 then jc s.c.av else if r=5 then qg s.c.st
 else if r=6 then jc s.act else if r=7 then jc s.ord else if r=8 then jc s.pl else if r=9 then pL s.hM else if r=10 then k3 cb s.aM
 else if r=11 then (match s.jB with|some _=> []|none=>mj s.aF) else if r=12 then pL s.aO
 else if r%3=1 then k3 cb (ay s.c.wt ((r-13)/3)) else if r%3=2 then jc (ay s.c.cl ((r-14)/3)) else jc (ay s.nl ((r-15)/3))
def oE(hs:Nat->ax)(s:aq):Value:=match s.jB with
 |some h=>h.v
 |none=>(hs 11).v
def qW(hs:Nat->ax)(s:aq):List Value:=
 [.int .i64 s.c.n,(hs 0).v,(hs 1).v,(hs 2).v,(hs 3).v,(hs 4).v,(hs 5).v,.int .i64 s.c.ag,(hs 6).v,.int .i64 s.bt,(hs 7).v,(hs 8).v,(hs 9).v,(hs 10).v,oE hs s,.bool s.c.l9,(hs 12).v]
def tv(hs:Nat->ax)(s:aq)(d:Nat):List Value:=
 [(hs (kI d)).v,.bool (s.ci.getD d ⟨false,0,0⟩).kZ,.int .i64 (s.ci.getD d ⟨false,0,0⟩).bh,.int .i64 (s.ci.getD d ⟨false,0,0⟩).ac]
structure kr(base:Nat)(w:World)(G:Nat)(hs:Nat->ax)(cb:Nat->Nat)(gm:List Value)(cls:Nat->List Value)(n:Nat)(X:Nat->List Value):Prop where
 box:aT w G sQ gm
 rows:mc base qL nE w hs X
 cls:∀d,d<n->aT w (cb d) vc (cls d)
 inj:∀d e,d<n->e<n->cb d=cb e->d=e
 qX:base<=G
 rE:∀d,d<n->base<=cb d
abbrev jf(base:Nat)(w:World)(G:Nat)(hs:Nat->ax)(cb:Nat->Nat)(s:aq):Prop:=kr base w G hs cb (qW hs s) (tv hs s) s.c.cl.length (cont hs cb s)
def aq.oR(s:aq)(k:Nat)(x:Int):aq:={s with c:={s.c with val:=s.c.val.set k x}}
def aq.rF(s:aq)(k:Nat)(x:Nat):aq:={s with c:={s.c with lvl:=s.c.lvl.set k x}}
def aq.qC(s:aq)(k:Nat)(x:Option Nat):aq:={s with c:={s.c with kB:=s.c.kB.set k x}}
def aq.wA(s:aq)(k:Nat)(x:Int):aq:={s with c:={s.c with av:=s.c.av.set k x}}
def aq.pZ(s:aq)(k:Nat)(x:Int):aq:={s with act:=s.act.set k x}
def aq.tw(s:aq)(k:Nat)(x:Int):aq:={s with ord:=s.ord.set k x}
def aq.pM(s:aq)(k:Nat)(x:Int):aq:={s with pl:=s.pl.set k x}
def aq.ua(s:aq)(k:Nat)(x:Bool):aq:={s with hM:=s.hM.set k x}
def aq.sU(s:aq)(k:Nat)(x:Bool):aq:={s with aO:=s.aO.set k x}
def aq.yt(s:aq)(x:Int):aq:={s with c:={s.c with av:=s.c.av++[x]}}
theorem C2(r:Nat):qL r≠sQ/\qL r≠vc:=by
 unfold qL
 repeat (split;·exact⟨by decide,by decide⟩)
 exact⟨by decide,by decide⟩
section
variable {base:Nat}{w w':World}{G:Nat}{hs:Nat->ax}{cb:Nat->Nat}{gm:List Value}{cls:Nat->List Value}{n:Nat}{X:Nat->List Value}
theorem kr.below(h:kr base w G hs cb gm cls n X)(a:Below w.heap.size w w'):kr base w' G hs cb gm cls n X:=
 ⟨h.box.below a,h.rows.below a,λ d b=>(h.cls d b).below a,h.inj,h.qX,h.rE⟩
theorem kr.C3(h:kr base w G hs cb gm cls n X){d:Nat}(b:d<n):G≠cb d:=by
 intro e;have h1:=h.box;have a:=h.cls d b;rw[<-e] at a;unfold aT at h1 a;rw[h1] at a;injection a with a
 injection a with _ a
 exact absurd a (by decide)
theorem kr.uc(h:kr base w G hs cb gm cls n X)(r g:Nat)(a:(hs r).b=some g):G≠g:=by
 have:=h.rows.CR h.box (λ r=>(C2 r).1) r g a;intro e;exact this (by rw[e])
theorem kr.xG(h:kr base w G hs cb gm cls n X){d:Nat}(a:d<n)(r g:Nat)(c:(hs r).b=some g):cb d≠g:=by
 have:=h.rows.CR (h.cls d a) (λ r=>(C2 r).2) r g c;intro e;exact this (by rw[e])
theorem kr.field(h:kr base w G hs cb gm cls n X)(k:Nat)(v:Value):kr base (w.setCell ⟨G,k,none⟩ v) G hs cb (gm.set k v) cls n X:=
 ⟨h.box.set k v,h.rows.kept (k8 w G k v) (λ r g b e=>h.uc r g b (by injection e)),λ d a=>(h.cls d a).kept (k8 w G k v) (λ e=>h.C3 a (by injection e with e;exact e.symm)),h.inj,h.qX,h.rE⟩
theorem kr.J1(h:kr base w G hs cb gm cls n X){d:Nat}(a:d<n)(k:Nat)(v:Value):kr base (w.setCell ⟨cb d,k,none⟩ v) G hs cb gm (iT cls d ((cls d).set k v)) n X:=by
 refine⟨h.box.kept (k8 w (cb d) k v) (λ e=>h.C3 a (by injection e)),h.rows.kept (k8 w (cb d) k v) (λ r g c e=>h.xG a r g c (by injection e)),λ e he=>?_,h.inj,h.qX,h.rE⟩
 by_cases b:e=d
 ·subst b;rw[jO];exact(h.cls e he).set k v
 ·rw[bk _ _ b];exact(h.cls e he).kept (k8 w (cb d) k v) (λ f=>b (h.inj e d he a (by injection f)))
theorem kr.cell(h:kr base w G hs cb gm cls n X){r g:Nat}(a:(hs r).b=some g)(k:Nat)(v:Value):kr base (w.setCell ⟨g,k,none⟩ v) G hs cb gm cls n (iT X r ((X r).set k v)):=
 ⟨h.box.kept (k8 w g k v) (λ e=>h.uc r g a (by injection e)),h.rows.set a k v,λ d c=>(h.cls d c).kept (k8 w g k v) (λ e=>h.xG c r g a (by injection e)),h.inj,h.qX,h.rE⟩
theorem kr.ja(h:kr base w G hs cb gm cls n X){r:Nat}{h':ax}{ys:List Value}(a:w.grownBy w' (hs r).b)(f:w'.ownsRow base (qL r) (nE r) h'.v h'.n ys)(i:h'.b=(hs r).b\/∀g,h'.b=some g->w.heap.size<=g):
  kr base w' G (iT hs r h') cb gm cls n (iT X r ys):=by
 refine⟨h.box.kept a (λ e=>?_),h.rows.ja a f i,λ d c=>(h.cls d c).kept a (λ e=>?_),h.inj,h.qX,h.rE⟩
 ·exact h.uc r G e.symm rfl
 ·exact h.xG c r (cb d) e.symm rfl
theorem kr.cut(h:kr base w G hs cb gm cls n X){r g:Nat}(a:(hs r).b=some g){k:Nat}(hk:k<=(hs r).n):kr base w G (iT hs r ⟨(hs r).A,k,(hs r).c⟩) cb gm cls n (iT X r ((X r).take (k*nE r))):=
 ⟨h.box,h.rows.cut a hk,h.cls,h.inj,h.qX,h.rE⟩
theorem kr.eq{hs':Nat->ax}{rT:Nat->Nat}{zB:List Value}{Ft:Nat->List Value}{gE:Nat}{lN:Nat->List Value}(h:kr base w G hs cb gm cls n X)(h1:hs=hs')(b:cb=rT)(c:gm=zB)(e:∀d,d<n->cls d=Ft d)(f:n=gE)(g:∀r,X r=lN r):kr base w G hs' rT zB Ft gE lN:=by
 subst h1 b c f;have i:X=lN:=funext g;subst i;exact⟨h.box,h.rows,λ d a=>by rw[<-e d a];exact h.cls d a,h.inj,h.qX,h.rE⟩
end
end
section
open Go.RowKit
def oo(ops:Array Oper)(j:Nat):Option Tmp:=(ops[j]?).bind λ o:Oper=>o.dst
def jJ(ops:Array Oper)(vals:Nat->Value)(L:Nat->Bool)(a:Act):Nat->Act
 |0=>a
 |k+1=>if L k=true then (jJ ops vals L a k).put (oo ops k) (vals k) else jJ ops vals L a k
def kU(vals:Nat->Value)(i:Nat)(v:Value):Nat->Value:=λ j=>if j=i then v else vals j
def lI(L:Nat->Bool)(i:Nat):Nat->Bool:=λ j=>if j=i then true else L j
theorem put_comm{d e:Option Tmp}{u:Value}(h:∀s,d=some s->e≠some s):(a.put d u).put e v=(a.put e v).put d u:=by
 cases d with
 |none=>rfl
 |some d=>
  cases e with
  |none=>rfl
  |some e=>
   have b:d≠e:=λ x=>h d rfl (x▸rfl)
   simp only[Act.put];rw[Array.setIfInBounds_comm _ _ b]
section
variable {ops:Array Oper}{vals:Nat->Value}{L:Nat->Bool}{a:Act}{i:Nat}{v:Value}
theorem Fu:∀k,k<=i->jJ ops (kU vals i v) (lI L i) a k=jJ ops vals L a k
 |0,_=>rfl
 |k+1,hk=>by
  have b:k≠i:=by omega
  simp only[jJ,Fu k (by omega)];have c:lI L i k=L k:=by unfold lI;rw[if_neg b]
  have d:kU vals i v k=vals k:=by unfold kU;rw[if_neg b]
  rw[c,d]
theorem zC(d:∀j,j≠i->∀s,oo ops i=some s->oo ops j≠some s)(f:L i=false):∀k,i<k->
  (jJ ops vals L a k).put (oo ops i) v=jJ ops (kU vals i v) (lI L i) a k
 |0,h=>by omega
 |k+1,h=>by
  by_cases e:k=i
  ·subst e;simp only[jJ];rw[Fu k (Zt _),f];have b:lI L k k=true:=by unfold lI;rw[if_pos rfl]
   have c:kU vals k v k=v:=by unfold kU;rw[if_pos rfl]
   rw[b,c];simp
  ·simp only[jJ];have b:lI L i k=L k:=by unfold lI;rw[if_neg e]
   have c:kU vals i v k=vals k:=by unfold kU;rw[if_neg e]
   rw[b,c,<-zC d f k (by omega)]
   by_cases hk:L k=true
   ·rw[if_pos hk,if_pos hk];exact put_comm λ s h1 g=>d k e s g h1
   ·rw[if_neg hk,if_neg hk]
theorem J2(a:Act)(d:Option Tmp)(v:Value):(a.put d v).tmps.size=a.tmps.size:=by
 cases d<;>simp[Act.put]
theorem C4:∀k,(jJ ops vals L a k).tmps.size=a.tmps.size
 |0=>rfl
 |k+1=>by
  simp only[jJ];split
  ·rw[J2,C4 k]
  ·exact C4 k
theorem Fv{a:Act}{d:Option Tmp}{v:Value}{x:Operand}(h:∀s,d=some s->x≠ .tmp s):(a.put d v).eval x=a.eval x:=by
 cases d with
 |none=>rfl
 |some s=>
  cases x with
  |tmp t=>
   have b:s≠t:=λ e=>h s rfl (e▸rfl)
   simp only[Act.put,Act.eval];rw[z_,z_,o_ b]
  |const v=>rfl
  |global g=>rfl
  |func f=>rfl
theorem J3{a:Act}{s:Tmp}{v:Value}(h:s<a.tmps.size):(a.put (some s) v).eval (.tmp s)=v:=by
 simp only[Act.put,Act.eval];rw[z_,v_ h];rfl
theorem yu{x:Operand}(h:∀j s,L j=true->oo ops j=some s->x≠ .tmp s):∀k,(jJ ops vals L a k).eval x=a.eval x
 |0=>rfl
 |k+1=>by
  simp only[jJ]
  by_cases hk:L k=true
  ·rw[if_pos hk,Fv (λ s=>h k s hk),yu h k]
  ·rw[if_neg hk];exact yu h k
theorem yw{j:Nat}{s:Tmp}(b:oo ops j=some s)(hs:s<a.tmps.size)(c:L j=true)(d:∀i,i≠j->oo ops i≠some s):∀k,j<k->(jJ ops vals L a k).eval (.tmp s)=vals j
 |0,h=>by omega
 |k+1,h=>by
  by_cases e:k=j
  ·subst e;simp only[jJ];rw[if_pos c,b,J3 (by rw[C4];exact hs)]
  ·simp only[jJ];split
   ·rw[Fv (λ t g f=>d k e (by rw[g];injection f with f;rw[f]))];exact yw b hs c d k (by omega)
   ·exact yw b hs c d k (by omega)
end
def gL(P:Program)(post:Value->World->Prop):Result Next->Prop
 | .ok (.value v) w'=>post v w'
 | .ok .skip w'=>post undef w'
 | .ok (.enter f args) w'=>Calls P f args w' λ e a=>∃v,e=.returned v/\post v a
 |_=>False
def bD(P:Program)(a:Operand->Value)(o:Oper)(w:World)(post:Value->World->Prop):Prop:=gL P post ((execOp a o).run P w)
theorem bD.wp{P:Program}{o:Oper}{a:Act}{w:World}{post:Value->World->Prop}{K:Act->World->Prop}{Q:Exit->Act->World->Prop}(h:bD P a.eval o w post)(hk:∀v w',post v w'->K (a.put o.dst v) w'):o.wp P a w K Q:=by
 unfold bD at h;unfold Oper.wp;generalize (execOp a.eval o).run P w=r at*
 cases r with
 |ok n w'=>
  cases n<;>simp only[gL] at h<;>simp only[Oper.upon]
  case value u=>exact hk _ _ h
  case skip=>exact hk _ _ h
  case enter f args=>
   refine h.mono λ e b ⟨v,he,hp⟩=>?_
   subst he;exact hk _ _ hp
 |halt x w'=>simp only[gL] at h
def sn(ops:Array Oper):Bool:=(p_ ops.size).all λ i=>(p_ ops.size).all λ j=>j==i||match oo ops i with
 |some s=>oo ops j !=some s
 |none=>true
def qh(ops:Array Oper):Bool:=ops.all λ o=>o.guard.isNone
theorem wB(h:sn ops=true){i j:Nat}(d:j≠i){s:Tmp}(b:oo ops i=some s):oo ops j≠some s:=by
 intro c;have e:i<ops.size:=by
  cases a:ops[i]? with
  |none=>unfold oo at b;rw[a] at b;cases b
  |some o=>exact(Zr.1 a).1
 have f:j<ops.size:=by
  cases a:ops[j]? with
  |none=>unfold oo at c;rw[a] at c;cases c
  |some o=>exact(Zr.1 a).1
 unfold sn at h;simp only[Zx,u_] at h;have h1:=h i e j f;rw[b] at h1;simp only[Bool.or_eq_true,beq_iff_eq,d,false_or,bne_iff_ne,ne_eq] at h1;exact h1 c
def gO(listed:Array Bool):Nat->Bool:=λ j=>listed.getD j false
theorem oF(h:i<listed.size):gO (listed.setIfInBounds i true)=lI (gO listed) i:=by
 funext j;unfold gO lI
 by_cases e:j=i
 ·subst e;rw[if_pos rfl,z_,v_ h];rfl
 ·rw[if_neg e];show(listed.setIfInBounds i true).getD j false=listed.getD j false;rw[z_,z_,o_ (λ x=>e x.symm)]
def ud(G:Nat->Value->World->Prop)(dead:Nat->Option Nat)(L:Nat->Bool)(vals:Nat->Value)(w:World):Prop:=
 ∀j,L j=true->(∀c,dead j=some c->L c=false)->G j (vals j) w
def qY(ds:List (Option Tmp))(j:Nat):Option Tmp:=ds.getD j none
def rU(ds:List (Option Tmp))(G:Nat->Value->World->Prop)(dead:Nat->Option Nat)(i:Nat)(vals:Nat->Value)(w:World)(a:Operand->Value):List Edge->Prop
 |[]=>True
 |e::r=>(n_ .any e=true->((dead e.on=none\/dead e.on=some i)->G e.on (vals e.on) w)/\∀s,qY ds e.on=some s->a (.tmp s)=vals e.on)/\rU ds G dead i vals w a r
def qZ(ws:List (List Nat))(j i:Nat):Bool:=(ws.getD j []).contains i
def p0(a:Operand->Value):List (Tmp×Value)->Prop
 |[]=>True
 |p::r=>a (.tmp p.1)=p.2/\p0 a r
def yx(ds:List (Option Tmp))(ws:List (List Nat))(i:Nat)(s:Tmp):Bool:=(p_ ds.length).all λ j=>qY ds j !=some s||qZ ws j i
def rG(ds:List (Option Tmp))(ws:List (List Nat))(i:Nat)(a:Operand->Value):List (Tmp×Value)->Prop
 |[]=>True
 |p::r=>(yx ds ws i p.1=true->a (.tmp p.1)=p.2)/\rG ds ws i a r
theorem rG.of{p4 Fw:Operand->Value}{ds:List (Option Tmp)}{ws:List (List Nat)}{i:Nat}(he:∀s,yx ds ws i s=true->Fw (.tmp s)=p4 (.tmp s)):∀{l:List (Tmp×Value)},p0 p4 l->rG ds ws i Fw l
 |[],_=>trivial
 |p::r,h=>⟨λ a=>(he _ a).trans h.1,rG.of he h.2⟩
theorem A7{ds:List (Option Tmp)}{s:Tmp}(h:yx ds ws i s=true){j:Nat}(a:qY ds j=some s):qZ ws j i=true:=by
 have b:j<ds.length:=by
  rcases s_ j ds.length with h1|h1
  ·exact h1
  ·unfold qY at a;rw[w_,List.getElem?_eq_none h1] at a;cases a
 unfold yx at h;rw[Zx] at h;have:=h j (u_.2 b);rw[a] at this;simpa using this
def rH(a:Operand->Value):Prop:=(∀v,a (.const v)=v)/\(∀g,a (.global g)=.pointer (some ⟨g,0,none⟩))/\∀f,a (.func f)=.func (.func f) #[] #[]
theorem rH.act(a:Act):rH a.eval:=⟨λ _=>rfl,λ _=>rfl,λ _=>rfl⟩
def o8(ws:List (List Nat)):Nat->Nat->Nat->Bool
 |0,j,i=>qZ ws j i
 |n+1,j,i=>qZ ws j i||(ws.getD j []).any λ k=>o8 ws n k i
def zD(ws:List (List Nat))(iq:World->Prop)(G:Nat->Value->World->Prop)(dead:Nat->Option Nat)(i:Nat)(w:World)(v:Value)(w':World):Prop:=
 iq w'/\G i v w'/\∀j u,j≠i->dead j≠some i->o8 ws 8 j i=false->(∀c,dead j=some c->o8 ws 8 i c=false)->G j u w->G j u w'
theorem zD.same(a:iq w)(h:G i v w):zD ws iq G dead i w v w:=⟨a,h,λ _ _ _ _ _ _ h=>h⟩
theorem zD.more{w':World}(hm:∀j u w w',Below w.heap.size w w'->G j u w->G j u w')(a:Below w.heap.size w w')(b:iq w')(h:G i v w'):zD ws iq G dead i w v w':=⟨b,h,λ j u _ _ _ _ h=>hm j u w w' a h⟩
def zF(P:Program)(ds:List (Option Tmp))(ws:List (List Nat))(old:List (Tmp×Value))(iq:World->Prop)(G:Nat->Value->World->Prop)(dead:Nat->Option Nat)(i:Nat)(o:Oper):Prop:=
 ∀(vals:Nat->Value)(w:World)(a:Operand->Value),iq w->rU ds G dead i vals w a o.after.toList->rG ds ws i a old->rH a->
  bD P a o w (zD ws iq G dead i w)
def wC(P:Program)(ds:List (Option Tmp))(ws:List (List Nat))(old:List (Tmp×Value))(iq:World->Prop)(G:Nat->Value->World->Prop)(dead:Nat->Option Nat):Nat->List Oper->Prop
 |_,[]=>True
 |k,o::r=>zF P ds ws old iq G dead k o/\wC P ds ws old iq G dead (k+1) r
theorem wC.at{P:Program}{ds:List (Option Tmp)}{ws:List (List Nat)}{old:List (Tmp×Value)}{iq:World->Prop}{G:Nat->Value->World->Prop}{dead:Nat->Option Nat}:∀{l:List Oper}{k i:Nat}{o:Oper},wC P ds ws old iq G dead k l->l[i]? =some o->zF P ds ws old iq G dead (k+i) o
 |[],k,i,o,_,h=>by simp at h
 |x::l,k,0,o,hs,h=>by
  simp only[List.getElem?_cons_zero,Option.some.injEq] at h;subst h;exact hs.1
 |x::l,k,i+1,o,hs,h=>by
  rw[List.getElem?_cons_succ] at h;have:=wC.at hs.2 h
  rwa[show k+1+i=k+(i+1) by omega] at this
theorem rU.of{ds:List (Option Tmp)}{G:Nat->Value->World->Prop}{dead:Nat->Option Nat}{i:Nat}{vals:Nat->Value}{w:World}{az:Operand->Value}:∀{l:List Edge},(∀e∈l,n_ .any e=true->((dead e.on=none\/dead e.on=some i)->G e.on (vals e.on) w)/\∀s,qY ds e.on=some s->az (.tmp s)=vals e.on)->rU ds G dead i vals w az l
 |[],_=>trivial
 |e::r,h=>⟨h e (by simp),rU.of λ a he=>h a (by simp[he])⟩
def sq(ops:Array Oper)(n:Nat):Bool:=ops.all λ o=>match o.dst with|some s=>decide (s<n)|none=>true
theorem A8(h:sq ops n=true){j:Nat}{s:Tmp}(hs:oo ops j=some s):s<n:=by
 unfold oo at hs
 cases a:ops[j]? with
 |none=>rw[a] at hs;cases hs
 |some o=>
  rw[a] at hs;have hs':o.dst=some s:=hs;unfold sq at h;rw[x_] at h;have:=h o (Zw a);simp only[hs',decide_eq_true_eq] at this;exact this
theorem ue{md:Region.Mode}(h:i∈j_ md ops listed):i<ops.size/\listed.getD i true=false/\∃o,ops[i]? =some o/\∀e∈o.after,n_ md e=true->listed.getD e.on false=true:=by
 unfold j_ at h;obtain⟨h1,b⟩:=r_.1 h;have c:=u_.1 h1;simp only[m_,Bool.not_eq_true'] at b;refine⟨c,b.1,ops[i],y_ c,λ e he f=>?_⟩;have a:=b.2;rw[y_ c] at a;simp only[Zm,Zp] at a;rw[x_] at a;have d:=a e he;rw[f] at d;simpa using d
section
variable {ops:Array Oper}
def oq(ops:Array Oper)(listed:Array Bool):Nat:=((p_ ops.size).filter λ i=> !listed.getD i true).length
theorem A9{listed:Array Bool}{i:Nat}(a:i<ops.size)(h:listed.getD i true=false):oq ops (listed.setIfInBounds i true)<oq ops listed:=by
 unfold oq;have b:i<listed.size:=by
  rcases s_ i listed.size with h1|h1
  ·exact h1
  ·rw[z_,Zk h1] at h;cases h
 have e:((p_ ops.size).filter λ j=> !(listed.setIfInBounds i true).getD j true)=((p_ ops.size).filter λ j=> !listed.getD j true).filter λ j=>j !=i:=by
  rw[List.filter_filter];refine List.filter_congr λ j _=>?_
  by_cases e:j=i
  ·subst e;rw[z_,v_ b];simp
  ·rw[z_,o_ (λ x=>e x.symm),z_];simp[e]
 rw[e];have hm:i∈(p_ ops.size).filter λ j=> !listed.getD j true:=r_.2 ⟨u_.2 a,by rw[h];rfl⟩
 generalize ((p_ ops.size).filter λ j=> !listed.getD j true)=l at*;clear e;rcases s_ (l.filter λ j=>j !=i).length l.length with h1|h1
 ·exact h1
 ·have c:=Zu.1 (List.length_filter_eq_length_iff.1 (Nat.le_antisymm (Zi _ _) h1)|>λ h=>Zu.2 h);have:=c i hm;simp at this
end
def uJ(ops:Array Oper):Bool:=(p_ ops.size).all λ i=>match ops[i]? with
 |some o=>o.after.all λ e=> !Region.binds .any e||decide (e.on<i)
 |none=>true
theorem Ba(h:uJ ops=true){listed:Array Bool}(l:listed.size=ops.size)(d:j_ .any ops listed=[]):oq ops listed=0:=by
 have key:∀i,i<ops.size->listed.getD i true=true:=by
  intro i
  induction i using Zn with
  |_ i f=>
   intro a
   cases hl:listed.getD i true with
   |true=>rfl
   |false=>
    exfalso;have:i∈j_ .any ops listed:=by
     unfold j_;refine r_.2 ⟨u_.2 a,?_⟩;rw[hl,y_ a];simp only[Bool.not_false,Bool.true_and,Zm,Zp];rw[x_];intro e he
     cases g:n_ .any e with
     |false=>rfl
     |true=>
      unfold uJ at h;simp only[Zx,u_] at h;have h1:=h i a;rw[y_ a] at h1;simp only[] at h1;rw[x_] at h1;have b:=h1 e he;rw[g] at b;have j:e.on<i:=by simpa using b
      have c:=f e.on j (by omega);have k:e.on<listed.size:=by omega
      rw[z_,y_ k] at c⊢;simpa using c
    rw[d] at this;cases this
 unfold oq;rw[Zo,List.filter_eq_nil_iff];intro i a;rw[key i (u_.1 a)];simp
theorem wD(l:List Oper)(j:Nat):oo l.toArray j=qY (l.map λ o:Oper=>o.dst) j:=by
 unfold oo qY;rw[f_,w_,Zz]
 cases l[j]? <;>rfl
def ot:List (Option Tmp)->Nat->(Nat->Value)->Act->Act
 |[],_,_,a=>a
 |d::r,k,vals,a=>ot r (k+1) vals (a.put d (vals k))
theorem Fx:∀(l:List (Option Tmp))(d:Option Tmp)(k:Nat)(vals:Nat->Value)(a:Act),ot (l++[d]) k vals a=(ot l k vals a).put d (vals (k+l.length))
 |[],d,k,vals,a=>rfl
 |e::l,d,k,vals,a=>by
  rw[List.cons_append,ot,Fx l d,ot,List.length_cons]
  congr 2
  omega
def mm(n:Nat):Nat->Bool:=λ j=>decide (j<n)
theorem zG(l:List Oper)(vals:Nat->Value)(a:Act)(n:Nat):∀k,k<=n->k<=l.length->jJ l.toArray vals (mm n) a k=ot ((l.map λ o:Oper=>o.dst).take k) 0 vals a
 |0,_,_=>rfl
 |k+1,hk,hl=>by
  have e:(l.map λ o:Oper=>o.dst).take (k+1)=(l.map λ o:Oper=>o.dst).take k++[oo l.toArray k]:=by
   rw[List.take_add_one]
   congr 1
   rw[Zz,k_ (by omega)];unfold oo;rw[f_,k_ (by omega)];rfl
  rw[e,Fx];simp only[jJ];have b:mm n k=true:=by unfold mm;simp;omega
  rw[if_pos b,zG l vals a n k (by omega) (by omega),e_,List.length_map]
  congr 2
  omega
def vD(l:List Oper)(n:Nat):Bool:=match l[n]? with
 |some o=>(p_ n).all λ j=>o.after.any λ e=>n_ .any e&&e.on==j
 |none=>false
section
variable {P:Program}{l:List Oper}{Q:Exit->Act->World->Prop}{a:Act}{old:List (Tmp×Value)}{iq:World->Prop}{G:Nat->Value->World->Prop}{dead:Nat->Option Nat}
theorem zH{ops:Array Oper}{vals:Nat->Value}{L C5:Nat->Bool}{a:Act}:∀k,(∀j,j<k->L j=C5 j)->jJ ops vals L a k=jJ ops vals C5 a k
 |0,_=>rfl
 |k+1,h=>by
  simp only[jJ];rw[zH k (λ j b=>h j (by omega)),h k (by omega)]
theorem wE{ops:Array Oper}{listed:Array Bool}(d:listed.size=ops.size)(a:oq ops listed=0):∀j,j<ops.size->gO listed j=true:=λ j b=>by
 cases hl:gO listed j with
 |true=>rfl
 |false=>
  have h1:j∈(p_ ops.size).filter λ i=> !listed.getD i true:=by
   refine r_.2 ⟨u_.2 b,?_⟩;unfold gO at hl;have c:j<listed.size:=by omega
   rw[z_,y_ c] at hl⊢;simpa using hl
  unfold oq at a;rw[Zo] at a;rw[a] at h1;cases h1
theorem xH{ws:List (List Nat)}(b:ws=l.map λ o:Oper=>(o.after.toList.filter (n_ .any)).map (·.on)){j i:Nat}(h:qZ ws j i=true):∃o,l.toArray[j]? =some o/\∃e∈o.after,n_ .any e=true/\e.on=i:=by
 unfold qZ at h;rw[b,w_,Zz] at h
 cases a:l[j]? with
 |none=>rw[a] at h;simp at h
 |some o=>
  rw[a] at h;simp only[Zm,Zp,List.contains_eq_mem,decide_eq_true_eq] at h;obtain⟨e,he,c⟩:=Zd.1 h;obtain⟨d,f⟩:=r_.1 he;exact⟨o,by rw[f_];exact a,e,Zh.1 d,f,c⟩
def q3(ws:List (List Nat))(L:Nat->Bool):Prop:=∀j i,L j=true->qZ ws j i=true->L i=true
theorem q3.reach{ws:List (List Nat)}{L:Nat->Bool}(h:q3 ws L):∀(n j i:Nat),L j=true->o8 ws n j i=true->L i=true
 |0,j,i,b,a=>h j i b a
 |n+1,j,i,b,a=>by
  unfold o8 at a;rw[Bool.or_eq_true] at a;rcases a with a|a
  ·exact h j i b a
  ·obtain⟨k,hk,c⟩:=List.any_eq_true.1 a;exact h.reach n k i (h j k b (by unfold qZ;simpa using hk)) c
theorem J4{ds:List (Option Tmp)}{ws:List (List Nat)}(N:ws=l.map λ o:Oper=>(o.after.toList.filter (n_ .any)).map (·.on))(z:ds=l.map λ o:Oper=>o.dst)(A:sn l.toArray=true)(t:qh l.toArray=true)(O:sq l.toArray a.tmps.size=true)
  (hold:p0 a.eval old)
  {i:Nat} {o:Oper} (m:l.toArray[i]? =some o) (B:zF P ds ws old iq G dead i o) {listed:Array Bool} {vals:Nat->Value} {w:World} {K:Act->World->Prop} (aj:listed.size=l.toArray.size) (R:iq w) (hF:ud G dead (gO listed) vals w)
  (S:i∈j_ .any l.toArray listed) (hC:q3 ws (gO listed))
  (T:∀v w',iq w'->q3 ws (gO (listed.setIfInBounds i true))->ud G dead (gO (listed.setIfInBounds i true)) (kU vals i v) w'->K (jJ l.toArray (kU vals i v) (gO (listed.setIfInBounds i true)) a l.toArray.size) w'):
  wpOp P l.toArray Q i K (jJ l.toArray vals (gO listed) a l.toArray.size) w:=by
 obtain⟨h1,C,U,D,E⟩:=ue S;obtain rfl:o=U:=by rw[m] at D;injection D
 have f:i<listed.size:=by omega
 have p:gO listed i=false:=by
  unfold gO;rw[z_,y_ f] at C⊢;simpa using C
 unfold wpOp;simp only[m];have V:o.guard=none:=by
  unfold qh at t;rw[x_] at t;have:=t o (Zw m);simpa using this
 have hw:Zq o (yielded l.toArray (jJ l.toArray vals (gO listed) a l.toArray.size).tmps)=true:=by unfold Zq;rw[V]
 rw[if_pos hw];left;unfold zF at B;have W:=B vals w (jJ l.toArray vals (gO listed) a l.toArray.size).eval R (rU.of λ e he u=>by
  have hl:=E e (Zh.1 he) u;have X:e.on<l.toArray.size:=by
   rcases s_ e.on listed.size with h|h
   ·omega
   ·rw[z_,Zk h] at hl;cases hl
  refine⟨λ n=>hF e.on hl λ c d=>?_,λ s hs=>?_⟩
  ·rcases n with n|n
   ·rw[n] at d;cases d
   ·rw[n] at d;injection d with d
    rw[<-d];exact p
  ·rw[z,<-wD] at hs;exact yw hs (A8 O hs) hl (λ k hk=>wB A hk hs) _ X) (rG.of (λ s hs=>yu (λ j s' hl b x=>by
   injection x with x
   subst x;rw[wD,<-z] at b;have:=hC j i hl (A7 hs b);rw[p] at this;cases this) _) hold) (rH.act _)
 refine W.wp λ v w' ⟨Y,Z,aa⟩=>?_
 have ab:(jJ l.toArray vals (gO listed) a l.toArray.size).put o.dst v=jJ l.toArray (kU vals i v) (gO (listed.setIfInBounds i true)) a l.toArray.size:=by
  rw[oF f];have ad:oo l.toArray i=o.dst:=by unfold oo;rw[m];rfl
  have:=zC (ops:=l.toArray) (vals:=vals) (L:=gO listed) (a:=a) (i:=i) (v:=v) (λ j b s hs=>wB A b hs) p l.toArray.size h1;rw[ad] at this;exact this
 rw[ab];have F:q3 ws (gO (listed.setIfInBounds i true)):=by
  rw[oF f];intro j k b H;unfold lI at b⊢
  by_cases e:k=i
  ·rw[if_pos e]
  ·rw[if_neg e]
   by_cases g:j=i
   ·subst g;obtain⟨ak,q,ae,af,u,ag⟩:=xH N H;rw[m] at q;injection q with q
    subst q;have:=E ae af u;rw[ag] at this;exact this
   ·rw[if_neg g] at b;exact hC j k b H
 refine T v w' Y F λ j b r=>?_
 rw[oF f] at b r
 by_cases e:j=i
 ·subst e;have g:kU vals j v j=v:=by unfold kU;rw[if_pos rfl]
  rw[g];exact Z
 ·have g:kU vals i v j=vals j:=by unfold kU;rw[if_neg e]
  have ah:lI (gO listed) i j=gO listed j:=by unfold lI;rw[if_neg e]
  rw[g];rw[ah] at b;refine aa j _ e (λ ai=>?_) ?_ (λ c d=>?_) (hF j b λ c d=>?_)
  ·have:=r i ai;unfold lI at this;rw[if_pos rfl] at this;cases this
  ·cases y:o8 ws 8 j i with
   |false=>rfl
   |true=>
    have:=hC.reach 8 j i b y;rw[p] at this;cases this
  ·cases y:o8 ws 8 i c with
   |false=>rfl
   |true=>
    have I:=r c d;have J:=F.reach 8 i c (by rw[oF f];unfold lI;rw[if_pos rfl]) y;rw[oF f] at J;rw[J] at I;cases I
  ·have:=r c d;unfold lI at this
   by_cases M:c=i
   ·rw[if_pos M] at this;cases this
   ·rw[if_neg M] at this;exact this
theorem J5{ds:List (Option Tmp)}{ws:List (List Nat)}(H:ws=l.map λ o:Oper=>(o.after.toList.filter (n_ .any)).map (·.on))(I:ds=l.map λ o:Oper=>o.dst)(n:Nat)(hlen:l.length=n+1)(J:sn l.toArray=true)(q:qh l.toArray=true)(K:sq l.toArray a.tmps.size=true)(L:uJ l.toArray=true)(s:vD l n=true)(hold:p0 a.eval old)
  (M:wC P ds ws old iq G dead 0 (l.take n))
  (N:∀o vals w,l[n]? =some o->iq w->(∀j,j<n->dead j=none->G j (vals j) w)->bD P (jJ l.toArray vals (mm n) a n).eval o w λ v w'=>Q .normal ((jJ l.toArray vals (mm n) a n).put o.dst v) w'):
  ∀(fuel:Nat)(listed:Array Bool)(vals:Nat->Value)(w:World),listed.size=l.toArray.size->oq l.toArray listed<=fuel->0<oq l.toArray listed->gO listed n=false->q3 ws (gO listed)->iq w->ud G dead (gO listed) vals w->
   wpAny P .any l.toArray Q fuel listed (jJ l.toArray vals (gO listed) a l.toArray.size) w:=by
 intro fuel
 induction fuel with
 |zero=>intro listed vals w m O R;omega
 |succ fuel S=>
  intro listed vals w m O R z hC A hF;refine⟨λ h=>by have:=Ba L m h;omega,λ i B=>?_⟩;obtain⟨h1,T,o,p,U⟩:=ue B;have C:i<listed.size:=by omega
  have ah:i<l.length:=by simpa using h1
  have t:l[i]? =some o:=by rw[f_] at p;exact p
  by_cases D:i=n
  ·subst D;have u:∀j,j<i->gO listed j=true:=λ j d=>by
    unfold vD at s;rw[t] at s;simp only[Zx,u_] at s;have b:=s j d;rw[Array.any_eq_true'] at b;obtain⟨e,he,y⟩:=b;simp only[m_,beq_iff_eq] at y;have:=U e he y.1;rw[y.2] at this;exact this
   have V:jJ l.toArray vals (gO listed) a l.toArray.size=jJ l.toArray vals (mm i) a i:=by
    have W:l.toArray.size=i+1:=by simp[hlen]
    rw[W];simp only[jJ];rw[z];simp only[Bool.false_eq_true,if_false];exact zH i λ j d=>by rw[u j d];unfold mm;simp[d]
   rw[V];unfold wpOp;simp only[p];have X:o.guard=none:=by
    unfold qh at q;rw[x_] at q;have:=q o (Zw p);simpa using this
   have hw:Zq o (yielded l.toArray (jJ l.toArray vals (mm i) a i).tmps)=true:=by unfold Zq;rw[X]
   rw[if_pos hw];left;refine(N o vals w t A λ j d Y=>hF j (u j d) λ c E=>by rw[Y] at E;cases E).wp λ v w' Z=>?_
   refine wpAny_done ?_ Z _;rcases aa:j_ .any l.toArray (listed.setIfInBounds i true) with _|⟨k,r⟩
   ·rfl
   ·have hk:k∈j_ .any l.toArray (listed.setIfInBounds i true):=by rw[aa];simp
    obtain⟨b,f,_⟩:=ue hk;exfalso;have ai:k<i+1:=by simpa[hlen] using b
    by_cases e:k=i
    ·subst e;rw[z_,v_ C] at f
     cases f
    ·have g:=u k (by omega);rw[z_,o_ (λ x=>e x.symm)] at f;unfold gO at g;rw[z_] at g;have ab:k<listed.size:=by omega
     rw[y_ ab] at f g;simp at f g;rw[f] at g;cases g
  ·have ad:zF P ds ws old iq G dead i o:=by
    have b:(l.take n)[i]? =some o:=by rw[List.getElem?_take,if_pos (by omega)];exact t
    have:=wC.at M b
    rwa[Zf] at this
   refine J4 H I J q K hold p ad m A hF B hC λ v w' ae af ag=>?_
   have F:gO (listed.setIfInBounds i true) n=false:=by
    rw[oF C];unfold lI;rw[if_neg (λ e=>D e.symm)];exact z
   refine S _ _ w' (by simp[m]) (by have:=A9 (ops:=l.toArray) h1 T;omega) ?_ F af ae ag;rcases Zs (oq l.toArray (listed.setIfInBounds i true)) with b|b
   ·have:=wE (ops:=l.toArray) (listed:=listed.setIfInBounds i true) (by simp[m]) b n (by simp[hlen]);rw[F] at this;cases this
   ·exact b
end
def vE:Code->Nat->Option (List Oper)
 | .region id ops _,k=>if id=k then some ops.toList else none
 | .seq x y,k=>(vE x k).or (vE y k)
 | .cond _ x y,k=>(vE x k).or (vE y k)
 | .block _ x,k=>vE x k
 | .loop x,k=>vE x k
 | .rangeFunc _ _ x y,k=>(vE x k).or (vE y k)
 |_,_=>none
def rV(f:Func)(k:Nat):List Oper:=(f.body.bind λ c=>vE c k).getD []
theorem J6{P:Program}{id:Nat}{Q:Exit->Act->World->Prop}(l:List Oper)(n N:Nat)(ds:List (Option Tmp))(ws:List (List Nat))(old:List (Tmp×Value))(iq:World->Prop)(G:Nat->Value->World->Prop)(dead:Nat->Option Nat)
  (p:ops=l.toArray) (hm:P.follows .mixedOrders=true)
  (h:ds=l.map λ o:Oper=>o.dst) (q:ws=l.map λ o:Oper=>(o.after.toList.filter (n_ .any)).map (·.on)) (hlen:l.length=n+1) (r:sn l.toArray=true) (s:qh l.toArray=true) (t:uJ l.toArray=true) (u:vD l n=true) (x:sq l.toArray N=true)
  (y:a.tmps.size=N) (hold:p0 a.eval old) (z:iq w.drew)
  (A:wC P ds ws old iq G dead 0 (l.take n))
  (ol:Oper) (B:l[n]? =some ol) (C:∀vals w,iq w->(∀j,j<n->dead j=none->G j (vals j) w)->∀f,ot (ds.take n) 0 vals a=f->bD P f.eval ol w λ v w'=>Q .normal (f.put ol.dst v) w'):(Code.region id ops true).wp P Q a w:=by
 subst p;subst y;refine wp_region_any hm ?_;have D:∀o vals w,l[n]? =some o->iq w->(∀j,j<n->dead j=none->G j (vals j) w)->bD P (jJ l.toArray vals (mm n) a n).eval o w λ v w'=>Q .normal ((jJ l.toArray vals (mm n) a n).put o.dst v) w':=by
  intro o vals w d E F;rw[B] at d;injection d with d
  subst d;rw[zG l vals a n n (Zt _) (by omega),<-h];exact C vals w E F _ rfl
 have b:∀k,gO (i_ l.toArray.size false) k=false:=λ k=>by
  unfold gO;rw[z_,Array.getElem?_replicate];split<;>rfl
 have e:a=jJ l.toArray (λ _=>undef) (gO (i_ l.toArray.size false)) a l.toArray.size:=by
  have:∀k,jJ l.toArray (λ _=>undef) (gO (i_ l.toArray.size false)) a k=a:=by
   intro k
   induction k with
   |zero=>rfl
   |succ k H=>
    simp only[jJ];rw[b k,H];simp
  exact(this _).symm
 have m:=J5 (P:=P) (Q:=Q) (a:=a) (iq:=iq) (G:=G) (dead:=dead) q h n hlen r s x t u hold A D l.toArray.size (i_ l.toArray.size false) (λ _=>undef) w.drew (by simp)
  (by unfold oq;exact Nat.le_trans (Zi _ _) (by simp)) ?_ (b n) (λ j i c=>by rw[b j] at c;cases c) z (λ j c=>by rw[b j] at c;cases c)
 ·rw[<-e] at m;exact m
 ·rcases Zs (oq l.toArray (i_ l.toArray.size false)) with g|g
  ·have:=wE (ops:=l.toArray) (listed:=i_ l.toArray.size false) (by simp) g n (by simp[hlen]);rw[b n] at this;cases this
  ·exact g
end
section
open Go.RowKit Go.Shelf
section
variable {base:Nat}{w w':World}{G:Nat}{hs:Nat->ax}{cb:Nat->Nat}{gm:List Value}{cls:Nat->List Value}{n:Nat}{X:Nat->List Value}
theorem kr.wF(h:kr base w G hs cb gm cls n X){r m:Nat}(a:(hs r).n=m)(d:m≠0):∃g,(hs r).A=some ⟨g,0,none⟩/\(hs r).b=some g/\(hs r).v=.slice (some ⟨g,0,none⟩) m (hs r).c:=by
 obtain⟨g,h1,e⟩:=h.rows.addr (r:=r) (by rw[a];exact d);exact⟨g,h1,e,by unfold ax.v;rw[h1,a]⟩
theorem kr.get(h:kr base w G hs cb gm cls n X){r g:Nat}(c:(hs r).b=some g){k:Nat}{v:Value}(a:(X r)[k]? =some v):w.cell? ⟨g,k,none⟩=some v:=by
 have hl:=h.rows.len r;have hk:k<(X r).length:=(List.getElem?_eq_some_iff.1 a).1;rw[h.rows.cell c (by omega)];exact a
theorem kr.kJ(h:kr base w G hs cb gm cls n X){k:Nat}{v:Value}(a:gm[k]? =some v):w.cell? ⟨G,k,none⟩=some v:=by rw[h.box.cell];exact a
end
theorem Bb{k:IntKind}{x y:Int}(h:x=y):Ending.returned (.int k x)=.returned (.int k y):=by rw[h]
theorem sV(l:Int)(w:World)(a: -1000000<=l)(h1:l<=1000000):Calls Tryz.prog 97 #[.int .i64 l] w λ e w'=>e=.returned (.int .i64 (aC l))/\w=w':=by
 have b:wrap64 (-l)= -l:=by unfold wrap64;omega
 rcases Ze l (-l) with h|h
 ·have e:bJ (-l=(aC l:Int)):=U (by unfold aC;omega);go_enter Tryz.func97,Tryz.ntmps97
  go_wp2
  all_goals
   go_ret;exact⟨Bb e.o,rfl⟩
 ·have e:bJ (l=(aC l:Int)):=U (by unfold aC;omega);go_enter Tryz.func97,Tryz.ntmps97
  go_wp2
  all_goals
   go_ret;exact⟨Bb e.o,rfl⟩
theorem C6(l:Int)(w:World)(c: -1000000<=l)(h1:l<=1000000):Calls Tryz.prog 181 #[.int .i64 l] w λ e w'=>e=.returned (.int .i64 (jM l))/\w=w':=by
 by_cases hl:l<0
 ·have a:wrap64 (-2*l)= -2*l:=by unfold wrap64;omega
  have d:wrap64 (-2*l+1)= -2*l+1:=by unfold wrap64;omega
  have b: -2*l+1=(jM l:Int):=by unfold jM;rw[if_pos hl];omega
  go_enter Tryz.func181,Tryz.ntmps181
  go_wp2;go_ret;exact⟨rfl,rfl⟩
 ·have a:wrap64 (2*l)=2*l:=by unfold wrap64;omega
  have b:2*l=(jM l:Int):=by unfold jM;rw[if_neg hl];omega
  go_enter Tryz.func181,Tryz.ntmps181
  go_wp2;go_ret;exact⟨rfl,rfl⟩
theorem J7{base:Nat}{G:Nat}{hs:Nat->ax}{cb:Nat->Nat}{s:aq}(h:jf base w G hs cb s)(l:Int)(d:aC l<s.c.val.length)(f:∀v,aj s.c.val v=0\/aj s.c.val v=1\/aj s.c.val v= -1)(hl:aC l<=65536):
  Calls Tryz.prog 152 #[.pointer (some ⟨G,0,none⟩),.int .i64 l] w λ e w'=>e=.returned (.int .i8 (j9 s.c l))/\w=w':=by
 obtain⟨n,i⟩:∃n,(hs 1).n=n:=⟨_,rfl⟩
 have hlen:=h.rows.len 1;have p:s.c.val.length=n:=by
  have:(cont hs cb s 1).length=s.c.val.length:=by simp[cont,sR]
  rw[this] at hlen;have:nE 1=1:=rfl;rw[this] at hlen;omega
 obtain⟨g,-,u,j⟩:=h.wF (r:=1) i (by omega);have A:w.cell? ⟨G,2,none⟩=some (.slice (some ⟨g,0,none⟩) n (hs 1).c):=h.kJ (by rw[<-j];rfl);obtain⟨x,a⟩:∃x,aj s.c.val (aC l)=x:=⟨_,rfl⟩
 have y:w.cell? ⟨g,aC l,none⟩=some (.int .i8 x):=h.get u (by
  show(sR s.c.val)[aC l]? =_;unfold sR;rw[Zz,k_ d];rw[ng d] at a;rw[a];rfl)
 have q:=f (aC l);rw[a] at q;have z:aC l<n:=by omega
 obtain⟨m,hm⟩:∃m:Nat,aC l=m:=⟨_,rfl⟩
 rw[hm] at y z hl;have B:(m:Int)<(n:Int):=by omega
 by_cases t:l<0
 ·have b:j9 s.c l= -x:=by unfold j9;rw[if_pos t,a]
  have C:wrap64 (-l)=(m:Int):=by unfold wrap64;unfold aC at hm;omega
  obtain rfl:l= -(m:Int):=by unfold aC at hm;omega
  have k:=U b;have D:=U hm;clear h f d i hlen p j a b hm;have E:IntKind.i8.wrap (-x)= -x:=by rcases q with rfl|rfl|rfl<;>rfl
  go_enter Tryz.func152,Tryz.ntmps152
  go_wp2;go_ret;exact⟨Bb k.o.symm,rfl⟩
 ·have b:j9 s.c l=x:=by unfold j9;rw[if_neg t,a]
  obtain rfl:l=(m:Int):=by unfold aC at hm;omega
  have k:=U b;clear h f d i hlen p j a b hm;go_enter Tryz.func152,Tryz.ntmps152
  go_wp2;go_ret;exact⟨Bb k.o.symm,rfl⟩
end
end Go.Proofs.YtogdlkfacflmaaaGreat
