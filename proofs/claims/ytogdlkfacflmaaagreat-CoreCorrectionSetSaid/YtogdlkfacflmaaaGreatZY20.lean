/- Parts of the walk of the solver and its core; no condition. -/
import Derived.Test.YtogdlkfacflmaaaGreatZY19
import Derived.Test.YtogdlkfacflmaaaGreatZY1
namespace Go.Proofs.YtogdlkfacflmaaaGreat
set_option linter.unusedVariables false
set_option linter.unusedSimpArgs false
set_option maxRecDepth 100000
set_option maxHeartbeats 8000000
open _root_.And renaming intro→z_
open _root_.Go.Proofs.Tryz renaming prog→y_
open _root_.List renaming getElem?_cons_zero→x_,getElem?_cons_succ→w_,all_eq_true→o_,mem_append→m_,length_filter_le→k_
open _root_.Go.RowKit.Below renaming refl→v_
open _root_.Go.IntKind renaming wrap_i64→u_,i64→r_
open _root_.Nat renaming zero_le→t_,le_refl→l_
open _root_.Go.Value renaming slice→s_,bool→p_,int→n_
open _root_.Go.World renaming ownsRow_nil→q_,cell?_of_block→j_
open _root_.Int renaming lt_or_le→i_
variable{w W kq bE w0:World}{c k jE c1 kJ c2 aB aU aJ bM aM:Nat}{l core ah:List Int}{m:List Bool}{kK bl A aK aX:Option Addr}{v9:Value}{x kind aW jL:Int}{ls:List (List Int)}
section
open Go.RowKit Go.Lib
theorem P8(n:Nat)(Q:n<=10)(A:Option Addr)(nl cl:Nat)(ls:List (List Int))(A':Option Addr)(z c':Nat)(l:List Int)(w:World)(h:kE w A nl cl ls)(h':aP w A' z c' l)(hl:∀x∈l,gP n x):
  Calls y_ 34 #[.agg #[.int .i64 n,.slice A nl cl],.slice A' z c'] w λ e w'=>e=.returned (.bool (oK n ls l))/\Below w.heap.size w w':=by
 have p:Below w.heap.size w (w.alloc (.cells #[.int .i64 n,.slice A nl cl] 24)):=(v_ _ _).alloc (l_ _) _;have B:=qm.new w n A nl cl;have C:=B.aY;have H:=U (z_ (h.below p) (z_ (h'.below p) (z_ p B)));have R:bF (∀x∈l,gP 60000 x):=U λ x K=>⟨(hl x K).1,by have:=(hl x K).2;omega⟩
 clear h h' p B hl;go_enter Tryz.func34,Tryz.ntmps34
 go_upto_region 1 with fail
 generalize w.alloc (.cells #[.int .i64 n,.slice A nl cl] 24)=W at*;obtain⟨q,r⟩:∃q,(2:Nat)^n=q:=⟨_,rfl⟩
 have L:q<=1024:=by
  have:=Nat.pow_le_pow_right (n:=2) (by omega) Q;rw[r] at this;simpa using this
 have ab:wrap64 ((2:Int)^n)=(q:Int):=by
  have e:(2:Int)^n=((2^n:Nat):Int):=by simp
  rw[e,r];unfold wrap64;omega
 have s:=U (z_ r L);clear r L
 go_wp2_with fail
 go_loopw [5] (λ i V=>∃k:Nat,k<=q/\i=.int .i64 k/\(∀j,j<k->(qN (nX n j) l&&tE n ls (nX n j))=false)/\Below W.heap.size W V) (λ i _=>q-(intOf i).toNat)
 case atStart=>exact⟨0,t_ _,rfl,λ j t=>absurd t (by omega),v_ _ _⟩
 case round=>
  obtain⟨k,hk,rfl,M,D⟩:=hrel;have d:=U (z_ M D);have C:=(H.o.2.2.2.below D).aY;clear M D
  by_cases E:k<q
  ·have S:(k:Int)<(q:Int):=by omega
   have ad:r_.wrap ((k:Int)+1)=(k:Int)+1:=by have:=s.o;rw[u_];omega
   have T:=U (Pd n k wr (by omega) (by have:=s.o;omega));have f:=U E;clear hk E
   go_upto_region 5 with(go_at_call 94;refine T.o.mono ?_;rintro e w1 ⟨F,c1,rfl,N,O⟩;have H1:=U (z_ N (d.o.2.trans (O.mono d.o.2.size)));clear N O)
   have g:=U (I1 F (n+1) c1 (nX n k) A' z c' l w1 H1.o.1 (H.o.2.1.below H1.o.2) R.o)
   cases hu:qN (nX n k) l with
   |false=>
    rw[hu] at g;have v:=U (show(qN (nX n k) l&&tE n ls (nX n k))=false by rw[hu];rfl);clear hu
    go_wp2_with (go_at_call 95;refine g.o.mono ?_;rintro e y ⟨rfl,c⟩;have b:=U (H1.o.2.trans (c.mono H1.o.2.size));clear c)
    go_roundw
    case rel=>
     refine⟨k+1,by have:=f.o;omega,by go_num,λ j t=>?_,b.o⟩;rcases Nat.lt_or_ge j k with h1|h1
     ·exact d.o.1 j h1
     ·obtain rfl:j=k:=by omega
      exact v.o
    case measure=>have:=f.o;simp[intOf];omega
   |true=>
    rw[hu] at g;obtain⟨u,G⟩:∃u,tE n ls (nX n k)=u:=⟨_,rfl⟩
    have v:=U (show(qN (nX n k) l&&tE n ls (nX n k))=u by rw[hu,G];rfl);have P:=U G;clear hu G
    cases u with
    |false=>
     go_wp2_with (first
      |(go_at_call 95;refine g.o.mono ?_;rintro e y ⟨rfl,c⟩;have b:=U (H1.o.2.trans (c.mono H1.o.2.size));have I:=U (IC n A nl cl ls F (n+1) c1 (nX n k) y (H.o.1.below b.o) (H1.o.1.below c));have C:=(H.o.2.2.2.below b.o).aY;have X:=(H.o.2.2.2.below b.o).c1;clear c)
      |(go_at_call 96;refine I.o.mono ?_;rintro e Y ⟨rfl,m⟩;rw[P.o];have J:=U (b.o.trans (m.mono b.o.size));clear m))
     go_roundw
     case rel=>
      refine⟨k+1,by have:=f.o;omega,by go_num,λ j t=>?_,J.o⟩;rcases Nat.lt_or_ge j k with h1|h1
      ·exact d.o.1 j h1
      ·obtain rfl:j=k:=by omega
       exact v.o
     case measure=>have:=f.o;simp[intOf];omega
    |true=>
     go_wp2_with (first
      |(go_at_call 95;refine g.o.mono ?_;rintro e y ⟨rfl,c⟩;have b:=U (H1.o.2.trans (c.mono H1.o.2.size));have I:=U (IC n A nl cl ls F (n+1) c1 (nX n k) y (H.o.1.below b.o) (H1.o.1.below c));have C:=(H.o.2.2.2.below b.o).aY;have X:=(H.o.2.2.2.below b.o).c1;clear c)
      |(go_at_call 96;refine I.o.mono ?_;rintro e Y ⟨rfl,m⟩;rw[P.o];have J:=U (b.o.trans (m.mono b.o.size));clear m))
     go_ret;exact⟨nC (O1 (by rw[s.o.1];exact f.o) v.o).symm,H.o.2.2.1.trans (J.o.mono H.o.2.2.1.size)⟩
  ·have S:¬(k:Int)<(q:Int):=by omega
   have Z:k=q:=by omega
   have aa:=U (show oK n ls l=false from O0 λ j t=>d.o.1 j (by have:=s.o.1;omega));clear hk E Z;go_wp2;go_ret;exact⟨nC aa.o.symm,H.o.2.2.1.trans (d.o.2.mono H.o.2.2.1.size)⟩
theorem pN(r:Bool)(n:Nat)(c:n<=10)(A:Option Addr)(nl cl:Nat)(ls:List (List Int))(A':Option Addr)(b c':Nat)(l:List Int)(w:World)(h:kE w A nl cl ls)(h':aP w A' b c' l)(hl:∀x∈l,gP n x)(d:oK n ls l=r):
  Calls y_ 34 #[.agg #[.int .i64 n,.slice A nl cl],.slice A' b c'] w λ e w'=>e=.returned (.bool r)/\Below w.heap.size w w':=by
 rw[<-d];exact P8 n c A nl cl ls A' b c' l w h h' hl
theorem yE(A:Option Addr)(n c:Nat)(A':Option Addr)(d c':Nat)(l:List Int)(w:World)(h:aP w A n c l)(h':aP w A' d c' l):
  Calls y_ 38 #[.slice A n c,.slice A' d c'] w λ e w'=>e=.returned (.bool true)/\Below w.heap.size w w':=by
 have u:=h.small;have q:d=n:=by rw[<-h'.len,h.len]
 subst q;have H:=U (z_ h h');clear h h';go_enter Tryz.func38,Tryz.ntmps38
 go_wp2
 go_loopw [5] (λ i W=>∃k:Nat,k<=d/\i=.int .i64 k/\Below w.heap.size w W) (λ i _=>d-(intOf i).toNat)
 case atStart=>exact⟨0,t_ _,rfl,v_ _ _⟩
 case round=>
  obtain⟨k,hk,rfl,f⟩:=hrel;have g:=U f
  by_cases j:k<d
  ·have r:(k:Int)<(d:Int):=by omega
   obtain⟨b,off,rfl,s,m⟩:=(H.o.1.below f).cells (by omega);obtain⟨v,y,rfl,t,p⟩:=(H.o.2.below f).cells (by omega);have z:=m k j;have B:=p k j;have C:r_.wrap ((k:Int)+1)=(k:Int)+1:=by rw[u_];omega
   generalize jP l k=x at*;clear m p f s t
   go_upto_region 6 with fail
   go_quiet (fail)
   go_wp2;go_roundw
   case rel=>exact⟨k+1,by omega,by go_num,g.o.trans ((below_drewN wr _).mono g.o.size)⟩
   case measure=>simp[intOf];omega
  ·have r:¬(k:Int)<(d:Int):=by omega
   clear f;go_wp2;go_ret;exact⟨rfl,g.o⟩
theorem I2(A:Option Addr)(n c:Nat)(l:List Int)(w:World)(h:aP w A n c l)(i:Nat)(N:i<n)(O:n<=1000000):
  Calls y_ 37 #[.slice A n c,.int .i64 i] w λ e w'=>∃j c2,e=.returned (.slice j (n-1) c2)/\aP w' j (n-1) c2 (l.eraseIdx i)/\w'.ownsRow w.heap.size 3 1 (.slice j (n-1) c2) (n-1) ((l.eraseIdx i).map (n_ .i64))/\Below w.heap.size w w':=by
 have P:=h.cap;have E:=h.n9;unfold maxLen at E;have Q:(i:Int)<=(c:Int):=by omega
 have R:(i:Int)+1<=(n:Int):=by omega
 have S:(0:Int)<=(i:Int):=by omega
 have T:r_.wrap ((i:Int)+1)=(i:Int)+1:=by rw[u_];omega
 have V:wrap64 ((i:Int)+1)=(i:Int)+1:=by unfold wrap64;omega
 have H:=U h;have F:=U (h.take (k:=i) (by omega));have t:=h.cut (k:=i+1) (by omega);have u:=h.len;obtain⟨b,off,rfl,G,I⟩:=h.cells (by omega);have v:bF (aP w (if c=i+1 then some ⟨b,off,none⟩ else some ⟨b,off+(i+1),none⟩) (n-(i+1)) (c-(i+1)) (l.drop (i+1))):=U (by
  by_cases e:c=i+1
  ·rw[if_pos e];exact aP.zero (by omega) (by rw[List.length_drop];omega) (by unfold maxLen;omega)
  ·rw[if_neg e];exact t)
 have W:=U u;clear t u G I h;go_enter Tryz.func37,Tryz.ntmps37
 go_upto_region 3 with(at_builtin;refine rB rfl (.tmp 6) (.tmp 9) rfl w.heap.size (.slice none 0 0) 0 [] rfl (q_ _ _ _ _) _ i c (l.take i) rfl F.o (by omega) (l_ _) ?_;intro v1 w1 f;obtain⟨⟨y,d,c1⟩,J,z⟩:=ay.kZ f.1;obtain rfl:v1=.slice y d c1:=J;have p:=U f;have K:=U z;clear f z)
 obtain rfl:d=i:=by have h1:d=0+i:=K.o;omega
 have B:Below w.heap.size w w1:=tn (v_ _ _) p.o.2.1 (l_ _) (λ g e=>by cases e);have m:=U B;clear B;have q:bF (aP w (if c=d+1 then some ⟨b,off,none⟩ else some ⟨b,off+(d+1),none⟩) (n-(d+1)) (c-(d+1)) (l.drop (d+1))):=v;clear v
 by_cases e:c=d+1
 all_goals
  first
   |rw[if_pos e,show c-(d+1)=0 by omega] at q
   |rw[if_neg e] at q
  go_wp2_with (at_builtin;(refine rB rfl (.tmp 11) (.tmp 15) rfl w.heap.size (.slice y d c1) d (l.take d) rfl (by have h1:=p.o.1;rw[List.nil_append,Nat.zero_add] at h1;exact h1) _ _ _ (l.drop (d+1)) rfl (q.o.below m.o) (by omega) m.o.size ?_;intro v2 X f;obtain⟨⟨j,r,c2⟩,L,C⟩:=ay.kZ f.1;obtain rfl:v2=.slice j r c2:=L;have D:=U f;have M:=U C;clear f C))
  obtain rfl:r=n-1:=by have h1:r=d+(n-(d+1)):=M.o;omega
  go_ret;have s:=D.o.1;rw[show d+(n-(d+1))=n-1 by omega,<-List.eraseIdx_eq_take_drop_succ] at s;exact⟨j,c2,rfl,aP.kZ s (by omega),s,tn m.o D.o.2.1 m.o.size (λ g e=>by
   have h1:=p.o.1;rw[Nat.zero_add] at h1;exact(h1.lt g e).1)⟩
theorem aP.one{b off n:Nat}(h:aP w (some ⟨b,off,none⟩) n c l){i:Nat}(d:i<n):aP w (some ⟨b,off+i,none⟩) 1 (c-i) [jP l i]:=by
 obtain⟨o,p,e,f,g⟩:=h.cells (by omega);injection e with e
 injection e with k m _
 subst k m;have q:=h.cap;have r:=h.n9;refine⟨rfl,by omega,by omega,by omega,λ _=>⟨b,off+i,rfl,f,λ j s=>?_⟩⟩;obtain rfl:j=0:=by omega
 exact g i d
structure yF(w:World)(m:List Bool)(l:List Int)(k:Nat)(kK:Option Addr)(jE c1:Nat)(bl:Option Addr)(kJ c2:Nat)(W:World):Prop where
 CO:jE=(rU m (l.take k)).length
 CP:kJ=(sk m (l.take k)).length
 j6:W.ownsRow w.heap.size 3 1 (.slice kK jE c1) jE ((rU m (l.take k)).map (n_ .i64))
 lu:W.ownsRow w.heap.size 3 1 (.slice bl kJ c2) kJ ((sk m (l.take k)).map (n_ .i64))
 ne:∀g,(s_ kK jE c1).ownBlock=some g->(s_ bl kJ c2).ownBlock≠some g
 jU:Below w.heap.size w W
theorem P9(h:k<l.length):rU m (l.take (k+1))=rU m (l.take k)++(if qN m [jP l k] then [jP l k] else []):=by
 unfold rU;rw[vn l k h,List.filter_append]
 congr 1
 cases e:qN m [jP l k]<;>simp[e]
theorem Qa(h:k<l.length):sk m (l.take (k+1))=sk m (l.take k)++(if qN m [jP l k] then [] else [jP l k]):=by
 unfold sk;rw[vn l k h,List.filter_append]
 congr 1
 cases e:qN m [jP l k]<;>simp[e]
theorem I3(m:List Bool)(l:List Int):(rU m l).length<=l.length:=k_ _ _
theorem I4(m:List Bool)(l:List Int):(sk m l).length<=l.length:=k_ _ _
theorem yF.Qb(S:yF w m l k kK jE c1 bl kJ c2 W)(j:Below W.heap.size W kq)(c:mY kq w.heap.size 3 (.slice kK jE c1) (jE+1) ((rU m (l.take k)++[x]).map (n_ .i64)) v9 bE)(n:rU m (l.take (k+1))=rU m (l.take k)++[x])(o:sk m (l.take (k+1))=sk m (l.take k)):
  ∃d f,v9=.slice d (jE+1) f/\yF w m l (k+1) d (jE+1) f bl kJ c2 bE:=by
 obtain⟨⟨d,kf,f⟩,q,r⟩:=ay.kZ c.1;obtain rfl:kf=jE+1:=r;obtain rfl:v9=.slice d (jE+1) f:=q;have lu:=mh S.lu j;have p:=S.jU.trans (j.mono S.jU.size);refine⟨d,f,rfl,⟨by rw[n,S.CO];simp,by rw[o,S.CP],by rw[n];exact c.1,by rw[o];exact o6 lu (λ b e=>c.2.1.block b (lu.lt b e).2 (λ i=>S.ne b i.symm e)),λ g e i=>?_,tn p c.2.1 p.size (λ g e=>((mh S.j6 j).lt g e).1)⟩⟩;rcases c.2.2 with h1|h1
 ·rw[h1] at e;exact S.ne g e i
 ·rw[h1] at e;injection e with e
  have:=(lu.lt g i).2;omega
theorem yF.Qc(S:yF w m l k kK jE c1 bl kJ c2 W)(j:Below W.heap.size W kq)(d:mY kq w.heap.size 3 (.slice bl kJ c2) (kJ+1) ((sk m (l.take k)++[x]).map (n_ .i64)) v9 bE)(n:sk m (l.take (k+1))=sk m (l.take k)++[x])(o:rU m (l.take (k+1))=rU m (l.take k)):
  ∃f i,v9=.slice f (kJ+1) i/\yF w m l (k+1) kK jE c1 f (kJ+1) i bE:=by
 obtain⟨⟨f,kf,i⟩,q,r⟩:=ay.kZ d.1;obtain rfl:kf=kJ+1:=r;obtain rfl:v9=.slice f (kJ+1) i:=q;have j6:=mh S.j6 j;have p:=S.jU.trans (j.mono S.jU.size);refine⟨f,i,rfl,⟨by rw[o,S.CO],by rw[n,S.CP];simp,by rw[o];exact o6 j6 (λ b e=>d.2.1.block b (j6.lt b e).2 (λ c=>S.ne b e c.symm)),by rw[n];exact d.1,λ g e c=>?_,tn p d.2.1 p.size (λ g e=>((mh S.lu j).lt g e).1)⟩⟩;rcases d.2.2 with h1|h1
 ·rw[h1] at c;exact S.ne g e c
 ·rw[h1] at c;injection c with c
  have:=(j6.lt g e).2;omega
theorem I5(N:Option Addr)(O P:Nat)(m:List Bool)(A:Option Addr)(n c:Nat)(l:List Int)(w:World)(hm:kN w N O P m)(h:aP w A n c l)(hl:∀x∈l,gP 60000 x)(ar:n<=1000):
  Calls y_ 39 #[.slice N O P,.slice A n c] w λ e w'=>∃j c1 p c2,e=.returned (.tuple #[.slice j (rU m l).length c1,.slice p (sk m l).length c2])/\aP w' j (rU m l).length c1 (rU m l)/\aP w' p (sk m l).length c2 (sk m l)/\Below w.heap.size w w':=by
 have H:=U (z_ hm h);have B:=U (z_ hl (z_ h.len h.cap));obtain⟨ys,Q⟩:∃y,rU m l=y:=⟨_,rfl⟩
 obtain⟨aj,R⟩:∃y,sk m l=y:=⟨_,rfl⟩
 rw[Q,R];have K:=U (z_ Q R);clear hm h hl Q R;go_enter Tryz.func39,Tryz.ntmps39
 go_wp2
 go_loopw [8,6,7] (λ i q r W=>∃(k:Nat)(j:Option Addr)(t c1:Nat)(p:Option Addr)(u c2:Nat),k<=n/\i=.int .i64 k/\q=.slice j t c1/\r=.slice p u c2/\yF w m l k j t c1 p u c2 W) (λ i _ _ _=>n-(intOf i).toNat)
 case atStart=>exact⟨0,none,0,0,none,0,0,t_ _,rfl,rfl,rfl,⟨rfl,rfl,q_ _ _ _ _,q_ _ _ _ _,λ g e=>(by cases e),v_ _ _⟩⟩
 case round=>
  obtain⟨k,j,t,c1,p,u,c2,hk,rfl,rfl,rfl,d⟩:=hrel;have S:=U d
  by_cases C:k<n
  ·have ak:(k:Int)<(n:Int):=by omega
   have au:(k:Int)+1<=(n:Int):=by omega
   have av:(k:Int)<=(k:Int)+1:=by omega
   have aw:r_.wrap ((k:Int)+1)=(k:Int)+1:=by rw[u_];omega
   have ax:wrap64 ((k:Int)+1)=(k:Int)+1:=by unfold wrap64;omega
   have ay:=B.o.2.2;have az:¬c=k:=by omega
   have aA:(k:Int)+1<=(c:Int):=by omega
   obtain⟨b,off,rfl,al,af⟩:=(H.o.2.below d.jU).cells (by omega);have D:=af k C;have E:k<l.length:=by rw[B.o.2.1];exact C
   have T:=I1 N O P m (some ⟨b,off+k,none⟩) 1 (c-k) [jP l k] wr (H.o.1.below d.jU) ((H.o.2.below d.jU).one C) (λ y f=>by rw[List.mem_singleton.1 f];exact B.o.1 _ (ue E));have f:=P9 (m:=m) E;have s:=Qa (m:=m) E;obtain⟨x,ag⟩:∃x,jP l k=x:=⟨_,rfl⟩
   rw[ag] at D T f s;have L:=U T;have M:=U (z_ E C);clear af al T E C hk d ag
   cases hu:qN m [x] with
   |true=>
    rw[hu] at L f s;simp only[if_true,List.append_nil] at f s;have F:=U (z_ f s);clear hu f s
    go_upto_region 7 with(go_at_call 95;refine L.o.mono ?_;rintro e w1 ⟨rfl,v⟩;have H1:=U v;have an:=(j_ (a:=⟨b,off+k,none⟩) (v.block b (yC D))).trans D;clear v)
    have G:aP (w1.alloc (lH [x])) (some ⟨w1.heap.size,0,none⟩) 1 1 [x]:=aP.lit w1 [x] 1 _ rfl rfl (by omega);have V:=U G;have z:=U (H1.o.trans ((bC w1 (lH [x])).mono H1.o.size));have ao:t<=1000:=by rw[S.o.CO];have h1:=I3 m (l.take k);have X:=List.length_take_le k l;omega
    have Y:=U (mh S.o.j6 z.o);have Z:=U (Nat.le_trans S.o.jU.size z.o.size);clear G
    go_wp2_with (at_builtin;refine rB rfl (.tmp 22) (.tmp 27) rfl w.heap.size (.slice j t c1) t (rU m (l.take k)) rfl Y.o (some ⟨w1.heap.size,0,none⟩) 1 1 [x] rfl V.o (by omega) Z.o ?_;intro v9 bE I;obtain⟨aa,ab,rfl,J⟩:=S.o.Qb z.o I F.o.1 F.o.2;have ad:=U J;clear I J)
    go_roundw
    case rel=>exact⟨k+1,aa,t+1,ab,p,u,c2,by have:=M.o;omega,by go_num,rfl,rfl,ad.o⟩
    case measure=>have:=M.o;simp[intOf];omega
   |false=>
    rw[hu] at L f s;simp only[Bool.false_eq_true,if_false,List.append_nil] at f s;have F:=U (z_ f s);clear hu f s
    go_upto_region 8 with(go_at_call 95;refine L.o.mono ?_;rintro e w1 ⟨rfl,v⟩;have H1:=U v;have an:=(j_ (a:=⟨b,off+k,none⟩) (v.block b (yC D))).trans D;clear v)
    have G:aP (w1.alloc (lH [x])) (some ⟨w1.heap.size,0,none⟩) 1 1 [x]:=aP.lit w1 [x] 1 _ rfl rfl (by omega);have V:=U G;have z:=U (H1.o.trans ((bC w1 (lH [x])).mono H1.o.size));have ao:u<=1000:=by rw[S.o.CP];have h1:=I4 m (l.take k);have X:=List.length_take_le k l;omega
    have Y:=U (mh S.o.lu z.o);have Z:=U (Nat.le_trans S.o.jU.size z.o.size);clear G
    go_wp2_with (at_builtin;refine rB rfl (.tmp 29) (.tmp 34) rfl w.heap.size (.slice p u c2) u (sk m (l.take k)) rfl Y.o (some ⟨w1.heap.size,0,none⟩) 1 1 [x] rfl V.o (by omega) Z.o ?_;intro v9 bE I;obtain⟨aa,ab,rfl,J⟩:=S.o.Qc z.o I F.o.2 F.o.1;have ad:=U J;clear I J)
    go_roundw
    case rel=>exact⟨k+1,j,t,c1,aa,u+1,ab,by have:=M.o;omega,by go_num,rfl,rfl,ad.o⟩
    case measure=>have:=M.o;simp[intOf];omega
  ·have ak:¬(k:Int)<(n:Int):=by omega
   have ae:l.take k=l:=List.take_of_length_le (by have:=B.o.2.1;omega);have ah:=d.CO;have ai:=d.CP;have j6:=d.j6;have lu:=d.lu;rw[ae,K.o.1] at ah j6;rw[ae,K.o.2] at ai lu;subst ah ai;have h1:ys.length<=1000:=by rw[<-K.o.1];have h1:=I3 m l;have:=B.o.2.1;omega
   have X:aj.length<=1000:=by rw[<-K.o.2];have h1:=I4 m l;have:=B.o.2.1;omega
   have aq:=U (z_ (aP.kZ j6 (by omega)) (z_ (aP.kZ lu (by omega)) d.jU));clear j6 lu d ae h1 X;go_wp2
   go_ret2
   exact⟨j,c1,p,c2,rfl,aq.o⟩
theorem mY.open{w':World}{base:Nat}{e:TypeId}{v v':Value}{ys:List Value}(b:mY w base e v k ys v' w')(d:Below base w0 w)(hs:base<=w.heap.size)(f:∀g,v.ownBlock=some g->base<=g):∃A c,v'=.slice A k c/\w'.ownsRow base e 1 (.slice A k c) k ys/\Below base w0 w':=by
 obtain⟨⟨A,n,c⟩,i,j⟩:=ay.kZ b.1;obtain rfl:n=k:=j;obtain rfl:v'=.slice A n c:=i;exact⟨A,c,rfl,b.1,tn d b.2.1 hs f⟩
def vM(w:World)(x:Int)(nl b nq:Nat)(e:Ending)(w':World):Prop:=∃r,e=.returned (.bool r)/\Below w.heap.size w w'/\(r=true->x<=10/\nl<=60/\b<=20/\nq<=20)
theorem xN(x:Int)(A:Option Addr)(nl cl:Nat)(ls:List (List Int))(v:Option Addr)(c y:Nat)(z:Option Addr)(nq B:Nat)(w:World)(h:kE w A nl cl ls):
  Calls y_ 27 #[.agg #[.int .i64 x,.slice A nl cl],.slice v c y,.slice z nq B] w (vM w x nl c nq):=by
 have I:=h.small;have l:Below w.heap.size w (w.alloc (.cells #[.int .i64 x,.slice A nl cl] 24)):=(v_ _ _).alloc (l_ _) _;have m:=qm.new w x A nl cl;generalize p:w.alloc (.cells #[.int .i64 x,.slice A nl cl] 24)=W at l m;have J:=m.aY;have K:=m.c1;have q:=U (z_ l (h.below l));clear h l m;go_enter Tryz.func27,Tryz.ntmps27
 go_upto_region 1 with fail
 try rw[p]
 clear p
 go_wp2_with fail
 go_loop [7] (λ i=>∃k:Nat,k<=nl/\i=.int .i64 k) (λ i=>nl-(intOf i).toNat)
 case atStart=>exact⟨0,t_ _,rfl⟩
 case round=>
  obtain⟨k,hk,rfl⟩:=hrel;have last:∀{P:Prop},(∀h:x<=10\/¬x<=10,∀d:nl<=60\/¬nl<=60,∀g:c<=20\/¬c<=20,∀j:nq<=20\/¬nq<=20,P)->P:=λ f=>f (by omega) (by omega) (by omega) (by omega)
  have fin:bF (∀(r:Bool),(r=true->x<=10/\nl<=60/\c<=20/\nq<=20)->vM w x nl c nq (Ending.returned (.bool r)) W):=U λ r C=>⟨r,rfl,q.o.1,C⟩
  by_cases s:k<nl/\k<60
  ·have t:(k:Int)<(nl:Int):=by omega
   have D:(k:Int)<60:=by omega
   obtain⟨b,off,rfl,E,u⟩:=q.o.2.cells (by omega);obtain⟨a1,n,c1,L,F⟩:=u k s.1;have M:r_.wrap ((k:Int)+1)=(k:Int)+1:=by rw[u_];omega
   clear u F E last
   by_cases N:30<n
   ·have G:(30:Int)<(n:Int):=by omega
    go_wp2;go_ret;exact fin.o false (λ e=>by cases e)
   ·have G:¬(30:Int)<(n:Int):=by omega
    go_wp2
    go_round
    case rel=>exact⟨k+1,by omega,by go_num⟩
    case measure=>simp[intOf];omega
  ·have H:(¬(k:Int)<(nl:Int))\/((k:Int)<(nl:Int)/\¬(k:Int)<60):=by omega
   refine last λ h1 d g j=>?_
   clear last s;rcases H with t|⟨t,D⟩
   ·rcases h1 with h1|h1
    ·rcases d with d|d
     ·have m2:(nl:Int)<=60:=by omega
      rcases g with g|g
      ·have m3:(c:Int)<=20:=by omega
       rcases j with j|j
       ·have m4:(nq:Int)<=20:=by omega
        go_wp2;go_ret;exact fin.o _ (λ _=>⟨h1,d,g,j⟩)
       ·have m4:¬(nq:Int)<=20:=by omega
        go_wp2;go_ret;exact fin.o false (λ e=>by cases e)
      ·have m3:¬(c:Int)<=20:=by omega
       go_wp2;go_ret;exact fin.o false (λ e=>by cases e)
     ·have m2:¬(nl:Int)<=60:=by omega
      go_wp2;go_ret;exact fin.o false (λ e=>by cases e)
    ·go_wp2;go_ret;exact fin.o false (λ e=>by cases e)
   ·have m2:¬(nl:Int)<=60:=by omega
    rcases h1 with h1|h1
    ·go_wp2;go_ret;exact fin.o false (λ e=>by cases e)
    ·go_wp2;go_ret;exact fin.o false (λ e=>by cases e)
def oh:List (List Int):=[[-1,-2]]
theorem CQ:lS 3 oh=0:=by decide
theorem A4(hl:∀x∈l,gP 3 x):oK 3 oh l=true↔Can oh l:=Ej CQ hl
def zJ:List Int->List (List Int)
 |[]=> [[]]
 |x::l=>zJ l++(zJ l).map (x::·)
theorem CR:∀{l s:List Int},s.Sublist l->s∈zJ l
 |_,_,.slnil=>by simp[zJ]
 |_,_,.cons a h=>m_.2 (.inl (CR h))
 |_,_,.cons_cons a h=>m_.2 (.inr (List.mem_map.2 ⟨_,CR h,rfl⟩))
theorem xO(h:l.all (vI 3)=true):∀x∈l,gP 3 x:=λ x b=>by
 have:=o_.1 h x b;unfold vI at this;rw[Bool.and_eq_true,decide_eq_true_eq,decide_eq_true_eq] at this;exact⟨this.1,by unfold aD;omega⟩
theorem Qd(h:si oh 3 [1,2,3] 1073741824 kind m core aB):kind=2/\core=[1,2]:=by
 obtain⟨_,⟨_,_,e⟩|⟨h1,_,hs,hu,f⟩|⟨_,_,_,d,_⟩⟩:=h
 ·have h1:=(A4 (l:=[1,2,3]) (xO (by decide))).2 e.can;exact absurd h1 (by decide)
 ·refine⟨h1,?_⟩;have g:oK 3 oh core=false:=zC CQ (λ x b=>xO (l:=[1,2,3]) (by decide) x (hs.subset b)) hu;have i:∀j,j<core.length->oK 3 oh (core.eraseIdx j)=true:=λ j c=>AU CQ (λ x b=>xO (l:=[1,2,3]) (by decide) x (hs.subset (List.mem_of_mem_eraseIdx b))) (f j c)
  have k:=CR hs;have d:∀s∈zJ [1,2,3],oK 3 oh s=false->((List.range s.length).all λ j=>oK 3 oh (s.eraseIdx j))=true->s=[1,2]:=by decide
  exact d core k g (o_.2 λ j c=>i j (List.mem_range.1 c))
 ·omega
theorem Qe(h:si oh 3 [1,3] 1073741824 kind m core aB):kind=1/\m.length=4/\iY m 1=true/\iY m 3=true/\iY m 2=false:=by
 obtain⟨_,⟨h1,_,b⟩|⟨_,_,hs,hu,e⟩|⟨_,_,_,f,_⟩⟩:=h
 ·have t1:iY m 1=true:=b.ah 1 (by simp);have t3:iY m 3=true:=b.ah 3 (by simp);refine⟨h1,b.len,t1,t3,?_⟩;obtain⟨x,c,d⟩:=b.sat [-1,-2] (by simp[oh]);simp at c;rcases c with rfl|rfl
  ·have:(!(iY m 1))=true:=d;rw[t1] at this;cases this
  ·have:(!(iY m 2))=true:=d;simpa using this
 ·exact absurd (((A4 (l:=[1,3]) (xO (by decide))).1 (by decide)).mono λ x c=>hs.subset c) hu
 ·omega
theorem Qf(h:tX oh 3 [1] [2,3] 1073741824 kind m core aB):kind=1/\m.length=4/\core=[2]/\iY m 1=true/\iY m 3=true:=by
 obtain⟨_,⟨h1,c,d,hw⟩|⟨_,_,hs,hu⟩|⟨_,_,j,_⟩⟩:=h
 ·have t1:iY m 1=true:=c.ah 1 (by simp);have t2:iY m 2=false:=by
   obtain⟨x,b,e⟩:=c.sat [-1,-2] (by simp[oh]);simp at b;rcases b with rfl|rfl
   ·have:(!(iY m 1))=true:=e;rw[t1] at this;cases this
   ·have:(!(iY m 2))=true:=e;simpa using this
  have f:kr m 2=false:=t2;have t3:kr m 3=true:=by
   cases g:kr m 3 with
   |true=>rfl
   |false=>
    exfalso;have i:=hw 3 (by rw[d];simp[g]);refine i (((A4 (l:=[1,3]) (xO (by decide))).1 (by decide)).mono λ x b=>?_);simpa[f,g] using b
  refine⟨h1,c.len,?_,t1,t3⟩;rw[d];simp[f,t3]
 ·exact absurd (((A4 (l:=[1]) (xO (by decide))).1 (by decide)).mono λ x b=>hs.subset b) hu
 ·omega
theorem Qg(h:tX oh 3 [2,1] [3] 1073741824 kind m core aB):kind=2/\core=[2,1]:=by
 obtain⟨_,⟨_,c,f,hw⟩|⟨h1,_,hs,hu⟩|⟨_,_,b,_⟩⟩:=h
 ·have h1:=(A4 (l:=[2,1]) (xO (by decide))).2 c.can;exact absurd h1 (by decide)
 ·refine⟨h1,?_⟩;have d:oK 3 oh core=false:=zC CQ (λ x e=>xO (l:=[2,1]) (by decide) x (hs.subset e)) hu;have b:∀s∈zJ [2,1],oK 3 oh s=false->s=[2,1]:=by decide
  exact b core (CR hs) d
 ·omega
structure CS(w:World)(x:Int)(ls:List (List Int))(ah:List Int)(aW:Int)(kind:Int)(aK:Option Addr)(aU aJ:Nat)(aX:Option Addr)(bM aM:Nat)(aB:Nat)(m:List Bool)(core:List Int)(jL:Int)(W:World):Prop where
 he:kU x ls ah aW=jL
 hm:kN W aK aU aJ m
 aC:aP W aX bM aM core
 bad:jL≠0->kind=0/\s_ aK aU aJ=.slice none 0 0/\s_ aX bM aM=.slice none 0 0/\aB=0
 yG:jL=0->si ls x.toNat ah aW.toNat kind m core aB
 jU:Below w.heap.size w W
theorem sS(x:Int)(y:x<=10)(A:Option Addr)(nl cl:Nat)(ls:List (List Int))(d:Option Addr)(nq f:Nat)(ah:List Int)(c:Int)(w:World)(h:kE w A nl cl ls)(q:aP w d nq f ah)(hw:mq ah)(hlen:nq<=1000)(z:nl<=40000):
  Calls y_ 28 #[.agg #[.int .i64 x,.slice A nl cl],.slice d nq f,.int .i64 c] w λ e W=>∃(kind:Int)(g:Option Addr)(i j:Nat)(k:Option Addr)(l o p:Nat)(m:List Bool)(core:List Int)(r:Int),e=.returned (.tuple #[.agg #[.int .i64 kind,.slice g i j,.slice k l o,.int .i64 (p:Int)],.int .i64 r])/\CS w x ls ah c kind g i j k l o p m core r W:=by
 have hl:=q.len;have B:=h.len
 by_cases he:kU x ls ah c=0
 ·obtain⟨s,hm,C,D⟩:=vg he;have E:0<=x:=by
   rcases i_ x 0 with h1|h1
   ·rw[yJ (.inl h1)] at s;cases s
   ·exact h1
  obtain⟨n,rfl⟩:∃n:Nat,x=n:=⟨x.toNat,by omega⟩
  obtain⟨b,rfl⟩:∃b:Nat,c=b:=⟨c.toNat,by omega⟩
  refine(PS n (by omega) A nl cl ls d nq f ah b w h q hw (by omega) (by omega) he).mono ?_;rintro e W ⟨kind,g,i,j,k,l,o,p,m,core,rfl,h1,t,u,v⟩;exact⟨kind,g,i,j,k,l,o,p,m,core,0,rfl,⟨he,h1,t,λ h=>absurd rfl h,λ _=>u,v⟩⟩
 ·refine(A0 x A nl cl ls d nq f ah c w h q hw (by omega) _ rfl he).mono ?_;rintro e W ⟨rfl,h1⟩;exact⟨0,none,0,0,none,0,0,0,[],[],_,rfl,⟨rfl,kN.xL _,aP.nil _ _ _ (t_ _),λ _=>⟨rfl,rfl,rfl,rfl⟩,λ h=>absurd h he,h1⟩⟩
structure CT(w:World)(x:Int)(ls:List (List Int))(keep ah:List Int)(aW:Int)(kind:Int)(aK:Option Addr)(aU aJ:Nat)(aX:Option Addr)(bM aM:Nat)(aB:Nat)(m:List Bool)(core:List Int)(jL:Int)(W:World):Prop where
 he:kU x ls (keep++ah) aW=jL
 hm:kN W aK aU aJ m
 aC:aP W aX bM aM core
 bad:jL≠0->kind=0/\s_ aK aU aJ=.slice none 0 0/\s_ aX bM aM=.slice none 0 0/\aB=0
 yG:jL=0->tX ls x.toNat keep ah aW.toNat kind m core aB
 jU:Below w.heap.size w W
theorem wH(x:Int)(C:x<=10)(A:Option Addr)(nl cl:Nat)(ls:List (List Int))(f:Option Addr)(d g:Nat)(keep:List Int)(i:Option Addr)(nq j:Nat)(ah:List Int)(c:Int)(w:World)(h:kE w A nl cl ls)(hk:aP w f d g keep)(t:aP w i nq j ah)(hw:mq (keep++ah))(hlen:d+nq<=900)(D:nl<=40000):
  Calls y_ 29 #[.agg #[.int .i64 x,.slice A nl cl],.slice f d g,.slice i nq j,.int .i64 c] w λ e W=>∃(kind:Int)(k:Option Addr)(l o:Nat)(p:Option Addr)(q r s:Nat)(m:List Bool)(core:List Int)(u:Int),e=.returned (.tuple #[.agg #[.int .i64 kind,.slice k l o,.slice p q r,.int .i64 (s:Int)],.int .i64 u])/\CT w x ls keep ah c kind k l o p q r s m core u W:=by
 have hl:=t.len;have E:=hk.len;have F:=h.len;have hle:(keep++ah).length<=900:=by rw[List.length_append];omega
 by_cases he:kU x ls (keep++ah) c=0
 ·obtain⟨v,hm,G,H⟩:=vg he;have I:0<=x:=by
   rcases i_ x 0 with h1|h1
   ·rw[yJ (.inl h1)] at v;cases v
   ·exact h1
  obtain⟨n,rfl⟩:∃n:Nat,x=n:=⟨x.toNat,by omega⟩
  obtain⟨b,rfl⟩:∃b:Nat,c=b:=⟨c.toNat,by omega⟩
  refine(P5 n (by omega) A nl cl ls f d g keep i nq j ah b w h hk t hw hle (by omega) he).mono ?_;rintro e W ⟨kind,k,l,o,p,q,r,s,m,core,rfl,h1,y,z,B⟩;exact⟨kind,k,l,o,p,q,r,s,m,core,0,rfl,⟨he,h1,y,λ h=>absurd rfl h,λ _=>z,B⟩⟩
 ·refine(A2 x A nl cl ls f d g keep i nq j ah c w h hk t hw (by omega) _ rfl he).mono ?_;rintro e W ⟨rfl,h1⟩;exact⟨0,none,0,0,none,0,0,0,[],[],_,rfl,⟨rfl,kN.xL _,aP.nil _ _ _ (t_ _),λ _=>⟨rfl,rfl,rfl,rfl⟩,λ h=>absurd h he,h1⟩⟩
theorem zK(h:l.all (λ x=>decide (-9223372036854775808<=x/\x<=9223372036854775807))=true):mq l:=λ x b=>of_decide_eq_true (o_.1 h x b)
theorem EP(q:kE w0 A 1 c oh)(l:List Int)(n:Nat)(r:l.length=n)(hw:mq l)(hl:n<=1000)(w:World)(s:Below w0.heap.size w0 w):
  Calls y_ 28 #[.agg #[.int .i64 3,.slice A 1 c],.slice (some ⟨w.heap.size,0,none⟩) n n,.int .i64 1073741824] (w.alloc (lH l)) λ e W=>∃(kind:Int)(b:Option Addr)(d f:Nat)(g:Option Addr)(i j k:Nat)(m:List Bool)(core:List Int)(o:Int),e=.returned (.tuple #[.agg #[.int .i64 kind,.slice b d f,.slice g i j,.int .i64 (k:Int)],.int .i64 o])/\CS (w.alloc (lH l)) 3 oh l 1073741824 kind b d f g i j k m core o W/\Below w.heap.size w W:=by
 have h1:=bC w (lH l);refine(sS 3 (by omega) A 1 c oh _ n n l 1073741824 (w.alloc (lH l)) ((q.below s).below h1) (aP.lit w l n _ r rfl hl) hw hl (by omega)).mono ?_;rintro e W ⟨kind,b,d,f,g,i,j,k,m,core,o,rfl,p⟩;exact⟨kind,b,d,f,g,i,j,k,m,core,o,rfl,p,h1.trans (p.jU.mono h1.size)⟩
theorem ER(v:kE w0 A 1 c oh)(k l:List Int)(b n:Nat)(hk:k.length=b)(y:l.length=n)(hw:mq (k++l))(hl:b+n<=900)(w:World)(z:Below w0.heap.size w0 w)(w1:World)(t:w1=w.alloc (lH k))(s:Nat)(hs:s=w1.heap.size):
  Calls y_ 29 #[.agg #[.int .i64 3,.slice A 1 c],.slice (some ⟨w.heap.size,0,none⟩) b b,.slice (some ⟨s,0,none⟩) n n,.int .i64 1073741824] (w1.alloc (lH l)) λ e W=>∃(kind:Int)(d:Option Addr)(f g:Nat)(i:Option Addr)(j o p:Nat)(m:List Bool)(core:List Int)(q:Int),e=.returned (.tuple #[.agg #[.int .i64 kind,.slice d f g,.slice i j o,.int .i64 (p:Int)],.int .i64 q])/\CT (w1.alloc (lH l)) 3 oh k l 1073741824 kind d f g i j o p m core q W/\Below w.heap.size w W:=by
 subst hs;have r:Below w.heap.size w w1:=t▸bC w (lH k);have B:aP w1 (some ⟨w.heap.size,0,none⟩) b b k:=t▸aP.lit w k b _ hk rfl (by omega);have h1:=bC w1 (lH l);refine(wH 3 (by omega) A 1 c oh _ b b k _ n n l 1073741824 (w1.alloc (lH l)) (((v.below z).below r).below h1) (B.below h1) (aP.lit w1 l n _ y rfl (by omega)) hw hl (by omega)).mono ?_;rintro e W ⟨kind,d,f,g,i,j,o,p,m,core,q,rfl,u⟩;exact⟨kind,d,f,g,i,j,o,p,m,core,q,rfl,u,r.trans ((h1.trans (u.jU.mono h1.size)).mono r.size)⟩
structure I6(w:World)(kind:Int)(aK:Option Addr)(aU aJ:Nat)(aX:Option Addr)(bM aM:Nat)(m:List Bool)(core:List Int)(W:World):Prop where
 hm:kN W aK aU aJ m
 aC:aP W aX bM aM core
 jU:Below w.heap.size w W
theorem Qh(l:kE w0 A 1 c oh)(w:World)(n:Below w0.heap.size w0 w):
  Calls y_ 28 #[.agg #[.int .i64 3,.slice A 1 c],.slice (some ⟨w.heap.size,0,none⟩) 3 3,.int .i64 1073741824] (w.alloc (.cells #[.int .i64 1,.int .i64 2,.int .i64 3] 3)) λ e W=>∃(d:Option Addr)(f g:Nat)(i:Option Addr)(j k:Nat)(m:List Bool),e=.returned (.tuple #[.agg #[.int .i64 2,.slice d f g,.slice i 2 j,.int .i64 (k:Int)],.int .i64 0])/\I6 w 2 d f g i 2 j m [1,2] W:=by
 refine(EP l [1,2,3] 3 rfl (zK (by decide)) (by omega) w n).mono ?_;rintro e W ⟨kind,d,f,g,i,o,j,k,m,core,p,rfl,b,hw⟩;obtain rfl:p=0:=by rw[<-b.he];decide
 obtain⟨rfl,rfl⟩:=Qd (b.yG rfl);obtain rfl:o=2:=b.aC.len.symm;exact⟨d,f,g,i,j,k,m,rfl,b.hm,b.aC,hw⟩
theorem Qi(n:kE w0 A 1 c oh)(w:World)(p:Below w0.heap.size w0 w):
  Calls y_ 28 #[.agg #[.int .i64 3,.slice A 1 c],.slice (some ⟨w.heap.size,0,none⟩) 2 2,.int .i64 1073741824] (w.alloc (.cells #[.int .i64 1,.int .i64 3] 3)) λ e W=>∃(b o f:Nat)(g:Option Addr)(i j k:Nat),e=.returned (.tuple #[.agg #[.int .i64 1,.slice (some ⟨b,o,none⟩) 4 f,.slice g i j,.int .i64 (k:Int)],.int .i64 0])/\b<W.heap.size/\W.cell? ⟨b,o+1,none⟩=some (.bool true)/\W.cell? ⟨b,o+2,none⟩=some (.bool false)/\W.cell? ⟨b,o+3,none⟩=some (.bool true)/\4<=f/\Below w.heap.size w W:=by
 refine(EP n [1,3] 2 rfl (zK (by decide)) (by omega) w p).mono ?_;rintro e W ⟨kind,u,q,f,g,i,j,k,m,core,r,rfl,d,hw⟩;obtain rfl:r=0:=by rw[<-d.he];decide
 obtain⟨rfl,s,g1,g3,g2⟩:=Qe (d.yG rfl);obtain rfl:q=4:=by rw[<-d.hm.len,s]
 obtain⟨b,o,rfl,t,l⟩:=d.hm.cells (by omega);have c1:=l 1 (by omega);have c2:=l 2 (by omega);have c3:=l 3 (by omega);change _=some (p_ (iY m 1)) at c1;change _=some (p_ (iY m 2)) at c2;change _=some (p_ (iY m 3)) at c3;rw[g1] at c1;rw[g2] at c2;rw[g3] at c3;exact⟨b,o,f,g,i,j,k,rfl,t,c1,c2,c3,d.hm.cap,hw⟩
theorem Qj(l:kE w0 A 1 c oh)(w:World)(n:Below w0.heap.size w0 w):
  Calls y_ 29 #[.agg #[.int .i64 3,.slice A 1 c],.slice (some ⟨w.heap.size,0,none⟩) 1 1,.slice (some ⟨w.heap.size+1,0,none⟩) 2 2,.int .i64 1073741824] ((w.alloc (.cells #[.int .i64 1] 3)).alloc (.cells #[.int .i64 2,.int .i64 3] 3)) λ e W=>∃(b o f:Nat)(g:Option Addr)(i j:Nat),e=.returned (.tuple #[.agg #[.int .i64 1,.slice (some ⟨b,o,none⟩) 4 f,.slice g 1 i,.int .i64 (j:Int)],.int .i64 0])/\b<W.heap.size/\W.cell? ⟨b,o+1,none⟩=some (.bool true)/\W.cell? ⟨b,o+3,none⟩=some (.bool true)/\4<=f/\aP W g 1 i [2]/\Below w.heap.size w W:=by
 refine(ER l [1] [2,3] 1 2 rfl rfl (zK (by decide)) (by omega) w n _ rfl _ (by simp[lH])).mono ?_;rintro e W ⟨kind,u,p,f,g,q,i,j,m,core,r,rfl,d,hw⟩;obtain rfl:r=0:=by rw[<-d.he];decide
 obtain⟨rfl,s,rfl,g1,g3⟩:=Qf (d.yG rfl);obtain rfl:p=4:=by rw[<-d.hm.len,s]
 obtain rfl:q=1:=d.aC.len.symm;obtain⟨b,o,rfl,t,k⟩:=d.hm.cells (by omega);have c1:=k 1 (by omega);have c3:=k 3 (by omega);change _=some (p_ (iY m 1)) at c1;change _=some (p_ (iY m 3)) at c3;rw[g1] at c1;rw[g3] at c3;exact⟨b,o,f,g,i,j,rfl,t,c1,c3,d.hm.cap,d.aC,hw⟩
theorem Qk(l:kE w0 A 1 c oh)(w:World)(n:Below w0.heap.size w0 w):
  Calls y_ 29 #[.agg #[.int .i64 3,.slice A 1 c],.slice (some ⟨w.heap.size,0,none⟩) 2 2,.slice (some ⟨w.heap.size+1,0,none⟩) 1 1,.int .i64 1073741824] ((w.alloc (.cells #[.int .i64 2,.int .i64 1] 3)).alloc (.cells #[.int .i64 3] 3)) λ e W=>∃(d:Option Addr)(f g:Nat)(i:Option Addr)(j k:Nat)(m:List Bool),e=.returned (.tuple #[.agg #[.int .i64 2,.slice d f g,.slice i 2 j,.int .i64 (k:Int)],.int .i64 0])/\I6 w 2 d f g i 2 j m [2,1] W:=by
 refine(ER l [2,1] [3] 2 1 rfl rfl (zK (by decide)) (by omega) w n _ rfl _ (by simp[lH])).mono ?_;rintro e W ⟨kind,d,f,g,i,o,j,k,m,core,p,rfl,b,hw⟩;obtain rfl:p=0:=by rw[<-b.he];decide
 obtain⟨rfl,rfl⟩:=Qg (b.yG rfl);obtain rfl:o=2:=b.aC.len.symm;exact⟨d,f,g,i,j,k,m,rfl,b.hm,b.aC,hw⟩
theorem Ql(d:kE w0 A 1 c oh)(w:World)(f:Below w0.heap.size w0 w):
  Calls y_ 28 #[.agg #[.int .i64 3,.slice A 1 c],.slice (some ⟨w.heap.size,0,none⟩) 2 2,.int .i64 1073741824] (w.alloc (.cells #[.int .i64 1,.int .i64 (-1)] 3)) λ e W=>e=.returned (.tuple #[.agg #[.int .i64 0,.slice none 0 0,.slice none 0 0,.int .i64 0],.int .i64 1])/\Below w.heap.size w W:=by
 refine(EP d [1,-1] 2 rfl (zK (by decide)) (by omega) w f).mono ?_;rintro e W ⟨kind,j,k,l,n,o,p,q,m,core,g,rfl,b,hw⟩;obtain rfl:g=1:=by rw[<-b.he];decide
 obtain⟨rfl,h1,i,rfl⟩:=b.bad (by decide);exact⟨by rw[h1,i];rfl,hw⟩
theorem Qm(d:kE w0 A 1 c oh)(w:World)(f:Below w0.heap.size w0 w):
  Calls y_ 29 #[.agg #[.int .i64 3,.slice A 1 c],.slice (some ⟨w.heap.size,0,none⟩) 1 1,.slice (some ⟨w.heap.size+1,0,none⟩) 1 1,.int .i64 1073741824] ((w.alloc (.cells #[.int .i64 1] 3)).alloc (.cells #[.int .i64 1] 3)) λ e W=>e=.returned (.tuple #[.agg #[.int .i64 0,.slice none 0 0,.slice none 0 0,.int .i64 0],.int .i64 1])/\Below w.heap.size w W:=by
 refine(ER d [1] [1] 1 1 rfl rfl (zK (by decide)) (by omega) w f _ rfl _ (by simp[lH])).mono ?_;rintro e W ⟨kind,j,k,l,n,o,p,q,m,core,g,rfl,b,hw⟩;obtain rfl:g=1:=by rw[<-b.he];decide
 obtain⟨rfl,h1,i,rfl⟩:=b.bad (by decide);exact⟨by rw[h1,i];rfl,hw⟩
theorem ES{V:World}{o:Obj}{f:FuncId}{args:Array Value}{jl:Ending}(b:Below V.heap.size V w)(h:Calls y_ f args (w.alloc o) λ e W'=>e=jl/\Below (w.alloc o).heap.size (w.alloc o) W'):Calls y_ f args (w.alloc o) λ e W'=>e=jl/\Below V.heap.size V W':=
 h.mono λ e W' ⟨h1,c⟩=>⟨h1,b.trans (((bC w o).trans (c.mono (bC w o).size)).mono b.size)⟩
theorem xP(w:World):Calls y_ 26 #[] w λ e w'=>e=.returned (.bool true)/\Below w.heap.size w w':=by
 have aU:=bC w (lH [-1,-2]);have br:=aP.lit w [-1,-2] 2 _ rfl rfl (by omega);have bs:=bC (w.alloc (lH [-1,-2])) (.cells #[.slice (some ⟨w.heap.size,0,none⟩) 2 2] 25);have bt:=kE.su (w:=w.alloc (lH [-1,-2])) (rs:=[⟨some ⟨w.heap.size,0,none⟩,2,2,[-1,-2]⟩]) (ls:=oh) (n:=1) (s:=w.heap.size+1) (t:=25) rfl rfl (by simp[lH]) (by omega) rfl (λ r bu=>by
  simp only[List.mem_cons,List.not_mem_nil,or_false] at bu;subst bu;exact br)
 have aV:kE ((w.alloc (.cells #[.int .i64 (-1),.int .i64 (-2)] 3)).alloc (.cells #[.slice (some ⟨w.heap.size,0,none⟩) 2 2] 25)) (some ⟨w.heap.size+1,0,none⟩) 1 1 oh:=bt;have aW:Below w.heap.size w ((w.alloc (.cells #[.int .i64 (-1),.int .i64 (-2)] 3)).alloc (.cells #[.slice (some ⟨w.heap.size,0,none⟩) 2 2] 25)):=aU.trans (bs.mono aU.size);generalize aX:(w.alloc (.cells #[.int .i64 (-1),.int .i64 (-2)] 3)).alloc (.cells #[.slice (some ⟨w.heap.size,0,none⟩) 2 2] 25)=aM at aV aW;have bw:=qm.new aM 3 (some ⟨w.heap.size+1,0,none⟩) 1 1;have bx:=bC aM (.cells #[.int .i64 3,.slice (some ⟨w.heap.size+1,0,none⟩) 1 1] 24);have aa:=U (z_ aW (z_ bx (z_ bw aV)));have bV:bF (aM.heap.size=w.heap.size+2):=U (by rw[<-aX];simp);clear aU bs aW bx br bt aV bw;go_enter Tryz.func26,Tryz.ntmps26
 go_upto_region 2 with fail
 try rw[aX]
 have f:=U (z_ aa.o.2.2.2 (z_ aa.o.2.1 aa.o.2.2.1));have b:=f.o.2.2.aY;have g:=f.o.2.2.c1;generalize aM.alloc (.cells #[.int .i64 3,.slice (some ⟨w.heap.size+1,0,none⟩) 1 1] 24)=aZ at*;have bz:=U (Qh f.o.1 aZ f.o.2.1)
 go_upto_region 3 with(go_at_call 28;refine bz.o.mono ?_;rintro e ab ⟨ad,ae,af,H,I,s2,m2,rfl,aD⟩;have aN:=U aD;clear aD b g)
 have R:=aR.new ab 30 [.int .i64 2,.slice ad ae af,.slice H 2 I,.int .i64 (s2:Nat)];have t2:Below aZ.heap.size aZ (ab.alloc (.cells #[.int .i64 2,.slice ad ae af,.slice H 2 I,.int .i64 (s2:Nat)] 30)):=(aN.o.jU).trans ((bC ab (.cells #[.int .i64 2,.slice ad ae af,.slice H 2 I,.int .i64 (s2:Nat)] 30)).mono (aN.o.jU).size);have a6:=bC ab (.cells #[.int .i64 2,.slice ad ae af,.slice H 2 I,.int .i64 (s2:Nat)] 30);generalize ab.alloc (.cells #[.int .i64 2,.slice ad ae af,.slice H 2 I,.int .i64 (s2:Nat)] 30)=a7 at R t2 a6⊢;generalize ab.heap.size=bW at R⊢;have a8:=U (z_ R (z_ t2 a6));have b:=f.o.2.2.below t2;have aE:=U (z_ ((f.o.2.1).trans (t2.mono (f.o.2.1).size)) b);have g:=b.c1;replace b:=b.aY;clear R t2 a6;have bA:=U (Qi f.o.1 a7 aE.o.1)
 go_upto_region 4 with(go_at_call 28;refine bA.o.mono ?_;rintro e S ⟨i,J,ag,ah,ai,aj,s3,rfl,aF⟩;have O:=U aF;clear aF b g)
 have T:=aR.new S 30 [.int .i64 1,.slice (some ⟨i,J,none⟩) 4 ag,.slice ah ai aj,.int .i64 (s3:Nat)];have t3:Below a7.heap.size a7 (S.alloc (.cells #[.int .i64 1,.slice (some ⟨i,J,none⟩) 4 ag,.slice ah ai aj,.int .i64 (s3:Nat)] 30)):=(O.o.2.2.2.2.2).trans ((bC S (.cells #[.int .i64 1,.slice (some ⟨i,J,none⟩) 4 ag,.slice ah ai aj,.int .i64 (s3:Nat)] 30)).mono (O.o.2.2.2.2.2).size);have a':=bC S (.cells #[.int .i64 1,.slice (some ⟨i,J,none⟩) 4 ag,.slice ah ai aj,.int .i64 (s3:Nat)] 30);generalize S.alloc (.cells #[.int .i64 1,.slice (some ⟨i,J,none⟩) 4 ag,.slice ah ai aj,.int .i64 (s3:Nat)] 30)=ba at T t3 a'⊢;generalize S.heap.size=bX at T⊢;have ak:=U (z_ T (z_ t3 a'));have b:=aE.o.2.below t3;have aG:=U (z_ ((aE.o.1).trans (t3.mono (aE.o.1).size)) b);have g:=b.c1;replace b:=b.aY;clear T t3 a';have bB:=U (Qj f.o.1 ba aG.o.1)
 go_upto_region 5 with(go_at_call 29;refine bB.o.mono ?_;rintro e V ⟨k,P,al,K,L,jf,rfl,bD⟩;have Q:=U bD;clear bD b g)
 have X:=aR.new V 30 [.int .i64 1,.slice (some ⟨k,P,none⟩) 4 al,.slice K 1 L,.int .i64 (jf:Nat)];have t4:Below ba.heap.size ba (V.alloc (.cells #[.int .i64 1,.slice (some ⟨k,P,none⟩) 4 al,.slice K 1 L,.int .i64 (jf:Nat)] 30)):=(Q.o.2.2.2.2.2).trans ((bC V (.cells #[.int .i64 1,.slice (some ⟨k,P,none⟩) 4 al,.slice K 1 L,.int .i64 (jf:Nat)] 30)).mono (Q.o.2.2.2.2.2).size);have bb:=bC V (.cells #[.int .i64 1,.slice (some ⟨k,P,none⟩) 4 al,.slice K 1 L,.int .i64 (jf:Nat)] 30);generalize V.alloc (.cells #[.int .i64 1,.slice (some ⟨k,P,none⟩) 4 al,.slice K 1 L,.int .i64 (jf:Nat)] 30)=bc at X t4 bb⊢;generalize V.heap.size=bY at X⊢;have Y:=U (z_ X (z_ t4 bb));have b:=aG.o.2.below t4;have aH:=U (z_ ((aG.o.1).trans (t4.mono (aG.o.1).size)) b);have g:=b.c1;replace b:=b.aY;clear X t4 bb;have bE:=U (Qk f.o.1 bc aH.o.1)
 go_upto_region 6 with(go_at_call 29;refine bE.o.mono ?_;rintro e an ⟨ao,aq,ar,M,N,au,m5,rfl,bG⟩;have aO:=U bG;clear bG b g)
 have nP:=aR.new an 30 [.int .i64 2,.slice ao aq ar,.slice M 2 N,.int .i64 (au:Nat)];have t5:Below bc.heap.size bc (an.alloc (.cells #[.int .i64 2,.slice ao aq ar,.slice M 2 N,.int .i64 (au:Nat)] 30)):=(aO.o.jU).trans ((bC an (.cells #[.int .i64 2,.slice ao aq ar,.slice M 2 N,.int .i64 (au:Nat)] 30)).mono (aO.o.jU).size);have bd:=bC an (.cells #[.int .i64 2,.slice ao aq ar,.slice M 2 N,.int .i64 (au:Nat)] 30);generalize an.alloc (.cells #[.int .i64 2,.slice ao aq ar,.slice M 2 N,.int .i64 (au:Nat)] 30)=bf at nP t5 bd⊢;generalize an.heap.size=bZ at nP⊢;have aI:=U (z_ nP (z_ t5 bd));have b:=aH.o.2.below t5;have aJ:=U (z_ ((aH.o.1).trans (t5.mono (aH.o.1).size)) b);have g:=b.c1;replace b:=b.aY;clear nP t5 bd;have bH:=U (Ql f.o.1 bf aJ.o.1)
 go_upto_region 7 with(go_at_call 28;refine bH.o.mono ?_;rintro e av ⟨rfl,bI⟩;have bg:=U bI;clear bI b g)
 have aQ:=aR.new av 30 [.int .i64 0,.slice none 0 0,.slice none 0 0,.int .i64 0];have t6:Below bf.heap.size bf (av.alloc (.cells #[.int .i64 0,.slice none 0 0,.slice none 0 0,.int .i64 0] 30)):=(bg.o).trans ((bC av (.cells #[.int .i64 0,.slice none 0 0,.slice none 0 0,.int .i64 0] 30)).mono (bg.o).size);have bh:=bC av (.cells #[.int .i64 0,.slice none 0 0,.slice none 0 0,.int .i64 0] 30);generalize av.alloc (.cells #[.int .i64 0,.slice none 0 0,.slice none 0 0,.int .i64 0] 30)=bj at aQ t6 bh⊢;generalize av.heap.size=b6 at aQ⊢;have bk:=U (z_ aQ (z_ t6 bh));have b:=aJ.o.2.below t6;have aK:=U (z_ ((aJ.o.1).trans (t6.mono (aJ.o.1).size)) b);have g:=b.c1;replace b:=b.aY;clear aQ t6 bh;have bJ:=U (Qm f.o.1 bj aK.o.1)
 go_upto_region 8 with(go_at_call 29;refine bJ.o.mono ?_;rintro e aw ⟨rfl,bK⟩;have bl:=U bK;clear bK b g)
 have lP:=aR.new aw 30 [.int .i64 0,.slice none 0 0,.slice none 0 0,.int .i64 0];have t7:Below bj.heap.size bj (aw.alloc (.cells #[.int .i64 0,.slice none 0 0,.slice none 0 0,.int .i64 0] 30)):=(bl.o).trans ((bC aw (.cells #[.int .i64 0,.slice none 0 0,.slice none 0 0,.int .i64 0] 30)).mono (bl.o).size);have bn:=bC aw (.cells #[.int .i64 0,.slice none 0 0,.slice none 0 0,.int .i64 0] 30);generalize aw.alloc (.cells #[.int .i64 0,.slice none 0 0,.slice none 0 0,.int .i64 0] 30)=d at lP t7 bn⊢;generalize aw.heap.size=b7 at lP⊢;have bL:=U (z_ lP (z_ t7 bn));have b:=aK.o.2.below t7;have bM:=U (z_ ((aK.o.1).trans (t7.mono (aK.o.1).size)) b);have g:=b.c1;replace b:=b.aY;clear lP t7 bn;have bN:=bL.o.2.1;have aS:=bk.o.2.1.trans (bN.mono bk.o.2.1.size);have aL:=aI.o.2.1.trans (aS.mono aI.o.2.1.size);have aT:=Y.o.2.1.trans (aL.mono Y.o.2.1.size);have bo:=ak.o.2.1.trans (aT.mono ak.o.2.1.size);have R:=a8.o.1.below bo;have T:=ak.o.1.below aT;have X:=Y.o.1.below aL;have nP:=aI.o.1.below aS;have bO:=(aN.o.aC.below a8.o.2.2).below bo;have bP:=(Q.o.2.2.2.2.1.below Y.o.2.2).below aL;have bQ:=(aO.o.aC.below aI.o.2.2).below aS;have bp:=ak.o.2.2.trans (aT.mono ak.o.2.2.size);have bq:=Y.o.2.2.trans (aL.mono Y.o.2.2.size);have Z:bF (∀W,Below d.heap.size d W->aR W bW 30 [.int .i64 2,.slice ad ae af,.slice H 2 I,.int .i64 (s2:Nat)]/\aR W bX 30 [.int .i64 1,.slice (some ⟨i,J,none⟩) 4 ag,.slice ah ai aj,.int .i64 (s3:Nat)]/\aR W bY 30 [.int .i64 1,.slice (some ⟨k,P,none⟩) 4 al,.slice K 1 L,.int .i64 (jf:Nat)]/\aR W bZ 30 [.int .i64 2,.slice ao aq ar,.slice M 2 N,.int .i64 (au:Nat)]/\
   W.cell? ⟨i,J+1,none⟩=some (.bool true)/\W.cell? ⟨i,J+2,none⟩=some (.bool false)/\W.cell? ⟨i,J+3,none⟩=some (.bool true)/\W.cell? ⟨k,P+1,none⟩=some (.bool true)/\W.cell? ⟨k,P+3,none⟩=some (.bool true)/\aP W H 2 I [1,2]/\aP W K 1 L [2]/\aP W M 2 N [2,1]):=U λ W c=>
  have f3:∀j,W.cell? ⟨i,j,none⟩=S.cell? ⟨i,j,none⟩:=λ j=>(bp.trans (c.mono bp.size)).cell (p:=⟨i,j,none⟩) O.o.1
  have f4:∀j,W.cell? ⟨k,j,none⟩=V.cell? ⟨k,j,none⟩:=λ j=>(bq.trans (c.mono bq.size)).cell (p:=⟨k,j,none⟩) Q.o.1
  ⟨R.below c,T.below c,X.below c,nP.below c,(f3 _).trans O.o.2.1,(f3 _).trans O.o.2.2.1,(f3 _).trans O.o.2.2.2.1,(f4 _).trans Q.o.2.1,(f4 _).trans Q.o.2.2.1,bO.below c,bP.below c,bQ.below c⟩
 have c3:=O.o.2.2.2.2.1;have b8:=Q.o.2.2.2.1;have bR:=U (aa.o.1.trans (bM.o.1.mono aa.o.1.size));clear bz bA bB bE bH bJ aN O Q aO bg bl a8 ak Y aI bk bL aE aG aH aJ aK bM aa bV f aX bN aS aL aT bo R T X nP bO bP bQ bp bq b g;obtain⟨l,m,q,u,ax,ay,az,aA,aB,_⟩:=Z.o d (v_ _ _);have z:=l.cell;have v:=z 0;have y:=z 2;clear z;have z:=m.cell;have A:=z 0;have B:=z 1;clear z;have z:=q.cell;have C:=z 0;have D:=z 1;have E:=z 2;clear z;have z:=u.cell;have F:=z 0;have G:=z 2;clear z;simp only[x_,w_] at v y A B C D E F G;clear l m q u;have b0:bF (∀W,Below d.heap.size d W->Calls y_ 38 #[.slice H 2 I,.slice (some ⟨W.heap.size,0,none⟩) 2 2] (W.alloc (.cells #[.int .i64 1,.int .i64 2] 3)) λ e W'=>e=.returned (.bool true)/\Below d.heap.size d W'):=U λ W c=>ES c<|yE H 2 I _ 2 2 [1,2] _ (((Z.o W c).2.2.2.2.2.2.2.2.2.1).below (bC _ _)) (aP.lit W [1,2] 2 _ rfl rfl (by omega))
 have b1:bF (∀W,Below d.heap.size d W->Calls y_ 38 #[.slice K 1 L,.slice (some ⟨W.heap.size,0,none⟩) 1 1] (W.alloc (.cells #[.int .i64 2] 3)) λ e W'=>e=.returned (.bool true)/\Below d.heap.size d W'):=U λ W c=>ES c<|yE K 1 L _ 1 1 [2] _ (((Z.o W c).2.2.2.2.2.2.2.2.2.2.1).below (bC _ _)) (aP.lit W [2] 1 _ rfl rfl (by omega))
 have b2:bF (∀W,Below d.heap.size d W->Calls y_ 38 #[.slice M 2 N,.slice (some ⟨W.heap.size,0,none⟩) 2 2] (W.alloc (.cells #[.int .i64 2,.int .i64 1] 3)) λ e W'=>e=.returned (.bool true)/\Below d.heap.size d W'):=U λ W c=>ES c<|yE M 2 N _ 2 2 [2,1] _ (((Z.o W c).2.2.2.2.2.2.2.2.2.2.2).below (bC _ _)) (aP.lit W [2,1] 2 _ rfl rfl (by omega))
 go_upto_region 10 with fail
 simp only[List.append_eq,List.cons_append,List.nil_append]
 go_wp2_with (go_at_call 38;first|(with_reducible refine(b0.o _ (v_ _ _)).mono ?_;rintro e b3 ⟨rfl,h1⟩;have bS:=U h1;clear h1 v y A B C D E F G ax ay az aA aB;obtain⟨l,m,q,u,ax,ay,az,aA,aB,_⟩:=Z.o b3 bS.o;have z:=l.cell;have v:=z 0;have y:=z 2;clear z;have z:=m.cell;have A:=z 0;have B:=z 1;clear z;have z:=q.cell;have C:=z 0;have D:=z 1;have E:=z 2;clear z;have z:=u.cell;have F:=z 0;have G:=z 2;clear z;simp only[x_,w_] at v y A B C D E F G;clear l m q u)|(with_reducible refine(b1.o _ bS.o).mono ?_;rintro e b4 ⟨rfl,aD⟩;have bT:=U aD;clear aD v y A B C D E F G ax ay az aA aB;obtain⟨l,m,q,u,ax,ay,az,aA,aB,_⟩:=Z.o b4 bT.o;have z:=l.cell;have v:=z 0;have y:=z 2;clear z;have z:=m.cell;have A:=z 0;have B:=z 1;clear z;have z:=q.cell;have C:=z 0;have D:=z 1;have E:=z 2;clear z;have z:=u.cell;have F:=z 0;have G:=z 2;clear z;simp only[x_,w_] at v y A B C D E F G;clear l m q u)|(with_reducible refine(b2.o _ bT.o).mono ?_;rintro e b5 ⟨rfl,aF⟩;have bU:=U aF;clear aF v y A B C D E F G ax ay az aA aB;obtain⟨l,m,q,u,ax,ay,az,aA,aB,_⟩:=Z.o b5 bU.o;have z:=l.cell;have v:=z 0;have y:=z 2;clear z;have z:=m.cell;have A:=z 0;have B:=z 1;clear z;have z:=q.cell;have C:=z 0;have D:=z 1;have E:=z 2;clear z;have z:=u.cell;have F:=z 0;have G:=z 2;clear z;simp only[x_,w_] at v y A B C D E F G;clear l m q u))
 go_ret;exact⟨rfl,bR.o.trans (bU.o.mono bR.o.size)⟩
theorem CS.res(h:CS w x ls ah aW kind aK aU aJ aX bM aM aB m core jL W)(he:kU x ls ah aW=0):jL=0/\si ls x.toNat ah aW.toNat kind m core aB:=
 have b:jL=0:=h.he.symm.trans he
 ⟨b,h.yG b⟩
theorem CT.res{keep:List Int}(h:CT w x ls keep ah aW kind aK aU aJ aX bM aM aB m core jL W)(he:kU x ls (keep++ah) aW=0):jL=0/\tX ls x.toNat keep ah aW.toNat kind m core aB:=
 have b:jL=0:=h.he.symm.trans he
 ⟨b,h.yG b⟩
theorem sq{a b:List Int}(h1:mq a)(c:mq b):mq (a++b):=λ x d=>(m_.1 d).elim (h1 x) (c x)
theorem uS(he:kU x ls ah aW=0):∃n b:Nat,x=n/\aW=b/\lS n ls=0/\(∀y∈ah,gP n y)/\(ah.map aD).Nodup:=by
 obtain⟨c,hm,d,e⟩:=vg he;have f:0<=x:=by
  rcases i_ x 0 with h1|h1
  ·rw[yJ (.inl h1)] at c;cases c
  ·exact h1
 obtain⟨n,rfl⟩:∃n:Nat,x=n:=⟨x.toNat,by omega⟩
 obtain⟨b,rfl⟩:∃b:Nat,aW=b:=⟨aW.toNat,by omega⟩
 exact⟨n,b,rfl,rfl,c,(wD hm).1,(wD hm).2⟩
end
end Go.Proofs.YtogdlkfacflmaaaGreat
