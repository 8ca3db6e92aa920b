/- Parts of the walk of the solver and its core; no condition. -/
import Derived.Test.YtogdlkfacflmaaaGreatZZ19
import Derived.Test.YtogdlkfacflmaaaGreatZZ1
namespace Go.Proofs.YtogdlkfacflmaaaGreat
set_option linter.unusedVariables false
set_option linter.unusedSimpArgs false
set_option maxRecDepth 100000
set_option maxHeartbeats 4000000
open _root_.And renaming intro→z_
open _root_.List renaming getElem?_cons_zero→y_,getElem?_cons_succ→x_,mem_append→r_,mem_of_mem_eraseIdx→p_,mem_filter→m_,mem_singleton→l_,mem_take_iff_getElem→j_,all_eq_true→f_,nil_append→e_,length_filter_le→d_,mem_map→a_
open _root_.Go.Proofs.Tryz renaming prog→w_
open _root_.Go.IntKind renaming wrap_i64→v_,i64→u_
open _root_.Go.RowKit.Below renaming refl→t_
open _root_.Nat renaming zero_le→s_,le_refl→q_,zero_add→h_,lt_or_ge→b_
open _root_.Go.Value renaming slice→o_,int→n_,bool→i_
open _root_.Go.World renaming ownsRow_nil→k_,cell?_of_block→c_
open _root_.Int renaming lt_or_le→g_
variable{w W ki bM w0:World}{n x kind:Int}{c k js c1 kj c2 i aB:Nat}{l core:List Int}{m:List Bool}{j4 aX A:Option Addr}{v9:Value}
section
open Go.RowKit Go.Lib
theorem PM(n:Nat)(Q:n<=10)(A:Option Addr)(nl cl:Nat)(ls:List (List Int))(A':Option Addr)(z c':Nat)(l:List Int)(w:World)(h:ku w A nl cl ls)(h':aL w A' z c' l)(hl:∀x∈l,gK n x):
  Calls w_ 34 #[.agg #[.int .i64 n,.slice A nl cl],.slice A' z c'] w λ e w'=>e=.returned (.bool (pE n ls l))/\Below w.heap.size w w':=by
 have p:Below w.heap.size w (w.alloc (.cells #[.int .i64 n,.slice A nl cl] 24)):=(t_ _ _).alloc (q_ _) _;have B:=o6.new w n A nl cl;have C:=B.bf;have H:=U (z_ (h.below p) (z_ (h'.below p) (z_ p B)));have R:bJ (∀x∈l,gK 60000 x):=U λ x K=>⟨(hl x K).1,by have:=(hl x K).2;omega⟩
 clear h h' p B hl;go_enter Tryz.func34,Tryz.ntmps34
 go_upto_region 1 with fail
 generalize w.alloc (.cells #[.int .i64 n,.slice A nl cl] 24)=W at*;obtain⟨q,r⟩:∃q,(2:Nat)^n=q:=⟨_,rfl⟩
 have L:q<=1024:=by
  have:=Nat.pow_le_pow_right (n:=2) (by omega) Q;rw[r] at this;simpa using this
 have ab:wrap64 ((2:Int)^n)=(q:Int):=by
  have e:(2:Int)^n=((2^n:Nat):Int):=by simp
  rw[e,r];unfold wrap64;omega
 have s:=U (z_ r L);clear r L
 go_wp2_with fail
 go_loopw [5] (λ i V=>∃k:Nat,k<=q/\i=.int .i64 k/\(∀j,j<k->(pV (nO n j) l&&rO n ls (nO n j))=false)/\Below W.heap.size W V) (λ i _=>q-(intOf i).toNat)
 case atStart=>exact⟨0,s_ _,rfl,λ j t=>absurd t (by omega),t_ _ _⟩
 case round=>
  obtain⟨k,hk,rfl,M,D⟩:=hrel;have d:=U (z_ M D);have C:=(H.o.2.2.2.below D).bf;clear M D
  by_cases E:k<q
  ·have S:(k:Int)<(q:Int):=by omega
   have ad:u_.wrap ((k:Int)+1)=(k:Int)+1:=by have:=s.o;rw[v_];omega
   have T:=U (OT n k wr (by omega) (by have:=s.o;omega));have f:=U E;clear hk E
   go_upto_region 5 with(go_at_call 94;refine T.o.mono ?_;rintro e w1 ⟨F,c1,rfl,N,O⟩;have H1:=U (z_ N (d.o.2.trans (O.mono d.o.2.size)));clear N O)
   have g:=U (EA F (n+1) c1 (nO n k) A' z c' l w1 H1.o.1 (H.o.2.1.below H1.o.2) R.o)
   cases hu:pV (nO n k) l with
   |false=>
    rw[hu] at g;have v:=U (show(pV (nO n k) l&&rO n ls (nO n k))=false by rw[hu];rfl);clear hu
    go_wp2_with (go_at_call 95;refine g.o.mono ?_;rintro e y ⟨rfl,c⟩;have b:=U (H1.o.2.trans (c.mono H1.o.2.size));clear c)
    go_roundw
    case rel=>
     refine⟨k+1,by have:=f.o;omega,by go_num,λ j t=>?_,b.o⟩;rcases b_ j k with h1|h1
     ·exact d.o.1 j h1
     ·obtain rfl:j=k:=by omega
      exact v.o
    case measure=>have:=f.o;simp[intOf];omega
   |true=>
    rw[hu] at g;obtain⟨u,G⟩:∃u,rO n ls (nO n k)=u:=⟨_,rfl⟩
    have v:=U (show(pV (nO n k) l&&rO n ls (nO n k))=u by rw[hu,G];rfl);have P:=U G;clear hu G
    cases u with
    |false=>
     go_wp2_with (first
      |(go_at_call 95;refine g.o.mono ?_;rintro e y ⟨rfl,c⟩;have b:=U (H1.o.2.trans (c.mono H1.o.2.size));have I:=U (Em n A nl cl ls F (n+1) c1 (nO n k) y (H.o.1.below b.o) (H1.o.1.below c));have C:=(H.o.2.2.2.below b.o).bf;have X:=(H.o.2.2.2.below b.o).c1;clear c)
      |(go_at_call 96;refine I.o.mono ?_;rintro e Y ⟨rfl,m⟩;rw[P.o];have J:=U (b.o.trans (m.mono b.o.size));clear m))
     go_roundw
     case rel=>
      refine⟨k+1,by have:=f.o;omega,by go_num,λ j t=>?_,J.o⟩;rcases b_ j k with h1|h1
      ·exact d.o.1 j h1
      ·obtain rfl:j=k:=by omega
       exact v.o
     case measure=>have:=f.o;simp[intOf];omega
    |true=>
     go_wp2_with (first
      |(go_at_call 95;refine g.o.mono ?_;rintro e y ⟨rfl,c⟩;have b:=U (H1.o.2.trans (c.mono H1.o.2.size));have I:=U (Em n A nl cl ls F (n+1) c1 (nO n k) y (H.o.1.below b.o) (H1.o.1.below c));have C:=(H.o.2.2.2.below b.o).bf;have X:=(H.o.2.2.2.below b.o).c1;clear c)
      |(go_at_call 96;refine I.o.mono ?_;rintro e Y ⟨rfl,m⟩;rw[P.o];have J:=U (b.o.trans (m.mono b.o.size));clear m))
     go_ret;exact⟨mO (OF (by rw[s.o.1];exact f.o) v.o).symm,H.o.2.2.1.trans (J.o.mono H.o.2.2.1.size)⟩
  ·have S:¬(k:Int)<(q:Int):=by omega
   have Z:k=q:=by omega
   have aa:=U (show pE n ls l=false from OE λ j t=>d.o.1 j (by have:=s.o.1;omega));clear hk E Z;go_wp2;go_ret;exact⟨mO aa.o.symm,H.o.2.2.1.trans (d.o.2.mono H.o.2.2.1.size)⟩
theorem AK(r:Bool)(n:Nat)(c:n<=10)(A:Option Addr)(nl cl:Nat)(ls:List (List Int))(A':Option Addr)(b c':Nat)(l:List Int)(w:World)(h:ku w A nl cl ls)(h':aL w A' b c' l)(hl:∀x∈l,gK n x)(d:pE n ls l=r):
  Calls w_ 34 #[.agg #[.int .i64 n,.slice A nl cl],.slice A' b c'] w λ e w'=>e=.returned (.bool r)/\Below w.heap.size w w':=by
 rw[<-d];exact PM n c A nl cl ls A' b c' l w h h' hl
theorem AL(A:Option Addr)(n c:Nat)(A':Option Addr)(d c':Nat)(l:List Int)(w:World)(h:aL w A n c l)(h':aL w A' d c' l):
  Calls w_ 38 #[.slice A n c,.slice A' d c'] w λ e w'=>e=.returned (.bool true)/\Below w.heap.size w w':=by
 have u:=h.small;have q:d=n:=by rw[<-h'.len,h.len]
 subst q;have H:=U (z_ h h');clear h h';go_enter Tryz.func38,Tryz.ntmps38
 go_wp2
 go_loopw [5] (λ i W=>∃k:Nat,k<=d/\i=.int .i64 k/\Below w.heap.size w W) (λ i _=>d-(intOf i).toNat)
 case atStart=>exact⟨0,s_ _,rfl,t_ _ _⟩
 case round=>
  obtain⟨k,hk,rfl,f⟩:=hrel;have g:=U f
  by_cases j:k<d
  ·have r:(k:Int)<(d:Int):=by omega
   obtain⟨b,off,rfl,s,m⟩:=(H.o.1.below f).cells (by omega);obtain⟨v,y,rfl,t,p⟩:=(H.o.2.below f).cells (by omega);have z:=m k j;have B:=p k j;have C:u_.wrap ((k:Int)+1)=(k:Int)+1:=by rw[v_];omega
   generalize je l k=x at*;clear m p f s t
   go_upto_region 6 with fail
   go_quiet (fail)
   go_wp2;go_roundw
   case rel=>exact⟨k+1,by omega,by go_num,g.o.trans ((below_drewN wr _).mono g.o.size)⟩
   case measure=>simp[intOf];omega
  ·have r:¬(k:Int)<(d:Int):=by omega
   clear f;go_wp2;go_ret;exact⟨rfl,g.o⟩
theorem EB(A:Option Addr)(n c:Nat)(l:List Int)(A':Option Addr)(d c':Nat)(o:List Int)(w:World)(h:aL w A n c l)(h':aL w A' d c' o)(hs:l.Sublist o):
  Calls w_ 91 #[.slice A n c,.slice A' d c'] w λ e w'=>e=.returned (.bool true)/\Below w.heap.size w w':=by
 have M:=h.small;have N:=h'.small;have H:=U (z_ h h');have f:=U (z_ h.len (z_ h'.len hs));clear h h' hs;go_enter Tryz.func91,Tryz.ntmps91
 go_wp2
 go_loopw [6,5] (λ i q W=>∃j k:Nat,j<=d/\i=.int .i64 j/\k<=n/\q=.int .i64 k/\(l.drop k).Sublist (o.drop j)/\Below w.heap.size w W) (λ i _ _=>d-(intOf i).toNat)
 case atStart=>exact⟨0,0,s_ _,rfl,s_ _,rfl,f.o.2.2,t_ _ _⟩
 case round=>
  obtain⟨j,k,O,rfl,hk,rfl,g,m⟩:=hrel;have p:=U (z_ g m)
  by_cases C:j<d
  ·have D:(j:Int)<(d:Int):=by omega
   have P:u_.wrap ((j:Int)+1)=(j:Int)+1:=by rw[v_];omega
   by_cases E:k<n
   ·have F:(k:Int)<(n:Int):=by omega
    have Q:u_.wrap ((k:Int)+1)=(k:Int)+1:=by rw[v_];omega
    obtain⟨b,off,rfl,G,v⟩:=(H.o.1.below m).cells (by omega);obtain⟨R,S,rfl,I,z⟩:=(H.o.2.below m).cells (by omega);have J:=v k E;have K:=z j C;have B:=U (OH (x:=0) g (by have:=f.o.2.1;omega) (by have:=f.o.1;omega));obtain⟨x,s⟩:∃x,je l k=x:=⟨_,rfl⟩
    obtain⟨y,t⟩:∃y,je o j=y:=⟨_,rfl⟩
    rw[s] at J;rw[t] at K;have r:=U (z_ s t);clear v z m G I g s t
    by_cases u:y=x
    ·subst u
     go_upto_region 5 with fail
     go_quiet (fail)
     go_wp2;go_roundw
     case rel=>exact⟨j+1,k+1,by omega,by go_num,by omega,by go_num,B.o.1 (r.o.2.trans r.o.1.symm),p.o.2.trans ((below_drewN wr _).mono p.o.2.size)⟩
     case measure=>simp[intOf];omega
    ·have d1:(y==x)=false:=by simpa using u
     go_upto_region 5 with fail
     go_quiet (fail)
     go_wp2;go_roundw
     case rel=>exact⟨j+1,k,by omega,by go_num,by omega,rfl,B.o.2 (by rw[r.o.1,r.o.2];exact u),p.o.2.trans ((below_drewN wr _).mono p.o.2.size)⟩
     case measure=>simp[intOf];omega
   ·have F:¬(k:Int)<(n:Int):=by omega
    obtain rfl:k=n:=by omega
    clear g m;go_wp2;go_ret;refine⟨?_,p.o.2⟩;simp
  ·have D:¬(j:Int)<(d:Int):=by omega
   have L:k=n:=by have:=OI g (by have:=f.o.2.1;omega) (by have:=f.o.1;omega);have:=f.o.1;omega
   subst L;clear g m;go_wp2;go_ret;refine⟨?_,p.o.2⟩;simp
theorem PN(A:Option Addr)(n c:Nat)(l:List Int)(w:World)(h:aL w A n c l)(i:Nat)(N:i<n)(O:n<=1000000):
  Calls w_ 37 #[.slice A n c,.int .i64 i] w λ e w'=>∃j c2,e=.returned (.slice j (n-1) c2)/\aL w' j (n-1) c2 (l.eraseIdx i)/\w'.ownsRow w.heap.size 3 1 (.slice j (n-1) c2) (n-1) ((l.eraseIdx i).map (n_ .i64))/\Below w.heap.size w w':=by
 have P:=h.cap;have E:=h.nT;unfold maxLen at E;have Q:(i:Int)<=(c:Int):=by omega
 have R:(i:Int)+1<=(n:Int):=by omega
 have S:(0:Int)<=(i:Int):=by omega
 have T:u_.wrap ((i:Int)+1)=(i:Int)+1:=by rw[v_];omega
 have V:wrap64 ((i:Int)+1)=(i:Int)+1:=by unfold wrap64;omega
 have H:=U h;have F:=U (h.take (k:=i) (by omega));have t:=h.cut (k:=i+1) (by omega);have u:=h.len;obtain⟨b,off,rfl,G,I⟩:=h.cells (by omega);have v:bJ (aL w (if c=i+1 then some ⟨b,off,none⟩ else some ⟨b,off+(i+1),none⟩) (n-(i+1)) (c-(i+1)) (l.drop (i+1))):=U (by
  by_cases e:c=i+1
  ·rw[if_pos e];exact aL.zero (by omega) (by rw[List.length_drop];omega) (by unfold maxLen;omega)
  ·rw[if_neg e];exact t)
 have W:=U u;clear t u G I h;go_enter Tryz.func37,Tryz.ntmps37
 go_upto_region 3 with(at_builtin;refine qS rfl (.tmp 6) (.tmp 9) rfl w.heap.size (.slice none 0 0) 0 [] rfl (k_ _ _ _ _) _ i c (l.take i) rfl F.o (by omega) (q_ _) ?_;intro v1 w1 f;obtain⟨⟨y,d,c1⟩,J,z⟩:=ax.kW f.1;obtain rfl:v1=.slice y d c1:=J;have p:=U f;have K:=U z;clear f z)
 obtain rfl:d=i:=by have h1:d=0+i:=K.o;omega
 have B:Below w.heap.size w w1:=s5 (t_ _ _) p.o.2.1 (q_ _) (λ g e=>by cases e);have m:=U B;clear B;have q:bJ (aL w (if c=d+1 then some ⟨b,off,none⟩ else some ⟨b,off+(d+1),none⟩) (n-(d+1)) (c-(d+1)) (l.drop (d+1))):=v;clear v
 by_cases e:c=d+1
 all_goals
  first
   |rw[if_pos e,show c-(d+1)=0 by omega] at q
   |rw[if_neg e] at q
  go_wp2_with (at_builtin;(refine qS rfl (.tmp 11) (.tmp 15) rfl w.heap.size (.slice y d c1) d (l.take d) rfl (by have h1:=p.o.1;rw[e_,h_] at h1;exact h1) _ _ _ (l.drop (d+1)) rfl (q.o.below m.o) (by omega) m.o.size ?_;intro v2 X f;obtain⟨⟨j,r,c2⟩,L,C⟩:=ax.kW f.1;obtain rfl:v2=.slice j r c2:=L;have D:=U f;have M:=U C;clear f C))
  obtain rfl:r=n-1:=by have h1:r=d+(n-(d+1)):=M.o;omega
  go_ret;have s:=D.o.1;rw[show d+(n-(d+1))=n-1 by omega,<-List.eraseIdx_eq_take_drop_succ] at s;exact⟨j,c2,rfl,aL.kW s (by omega),s,s5 m.o D.o.2.1 m.o.size (λ g e=>by
   have h1:=p.o.1;rw[h_] at h1;exact(h1.lt g e).1)⟩
theorem PO(n:Nat)(t:n<=10)(A:Option Addr)(nl cl:Nat)(ls:List (List Int))(A':Option Addr)(b c':Nat)(l:List Int)(w:World)(h:ku w A nl cl ls)(h':aL w A' b c' l)(hl:∀x∈l,gK n x)(M:b<=1000)(h1:∀j,j<l.length->pE n ls (l.eraseIdx j)=true)(u:pE n ls l=false):
  Calls w_ 92 #[.agg #[.int .i64 n,.slice A nl cl],.slice A' b c'] w λ e w'=>e=.returned (.bool true)/\Below w.heap.size w w':=by
 have m:Below w.heap.size w (w.alloc (.cells #[.int .i64 n,.slice A nl cl] 24)):=(t_ _ _).alloc (q_ _) _;have v:=o6.new w n A nl cl;have H:=U (z_ (h.below m) (z_ (h'.below m) (z_ m v)));have d:=U (z_ hl (z_ h1 (z_ u h'.len)));clear h h' m v hl h1 u;go_enter Tryz.func92,Tryz.ntmps92
 go_upto_region 1 with fail
 generalize w.alloc (.cells #[.int .i64 n,.slice A nl cl] 24)=W at*
 go_wp2_with fail
 go_loopw [5] (λ i V=>∃k:Nat,k<=b/\i=.int .i64 k/\Below W.heap.size W V) (λ i _=>b-(intOf i).toNat)
 case atStart=>exact⟨0,s_ _,rfl,t_ _ _⟩
 case round=>
  obtain⟨k,hk,rfl,c⟩:=hrel;have y:=U c;have N:=(H.o.2.2.2.below c).bf;have O:=(H.o.2.2.2.below c).c1
  by_cases p:k<b
  ·have D:(k:Int)<(b:Int):=by omega
   have P:u_.wrap ((k:Int)+1)=(k:Int)+1:=by rw[v_];omega
   have q:Below W.heap.size W wr.drew:=c.trans ((t_ _ _).drew.mono c.size);have E:=U (PN A' b c' l wr.drew (H.o.2.1.below q) k p (by omega));have f:=U (z_ p q);clear c hk p q
   go_upto_region 4 with fail
   rename_i F z;have G:=U z;clear z;refine wp_region_noPanic ?_
   go_region_with (first
    |(go_at_call 37;refine E.o.mono ?_;rintro e w1 ⟨I,c1,rfl,B,J,C⟩;have H1:=U (z_ B (f.o.2.trans (C.mono f.o.2.size)));clear B J C;have Q:=(H.o.2.2.2.below H1.o.2).bf;have R:=(H.o.2.2.2.below H1.o.2).c1;have r:=U (AK true n t A nl cl ls I (b-1) c1 _ w1 (H.o.1.below H1.o.2) H1.o.1 (λ x K=>d.o.1 x (p_ K)) (d.o.2.1 k (by have:=d.o.2.2.2;have:=f.o.1;omega))))
    |(go_at_call 34;refine r.o.mono ?_;rintro e L ⟨rfl,g⟩;have s:=U (H1.o.2.trans (g.mono H1.o.2.size));clear g))
   all_goals
    show F _ _;apply G.o
    go_wp2_with fail
    go_roundw
    case rel=>exact⟨k+1,by have:=f.o;omega,by go_num,s.o⟩
    case measure=>have:=f.o.1;simp[intOf];omega
  ·have D:¬(k:Int)<(b:Int):=by omega
   have r:=U (AK false n t A nl cl ls A' b c' l wr (H.o.1.below c) (H.o.2.1.below c) d.o.1 d.o.2.2.1);clear c p hk
   go_wp2_with (go_at_call 34;refine r.o.mono ?_;rintro e L ⟨rfl,g⟩;have s:=U (y.o.trans (g.mono y.o.size));clear g)
   go_ret;exact⟨rfl,H.o.2.2.1.trans (s.o.mono H.o.2.2.1.size)⟩
theorem EC(n:Nat)(I:n<=10)(A:Option Addr)(nl cl:Nat)(ls:List (List Int))(k:Option Addr)(p d:Nat)(m:List Bool)(A':Option Addr)(g c':Nat)(l:List Int)(w:World)(h:ku w A nl cl ls)(hm:kE w k p d m)(h':aL w A' g c' l)(hl:∀x∈l,gK n x)(C:m.length=n+1)(q:iE m 0=false)(h1:rO n ls m=true)(r:pV m l=true):
  Calls w_ 90 #[.agg #[.int .i64 n,.slice A nl cl],.slice k p d,.slice A' g c'] w λ e w'=>e=.returned (.bool true)/\Below w.heap.size w w':=by
 have c:Below w.heap.size w (w.alloc (.cells #[.int .i64 n,.slice A nl cl] 24)):=(t_ _ _).alloc (q_ _) _;have s:=o6.new w n A nl cl;have t:=hm.len;rw[C] at t;subst t;have H:=U (z_ (h.below c) (z_ (h'.below c) (z_ c (z_ s (hm.below c)))));have i:bJ ((∀x∈l,gK 60000 x)/\rO n ls m=true/\pV m l=true):=U ⟨λ x u=>⟨(hl x u).1,by have:=(hl x u).2;omega⟩,h1,r⟩;have wn:u_.wrap ((n:Int)+1)=(n:Int)+1:=by rw[v_];omega
 have J:wrap64 ((n:Int)+1)=(n:Int)+1:=by unfold wrap64;omega
 obtain⟨b,off,rfl,D,v⟩:=(hm.below c).cells (by omega);have E:=v 0 (by omega);have y:m.getD 0 false=iE m 0:=rfl;rw[y,q,Nat.add_zero] at E;have K:(0:Int)<(n:Int)+1:=by omega
 clear h h' c hl hm h1 r v D y q;go_enter Tryz.func90,Tryz.ntmps90
 go_upto_region 1 with fail
 have L:=H.o.2.2.2.1.bf;have M:=H.o.2.2.2.1.c1;clear s;generalize w.alloc (.cells #[.int .i64 n,.slice A nl cl] 24)=W at*;have z:=U (Em n A nl cl ls _ (n+1) d m W H.o.1 H.o.2.2.2.2);rw[i.o.2.1] at z
 go_wp2_with (first
  |(go_at_call 96;refine z.o.mono ?_;rintro e w1 ⟨rfl,f⟩;have H1:=U f;have j:=EA _ (n+1) d m A' g c' l w1 (H.o.2.2.2.2.below f) (H.o.2.1.below f) i.o.1;rw[i.o.2.2] at j;have F:=U j;clear f j)
  |(go_at_call 95;refine F.o.mono ?_;rintro e N ⟨rfl,B⟩;have G:=U (H1.o.trans (B.mono H1.o.size));clear B))
 go_ret;exact⟨rfl,H.o.2.2.1.trans (G.o.mono H.o.2.2.1.size)⟩
theorem aL.one{b off n:Nat}(h:aL w (some ⟨b,off,none⟩) n c l){i:Nat}(d:i<n):aL w (some ⟨b,off+i,none⟩) 1 (c-i) [je l i]:=by
 obtain⟨o,p,e,f,g⟩:=h.cells (by omega);injection e with e
 injection e with k m _
 subst k m;have q:=h.cap;have r:=h.nT;refine⟨rfl,by omega,by omega,by omega,λ _=>⟨b,off+i,rfl,f,λ j s=>?_⟩⟩;obtain rfl:j=0:=by omega
 exact g i d
structure yb(w:World)(m:List Bool)(l:List Int)(k:Nat)(j4:Option Addr)(js c1:Nat)(aX:Option Addr)(kj c2:Nat)(W:World):Prop where
 Cv:js=(oM m (l.take k)).length
 Cw:kj=(oA m (l.take k)).length
 jR:W.ownsRow w.heap.size 3 1 (.slice j4 js c1) js ((oM m (l.take k)).map (n_ .i64))
 kV:W.ownsRow w.heap.size 3 1 (.slice aX kj c2) kj ((oA m (l.take k)).map (n_ .i64))
 ne:∀g,(o_ j4 js c1).ownBlock=some g->(o_ aX kj c2).ownBlock≠some g
 kD:Below w.heap.size w W
theorem PR(h:k<l.length):oM m (l.take (k+1))=oM m (l.take k)++(if pV m [je l k] then [je l k] else []):=by
 unfold oM;rw[uZ l k h,List.filter_append]
 congr 1
 cases e:pV m [je l k]<;>simp[e]
theorem PS(h:k<l.length):oA m (l.take (k+1))=oA m (l.take k)++(if pV m [je l k] then [] else [je l k]):=by
 unfold oA;rw[uZ l k h,List.filter_append]
 congr 1
 cases e:pV m [je l k]<;>simp[e]
theorem ED(m:List Bool)(l:List Int):(oM m l).length<=l.length:=d_ _ _
theorem EE(m:List Bool)(l:List Int):(oA m l).length<=l.length:=d_ _ _
theorem yb.PT(S:yb w m l k j4 js c1 aX kj c2 W)(j:Below W.heap.size W ki)(c:nj ki w.heap.size 3 (.slice j4 js c1) (js+1) ((oM m (l.take k)++[x]).map (n_ .i64)) v9 bM)(n:oM m (l.take (k+1))=oM m (l.take k)++[x])(o:oA m (l.take (k+1))=oA m (l.take k)):
  ∃d f,v9=.slice d (js+1) f/\yb w m l (k+1) d (js+1) f aX kj c2 bM:=by
 obtain⟨⟨d,jU,f⟩,q,r⟩:=ax.kW c.1;obtain rfl:jU=js+1:=r;obtain rfl:v9=.slice d (js+1) f:=q;have kV:=mw S.kV j;have p:=S.kD.trans (j.mono S.kD.size);refine⟨d,f,rfl,⟨by rw[n,S.Cv];simp,by rw[o,S.Cw],by rw[n];exact c.1,by rw[o];exact oS kV (λ b e=>c.2.1.block b (kV.lt b e).2 (λ i=>S.ne b i.symm e)),λ g e i=>?_,s5 p c.2.1 p.size (λ g e=>((mw S.jR j).lt g e).1)⟩⟩;rcases c.2.2 with h1|h1
 ·rw[h1] at e;exact S.ne g e i
 ·rw[h1] at e;injection e with e
  have:=(kV.lt g i).2;omega
theorem yb.PU(S:yb w m l k j4 js c1 aX kj c2 W)(j:Below W.heap.size W ki)(d:nj ki w.heap.size 3 (.slice aX kj c2) (kj+1) ((oA m (l.take k)++[x]).map (n_ .i64)) v9 bM)(n:oA m (l.take (k+1))=oA m (l.take k)++[x])(o:oM m (l.take (k+1))=oM m (l.take k)):
  ∃f i,v9=.slice f (kj+1) i/\yb w m l (k+1) j4 js c1 f (kj+1) i bM:=by
 obtain⟨⟨f,jU,i⟩,q,r⟩:=ax.kW d.1;obtain rfl:jU=kj+1:=r;obtain rfl:v9=.slice f (kj+1) i:=q;have jR:=mw S.jR j;have p:=S.kD.trans (j.mono S.kD.size);refine⟨f,i,rfl,⟨by rw[o,S.Cv],by rw[n,S.Cw];simp,by rw[o];exact oS jR (λ b e=>d.2.1.block b (jR.lt b e).2 (λ c=>S.ne b e c.symm)),by rw[n];exact d.1,λ g e c=>?_,s5 p d.2.1 p.size (λ g e=>((mw S.kV j).lt g e).1)⟩⟩;rcases d.2.2 with h1|h1
 ·rw[h1] at c;exact S.ne g e c
 ·rw[h1] at c;injection c with c
  have:=(jR.lt g e).2;omega
theorem PV(N:Option Addr)(O P:Nat)(m:List Bool)(A:Option Addr)(n c:Nat)(l:List Int)(w:World)(hm:kE w N O P m)(h:aL w A n c l)(hl:∀x∈l,gK 60000 x)(ar:n<=1000):
  Calls w_ 39 #[.slice N O P,.slice A n c] w λ e w'=>∃j c1 p c2,e=.returned (.tuple #[.slice j (oM m l).length c1,.slice p (oA m l).length c2])/\aL w' j (oM m l).length c1 (oM m l)/\aL w' p (oA m l).length c2 (oA m l)/\Below w.heap.size w w':=by
 have H:=U (z_ hm h);have B:=U (z_ hl (z_ h.len h.cap));obtain⟨ys,Q⟩:∃y,oM m l=y:=⟨_,rfl⟩
 obtain⟨aj,R⟩:∃y,oA m l=y:=⟨_,rfl⟩
 rw[Q,R];have K:=U (z_ Q R);clear hm h hl Q R;go_enter Tryz.func39,Tryz.ntmps39
 go_wp2
 go_loopw [8,6,7] (λ i q r W=>∃(k:Nat)(j:Option Addr)(t c1:Nat)(p:Option Addr)(u c2:Nat),k<=n/\i=.int .i64 k/\q=.slice j t c1/\r=.slice p u c2/\yb w m l k j t c1 p u c2 W) (λ i _ _ _=>n-(intOf i).toNat)
 case atStart=>exact⟨0,none,0,0,none,0,0,s_ _,rfl,rfl,rfl,⟨rfl,rfl,k_ _ _ _ _,k_ _ _ _ _,λ g e=>(by cases e),t_ _ _⟩⟩
 case round=>
  obtain⟨k,j,t,c1,p,u,c2,hk,rfl,rfl,rfl,d⟩:=hrel;have S:=U d
  by_cases C:k<n
  ·have ak:(k:Int)<(n:Int):=by omega
   have au:(k:Int)+1<=(n:Int):=by omega
   have av:(k:Int)<=(k:Int)+1:=by omega
   have aw:u_.wrap ((k:Int)+1)=(k:Int)+1:=by rw[v_];omega
   have ax:wrap64 ((k:Int)+1)=(k:Int)+1:=by unfold wrap64;omega
   have ay:=B.o.2.2;have az:¬c=k:=by omega
   have aA:(k:Int)+1<=(c:Int):=by omega
   obtain⟨b,off,rfl,al,af⟩:=(H.o.2.below d.kD).cells (by omega);have D:=af k C;have E:k<l.length:=by rw[B.o.2.1];exact C
   have T:=EA N O P m (some ⟨b,off+k,none⟩) 1 (c-k) [je l k] wr (H.o.1.below d.kD) ((H.o.2.below d.kD).one C) (λ y f=>by rw[l_.1 f];exact B.o.1 _ (tN E));have f:=PR (m:=m) E;have s:=PS (m:=m) E;obtain⟨x,ag⟩:∃x,je l k=x:=⟨_,rfl⟩
   rw[ag] at D T f s;have L:=U T;have M:=U (z_ E C);clear af al T E C hk d ag
   cases hu:pV m [x] with
   |true=>
    rw[hu] at L f s;simp only[if_true,List.append_nil] at f s;have F:=U (z_ f s);clear hu f s
    go_upto_region 7 with(go_at_call 95;refine L.o.mono ?_;rintro e w1 ⟨rfl,v⟩;have H1:=U v;have an:=(c_ (a:=⟨b,off+k,none⟩) (v.block b (x9 D))).trans D;clear v)
    have G:aL (w1.alloc (mP [x])) (some ⟨w1.heap.size,0,none⟩) 1 1 [x]:=aL.lit w1 [x] 1 _ rfl rfl (by omega);have V:=U G;have z:=U (H1.o.trans ((bz w1 (mP [x])).mono H1.o.size));have ao:t<=1000:=by rw[S.o.Cv];have h1:=ED m (l.take k);have X:=List.length_take_le k l;omega
    have Y:=U (mw S.o.jR z.o);have Z:=U (Nat.le_trans S.o.kD.size z.o.size);clear G
    go_wp2_with (at_builtin;refine qS rfl (.tmp 22) (.tmp 27) rfl w.heap.size (.slice j t c1) t (oM m (l.take k)) rfl Y.o (some ⟨w1.heap.size,0,none⟩) 1 1 [x] rfl V.o (by omega) Z.o ?_;intro v9 bM I;obtain⟨aa,ab,rfl,J⟩:=S.o.PT z.o I F.o.1 F.o.2;have ad:=U J;clear I J)
    go_roundw
    case rel=>exact⟨k+1,aa,t+1,ab,p,u,c2,by have:=M.o;omega,by go_num,rfl,rfl,ad.o⟩
    case measure=>have:=M.o;simp[intOf];omega
   |false=>
    rw[hu] at L f s;simp only[Bool.false_eq_true,if_false,List.append_nil] at f s;have F:=U (z_ f s);clear hu f s
    go_upto_region 8 with(go_at_call 95;refine L.o.mono ?_;rintro e w1 ⟨rfl,v⟩;have H1:=U v;have an:=(c_ (a:=⟨b,off+k,none⟩) (v.block b (x9 D))).trans D;clear v)
    have G:aL (w1.alloc (mP [x])) (some ⟨w1.heap.size,0,none⟩) 1 1 [x]:=aL.lit w1 [x] 1 _ rfl rfl (by omega);have V:=U G;have z:=U (H1.o.trans ((bz w1 (mP [x])).mono H1.o.size));have ao:u<=1000:=by rw[S.o.Cw];have h1:=EE m (l.take k);have X:=List.length_take_le k l;omega
    have Y:=U (mw S.o.kV z.o);have Z:=U (Nat.le_trans S.o.kD.size z.o.size);clear G
    go_wp2_with (at_builtin;refine qS rfl (.tmp 29) (.tmp 34) rfl w.heap.size (.slice p u c2) u (oA m (l.take k)) rfl Y.o (some ⟨w1.heap.size,0,none⟩) 1 1 [x] rfl V.o (by omega) Z.o ?_;intro v9 bM I;obtain⟨aa,ab,rfl,J⟩:=S.o.PU z.o I F.o.2 F.o.1;have ad:=U J;clear I J)
    go_roundw
    case rel=>exact⟨k+1,j,t,c1,aa,u+1,ab,by have:=M.o;omega,by go_num,rfl,rfl,ad.o⟩
    case measure=>have:=M.o;simp[intOf];omega
  ·have ak:¬(k:Int)<(n:Int):=by omega
   have ae:l.take k=l:=List.take_of_length_le (by have:=B.o.2.1;omega);have ah:=d.Cv;have ai:=d.Cw;have jR:=d.jR;have kV:=d.kV;rw[ae,K.o.1] at ah jR;rw[ae,K.o.2] at ai kV;subst ah ai;have h1:ys.length<=1000:=by rw[<-K.o.1];have h1:=ED m l;have:=B.o.2.1;omega
   have X:aj.length<=1000:=by rw[<-K.o.2];have h1:=EE m l;have:=B.o.2.1;omega
   have aq:=U (z_ (aL.kW jR (by omega)) (z_ (aL.kW kV (by omega)) d.kD));clear jR kV d ae h1 X;go_wp2
   go_ret2
   exact⟨j,c1,p,c2,rfl,aq.o⟩
theorem nj.open{w':World}{base:Nat}{e:TypeId}{v v':Value}{ys:List Value}(b:nj w base e v k ys v' w')(d:Below base w0 w)(hs:base<=w.heap.size)(f:∀g,v.ownBlock=some g->base<=g):∃A c,v'=.slice A k c/\w'.ownsRow base e 1 (.slice A k c) k ys/\Below base w0 w':=by
 obtain⟨⟨A,n,c⟩,i,j⟩:=ax.kW b.1;obtain rfl:n=k:=j;obtain rfl:v'=.slice A n c:=i;exact⟨A,c,rfl,b.1,s5 d b.2.1 hs f⟩
theorem PW(n:Nat)(ar:n<=10)(A:Option Addr)(nl cl:Nat)(ls:List (List Int))(F:Option Addr)(c G:Nat)(keep:List Int)(I:Option Addr)(d J:Nat)(yes:List Int)(N:Option Addr)(f O:Nat)(no:List Int)(w:World)(h:ku w A nl cl ls)(hk:aL w F c G keep)(B:aL w I d J yes)(K:aL w N f O no)(P:∀x∈keep,gK n x)(Q:∀x∈yes,gK n x)(R:∀x∈no,gK n x)(aB:c+d+f<=1000)(S:∀x∈no,pE n ls (keep++yes++[x])=false):
  Calls w_ 93 #[.agg #[.int .i64 n,.slice A nl cl],.slice F c G,.slice I d J,.slice N f O] w λ e w'=>e=.returned (.bool true)/\Below w.heap.size w w':=by
 have m:Below w.heap.size w (w.alloc (.cells #[.int .i64 n,.slice A nl cl] 24)):=(t_ _ _).alloc (q_ _) _;have T:=o6.new w n A nl cl;have H:=U (z_ (h.below m) (z_ (hk.below m) (z_ (B.below m) (z_ (K.below m) (z_ m T)))));have u:=U (z_ P (z_ Q (z_ R (z_ S K.len))));clear h hk B K m T P Q R S;go_enter Tryz.func93,Tryz.ntmps93
 go_upto_region 1 with fail
 generalize w.alloc (.cells #[.int .i64 n,.slice A nl cl] 24)=W at*
 go_wp2_with fail
 go_loopw [9] (λ i V=>∃k:Nat,k<=f/\i=.int .i64 k/\Below W.heap.size W V) (λ i _=>f-(intOf i).toNat)
 case atStart=>exact⟨0,s_ _,rfl,t_ _ _⟩
 case round=>
  obtain⟨k,hk,rfl,q⟩:=hrel;have au:=U q
  by_cases C:k<f
  ·have av:(k:Int)<(f:Int):=by omega
   have aC:u_.wrap ((k:Int)+1)=(k:Int)+1:=by rw[v_];omega
   obtain⟨b,off,rfl,X,Y⟩:=H.o.2.2.2.1.cells (by omega);have v:=Y k C;have Z:k<no.length:=by have:=u.o.2.2.2.2;omega
   obtain⟨x,L⟩:∃x,je no k=x:=⟨_,rfl⟩
   have aa:x∈no:=L▸tN Z;rw[L] at v;have ab:=E4 wr W.heap.size wr.heap.size 3 rfl q.size;have ad:=q.trans ((bz wr (.cells #[] 3)).mono q.size);have r:=U (z_ ab ad);have s:=U (z_ C (z_ aa (z_ v X)));clear ab ad Y X Z L aa C hk q v
   go_upto_region 5 with(at_builtin;refine qS rfl (.tmp 17) (.tmp 18) rfl W.heap.size (.slice (some ⟨wr.heap.size,0,none⟩) 0 0) 0 [] rfl r.o.1 F c G keep rfl (H.o.2.1.below r.o.2) (by omega) r.o.2.size ?_;intro v1 w1 j;obtain⟨ae,c1,rfl,af,ag⟩:=j.open r.o.2 r.o.2.size (λ g e=>(r.o.1.lt g e).1);have H1:=U (z_ af ag);clear j af ag)
   have ah:bJ (w1.ownsRow W.heap.size 3 1 (.slice ae (c) c1) (c) (keep.map (n_ .i64))):=U (by have h1:=H1.o.1;rw[e_,h_] at h1;exact h1)
   go_upto_region 6 with(at_builtin;refine qS rfl (.tmp 20) (.tmp 21) rfl W.heap.size (.slice ae (c) c1) (c) keep rfl ah.o I d J yes rfl (H.o.2.2.1.below H1.o.2) (by omega) H1.o.2.size ?_;intro v2 l j;obtain⟨ai,c2,rfl,aj,ak⟩:=j.open H1.o.2 H1.o.2.size (λ g e=>(ah.o.lt g e).1);have D:=U (z_ aj ak);clear j aj ak)
   have al:bJ (l.ownsRow W.heap.size 3 1 (.slice ai (c+d) c2) (c+d) ((keep++yes).map (n_ .i64))):=U D.o.1;have v:=(D.o.2.cell (p:=⟨b,off+k,none⟩) s.o.2.2.2).trans s.o.2.2.1;have an:aL (l.alloc (mP [x])) (some ⟨l.heap.size,0,none⟩) 1 1 [x]:=aL.lit l [x] 1 _ rfl rfl (by omega);have aw:=U an;have z:=D.o.2.trans ((bz l (mP [x])).mono D.o.2.size);have E:=U (z_ z (mw al.o (bz l (mP [x]))));clear an z
   go_upto_region 7 with(at_builtin;refine qS rfl (.tmp 23) (.tmp 28) rfl W.heap.size (.slice ai (c+d) c2) (c+d) (keep++yes) rfl E.o.2 (some ⟨l.heap.size,0,none⟩) 1 1 [x] rfl aw.o (by omega) E.o.1.size ?_;intro v3 ax j;obtain⟨ay,c3,rfl,ao,z⟩:=j.open E.o.1 E.o.1.size (λ g e=>(al.o.lt g e).1);have t:=U (z_ ao z);clear j ao z)
   have az:=U (AK false n ar A nl cl ls ay (c+d+1) c3 (keep++yes++[x]) ax (H.o.1.below t.o.2) (aL.kW t.o.1 (by omega)) (λ y B=>by
    rcases r_.1 B with h1|h1
    ·rcases r_.1 h1 with M|M
     ·exact u.o.1 y M
     ·exact u.o.2.1 y M
    ·rw[l_.1 h1];exact u.o.2.2.1 x s.o.2.1) (u.o.2.2.2.1 x s.o.2.1))
   have aD:=(H.o.2.2.2.2.2.below t.o.2).bf;have aE:=(H.o.2.2.2.2.2.below t.o.2).c1;clear v
   go_wp2_with (go_at_call 34;refine az.o.mono ?_;rintro e aF ⟨rfl,aq⟩;have aA:=U (t.o.2.trans (aq.mono t.o.2.size));clear aq)
   go_roundw
   case rel=>exact⟨k+1,by have:=s.o.1;omega,by go_num,aA.o⟩
   case measure=>have:=s.o.1;simp[intOf];omega
  ·have av:¬(k:Int)<(f:Int):=by omega
   clear C hk q;go_wp2;go_ret;exact⟨rfl,H.o.2.2.2.2.1.trans (au.o.mono H.o.2.2.2.2.1.size)⟩
theorem PX(h: -9223372036854775808<=x/\x<=9223372036854775807):max x (u_.wrap (-x))=qc x:=by
 unfold qc;rw[v_];split<;>omega
theorem PY{q:Nat}(b:q<i)(c:i<l.length)(e:aC (je l q)=aC (je l i)):pG n l i=true:=by
 unfold pG;rw[Bool.or_eq_true];right;refine u0.2 (a_.2 ⟨je l q,?_,by show(aC (je l q):Int)=_;rw[e]⟩);rw[oN (by omega)];exact j_.2 ⟨q,by omega,rfl⟩
theorem PZ(k:i<l.length)(b:tI n (je l i)=true)(c:∀q,q<i->aC (je l q)≠aC (je l i)):pG n l i=false:=by
 unfold pG;rw[b,Bool.not_true,Bool.false_or]
 cases d:hasB ((l.take i).map λ x=>(aC x:Int)) (aC (je l i):Int) with
 |false=>rfl
 |true=>
  obtain⟨y,f,g⟩:=a_.1 (u0.1 d);obtain⟨j,m,e⟩:=j_.1 f;have h1:=c j (by omega);rw[oN (by omega),e] at h1;exact absurd (by have:(aC y:Int)=(aC (je l i):Int):=g;omega) h1
theorem P0(n:Nat)(ao:n<=65536)(A:Option Addr)(nl cl:Nat)(l:List Int)(w:World)(h:aL w A nl cl l)(hw:nZ l):
  Calls w_ 89 #[.slice A nl cl,.int .i64 n] w λ e w'=>e=.returned (.bool (r8 n l))/\Below w.heap.size w w':=by
 have aq:=h.small;have H:=U h;have E:=U (z_ h.len hw);clear h hw;go_enter Tryz.func89,Tryz.ntmps89
 go_wp2
 go_loopw [5] (λ i W=>∃k:Nat,i=.int .i64 k/\k<=nl/\(∀q,q<k->pG n l q=false)/\Below w.heap.size w W) (λ i _=>nl-(intOf i).toNat)
 case atStart=>exact⟨0,rfl,s_ _,λ q m=>absurd m (by omega),t_ _ _⟩
 case round=>
  obtain⟨k,rfl,hk,P,u⟩:=hrel;have Q:=U P;have F:=U u;clear P
  by_cases G:k<nl
  ·have aa:(k:Int)<(nl:Int):=by omega
   obtain⟨b,off,rfl,R,S⟩:=(H.o.below u).cells (by omega);have I:=S k G;have J:k<l.length:=by rw[E.o.1];exact G
   obtain⟨x,z⟩:∃x,je l k=x:=⟨_,rfl⟩
   have K: -9223372036854775808<=x/\x<=9223372036854775807:=by rw[<-z];exact E.o.2 _ (tN J)
   rw[z] at I;have ar:u_.wrap ((k:Int)+1)=(k:Int)+1:=by rw[v_];omega
   have T:=PX K;have V:max x (wrap64 (-x))=qc x:=by unfold qc wrap64;split<;>omega
   have c:=U (z_ J (z_ z G));clear S u J z hk
   go_upto_region 4 with fail
   go_quiet (fail)
   have ab:=U (below_drewN wr nq);have L:=U (F.o.trans (ab.o.mono F.o.size));generalize wr.drewN nq=w1 at*
   cases d:tI n x with
   |false=>
    have f:qc x<1\/¬qc x<1/\(n:Int)<qc x:=by
     unfold tI at d;rw[Bool.and_eq_false_iff,decide_eq_false_iff_not,decide_eq_false_iff_not] at d;unfold qc;split<;>omega
    have p:=U (show pG n l k=true by unfold pG;rw[c.o.2.1,d];rfl);generalize qc x=v at*;clear d T V K I R;rcases f with f|⟨f,ad⟩
    ·go_wp2;go_ret;exact⟨mO (x5 c.o.1 p.o).symm,L.o⟩
    ·go_wp2;go_ret;exact⟨mO (x5 c.o.1 p.o).symm,L.o⟩
   |true=>
    have f:qc x=(aC x:Int)/\1<=aC x/\aC x<=n:=by
     unfold tI at d;rw[Bool.and_eq_true,decide_eq_true_eq,decide_eq_true_eq] at d;unfold qc aC;split<;>omega
    have ae:=U d;rw[f.1];obtain⟨v,M⟩:∃v,aC x=v:=⟨_,rfl⟩
    rw[M] at f⊢;have au:¬(v:Int)<1:=by omega
    have ad:¬(n:Int)<(v:Int):=by omega
    have av:1<=v/\v<=n:=f.2;have X:=U M;have aw:u_.wrap (-(v:Int))= -(v:Int):=by rw[v_];omega
    have ax:wrap64 (-(v:Int))= -(v:Int):=by unfold wrap64;omega
    clear d T V K I R f M
    go_wp2_with fail
    go_loopw [7] (λ i W=>∃j:Nat,i=.int .i64 j/\j<=k/\(∀q,q<j->aC (je l q)≠v)/\Below w.heap.size w W) (λ i _=>k-(intOf i).toNat)
    case atStart=>exact⟨0,rfl,s_ _,λ q m=>absurd m (by omega),L.o⟩
    case round=>
     obtain⟨j,rfl,B,C,D⟩:=hrel;have r:=U (z_ C D)
     by_cases s:j<k
     ·have af:(j:Int)<(k:Int):=by omega
      have ay:(j:Int)<(nl:Int):=by omega
      have az:u_.wrap ((j:Int)+1)=(j:Int)+1:=by rw[v_];omega
      obtain⟨aA,aB,N,ag,Y⟩:=(H.o.below D).cells (by omega);injection N with N
      injection N with ah ai _
      subst ah ai;have aj:=Y j (by omega);obtain⟨y,O⟩:∃y,je l j=y:=⟨_,rfl⟩
      rw[O] at aj;have t:=U (z_ O s);clear Y ag O C D
      by_cases g:aC y=v
      ·have p:=U (show pG n l k=true from PY t.o.2 c.o.1 (by rw[t.o.1,c.o.2.1,g,X.o]));rcases(show y=(v:Int)\/(y≠(v:Int)/\y= -(v:Int)) by unfold aC at g;omega) with rfl|⟨Z,rfl⟩
       ·clear g s B;go_wp2;go_ret;exact⟨mO (x5 c.o.1 p.o).symm,r.o.2⟩
       ·have d1:(-(v:Int)==(v:Int))=false:=by simpa using Z
        clear g s B Z;go_wp2;go_ret;exact⟨mO (x5 c.o.1 p.o).symm,r.o.2⟩
      ·have d1:(y==(v:Int))=false:=by
        have:y≠(v:Int):=by unfold aC at g;omega
        simpa using this
       have d2:(y== -(v:Int))=false:=by
        have:y≠-(v:Int):=by unfold aC at g;omega
        simpa using this
       have ak:=U g;clear g s B;go_wp2;go_roundw
       case rel=>
        refine⟨j+1,by go_num,by have:=t.o.2;omega,λ q m=>?_,r.o.2⟩;rcases b_ q j with h1|h1
        ·exact r.o.1 q h1
        ·obtain rfl:q=j:=by omega
         rw[t.o.1];exact ak.o
       case measure=>have:=t.o.2;simp[intOf];omega
     ·have af:¬(j:Int)<(k:Int):=by omega
      have al:j=k:=by omega
      have an:=U (show pG n l k=false from PZ c.o.1 (by rw[c.o.2.1];exact ae.o) (λ q m=>by rw[c.o.2.1,X.o];exact C q (by omega)));clear C D s B al;go_wp2;go_roundw
      case rel=>exact⟨k+1,by go_num,by have:=c.o.2.2;omega,HZ Q.o an.o,r.o.2⟩
      case measure=>have:=c.o.2.2;simp[intOf];omega
  ·have aa:¬(k:Int)<(nl:Int):=by omega
   have aD:k=nl:=by omega
   clear u;go_wp2;go_ret;exact⟨mO (HL λ q m=>Q.o q (by have:=E.o.1;omega)).symm,F.o⟩
theorem Cx(x:Int)(A:Option Addr)(nl cl:Nat)(ls:List (List Int))(C:Option Addr)(i D:Nat)(keep:List Int)(E:Option Addr)(nq F:Nat)(d:List Int)(c:Int)(w:World)(h:ku w A nl cl ls)(hk:aL w C i D keep)(G:aL w E nq F d)(hw:nZ (keep++d))(ai:i+nq<=1000):
  Calls w_ 30 #[.agg #[.int .i64 x,.slice A nl cl],.slice C i D,.slice E nq F,.int .i64 c] w λ e w'=>e=.returned (.int .i64 (ny x ls (keep++d) c))/\Below w.heap.size w w':=by
 have j:Below w.heap.size w (w.alloc (.cells #[.int .i64 x,.slice A nl cl] 24)):=(t_ _ _).alloc (q_ _) _;have k:=o6.new w x A nl cl;generalize M:w.alloc (.cells #[.int .i64 x,.slice A nl cl] 24)=W at j k;have N:=k.bf;have O:=k.c1;have H:=U (CF x A nl cl ls W (h.below j));have f:=U (z_ j (z_ k (z_ (hk.below j) (G.below j))));obtain⟨P,q⟩:∃e,lM x ls=e:=⟨_,rfl⟩
 obtain⟨t,u⟩:∃e,ny x ls (keep++d) c=e:=⟨_,rfl⟩
 have b:=u;unfold ny at b;rw[u];rw[q] at H b
 by_cases v:P=0
 ·subst v;rw[if_pos rfl] at b;have I:∃n:Nat,x=n/\n<=65536:=by
   by_cases I:x<0\/65536<x
   ·rw[xo I] at q;cases q
   ·exact⟨x.toNat,by omega,by omega⟩
  obtain⟨n,rfl,Q⟩:=I;have nD:bJ (∀(W':World)(y:Option Addr)(jU z:Nat),aL W' y jU z (keep++d)->Calls w_ 89 #[.slice y jU z,.int .i64 n] W' λ e w'=>e=.returned (.bool (r8 n (keep++d)))/\Below W'.heap.size W' w'):=U λ W' y jU z aa=>P0 n Q y jU z (keep++d) W' aa hw
  obtain⟨r,R⟩:∃r,r8 n (keep++d)=r:=⟨_,rfl⟩
  rw[R] at nD b;have key:(r=false/\t=1)\/(r=true/\c<0/\t=1)\/(r=true/\¬c<0/\1099511627776<c/\t=1)\/(r=true/\¬c<0/\¬1099511627776<c/\t=0):=by
   cases r with
   |false=>left;exact⟨rfl,b.symm⟩
   |true=>
    right;rcases g_ c 0 with J|J
    ·left;rw[decide_eq_false (show¬0<=c by omega)] at b;exact⟨rfl,J,b.symm⟩
    ·right;rcases g_ 1099511627776 c with K|K
     ·left;rw[decide_eq_false (show¬c<=1099511627776 by omega)] at b;simp at b;exact⟨rfl,by omega,K,b.symm⟩
     ·right;rw[decide_eq_true J,decide_eq_true K] at b;exact⟨rfl,by omega,by omega,b.symm⟩
  clear h hk G hw j k q u b R Q;rcases key with⟨rfl,rfl⟩|⟨rfl,S,rfl⟩|⟨rfl,S,ab,rfl⟩|⟨rfl,S,ab,rfl⟩
  all_goals
   go_enter Tryz.func30,Tryz.ntmps30
   go_upto_region 1 with fail
   try rw[M]
   go_upto_region 4 with(go_at_call 88;refine H.o.mono ?_;rintro e w1 ⟨rfl,l⟩;have H1:=U l;have z0:=f.o.2.1.below l;have N:=z0.bf;have O:=z0.c1;clear z0 l)
   have T:=E4 w1 W.heap.size w1.heap.size 3 rfl H1.o.size;have m:=U (z_ T (H1.o.trans ((bz w1 (.cells #[] 3)).mono H1.o.size)));clear T
   go_upto_region 5 with(at_builtin;refine qS rfl (.tmp 16) (.tmp 17) rfl W.heap.size (.slice (some ⟨w1.heap.size,0,none⟩) 0 0) 0 [] rfl m.o.1 C i D keep rfl (f.o.2.2.1.below m.o.2) (by omega) m.o.2.size ?_;intro v2 aj s;obtain⟨ad,c2,rfl,L,V⟩:=s.open m.o.2 m.o.2.size (λ g e=>(m.o.1.lt g e).1);rw[e_,h_] at L;have p:=U (z_ L V);clear s L V)
   go_upto_region 6 with(at_builtin;refine qS rfl (.tmp 19) (.tmp 20) rfl W.heap.size (.slice ad i c2) i keep rfl p.o.1 E nq F d rfl (f.o.2.2.2.below p.o.2) (by omega) p.o.2.size ?_;intro v3 ae s;obtain⟨af,c3,rfl,X,Y⟩:=s.open p.o.2 p.o.2.size (λ g e=>(p.o.1.lt g e).1);have B:=U (z_ X Y);clear s X Y)
   have ag:=U (nD.o ae af (i+nq) c3 (aL.kW B.o.1 (by omega)));have ak:=(f.o.2.1.below B.o.2).bf;clear N O
   go_wp2_with (go_at_call 89;refine ag.o.mono ?_;rintro e al ⟨rfl,Z⟩;have ah:=U (B.o.2.trans (Z.mono B.o.2.size));clear Z)
   go_ret;exact⟨rfl,f.o.1.trans (ah.o.mono f.o.1.size)⟩
 ·rw[if_neg v] at b;subst b;have an:(P==0)=false:=by simpa using v
  clear h hk G hw j k q u v;go_enter Tryz.func30,Tryz.ntmps30
  go_upto_region 1 with fail
  try rw[M]
  go_wp2_with (go_at_call 88;refine H.o.mono ?_;rintro e w1 ⟨rfl,l⟩;have H1:=U l;clear l)
  go_ret;exact⟨rfl,f.o.1.trans (H1.o.mono f.o.1.size)⟩
def yc(w:World)(x:Int)(nl b nq:Nat)(e:Ending)(w':World):Prop:=∃r,e=.returned (.bool r)/\Below w.heap.size w w'/\(r=true->x<=10/\nl<=60/\b<=20/\nq<=20)
theorem AM(x:Int)(A:Option Addr)(nl cl:Nat)(ls:List (List Int))(v:Option Addr)(c y:Nat)(z:Option Addr)(nq B:Nat)(w:World)(h:ku w A nl cl ls):
  Calls w_ 27 #[.agg #[.int .i64 x,.slice A nl cl],.slice v c y,.slice z nq B] w (yc w x nl c nq):=by
 have I:=h.small;have l:Below w.heap.size w (w.alloc (.cells #[.int .i64 x,.slice A nl cl] 24)):=(t_ _ _).alloc (q_ _) _;have m:=o6.new w x A nl cl;generalize p:w.alloc (.cells #[.int .i64 x,.slice A nl cl] 24)=W at l m;have J:=m.bf;have K:=m.c1;have q:=U (z_ l (h.below l));clear h l m;go_enter Tryz.func27,Tryz.ntmps27
 go_upto_region 1 with fail
 try rw[p]
 clear p
 go_wp2_with fail
 go_loop [7] (λ i=>∃k:Nat,k<=nl/\i=.int .i64 k) (λ i=>nl-(intOf i).toNat)
 case atStart=>exact⟨0,s_ _,rfl⟩
 case round=>
  obtain⟨k,hk,rfl⟩:=hrel;have last:∀{P:Prop},(∀h:x<=10\/¬x<=10,∀d:nl<=60\/¬nl<=60,∀g:c<=20\/¬c<=20,∀j:nq<=20\/¬nq<=20,P)->P:=λ f=>f (by omega) (by omega) (by omega) (by omega)
  have fin:bJ (∀(r:Bool),(r=true->x<=10/\nl<=60/\c<=20/\nq<=20)->yc w x nl c nq (Ending.returned (.bool r)) W):=U λ r C=>⟨r,rfl,q.o.1,C⟩
  by_cases s:k<nl/\k<60
  ·have t:(k:Int)<(nl:Int):=by omega
   have D:(k:Int)<60:=by omega
   obtain⟨b,off,rfl,E,u⟩:=q.o.2.cells (by omega);obtain⟨a1,n,c1,L,F⟩:=u k s.1;have M:u_.wrap ((k:Int)+1)=(k:Int)+1:=by rw[v_];omega
   clear u F E last
   by_cases N:30<n
   ·have G:(30:Int)<(n:Int):=by omega
    go_wp2;go_ret;exact fin.o false (λ e=>by cases e)
   ·have G:¬(30:Int)<(n:Int):=by omega
    go_wp2
    go_round
    case rel=>exact⟨k+1,by omega,by go_num⟩
    case measure=>simp[intOf];omega
  ·have H:(¬(k:Int)<(nl:Int))\/((k:Int)<(nl:Int)/\¬(k:Int)<60):=by omega
   refine last λ h1 d g j=>?_
   clear last s;rcases H with t|⟨t,D⟩
   ·rcases h1 with h1|h1
    ·rcases d with d|d
     ·have m2:(nl:Int)<=60:=by omega
      rcases g with g|g
      ·have m3:(c:Int)<=20:=by omega
       rcases j with j|j
       ·have m4:(nq:Int)<=20:=by omega
        go_wp2;go_ret;exact fin.o _ (λ _=>⟨h1,d,g,j⟩)
       ·have m4:¬(nq:Int)<=20:=by omega
        go_wp2;go_ret;exact fin.o false (λ e=>by cases e)
      ·have m3:¬(c:Int)<=20:=by omega
       go_wp2;go_ret;exact fin.o false (λ e=>by cases e)
     ·have m2:¬(nl:Int)<=60:=by omega
      go_wp2;go_ret;exact fin.o false (λ e=>by cases e)
    ·go_wp2;go_ret;exact fin.o false (λ e=>by cases e)
   ·have m2:¬(nl:Int)<=60:=by omega
    rcases h1 with h1|h1
    ·go_wp2;go_ret;exact fin.o false (λ e=>by cases e)
    ·go_wp2;go_ret;exact fin.o false (λ e=>by cases e)
theorem xk(w:World):Calls w_ 31 #[.agg #[.int .i64 0,.slice none 0 0,.slice none 0 0,.int .i64 0]] w λ e w'=>e=.returned (.bool true)/\Below w.heap.size w w':=by
 have b:=bz w (.cells #[.int .i64 0,.slice none 0 0,.slice none 0 0,.int .i64 0] 30);go_enter Tryz.func31,Tryz.ntmps31
 go_wp2;go_ret;exact⟨rfl,b⟩
theorem II(w:World)(n:Nat)(A:Option Addr)(nl cl:Nat)(v0 v1 v2 v3:Value):∃W:World,W=(w.alloc (.cells #[.int .i64 n,.slice A nl cl] 24)).alloc (.cells #[v0,v1,v2,v3] 30)/\Below w.heap.size w W/\o6 W w.heap.size n A nl cl/\aT W (w.heap.size+1) 30 [v0,v1,v2,v3]:=by
 have b:=bz w (.cells #[.int .i64 n,.slice A nl cl] 24);have d:=o6.new w n A nl cl;have z0:(w.alloc (.cells #[.int .i64 n,.slice A nl cl] 24)).heap.size=w.heap.size+1:=by simp
 generalize w.alloc (.cells #[.int .i64 n,.slice A nl cl] 24)=w1 at*;have h1:=bz w1 (.cells #[v0,v1,v2,v3] 30);have c:aT (w1.alloc (.cells #[v0,v1,v2,v3] 30)) w1.heap.size 30 [v0,v1,v2,v3]:=aT.new w1 30 _;rw[z0] at c;exact⟨_,rfl,b.trans (h1.mono b.size),d.below h1,c⟩
theorem P3(n:Nat)(O:n<=10)(A:Option Addr)(nl cl:Nat)(ls:List (List Int))(C:Option Addr)(nq D:Nat)(t:List Int)(P:Nat)(kind:Int)(H:Option Addr)(u I:Nat)(m:List Bool)(k:Option Addr)(c l:Nat)(core:List Int)(E:Nat)(w:World)(h:ku w A nl cl ls)(Q:aL w C nq D t)(hm:kE w H u I m)(R:aL w k c l core)(q:lM n ls=0)(hl:∀x∈t,gK n x)(ao:nq<=1000)(ab:vo ls n t P kind m core E):
  Calls w_ 32 #[.agg #[.int .i64 n,.slice A nl cl],.slice C nq D,.int .i64 P,.agg #[.int .i64 kind,.slice H u I,.slice k c l,.int .i64 (E:Int)]] w λ e w'=>e=.returned (.bool true)/\Below w.heap.size w w':=by
 obtain⟨W,r,d,J,S⟩:=II w n A nl cl (.int .i64 kind) (.slice H u I) (.slice k c l) (.int .i64 (E:Int));have T:=J.bf;have V:=J.c1;have z:=S.cell;have z0:=z 0;have p:=z 1;have z2:=z 2;have z3:=z 3;simp only[y_,x_] at z0 p z2 z3;have b:=U (z_ d (z_ J (z_ S (z_ (h.below d) (z_ (Q.below d) (z_ (hm.below d) (R.below d)))))));obtain⟨aq,hk⟩:=ab;have s1:¬(E:Int)<0:=by omega
 have s2:¬(P:Int)<(E:Int):=by omega
 have v:=hm.len;have y:=R.len;have K:=Q.len;clear h Q hm R d J S z;rcases hk with⟨rfl,rfl,L⟩|⟨rfl,rfl,hs,hu,Z⟩|⟨rfl,rfl,ad,_,hs,hu⟩
 ·obtain⟨v1,v2⟩:=El q hl L;have ae:=U (EC n O A nl cl ls H u I m C nq D t W b.o.2.2.2.1 b.o.2.2.2.2.2.1 b.o.2.2.2.2.1 hl L.len L.m0 v1 v2);have B:c=0:=by simpa using y.symm
  subst B;clear L v1 v2 v y K hl q;go_enter Tryz.func32,Tryz.ntmps32
  go_upto_region 1 with fail
  rw[<-r];clear r
  go_wp2_with (go_at_call 90;refine ae.o.mono ?_;rintro e w1 ⟨rfl,f⟩;have H1:=U f;have g:=b.o.2.2.1.below f;have z:=g.cell;have z0:=z 0;have p:=z 1;have z2:=z 2;have z3:=z 3;simp only[y_,x_] at z0 p z2 z3;clear z g f)
  go_ret;exact⟨rfl,b.o.1.trans (H1.o.mono b.o.1.size)⟩
 ·have X:u=0:=by simpa using v.symm
  subst X;have af:c<=1000:=by have:=hs.length_le;omega
  have s:=sub_lt hs hl;have aa:∀j,j<core.length->pE n ls (core.eraseIdx j)=true:=λ j ag=>Ig q (λ x ah=>s x (p_ ah)) (Z j ag)
  have F:=ze q s hu;have M:=U (EB k c l core C nq D t W b.o.2.2.2.2.2.2 b.o.2.2.2.2.1 hs);have ai:bJ (∀W',Below W.heap.size W W'->Calls w_ 92 #[.agg #[.int .i64 n,.slice A nl cl],.slice k c l] W' λ e w'=>e=.returned (.bool true)/\Below W'.heap.size W' w'):=U λ W' d=>PO n O A nl cl ls k c l core W' (b.o.2.2.2.1.below d) (b.o.2.2.2.2.2.2.below d) s af aa F
  clear v y K hl q hs hu Z s aa F;go_enter Tryz.func32,Tryz.ntmps32
  go_upto_region 1 with fail
  rw[<-r];clear r
  go_wp2_with (first
   |(go_at_call 91;refine M.o.mono ?_;rintro e w1 ⟨rfl,f⟩;have H1:=U f;clear f;have g:=b.o.2.2.1.below H1.o;have z:=g.cell;have z0:=z 0;have p:=z 1;have z2:=z 2;have z3:=z 3;simp only[y_,x_] at z0 p z2 z3;have i:=b.o.2.1.below H1.o;have T:=i.bf;have V:=i.c1;clear z g i;have aj:=U (ai.o w1 H1.o))
   |(go_at_call 92;refine aj.o.mono ?_;rintro e ak ⟨rfl,G⟩;have Y:=U (H1.o.trans (G.mono H1.o.size));clear G))
  go_ret;exact⟨rfl,b.o.1.trans (Y.o.mono b.o.1.size)⟩
 ·have X:u=0:=by simpa using v.symm
  subst X ad;have M:=U (EB k c l core C nq D t W b.o.2.2.2.2.2.2 b.o.2.2.2.2.1 hs)
  by_cases N:core=[]
  ·subst N;have B:c=0:=by simpa using y.symm
   subst B;clear v y K hl q hs hu;go_enter Tryz.func32,Tryz.ntmps32
   go_upto_region 1 with fail
   rw[<-r];clear r
   go_wp2_with (go_at_call 91;refine M.o.mono ?_;rintro e w1 ⟨rfl,f⟩;have H1:=U f;clear f;have g:=b.o.2.2.1.below H1.o;have z:=g.cell;have z0:=z 0;have p:=z 1;have z2:=z 2;have z3:=z 3;simp only[y_,x_] at z0 p z2 z3;have i:=b.o.2.1.below H1.o;have T:=i.bf;have V:=i.c1;clear z g i)
   go_ret;exact⟨rfl,b.o.1.trans (H1.o.mono b.o.1.size)⟩
  ·have B:0<c:=by have:=List.length_pos_iff.2 N;omega
   have d1:((c:Int)==0)=false:=by
    have:(c:Int)≠0:=by omega
    simpa using this
   have d2:(c==0)=false:=by
    have:c≠0:=by omega
    simpa using this
   have s:=sub_lt hs hl;have F:=ze q s (hu.resolve_left N);have al:bJ (∀W',Below W.heap.size W W'->Calls w_ 34 #[.agg #[.int .i64 n,.slice A nl cl],.slice k c l] W' λ e w'=>e=.returned (.bool false)/\Below W'.heap.size W' w'):=U λ W' d=>AK false n O A nl cl ls k c l core W' (b.o.2.2.2.1.below d) (b.o.2.2.2.2.2.2.below d) s F
   have ar:=U B;clear v y K hl q hs hu s F N B;go_enter Tryz.func32,Tryz.ntmps32
   go_upto_region 1 with fail
   rw[<-r];clear r
   go_wp2_with (first
    |(go_at_call 91;refine M.o.mono ?_;rintro e w1 ⟨rfl,f⟩;have H1:=U f;clear f;have g:=b.o.2.2.1.below H1.o;have z:=g.cell;have z0:=z 0;have p:=z 1;have z2:=z 2;have z3:=z 3;simp only[y_,x_] at z0 p z2 z3;have i:=b.o.2.1.below H1.o;have T:=i.bf;have V:=i.c1;clear z g i;have an:=U (al.o w1 H1.o))
    |(go_at_call 34;refine an.o.mono ?_;rintro e ak ⟨rfl,G⟩;have Y:=U (H1.o.trans (G.mono H1.o.size));clear G))
   go_ret;exact⟨rfl,b.o.1.trans (Y.o.mono b.o.1.size)⟩
theorem IJ(n:Nat)(ah:n<=10)(A:Option Addr)(nl cl:Nat)(ls:List (List Int))(D:Option Addr)(s E:Nat)(keep:List Int)(ao:Option Addr)(nq aq:Nat)(d:List Int)(ar:Nat)(kind:Int)(N:Option Addr)(I O:Nat)(m:List Bool)(J:Option Addr)(i K:Nat)(core:List Int)(Y:Nat)(w:World)(h:ku w A nl cl ls)(hk:aL w D s E keep)(au:aL w ao nq aq d)(hm:kE w N I O m)(av:aL w J i K core)(P:lM n ls=0)(t:∀x∈keep,gK n x)(hl:∀x∈d,gK n x)(aY:s+nq<=300)(aM:w9 ls n keep d ar kind m core Y):
  Calls w_ 33 #[.agg #[.int .i64 n,.slice A nl cl],.slice D s E,.slice ao nq aq,.int .i64 ar,.agg #[.int .i64 kind,.slice N I O,.slice J i K,.int .i64 (Y:Int)]] w λ e w'=>e=.returned (.bool true)/\Below w.heap.size w w':=by
 obtain⟨W,Q,f,ai,aw⟩:=II w n A nl cl (.int .i64 kind) (.slice N I O) (.slice J i K) (.int .i64 (Y:Int));have R:=ai.bf;have S:=ai.c1;have z:=aw.cell;have z0:=z 0;have j:=z 1;have z2:=z 2;have z3:=z 3;simp only[y_,x_] at z0 j z2 z3;have b:=U (z_ f (z_ ai (z_ aw (z_ (h.below f) (z_ (hk.below f) (z_ (au.below f) (z_ (hm.below f) (av.below f))))))));obtain⟨aZ,aN⟩:=aM;have s1:¬(Y:Int)<0:=by omega
 have s2:¬(ar:Int)<(Y:Int):=by omega
 have V:=hm.len;have X:=av.len;have aj:=au.len;have ak:=hk.len;have T:=U (PV N I O m ao nq aq d W b.o.2.2.2.2.2.2.1 b.o.2.2.2.2.2.1 (λ x F=>⟨(hl x F).1,by have:=(hl x F).2;omega⟩) (by omega));have al:=ED m d;have an:=EE m d;clear h hk au hm av f ai aw z;rcases aN with⟨rfl,l,G,aF⟩|⟨rfl,rfl,hs,hu⟩|⟨rfl,rfl,_,aO⟩
 ·obtain⟨v1,v2⟩:=El P t l;have aG:=OG l.len hl;have Z:=Ii l.len hl;rw[<-Z] at G;have aH:∀x∈core,pE n ls (keep++oM m d++[x])=false:=λ x F=>ze P (λ y aP=>by
   rcases r_.1 aP with h1|h1
   ·rcases r_.1 h1 with ax|ax
    ·exact t y ax
    ·exact hl y (m_.1 ax).1
   ·rw[l_.1 h1];rw[G] at F;exact hl x (m_.1 F).1) (by rw[aG];exact aF x F)
  have ay:bJ (∀W',Below W.heap.size W W'->Calls w_ 90 #[.agg #[.int .i64 n,.slice A nl cl],.slice N I O,.slice D s E] W' λ e w'=>e=.returned (.bool true)/\Below W'.heap.size W' w'):=U λ W' f=>EC n ah A nl cl ls N I O m D s E keep W' (b.o.2.2.2.1.below f) (b.o.2.2.2.2.2.2.1.below f) (b.o.2.2.2.2.1.below f) t l.len l.m0 v1 v2
  have aI:bJ (∀(W':World)(L:Option Addr)(c1:Nat)(u:Option Addr)(c2:Nat),Below W.heap.size W W'->aL W' L (oM m d).length c1 (oM m d)->aL W' u (oA m d).length c2 (oA m d)->Calls w_ 93 #[.agg #[.int .i64 n,.slice A nl cl],.slice D s E,.slice L (oM m d).length c1,.slice u (oA m d).length c2] W' λ e w'=>e=.returned (.bool true)/\Below W'.heap.size W' w'):=U λ W' L c1 u c2 f v B=>PW n ah A nl cl ls D s E keep L _ c1 (oM m d) u _ c2 (oA m d) W' (b.o.2.2.2.1.below f) (b.o.2.2.2.2.1.below f) v B t (λ x F=>hl x (m_.1 F).1) (λ x F=>hl x (m_.1 F).1) (by omega) (by rw[<-G];exact aH)
  obtain⟨az,p⟩:∃y,(oM m d).length=y:=⟨_,rfl⟩
  obtain⟨aa,q⟩:∃y,(oA m d).length=y:=⟨_,rfl⟩
  rw[p,q] at T aI;have aA:=U (z_ G (z_ p q));clear l v1 v2 V X aj ak hl t P aG Z G aH aF p q al an;go_enter Tryz.func33,Tryz.ntmps33
  go_upto_region 1 with fail
  rw[<-Q];clear Q
  go_wp2_with (first
   |(go_at_call 39;refine T.o.mono ?_;rintro e w1 ⟨L,c1,u,c2,rfl,v,B,C⟩;have H1:=U C;have ab:=U (z_ v B);clear C v B;have g:=b.o.2.2.1.below H1.o;have z:=g.cell;have z0:=z 0;have j:=z 1;have z2:=z 2;have z3:=z 3;simp only[y_,x_] at z0 j z2 z3;have c:=b.o.2.1.below H1.o;have R:=c.bf;have S:=c.c1;clear z g c;have aB:=U (ay.o w1 H1.o))
   |(go_at_call 90;refine aB.o.mono ?_;rintro e ad ⟨rfl,r⟩;have k:=U (H1.o.trans (r.mono H1.o.size));have ae:=U (z_ (ab.o.1.below r) (ab.o.2.below r));clear r;have g:=b.o.2.2.1.below k.o;have z:=g.cell;have z0:=z 0;have j:=z 1;have z2:=z 2;have z3:=z 3;simp only[y_,x_] at z0 j z2 z3;have c:=b.o.2.1.below k.o;have R:=c.bf;have S:=c.c1;clear z g c;have aC:=U (AL J i K u aa c2 (oA m d) ad (by have af:=b.o.2.2.2.2.2.2.2.below k.o;rw[aA.o.1] at af;exact af) ae.o.2))
   |(go_at_call 38;refine aC.o.mono ?_;rintro e aD ⟨rfl,H⟩;have M:=U (k.o.trans (H.mono k.o.size));have aQ:=U (aI.o aD L c1 u c2 M.o (ae.o.1.below H) (ae.o.2.below H));clear H;have g:=b.o.2.2.1.below M.o;have z:=g.cell;have z0:=z 0;have j:=z 1;have z2:=z 2;have z3:=z 3;simp only[y_,x_] at z0 j z2 z3;have c:=b.o.2.1.below M.o;have R:=c.bf;have S:=c.c1;clear z g c)
   |(go_at_call 93;refine aQ.o.mono ?_;rintro e a6 ⟨rfl,aJ⟩;have aR:=U (M.o.trans (aJ.mono M.o.size));clear aJ))
  go_ret;exact⟨rfl,b.o.1.trans (aR.o.mono b.o.1.size)⟩
 ·have ag:I=0:=by simpa using V.symm
  subst ag;have aE:=sub_lt hs t;have aK:=ze P aE hu;have aS:bJ (∀W',Below W.heap.size W W'->Calls w_ 91 #[.slice J i K,.slice D s E] W' λ e w'=>e=.returned (.bool true)/\Below W'.heap.size W' w'):=U λ W' f=>EB J i K core D s E keep W' (b.o.2.2.2.2.2.2.2.below f) (b.o.2.2.2.2.1.below f) hs
  have aT:bJ (∀W',Below W.heap.size W W'->Calls w_ 34 #[.agg #[.int .i64 n,.slice A nl cl],.slice J i K] W' λ e w'=>e=.returned (.bool false)/\Below W'.heap.size W' w'):=U λ W' f=>AK false n ah A nl cl ls J i K core W' (b.o.2.2.2.1.below f) (b.o.2.2.2.2.2.2.2.below f) aE aK
  obtain⟨az,p⟩:∃y,(oM [] d).length=y:=⟨_,rfl⟩
  obtain⟨aa,q⟩:∃y,(oA [] d).length=y:=⟨_,rfl⟩
  rw[p,q] at T;clear V X aj ak hl t P hs hu aE aK p q al an;go_enter Tryz.func33,Tryz.ntmps33
  go_upto_region 1 with fail
  rw[<-Q];clear Q
  go_wp2_with (first
   |(go_at_call 39;refine T.o.mono ?_;rintro e w1 ⟨L,c1,u,c2,rfl,v,B,C⟩;have H1:=U C;clear C v B;have g:=b.o.2.2.1.below H1.o;have z:=g.cell;have z0:=z 0;have j:=z 1;have z2:=z 2;have z3:=z 3;simp only[y_,x_] at z0 j z2 z3;have c:=b.o.2.1.below H1.o;have R:=c.bf;have S:=c.c1;clear z g c;have aU:=U (aS.o w1 H1.o))
   |(go_at_call 91;refine aU.o.mono ?_;rintro e ad ⟨rfl,r⟩;have k:=U (H1.o.trans (r.mono H1.o.size));clear r;have g:=b.o.2.2.1.below k.o;have z:=g.cell;have z0:=z 0;have j:=z 1;have z2:=z 2;have z3:=z 3;simp only[y_,x_] at z0 j z2 z3;have c:=b.o.2.1.below k.o;have R:=c.bf;have S:=c.c1;clear z g c;have aV:=U (aT.o ad k.o))
   |(go_at_call 34;refine aV.o.mono ?_;rintro e aD ⟨rfl,H⟩;have M:=U (k.o.trans (H.mono k.o.size));clear H))
  go_ret;exact⟨rfl,b.o.1.trans (M.o.mono b.o.1.size)⟩
 ·rcases aO with⟨rfl,rfl⟩|⟨l,G⟩
  ·have ag:I=0:=by simpa using V.symm
   have aW:i=0:=by simpa using X.symm
   subst ag aW;obtain⟨az,p⟩:∃y,(oM [] d).length=y:=⟨_,rfl⟩
   obtain⟨aa,q⟩:∃y,(oA [] d).length=y:=⟨_,rfl⟩
   rw[p,q] at T;clear V X aj ak hl t P p q al an;go_enter Tryz.func33,Tryz.ntmps33
   go_upto_region 1 with fail
   rw[<-Q];clear Q
   go_wp2_with (go_at_call 39;refine T.o.mono ?_;rintro e w1 ⟨L,c1,u,c2,rfl,v,B,C⟩;have H1:=U C;clear C v B;have g:=b.o.2.2.1.below H1.o;have z:=g.cell;have z0:=z 0;have j:=z 1;have z2:=z 2;have z3:=z 3;simp only[y_,x_] at z0 j z2 z3;have c:=b.o.2.1.below H1.o;have R:=c.bf;have S:=c.c1;clear z g c)
   go_ret;exact⟨rfl,b.o.1.trans (H1.o.mono b.o.1.size)⟩
  ·obtain⟨v1,v2⟩:=El P t l;have Z:=Ii l.len hl;rw[<-Z] at G;have ag:I=n+1:=by rw[<-V,l.len]
   subst ag;have ay:bJ (∀W',Below W.heap.size W W'->Calls w_ 90 #[.agg #[.int .i64 n,.slice A nl cl],.slice N (n+1) O,.slice D s E] W' λ e w'=>e=.returned (.bool true)/\Below W'.heap.size W' w'):=U λ W' f=>EC n ah A nl cl ls N (n+1) O m D s E keep W' (b.o.2.2.2.1.below f) (b.o.2.2.2.2.2.2.1.below f) (b.o.2.2.2.2.1.below f) t l.len l.m0 v1 v2
   have aX:i<=1000:=by rw[<-X,G];omega
   have d1:((n:Int)+1+(i:Int)==0)=false:=by
    have:(n:Int)+1+(i:Int)≠0:=by omega
    simpa using this
   have a7:u_.wrap ((n:Int)+1+(i:Int))=(n:Int)+1+(i:Int):=by rw[v_];omega
   have a8:wrap64 ((n:Int)+1+(i:Int))=(n:Int)+1+(i:Int):=by unfold wrap64;omega
   obtain⟨az,p⟩:∃y,(oM m d).length=y:=⟨_,rfl⟩
   obtain⟨aa,q⟩:∃y,(oA m d).length=y:=⟨_,rfl⟩
   rw[p,q] at T;have aA:=U (z_ G (z_ p q));clear l v1 v2 V X aj ak hl t P Z G p q al an aX;go_enter Tryz.func33,Tryz.ntmps33
   go_upto_region 1 with fail
   rw[<-Q];clear Q
   go_wp2_with (first
    |(go_at_call 39;refine T.o.mono ?_;rintro e w1 ⟨L,c1,u,c2,rfl,v,B,C⟩;have H1:=U C;have ab:=U (z_ v B);clear C v B;have g:=b.o.2.2.1.below H1.o;have z:=g.cell;have z0:=z 0;have j:=z 1;have z2:=z 2;have z3:=z 3;simp only[y_,x_] at z0 j z2 z3;have c:=b.o.2.1.below H1.o;have R:=c.bf;have S:=c.c1;clear z g c;have aB:=U (ay.o w1 H1.o))
    |(go_at_call 90;refine aB.o.mono ?_;rintro e ad ⟨rfl,r⟩;have k:=U (H1.o.trans (r.mono H1.o.size));have ae:=U (z_ (ab.o.1.below r) (ab.o.2.below r));clear r;have g:=b.o.2.2.1.below k.o;have z:=g.cell;have z0:=z 0;have j:=z 1;have z2:=z 2;have z3:=z 3;simp only[y_,x_] at z0 j z2 z3;have c:=b.o.2.1.below k.o;have R:=c.bf;have S:=c.c1;clear z g c;have aC:=U (AL J i K u aa c2 (oA m d) ad (by have af:=b.o.2.2.2.2.2.2.2.below k.o;rw[aA.o.1] at af;exact af) ae.o.2))
    |(go_at_call 38;refine aC.o.mono ?_;rintro e aD ⟨rfl,H⟩;have M:=U (k.o.trans (H.mono k.o.size));clear H))
   go_ret;exact⟨rfl,b.o.1.trans (M.o.mono b.o.1.size)⟩
def n4:List (List Int):=[[-1,-2]]
theorem Cy:lM 3 n4=0:=by decide
theorem AN(hl:∀x∈l,gK 3 x):pE 3 n4 l=true↔Can n4 l:=D4 Cy hl
def zj:List Int->List (List Int)
 |[]=> [[]]
 |x::l=>zj l++(zj l).map (x::·)
theorem Cz:∀{l s:List Int},s.Sublist l->s∈zj l
 |_,_,.slnil=>by simp[zj]
 |_,_,.cons a h=>r_.2 (.inl (Cz h))
 |_,_,.cons_cons a h=>r_.2 (.inr (a_.2 ⟨_,Cz h,rfl⟩))
theorem xm(h:l.all (tI 3)=true):∀x∈l,gK 3 x:=λ x b=>by
 have:=f_.1 h x b;unfold tI at this;rw[Bool.and_eq_true,decide_eq_true_eq,decide_eq_true_eq] at this;exact⟨this.1,by unfold aC;omega⟩
theorem P4(h:vo n4 3 [1,2,3] 1073741824 kind m core aB):kind=2/\core=[1,2]:=by
 obtain⟨_,⟨_,_,e⟩|⟨h1,_,hs,hu,f⟩|⟨_,_,_,d,_⟩⟩:=h
 ·have h1:=(AN (l:=[1,2,3]) (xm (by decide))).2 e.can;exact absurd h1 (by decide)
 ·refine⟨h1,?_⟩;have g:pE 3 n4 core=false:=ze Cy (λ x b=>xm (l:=[1,2,3]) (by decide) x (hs.subset b)) hu;have i:∀j,j<core.length->pE 3 n4 (core.eraseIdx j)=true:=λ j c=>Ig Cy (λ x b=>xm (l:=[1,2,3]) (by decide) x (hs.subset (p_ b))) (f j c)
  have k:=Cz hs;have d:∀s∈zj [1,2,3],pE 3 n4 s=false->((List.range s.length).all λ j=>pE 3 n4 (s.eraseIdx j))=true->s=[1,2]:=by decide
  exact d core k g (f_.2 λ j c=>i j (List.mem_range.1 c))
 ·omega
theorem P5(h:vo n4 3 [1,3] 1073741824 kind m core aB):kind=1/\m.length=4/\iE m 1=true/\iE m 3=true/\iE m 2=false:=by
 obtain⟨_,⟨h1,_,b⟩|⟨_,_,hs,hu,e⟩|⟨_,_,_,f,_⟩⟩:=h
 ·have t1:iE m 1=true:=b.ah 1 (by simp);have t3:iE m 3=true:=b.ah 3 (by simp);refine⟨h1,b.len,t1,t3,?_⟩;obtain⟨x,c,d⟩:=b.sat [-1,-2] (by simp[n4]);simp at c;rcases c with rfl|rfl
  ·have:(!(iE m 1))=true:=d;rw[t1] at this;cases this
  ·have:(!(iE m 2))=true:=d;simpa using this
 ·exact absurd (((AN (l:=[1,3]) (xm (by decide))).1 (by decide)).mono λ x c=>hs.subset c) hu
 ·omega
theorem P6(h:w9 n4 3 [1] [2,3] 1073741824 kind m core aB):kind=1/\m.length=4/\core=[2]/\iE m 1=true/\iE m 3=true:=by
 obtain⟨_,⟨h1,c,d,hw⟩|⟨_,_,hs,hu⟩|⟨_,_,j,_⟩⟩:=h
 ·have t1:iE m 1=true:=c.ah 1 (by simp);have t2:iE m 2=false:=by
   obtain⟨x,b,e⟩:=c.sat [-1,-2] (by simp[n4]);simp at b;rcases b with rfl|rfl
   ·have:(!(iE m 1))=true:=e;rw[t1] at this;cases this
   ·have:(!(iE m 2))=true:=e;simpa using this
  have f:lB m 2=false:=t2;have t3:lB m 3=true:=by
   cases g:lB m 3 with
   |true=>rfl
   |false=>
    exfalso;have i:=hw 3 (by rw[d];simp[g]);refine i (((AN (l:=[1,3]) (xm (by decide))).1 (by decide)).mono λ x b=>?_);simpa[f,g] using b
  refine⟨h1,c.len,?_,t1,t3⟩;rw[d];simp[f,t3]
 ·exact absurd (((AN (l:=[1]) (xm (by decide))).1 (by decide)).mono λ x b=>hs.subset b) hu
 ·omega
theorem P7(h:w9 n4 3 [2,1] [3] 1073741824 kind m core aB):kind=2/\core=[2,1]:=by
 obtain⟨_,⟨_,c,f,hw⟩|⟨h1,_,hs,hu⟩|⟨_,_,b,_⟩⟩:=h
 ·have h1:=(AN (l:=[2,1]) (xm (by decide))).2 c.can;exact absurd h1 (by decide)
 ·refine⟨h1,?_⟩;have d:pE 3 n4 core=false:=ze Cy (λ x e=>xm (l:=[2,1]) (by decide) x (hs.subset e)) hu;have b:∀s∈zj [2,1],pE 3 n4 s=false->s=[2,1]:=by decide
  exact b core (Cz hs) d
 ·omega
structure CA(w:World)(x:Int)(ls:List (List Int))(ah:List Int)(aJ:Int)(kind:Int)(aU:Option Addr)(bq aP:Nat)(bw:Option Addr)(bn aV:Nat)(aB:Nat)(m:List Bool)(core:List Int)(jy:Int)(W:World):Prop where
 he:ny x ls ah aJ=jy
 hm:kE W aU bq aP m
 aD:aL W bw bn aV core
 bad:jy≠0->kind=0/\o_ aU bq aP=.slice none 0 0/\o_ bw bn aV=.slice none 0 0/\aB=0
 yd:jy=0->vo ls x.toNat ah aJ.toNat kind m core aB
 kD:Below w.heap.size w W
theorem zk(x:Int)(z:x<=10)(A:Option Addr)(nl cl:Nat)(ls:List (List Int))(f:Option Addr)(nq g:Nat)(c:List Int)(d:Int)(w:World)(h:ku w A nl cl ls)(r:aL w f nq g c)(hw:nZ c)(hlen:nq<=1000)(B:nl<=40000):
  Calls w_ 28 #[.agg #[.int .i64 x,.slice A nl cl],.slice f nq g,.int .i64 d] w λ e W=>∃(kind:Int)(i:Option Addr)(j k:Nat)(l:Option Addr)(o p q:Nat)(m:List Bool)(core:List Int)(s:Int),e=.returned (.tuple #[.agg #[.int .i64 kind,.slice i j k,.slice l o p,.int .i64 (q:Int)],.int .i64 s])/\CA w x ls c d kind i j k l o p q m core s W:=by
 have hl:=r.len;have C:=h.len
 by_cases he:ny x ls c d=0
 ·obtain⟨t,hm,D,E⟩:=y6 he;have F:0<=x:=by
   rcases g_ x 0 with h1|h1
   ·rw[xo (.inl h1)] at t;cases t
   ·exact h1
  obtain⟨n,rfl⟩:∃n:Nat,x=n:=⟨x.toNat,by omega⟩
  obtain⟨b,rfl⟩:∃b:Nat,d=b:=⟨d.toNat,by omega⟩
  refine(Px n (by omega) A nl cl ls f nq g c b w h r hw (by omega) (by omega) he).mono ?_;rintro e W ⟨kind,i,j,k,l,o,p,q,m,core,rfl,h1,u,v,y⟩;exact⟨kind,i,j,k,l,o,p,q,m,core,0,rfl,⟨he,h1,u,λ h=>absurd rfl h,λ _=>v,y⟩⟩
 ·refine(AG x A nl cl ls f nq g c d w h r hw (by omega) _ rfl he).mono ?_;rintro e W ⟨rfl,h1⟩;exact⟨0,none,0,0,none,0,0,0,[],[],_,rfl,⟨rfl,kE.xg _,aL.nil _ _ _ (s_ _),λ _=>⟨rfl,rfl,rfl,rfl⟩,λ h=>absurd h he,h1⟩⟩
structure CB(w:World)(x:Int)(ls:List (List Int))(keep ah:List Int)(aJ:Int)(kind:Int)(aU:Option Addr)(bq aP:Nat)(bw:Option Addr)(bn aV:Nat)(aB:Nat)(m:List Bool)(core:List Int)(jy:Int)(W:World):Prop where
 he:ny x ls (keep++ah) aJ=jy
 hm:kE W aU bq aP m
 aD:aL W bw bn aV core
 bad:jy≠0->kind=0/\o_ aU bq aP=.slice none 0 0/\o_ bw bn aV=.slice none 0 0/\aB=0
 yd:jy=0->w9 ls x.toNat keep ah aJ.toNat kind m core aB
 kD:Below w.heap.size w W
theorem ye(x:Int)(D:x<=10)(A:Option Addr)(nl cl:Nat)(ls:List (List Int))(g:Option Addr)(f i:Nat)(keep:List Int)(j:Option Addr)(nq k:Nat)(c:List Int)(d:Int)(w:World)(h:ku w A nl cl ls)(hk:aL w g f i keep)(u:aL w j nq k c)(hw:nZ (keep++c))(hlen:f+nq<=900)(E:nl<=40000):
  Calls w_ 29 #[.agg #[.int .i64 x,.slice A nl cl],.slice g f i,.slice j nq k,.int .i64 d] w λ e W=>∃(kind:Int)(l:Option Addr)(o p:Nat)(q:Option Addr)(r s t:Nat)(m:List Bool)(core:List Int)(v:Int),e=.returned (.tuple #[.agg #[.int .i64 kind,.slice l o p,.slice q r s,.int .i64 (t:Int)],.int .i64 v])/\CB w x ls keep c d kind l o p q r s t m core v W:=by
 have hl:=u.len;have F:=hk.len;have G:=h.len;have hle:(keep++c).length<=900:=by rw[List.length_append];omega
 by_cases he:ny x ls (keep++c) d=0
 ·obtain⟨y,hm,H,I⟩:=y6 he;have J:0<=x:=by
   rcases g_ x 0 with h1|h1
   ·rw[xo (.inl h1)] at y;cases y
   ·exact h1
  obtain⟨n,rfl⟩:∃n:Nat,x=n:=⟨x.toNat,by omega⟩
  obtain⟨b,rfl⟩:∃b:Nat,d=b:=⟨d.toNat,by omega⟩
  refine(PJ n (by omega) A nl cl ls g f i keep j nq k c b w h hk u hw hle (by omega) he).mono ?_;rintro e W ⟨kind,l,o,p,q,r,s,t,m,core,rfl,h1,z,B,C⟩;exact⟨kind,l,o,p,q,r,s,t,m,core,0,rfl,⟨he,h1,z,λ h=>absurd rfl h,λ _=>B,C⟩⟩
 ·refine(AI x A nl cl ls g f i keep j nq k c d w h hk u hw (by omega) _ rfl he).mono ?_;rintro e W ⟨rfl,h1⟩;exact⟨0,none,0,0,none,0,0,0,[],[],_,rfl,⟨rfl,kE.xg _,aL.nil _ _ _ (s_ _),λ _=>⟨rfl,rfl,rfl,rfl⟩,λ h=>absurd h he,h1⟩⟩
theorem zl(h:l.all (λ x=>decide (-9223372036854775808<=x/\x<=9223372036854775807))=true):nZ l:=λ x b=>of_decide_eq_true (f_.1 h x b)
theorem EF(q:ku w0 A 1 c n4)(l:List Int)(n:Nat)(r:l.length=n)(hw:nZ l)(hl:n<=1000)(w:World)(s:Below w0.heap.size w0 w):
  Calls w_ 28 #[.agg #[.int .i64 3,.slice A 1 c],.slice (some ⟨w.heap.size,0,none⟩) n n,.int .i64 1073741824] (w.alloc (mP l)) λ e W=>∃(kind:Int)(b:Option Addr)(d f:Nat)(g:Option Addr)(i j k:Nat)(m:List Bool)(core:List Int)(o:Int),e=.returned (.tuple #[.agg #[.int .i64 kind,.slice b d f,.slice g i j,.int .i64 (k:Int)],.int .i64 o])/\CA (w.alloc (mP l)) 3 n4 l 1073741824 kind b d f g i j k m core o W/\Below w.heap.size w W:=by
 have h1:=bz w (mP l);refine(zk 3 (by omega) A 1 c n4 _ n n l 1073741824 (w.alloc (mP l)) ((q.below s).below h1) (aL.lit w l n _ r rfl hl) hw hl (by omega)).mono ?_;rintro e W ⟨kind,b,d,f,g,i,j,k,m,core,o,rfl,p⟩;exact⟨kind,b,d,f,g,i,j,k,m,core,o,rfl,p,h1.trans (p.kD.mono h1.size)⟩
theorem EG(v:ku w0 A 1 c n4)(k l:List Int)(b n:Nat)(hk:k.length=b)(y:l.length=n)(hw:nZ (k++l))(hl:b+n<=900)(w:World)(z:Below w0.heap.size w0 w)(w1:World)(t:w1=w.alloc (mP k))(s:Nat)(hs:s=w1.heap.size):
  Calls w_ 29 #[.agg #[.int .i64 3,.slice A 1 c],.slice (some ⟨w.heap.size,0,none⟩) b b,.slice (some ⟨s,0,none⟩) n n,.int .i64 1073741824] (w1.alloc (mP l)) λ e W=>∃(kind:Int)(d:Option Addr)(f g:Nat)(i:Option Addr)(j o p:Nat)(m:List Bool)(core:List Int)(q:Int),e=.returned (.tuple #[.agg #[.int .i64 kind,.slice d f g,.slice i j o,.int .i64 (p:Int)],.int .i64 q])/\CB (w1.alloc (mP l)) 3 n4 k l 1073741824 kind d f g i j o p m core q W/\Below w.heap.size w W:=by
 subst hs;have r:Below w.heap.size w w1:=t▸bz w (mP k);have B:aL w1 (some ⟨w.heap.size,0,none⟩) b b k:=t▸aL.lit w k b _ hk rfl (by omega);have h1:=bz w1 (mP l);refine(ye 3 (by omega) A 1 c n4 _ b b k _ n n l 1073741824 (w1.alloc (mP l)) (((v.below z).below r).below h1) (B.below h1) (aL.lit w1 l n _ y rfl (by omega)) hw hl (by omega)).mono ?_;rintro e W ⟨kind,d,f,g,i,j,o,p,m,core,q,rfl,u⟩;exact⟨kind,d,f,g,i,j,o,p,m,core,q,rfl,u,r.trans ((h1.trans (u.kD.mono h1.size)).mono r.size)⟩
structure IK(w:World)(kind:Int)(aU:Option Addr)(bq aP:Nat)(bw:Option Addr)(bn aV:Nat)(m:List Bool)(core:List Int)(W:World):Prop where
 hm:kE W aU bq aP m
 aD:aL W bw bn aV core
 kD:Below w.heap.size w W
theorem P8(l:ku w0 A 1 c n4)(w:World)(n:Below w0.heap.size w0 w):
  Calls w_ 28 #[.agg #[.int .i64 3,.slice A 1 c],.slice (some ⟨w.heap.size,0,none⟩) 3 3,.int .i64 1073741824] (w.alloc (.cells #[.int .i64 1,.int .i64 2,.int .i64 3] 3)) λ e W=>∃(d:Option Addr)(f g:Nat)(i:Option Addr)(j k:Nat)(m:List Bool),e=.returned (.tuple #[.agg #[.int .i64 2,.slice d f g,.slice i 2 j,.int .i64 (k:Int)],.int .i64 0])/\IK w 2 d f g i 2 j m [1,2] W:=by
 refine(EF l [1,2,3] 3 rfl (zl (by decide)) (by omega) w n).mono ?_;rintro e W ⟨kind,d,f,g,i,o,j,k,m,core,p,rfl,b,hw⟩;obtain rfl:p=0:=by rw[<-b.he];decide
 obtain⟨rfl,rfl⟩:=P4 (b.yd rfl);obtain rfl:o=2:=b.aD.len.symm;exact⟨d,f,g,i,j,k,m,rfl,b.hm,b.aD,hw⟩
theorem P9(n:ku w0 A 1 c n4)(w:World)(p:Below w0.heap.size w0 w):
  Calls w_ 28 #[.agg #[.int .i64 3,.slice A 1 c],.slice (some ⟨w.heap.size,0,none⟩) 2 2,.int .i64 1073741824] (w.alloc (.cells #[.int .i64 1,.int .i64 3] 3)) λ e W=>∃(b o f:Nat)(g:Option Addr)(i j k:Nat),e=.returned (.tuple #[.agg #[.int .i64 1,.slice (some ⟨b,o,none⟩) 4 f,.slice g i j,.int .i64 (k:Int)],.int .i64 0])/\b<W.heap.size/\W.cell? ⟨b,o+1,none⟩=some (.bool true)/\W.cell? ⟨b,o+2,none⟩=some (.bool false)/\W.cell? ⟨b,o+3,none⟩=some (.bool true)/\4<=f/\Below w.heap.size w W:=by
 refine(EF n [1,3] 2 rfl (zl (by decide)) (by omega) w p).mono ?_;rintro e W ⟨kind,u,q,f,g,i,j,k,m,core,r,rfl,d,hw⟩;obtain rfl:r=0:=by rw[<-d.he];decide
 obtain⟨rfl,s,g1,g3,g2⟩:=P5 (d.yd rfl);obtain rfl:q=4:=by rw[<-d.hm.len,s]
 obtain⟨b,o,rfl,t,l⟩:=d.hm.cells (by omega);have c1:=l 1 (by omega);have c2:=l 2 (by omega);have c3:=l 3 (by omega);change _=some (i_ (iE m 1)) at c1;change _=some (i_ (iE m 2)) at c2;change _=some (i_ (iE m 3)) at c3;rw[g1] at c1;rw[g2] at c2;rw[g3] at c3;exact⟨b,o,f,g,i,j,k,rfl,t,c1,c2,c3,d.hm.cap,hw⟩
theorem Qa(l:ku w0 A 1 c n4)(w:World)(n:Below w0.heap.size w0 w):
  Calls w_ 29 #[.agg #[.int .i64 3,.slice A 1 c],.slice (some ⟨w.heap.size,0,none⟩) 1 1,.slice (some ⟨w.heap.size+1,0,none⟩) 2 2,.int .i64 1073741824] ((w.alloc (.cells #[.int .i64 1] 3)).alloc (.cells #[.int .i64 2,.int .i64 3] 3)) λ e W=>∃(b o f:Nat)(g:Option Addr)(i j:Nat),e=.returned (.tuple #[.agg #[.int .i64 1,.slice (some ⟨b,o,none⟩) 4 f,.slice g 1 i,.int .i64 (j:Int)],.int .i64 0])/\b<W.heap.size/\W.cell? ⟨b,o+1,none⟩=some (.bool true)/\W.cell? ⟨b,o+3,none⟩=some (.bool true)/\4<=f/\aL W g 1 i [2]/\Below w.heap.size w W:=by
 refine(EG l [1] [2,3] 1 2 rfl rfl (zl (by decide)) (by omega) w n _ rfl _ (by simp[mP])).mono ?_;rintro e W ⟨kind,u,p,f,g,q,i,j,m,core,r,rfl,d,hw⟩;obtain rfl:r=0:=by rw[<-d.he];decide
 obtain⟨rfl,s,rfl,g1,g3⟩:=P6 (d.yd rfl);obtain rfl:p=4:=by rw[<-d.hm.len,s]
 obtain rfl:q=1:=d.aD.len.symm;obtain⟨b,o,rfl,t,k⟩:=d.hm.cells (by omega);have c1:=k 1 (by omega);have c3:=k 3 (by omega);change _=some (i_ (iE m 1)) at c1;change _=some (i_ (iE m 3)) at c3;rw[g1] at c1;rw[g3] at c3;exact⟨b,o,f,g,i,j,rfl,t,c1,c3,d.hm.cap,d.aD,hw⟩
theorem Qb(l:ku w0 A 1 c n4)(w:World)(n:Below w0.heap.size w0 w):
  Calls w_ 29 #[.agg #[.int .i64 3,.slice A 1 c],.slice (some ⟨w.heap.size,0,none⟩) 2 2,.slice (some ⟨w.heap.size+1,0,none⟩) 1 1,.int .i64 1073741824] ((w.alloc (.cells #[.int .i64 2,.int .i64 1] 3)).alloc (.cells #[.int .i64 3] 3)) λ e W=>∃(d:Option Addr)(f g:Nat)(i:Option Addr)(j k:Nat)(m:List Bool),e=.returned (.tuple #[.agg #[.int .i64 2,.slice d f g,.slice i 2 j,.int .i64 (k:Int)],.int .i64 0])/\IK w 2 d f g i 2 j m [2,1] W:=by
 refine(EG l [2,1] [3] 2 1 rfl rfl (zl (by decide)) (by omega) w n _ rfl _ (by simp[mP])).mono ?_;rintro e W ⟨kind,d,f,g,i,o,j,k,m,core,p,rfl,b,hw⟩;obtain rfl:p=0:=by rw[<-b.he];decide
 obtain⟨rfl,rfl⟩:=P7 (b.yd rfl);obtain rfl:o=2:=b.aD.len.symm;exact⟨d,f,g,i,j,k,m,rfl,b.hm,b.aD,hw⟩
theorem Qc(d:ku w0 A 1 c n4)(w:World)(f:Below w0.heap.size w0 w):
  Calls w_ 28 #[.agg #[.int .i64 3,.slice A 1 c],.slice (some ⟨w.heap.size,0,none⟩) 2 2,.int .i64 1073741824] (w.alloc (.cells #[.int .i64 1,.int .i64 (-1)] 3)) λ e W=>e=.returned (.tuple #[.agg #[.int .i64 0,.slice none 0 0,.slice none 0 0,.int .i64 0],.int .i64 1])/\Below w.heap.size w W:=by
 refine(EF d [1,-1] 2 rfl (zl (by decide)) (by omega) w f).mono ?_;rintro e W ⟨kind,j,k,l,n,o,p,q,m,core,g,rfl,b,hw⟩;obtain rfl:g=1:=by rw[<-b.he];decide
 obtain⟨rfl,h1,i,rfl⟩:=b.bad (by decide);exact⟨by rw[h1,i];rfl,hw⟩
theorem Qd(d:ku w0 A 1 c n4)(w:World)(f:Below w0.heap.size w0 w):
  Calls w_ 29 #[.agg #[.int .i64 3,.slice A 1 c],.slice (some ⟨w.heap.size,0,none⟩) 1 1,.slice (some ⟨w.heap.size+1,0,none⟩) 1 1,.int .i64 1073741824] ((w.alloc (.cells #[.int .i64 1] 3)).alloc (.cells #[.int .i64 1] 3)) λ e W=>e=.returned (.tuple #[.agg #[.int .i64 0,.slice none 0 0,.slice none 0 0,.int .i64 0],.int .i64 1])/\Below w.heap.size w W:=by
 refine(EG d [1] [1] 1 1 rfl rfl (zl (by decide)) (by omega) w f _ rfl _ (by simp[mP])).mono ?_;rintro e W ⟨kind,j,k,l,n,o,p,q,m,core,g,rfl,b,hw⟩;obtain rfl:g=1:=by rw[<-b.he];decide
 obtain⟨rfl,h1,i,rfl⟩:=b.bad (by decide);exact⟨by rw[h1,i];rfl,hw⟩
end
end Go.Proofs.YtogdlkfacflmaaaGreat
