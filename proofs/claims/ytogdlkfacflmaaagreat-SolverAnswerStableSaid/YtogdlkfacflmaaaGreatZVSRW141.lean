/- Parts of the walk of the solver and its core; no condition. -/
import Derived.Test.YtogdlkfacflmaaaGreatZV10
import Derived.Test.YtogdlkfacflmaaaGreatZV11
import Derived.Test.YtogdlkfacflmaaaGreatZV1
namespace Go.Proofs.YtogdlkfacflmaaaGreat
set_option linter.unusedVariables false
set_option linter.unusedSimpArgs false
set_option maxRecDepth 100000
set_option maxHeartbeats 16000000
open _root_.And renaming intro→z_
open _root_.List renaming getElem?_cons_zero→y_,getElem?_cons_succ→x_,mem_map→u_
open _root_.Bool renaming and_eq_true→w_
open _root_.Go.IntKind renaming wrap_i64→v_,i64→t_
variable{n:Nat}{F:List (List Int)}{ax:List Int}{b:List Bool}
section
open Go.RowKit Go.Shelf Go.Lib
theorem E3(b:n<=9):3^n<=19683:=by
 have c:3^n<=3^9:=Nat.pow_le_pow_right (by omega) b;have d:(3:Nat)^9=19683:=by decide
 omega
theorem I7{W:World}{b:Nat}{u:kY}(h:uO W F ax n b u)(f:n<=9)(l:19683<=b):
  (u.k=1/\u.o=lX/\∃m,kS W u.m.A u.m.n u.m.c m/\ri F n ax m)\/(u.k=2/\u.m=lX/\¬Can F ax/\∃co,aN W u.o.A u.o.n u.o.c co/\co.Sublist ax/\¬Can F co):=by
 obtain⟨_,_,h|⟨h1,g,co,i,e,d⟩|⟨_,_,_,_,d⟩⟩:=h
 ·exact .inl h
 ·exact .inr ⟨h1,g,λ h=>d (h.mono λ x j=>e.subset j),co,i,e,d⟩
 ·have:=E3 f;omega
theorem I8{n:Int}{b:Int}(h:qb n ax b=true):rf n ax=true:=by
 unfold qb at h;rw[w_,w_] at h;exact h.1.1
def QT(b:List Bool)(k:Nat):Int:=if jr b (k+1)=true then (k:Int)+1 else-((k:Int)+1)
theorem QV(b:List Bool)(k:Nat):aI (QT b k)=k+1:=by unfold QT aI;split<;>omega
theorem QX(b c:List Bool)(k:Nat)(h:p0 c (QT b k)=true):jr c (k+1)=jr b (k+1):=by
 unfold QT at h;unfold p0 at h;split at h
 ·rename_i d;rw[if_neg (by omega),show((k:Int)+1).natAbs=k+1 by omega] at h;rw[h,d]
 ·rename_i d;rw[if_pos (by omega),show(-((k:Int)+1)).natAbs=k+1 by omega,Bool.not_eq_true'] at h;rw[h]
  cases e:jr b (k+1) with
  |true=>exact absurd e d
  |false=>rfl
theorem QY(b:List Bool)(k:Nat):p0 b (QT b k)=true:=by
 unfold QT p0;split
 ·rename_i c;rw[if_neg (by omega),show((k:Int)+1).natAbs=k+1 by omega,c]
 ·rename_i c;rw[if_pos (by omega),show(-((k:Int)+1)).natAbs=k+1 by omega]
  cases d:jr b (k+1) with
  |true=>exact absurd d c
  |false=>rfl
def QU(b:List Bool)(n:Nat):List Int:=(List.range n).map (QT b)
theorem QZ(b:List Bool)(n:Nat):QU b (n+1)=QU b n++[QT b n]:=by unfold QU;rw[List.range_succ,List.map_append];rfl
theorem Q0(b:List Bool)(n:Nat):rf n (QU b n)=true:=by
 unfold rf;rw[w_,List.all_eq_true,decide_eq_true_eq];constructor
 ·intro x c;obtain⟨k,hk,rfl⟩:=u_.1 c;have h1:=QV b k;have d:=List.mem_range.1 hk;unfold aI at h1;unfold vl;rw[w_,decide_eq_true_eq,decide_eq_true_eq];omega
 ·unfold QU;rw[List.map_map];have e:(aI∘QT b)=λ k=>k+1:=funext λ k=>QV b k
  rw[e];rw[List.Nodup,List.pairwise_map];refine List.Pairwise.imp ?_ List.nodup_range;intro a b h e;exact h (by have e:a+1=b+1:=e;omega)
theorem Q1{c:List Bool}(d:ri F n ax b)(e:ri F n (QU b n) c):c=b:=by
 refine List.ext_getElem (by rw[d.len,e.len]) λ k h1 f=>?_
 rw[<-Bq h1,<-Bq f]
 cases k with
 |zero=>rw[d.m0,e.m0]
 |succ k=>exact QX b c k (e.ax _ (u_.2 ⟨k,List.mem_range.2 (by have:=d.len;omega),rfl⟩))
theorem Q2(c:ri F n ax b):Can F (QU b n):=
 ⟨p0 b,⟨yV _,c.sat⟩,λ x d=>by obtain⟨k,_,rfl⟩:=u_.1 d;exact QY b k⟩
theorem Q3{n:Int}{co:List Int}(h:rf n ax=true)(hs:co.Sublist ax):rf n co=true:=by
 unfold rf at*;rw[w_,List.all_eq_true,decide_eq_true_eq] at*;exact⟨λ x b=>h.1 x (hs.subset b),h.2.sublist (hs.map aI)⟩
theorem QW{n:Int}(h:rf n ax=true):qb n ax 1073741824=true:=by
 unfold qb;rw[h];rfl
theorem Q4(n:Int)(A:Option Addr)(nl cl:Nat)(es:List s6)(fi:Option Addr)(nq fj:Nat)(fl:List Int)(w:World)(h:vM w A nl cl es)(fp:aN w fi nq fj fl):
  Calls Tryz.prog 14 #[.int .i64 n,.slice A nl cl,.slice fi nq fj] w λ e w'=>e=.returned (.bool true)/\Below w.heap.size w w':=by
 have pQ:=U (EN w);have bc:=U (z_ (h) (z_ (fp) (Below.refl w.heap.size w)));clear h fp;go_enter Tryz.func14,Tryz.ntmps14
 go_upto_region 3 with(go_at_call 40;refine pQ.o.mono ?_;rintro e w1 ⟨rfl,fr⟩;have dp:=U fr;clear fr)
 have H:=U (z_ (bc.o.1.below dp.o) (z_ (bc.o.2.1.below dp.o) (bc.o.2.2.trans (dp.o.mono bc.o.2.2.size))));clear bc;have dq:=U (EI n A nl cl es w1 H.o.1)
 by_cases hX:20<nq
 ·have hz:(20:Int)<(nq:Int):=by omega
  go_upto_region 5 with(go_at_call 52;refine dq.o.mono ?_;rintro e w1 ⟨r,rfl,rfl,bd⟩;have dt:=U bd;clear bd;cases r)
  all_goals
   go_ret;exact⟨rfl,H.o.2.2⟩
 have hz:¬(20:Int)<(nq:Int):=by omega
 go_upto_region 5 with(go_at_call 52;refine dq.o.mono ?_;rintro e w1 ⟨r,rfl,rfl,bd⟩;have dt:=U bd;clear bd;cases r)
 ·go_ret;exact⟨rfl,H.o.2.2⟩
 obtain⟨hA,n6,fs,ft⟩:=dt.o trivial;obtain⟨n,rfl⟩:∃m:Nat,n=m:=⟨n.toNat,by omega⟩
 have fv:=U (EV n (by omega) A nl cl es w1 H.o.1 fs ft);clear hA n6 fs ft
 go_upto_region 6 with(go_at_call 53;refine fv.o.mono ?_;rintro e cj ⟨m,s,t,rfl,fw,hm,fx,fy⟩;have ae:=U (z_ fw (z_ fx (z_ hm fy)));clear fw fx hm fy;unfold gD.L)
 have bj:=bg cj (.cells t.L.toArray 47);have bo:=aM.new cj 47 t.L;simp only[gD.L] at bj bo;generalize cj.alloc (.cells #[.int .i64 t.n,.slice t.g.A t.g.n t.g.c,.slice t.l.A t.l.n t.l.c,.slice t.a.A t.a.n t.a.c,.slice t.o.A t.o.n t.o.c,.int .i64 t.b,.slice t.h.A t.h.n t.h.c,.slice t.p.A t.p.n t.p.c] 47)=hB at bj bo⊢;generalize cj.heap.size=hD at bo⊢;have cq:=ae.o.1.trans (bj.mono ae.o.1.size);have hY:=ae.o.2.2.1;have hE:t.n=(m:Int):=by rw[ae.o.2.1.e];rfl
 have G:=U (z_ (show aM hB hD 47 [.int .i64 t.n,.slice t.g.A t.g.n t.g.c,.slice t.l.A t.l.n t.l.c,.slice t.a.A t.a.n t.a.c,.slice t.o.A t.o.n t.o.c,.int .i64 t.b,.slice t.h.A t.h.n t.h.c,.slice t.p.A t.p.n t.p.c] from bo) (z_ (ae.o.2.1.below bj) (z_ (H.o.1.below cq) (z_ (H.o.2.1.below cq) (H.o.2.2.trans (cq.mono H.o.2.2.size))))));have cx:=U ae.o.2.2.2;clear H ae bj bo cq fv dq pQ dt;clear hE;have d:=(G.o.1).cell;have du:=d 0;have dv:=d 1;have dC:=d 2;have dE:=d 3;have dT:=d 4;have d':=d 5;have ea:=d 6;have eb:=d 7;simp only[gD.L,kY.L,y_,x_] at du dv dC dE dT d' ea eb;clear d
 cases C:qb m fl 1073741824 with
 |false=>
  have fz:=U (A1 G.o.2.1 (by omega) G.o.2.2.2.1 (by omega) C);simp only[gD.L,kY.L,qa,xF,lX,sd] at fz
  go_wp2_with (go_at_call 36;with_reducible refine fz.o.mono ?_;rintro e a6 ⟨rfl,z⟩;have ab:=U z;clear z du dv dC dE dT d' ea eb)
  go_ret;have br:=G.o.2.2.2.2.trans (ab.o.mono G.o.2.2.2.2.size);exact⟨rfl,br.trans ((AV a6 qa xF).1.mono br.size)⟩
 |true=>
  have ed:=U (zH G.o.2.1 (λ _ h=>h.elim) (by omega) G.o.2.2.2.1 (by omega) (by skip;have:=cx.o;omega) C);simp only[gD.L] at ed
  go_upto_region 7 with(go_at_call 36;with_reducible refine ed.o.mono ?_;rintro e a6 ⟨t4,u,iI,rfl,z,F⟩;have ab:=U (z_ z F);clear z F du dv dC dE dT d' ea eb;unfold sd gD.L kY.L)
  have al:=AV a6 t4 u;have bs:=EJ a6 t4 u;simp only[gD.L,kY.L] at al bs;obtain⟨b0,al⟩:=al;generalize (a6.alloc (.cells #[.int .i64 t4.n,.slice t4.g.A t4.g.n t4.g.c,.slice t4.l.A t4.l.n t4.l.c,.slice t4.a.A t4.a.n t4.a.c,.slice t4.o.A t4.o.n t4.o.c,.int .i64 t4.b,.slice t4.h.A t4.h.n t4.h.c,.slice t4.p.A t4.p.n t4.p.c] 47)).alloc (.cells #[.int .i64 u.k,.slice u.m.A u.m.n u.m.c,.slice u.o.A u.o.n u.o.c,.int .i64 u.s] 30)=fX at b0 al bs⊢;generalize a6.heap.size=g4 at al bs⊢;have eg:=ab.o.1.trans (b0.mono ab.o.1.size);have D:=U (z_ (show aM fX g4 47 [.int .i64 t4.n,.slice t4.g.A t4.g.n t4.g.c,.slice t4.l.A t4.l.n t4.l.c,.slice t4.a.A t4.a.n t4.a.c,.slice t4.o.A t4.o.n t4.o.c,.int .i64 t4.b,.slice t4.h.A t4.h.n t4.h.c,.slice t4.p.A t4.p.n t4.p.c] from bs) (z_ (show aM fX (g4+1) 30 [.int .i64 u.k,.slice u.m.A u.m.n u.m.c,.slice u.o.A u.o.n u.o.c,.int .i64 u.s] from al) (z_ (ab.o.2.1.below b0) (z_ (ab.o.2.2.2.2.below b0) (z_ (G.o.2.2.2.1.below eg) (G.o.2.2.2.2.trans (eg.mono G.o.2.2.2.2.size)))))));have a7:iI.gs=s.gs:=ab.o.2.2.1;clear al bs b0 eg ab ed;have hG:t4.n=(m:Int):=by rw[D.o.2.2.1.e];rfl
  clear hG;have d:=(D.o.1).cell;have I:=d 0;have J:=d 1;have K:=d 2;have M:=d 3;have N:=d 4;have O:=d 5;have P:=d 6;have Q:=d 7;simp only[gD.L,kY.L,y_,x_] at I J K M N O P Q;clear d;have cy:=U (zH D.o.2.2.1 (λ _ h=>h.elim) (by omega) D.o.2.2.2.2.1 (by omega) (by rw[a7];have:=cx.o;omega) C);rw[a7] at cy;simp only[gD.L] at cy
  go_upto_region 10 with(go_at_call 36;with_reducible refine cy.o.mono ?_;rintro e cJ ⟨t5,y,hZ,rfl,z,F⟩;have cP:=U (z_ z F);clear z F I J K M N O P Q;unfold sd gD.L kY.L)
  have mV:=AV cJ t5 y;have cX:=EJ cJ t5 y;simp only[gD.L,kY.L] at mV cX;obtain⟨cY,mV⟩:=mV;generalize (cJ.alloc (.cells #[.int .i64 t5.n,.slice t5.g.A t5.g.n t5.g.c,.slice t5.l.A t5.l.n t5.l.c,.slice t5.a.A t5.a.n t5.a.c,.slice t5.o.A t5.o.n t5.o.c,.int .i64 t5.b,.slice t5.h.A t5.h.n t5.h.c,.slice t5.p.A t5.p.n t5.p.c] 47)).alloc (.cells #[.int .i64 y.k,.slice y.m.A y.m.n y.m.c,.slice y.o.A y.o.n y.o.c,.int .i64 y.s] 30)=R at cY mV cX⊢;generalize cJ.heap.size=g5 at mV cX⊢;have ao:=cP.o.1.trans (cY.mono cP.o.1.size);have v:=U (z_ (show aM R (g5+1) 30 [.int .i64 y.k,.slice y.m.A y.m.n y.m.c,.slice y.o.A y.o.n y.o.c,.int .i64 y.s] from mV) (z_ (cP.o.2.2.2.2.below cY) (z_ (D.o.1.below ao) (z_ (D.o.2.1.below ao) (z_ (D.o.2.2.1.below ao) (z_ (D.o.2.2.2.1.below ao) (z_ (D.o.2.2.2.2.1.below ao) (D.o.2.2.2.2.2.trans (ao.mono D.o.2.2.2.2.2.size)))))))));clear mV cX cY ao cP cy D;have ar:=I7 v.o.2.2.2.2.2.1 (by omega) (by decide);have da:=I7 v.o.2.1 (by omega) (by decide);have fY:=I8 C;clear C;have d:=(v.o.2.2.1).cell;have I:=d 0;have J:=d 1;have K:=d 2;have M:=d 3;have N:=d 4;have O:=d 5;have P:=d 6;have Q:=d 7;simp only[gD.L,kY.L,y_,x_] at I J K M N O P Q;clear d;have d:=(v.o.2.2.2.1).cell;have v0:=d 0;have v1:=d 1;have v2:=d 2;have v3:=d 3;simp only[gD.L,kY.L,y_,x_] at v0 v1 v2 v3;clear d;have d:=(v.o.1).cell;have z0:=d 0;have eh:=d 1;have z2:=d 2;have z3:=d 3;simp only[gD.L,kY.L,y_,x_] at z0 eh z2 z3;clear d;rcases ar with⟨a8,_,E,a',db⟩|⟨a8,_,f',co,et,ev,gg⟩
  ·have S:y.k=1:=by
    rcases da with⟨S,_⟩|⟨_,_,hI,_⟩
    ·exact S
    ·exact absurd db.can hI
   clear da;have eI:u.m.n=m+1:=by rw[<-a'.len,db.len]
   rw[eI] at a' v1;rw[a8] at v0;rw[S] at z0;have gS:=U (z_ a' db);have g':bF (aM R (g4+1) 30 [.int .i64 1,.slice u.m.A (m+1) u.m.c,.slice u.o.A u.o.n u.o.c,.int .i64 u.s]):=U (by have h:=v.o.2.2.2.1;rw[a8,eI] at h;exact h);obtain⟨bm,ha,hb,hc,hd⟩:=a'.cells (by omega);have dd:=U (z_ hc hd);have hf:=U hb;have h0:=a'.cap;have h2:¬((m+1:Nat):Int)<1:=by omega
   clear a' db hc hd hb S a8 eI
   go_upto_region 17 with fail
   clear I J K M N O P Q v0 v1 v2 v3 z0 eh z2 z3
   go_wp2_with fail
   go_loopw [18,19] (λ q i V=>∃(k:Nat)(b1:Option Addr)(c1:Nat),i=.int .i64 ((k:Int)+1)/\k<=m/\q=.slice b1 k c1/\V.ownsRow R.heap.size 3 1 (.slice b1 k c1) k ((QU E k).map (Value.int .i64))/\Below R.heap.size R V) (λ _ i _=>m+1-(intOf i).toNat)
   case atStart=>exact⟨0,none,0,rfl,Nat.zero_le _,rfl,World.ownsRow_nil _ _ _ _,Below.refl _ _⟩
   case round=>
    obtain⟨k,b1,c1,rfl,hk,rfl,df,aw⟩:=hrel;have hg:=U df;have aE:=U aw;have d:=(g'.o.below aw).cell;have v1:=d 1;simp only[y_,x_] at v1;clear d
    by_cases eJ:k<m
    ·have hJ:(k:Int)+1<((m:Nat):Int)+1:=by omega
     have h3:t_.wrap ((k:Int)+1+1)=(k:Int)+1+1:=by rw[v_];omega
     have wn:t_.wrap (-((k:Int)+1))= -((k:Int)+1):=by rw[v_];omega
     have eK:=(aw.cell (p:=⟨bm,ha+(k+1),none⟩) dd.o.1).trans (dd.o.2 (k+1) (by omega));rw[hf.o] at v1;have h4:=aE.o.size;have ba:=U eJ;have hh:E.getD (k+1) false=jr E (k+1):=rfl;rw[hh] at eK;have hi:=U (QZ E k);have bb:QT E k=if jr E (k+1)=true then (k:Int)+1 else-((k:Int)+1):=rfl
     clear df aw eJ hk hh
     cases dj:jr E (k+1) with
     |true=>
      rw[dj] at eK bb;have eQ:bF (QT E k=(k:Int)+1):=U (by rw[bb];exact if_pos rfl);clear bb dj;have e0:=U (aN.lit wr [(k:Int)+1] 1 _ rfl rfl (by omega));have b2:=U (lU hg.o (bg wr (lW [(k:Int)+1])));have b3:=U (bg wr (lW [(k:Int)+1]));have b4:R.heap.size<=(wr.alloc (lW [(k:Int)+1])).heap.size:=by have:=b3.o.size;omega
      go_wp2_with (at_builtin;refine vp rfl (.tmp 111) (.tmp 113) rfl R.heap.size (.slice b1 k c1) k (QU E k) rfl b2.o (some ⟨wr.heap.size,0,none⟩) 1 1 [(k:Int)+1] rfl e0.o (by have:=ba.o;omega) b4 ?_;intro v9 gb C;obtain⟨⟨ar,b',c2⟩,e1,T⟩:=aq.lq C.1;obtain rfl:v9=.slice ar b' c2:=e1;have e2:=U (z_ C T);clear C T)
      go_roundw
      case rel=>
       obtain⟨⟨g1,g2,g3⟩,T⟩:=e2.o;obtain rfl:b'=k+1:=T;refine⟨k+1,ar,c2,by go_num,by have:=ba.o;omega,rfl,?_,(aE.o.trans (b3.o.mono aE.o.size)).grown g2 b4 (λ b e=>(tc b2.o e).1)⟩;rw[hi.o,eQ.o];exact g1
      case measure=>have:=ba.o;simp[intOf];omega
     |false=>
      rw[dj] at eK bb;have eQ:bF (QT E k= -((k:Int)+1)):=U (by rw[bb];exact if_neg Bool.noConfusion);clear bb dj;have e0:=U (aN.lit wr [-((k:Int)+1)] 1 _ rfl rfl (by omega));have b2:=U (lU hg.o (bg wr (lW [-((k:Int)+1)])));have b3:=U (bg wr (lW [-((k:Int)+1)]));have b4:R.heap.size<=(wr.alloc (lW [-((k:Int)+1)])).heap.size:=by have:=b3.o.size;omega
      go_wp2_with (at_builtin;refine vp rfl (.tmp 115) (.tmp 118) rfl R.heap.size (.slice b1 k c1) k (QU E k) rfl b2.o (some ⟨wr.heap.size,0,none⟩) 1 1 [-((k:Int)+1)] rfl e0.o (by have:=ba.o;omega) b4 ?_;intro v9 gb C;obtain⟨⟨ar,b',c2⟩,e1,T⟩:=aq.lq C.1;obtain rfl:v9=.slice ar b' c2:=e1;have e2:=U (z_ C T);clear C T)
      go_roundw
      case rel=>
       obtain⟨⟨g1,g2,g3⟩,T⟩:=e2.o;obtain rfl:b'=k+1:=T;refine⟨k+1,ar,c2,by go_num,by have:=ba.o;omega,rfl,?_,(aE.o.trans (b3.o.mono aE.o.size)).grown g2 b4 (λ b e=>(tc b2.o e).1)⟩;rw[hi.o,eQ.o];exact g1
      case measure=>have:=ba.o;simp[intOf];omega
    ·obtain rfl:k=m:=by omega
     have hJ:¬(k:Int)+1<((k:Nat):Int)+1:=by omega
     have hj:=QW (Q0 E k);have hn:=aN.lq df (by omega);have ho:=(v.o.2.2.2.2.1).below aw;have e':=(v.o.2.2.1).below aw;have h5:=U e';have d:=(e').cell;have I:=d 0;have J:=d 1;have K:=d 2;have M:=d 3;have N:=d 4;have O:=d 5;have P:=d 6;have Q:=d 7;simp only[gD.L,kY.L,y_,x_] at I J K M N O P Q;clear d;have W:=U (zH ho (λ _ h=>h.elim) (by omega) hn (by omega) (by rw[a7];have:=cx.o;omega) hj);rw[a7] at W;simp only[gD.L] at W;clear hj hn ho e' df aw eJ
     go_upto_region 23 with(go_at_call 36;with_reducible refine W.o.mono ?_;rintro e ad ⟨t6,f,tr,rfl,z,F⟩;have X:=U (z_ (aE.o.trans (z.mono aE.o.size)) (z_ z F));clear z F v1 I J K M N O P Q;unfold sd gD.L kY.L)
     have B:=AV ad t6 f;simp only[gD.L,kY.L] at B;obtain⟨Y,B⟩:=B;generalize (ad.alloc (.cells #[.int .i64 t6.n,.slice t6.g.A t6.g.n t6.g.c,.slice t6.l.A t6.l.n t6.l.c,.slice t6.a.A t6.a.n t6.a.c,.slice t6.o.A t6.o.n t6.o.c,.int .i64 t6.b,.slice t6.h.A t6.h.n t6.h.c,.slice t6.p.A t6.p.n t6.p.c] 47)).alloc (.cells #[.int .i64 f.k,.slice f.m.A f.m.n f.m.c,.slice f.o.A f.o.n f.o.c,.int .i64 f.s] 30)=ca at Y B⊢;generalize ad.heap.size=g6 at B⊢;have fa:=U (X.o.1.trans (Y.mono X.o.1.size));have hK:=I7 (X.o.2.2.2.2.2.below Y) (by omega) (by decide);have hL:bF (aM ca (g6+1) 30 [.int .i64 f.k,.slice f.m.A f.m.n f.m.c,.slice f.o.A f.o.n f.o.c,.int .i64 f.s]):=U B;clear Y B X W;rcases hK with⟨cd,_,hq,cf,ch⟩|⟨cd,_,hN,_⟩
     ·have hP:=Q1 gS.o.2 ch;subst hP;have fb:f.m.n=k+1:=by rw[<-cf.len,ch.len]
      have hQ:bF (aM ca (g6+1) 30 [.int .i64 1,.slice f.m.A (k+1) f.m.c,.slice f.o.A f.o.n f.o.c,.int .i64 f.s]):=U (by have h:=hL.o;rw[cd,fb] at h;exact h);rw[fb] at cf;obtain⟨h6,h7,hr,ht,hv⟩:=cf.cells (by omega);have h8:=cf.cap;have hR:=U (z_ ht hv);have d:=hQ.o.cell;have w0:=d 0;have w1:=d 1;simp only[y_,x_] at w0 w1;clear d;have d:=(g'.o.below fa.o).cell;have v1:=d 1;simp only[y_,x_] at v1;clear d;rw[hr] at w1;rw[hf.o] at v1;clear cf ch ht hv fb cd hr
      go_wp2_with fail
      go_loopw [23] (λ i V=>∃(j q:Nat),i=.int .i64 j/\j<=k+1/\V=ca.drewN q) (λ i _=>k+1-(intOf i).toNat)
      case atStart=>exact⟨0,0,rfl,Nat.zero_le _,rfl⟩
      case round=>
       obtain⟨j,q,rfl,h9,rfl⟩:=hrel
       by_cases hx:j<k+1
       ·have hS:(j:Int)<(k:Int)+1:=by omega
        have ib:(j:Int)<=(k:Int):=by omega
        have ie:j<=k:=by omega
        have ih:j<k+1:=by omega
        have ik:t_.wrap ((j:Int)+1)=(j:Int)+1:=by rw[v_];omega
        have c1:=hR.o.2 j hx;have c2:=(fa.o.cell (p:=⟨bm,ha+j,none⟩) dd.o.1).trans (dd.o.2 j hx);generalize hq.getD j false=bv at c1 c2
        go_wp2_with fail
        go_quiet (fail)
        go_wp2_with fail
        go_roundw
        case rel=>exact⟨j+1,_,by go_num,by omega,rfl⟩
        case measure=>simp[intOf];omega
       ·have hS:¬(j:Int)<(k:Int)+1:=by omega
        go_wp2_with fail
        go_ret;have br:=v.o.2.2.2.2.2.2.2.trans (fa.o.mono v.o.2.2.2.2.2.2.2.size);exact⟨rfl,br.trans ((tL _ _).mono br.size)⟩
     ·exact absurd (Q2 gS.o.2) hN
  ·have S:y.k=2:=by
    rcases da with⟨_,_,il,_,hT⟩|⟨S,_⟩
    ·exact absurd hT.can f'
    ·exact S
   clear da;have hy:=QW (Q3 fY ev);have hV:u.o.n<=nq:=by rw[<-et.len];exact Nat.le_trans ev.length_le (by rw[v.o.2.2.2.2.2.2.1.len];exact Nat.le_refl _)
   have W:=U (zH v.o.2.2.2.2.1 (λ _ h=>h.elim) (by omega) et (by omega) (by rw[a7];have:=cx.o;omega) hy);rw[a7] at W;simp only[gD.L] at W;rw[a8] at v0;rw[S] at z0;have hW:=U gg;clear hy et ev f' gg S a8 hV fY
   go_upto_region 14 with(go_at_call 36;with_reducible refine W.o.mono ?_;rintro e ad ⟨t6,f,tr,rfl,z,F⟩;have X:=U (z_ z F);clear z F I J K M N O P Q v0 v1 v2 v3 z0 eh z2 z3;unfold sd gD.L kY.L)
   have B:=AV ad t6 f;have dk:=EJ ad t6 f;simp only[gD.L,kY.L] at B dk;obtain⟨Y,B⟩:=B;generalize (ad.alloc (.cells #[.int .i64 t6.n,.slice t6.g.A t6.g.n t6.g.c,.slice t6.l.A t6.l.n t6.l.c,.slice t6.a.A t6.a.n t6.a.c,.slice t6.o.A t6.o.n t6.o.c,.int .i64 t6.b,.slice t6.h.A t6.h.n t6.h.c,.slice t6.p.A t6.p.n t6.p.c] 47)).alloc (.cells #[.int .i64 f.k,.slice f.m.A f.m.n f.m.c,.slice f.o.A f.o.n f.o.c,.int .i64 f.s] 30)=ca at Y B dk⊢;generalize ad.heap.size=g6 at B dk⊢;have Z:=X.o.1.trans (Y.mono X.o.1.size);have fg:=U (z_ (show aM ca (g6+1) 30 [.int .i64 f.k,.slice f.m.A f.m.n f.m.c,.slice f.o.A f.o.n f.o.c,.int .i64 f.s] from B) (z_ (X.o.2.2.2.2.below Y) (z_ (v.o.1.below Z) (z_ (v.o.2.1.below Z) (z_ (v.o.2.2.1.below Z) (z_ (v.o.2.2.2.1.below Z) (z_ (v.o.2.2.2.2.1.below Z) (z_ (v.o.2.2.2.2.2.1.below Z) (z_ (v.o.2.2.2.2.2.2.1.below Z) (v.o.2.2.2.2.2.2.2.trans (Z.mono v.o.2.2.2.2.2.2.2.size)))))))))));clear B dk Y Z X W;rcases I7 fg.o.2.1 (by omega) (by decide) with⟨_,_,hq,_,ch⟩|⟨cd,_⟩
   ·exact absurd ch.can hW.o
   ·have d:=(fg.o.1).cell;have w0:=d 0;simp only[kY.L,y_,x_] at w0;clear d;rw[cd] at w0
    go_wp2_with fail
    go_ret;exact⟨rfl,fg.o.2.2.2.2.2.2.2.2.2⟩
end
end Go.Proofs.YtogdlkfacflmaaaGreat
