/- Parts of the walk of the solver and its core; no condition. -/
import Derived.Test.YtogdlkfacflmaaaGreatZV10
import Derived.Test.YtogdlkfacflmaaaGreatZV11
import Derived.Test.YtogdlkfacflmaaaGreatZV1
namespace Go.Proofs.YtogdlkfacflmaaaGreat
set_option linter.unusedVariables false
set_option linter.unusedSimpArgs false
set_option maxRecDepth 100000
set_option maxHeartbeats 16000000
open _root_.And renaming intro→z_
open _root_.List renaming getElem?_cons_zero→y_,getElem?_cons_succ→x_
open _root_.Bool renaming and_eq_true→w_
variable{n n2:Nat}{ax:List Int}
section
open Go.RowKit Go.Shelf Go.Lib
theorem E3(b:n<=9):3^n<=19683:=by
 have c:3^n<=3^9:=Nat.pow_le_pow_right (by omega) b;have d:(3:Nat)^9=19683:=by decide
 omega
theorem I7{W:World}{F:List (List Int)}{b:Nat}{u:kY}(h:uO W F ax n b u)(f:n<=9)(l:19683<=b):
  (u.k=1/\u.o=lX/\∃m,kS W u.m.A u.m.n u.m.c m/\ri F n ax m)\/(u.k=2/\u.m=lX/\¬Can F ax/\∃co,aN W u.o.A u.o.n u.o.c co/\co.Sublist ax/\¬Can F co):=by
 obtain⟨_,_,h|⟨h1,g,co,i,e,d⟩|⟨_,_,_,_,d⟩⟩:=h
 ·exact .inl h
 ·exact .inr ⟨h1,g,λ h=>d (h.mono λ x j=>e.subset j),co,i,e,d⟩
 ·have:=E3 f;omega
theorem QT(h:rf n ax=true)(c:n<=n2):rf n2 ax=true:=by
 unfold rf at*;rw[w_,List.all_eq_true] at*;refine⟨λ x b=>?_,h.2⟩;have h1:=h.1 x b;unfold vl at*;rw[w_,decide_eq_true_eq,decide_eq_true_eq] at*;omega
theorem QU{b:Int}(h:qb n ax b=true)(c:n<=n2):qb n2 ax b=true:=by
 unfold qb at*;rw[w_,w_] at*;exact⟨⟨QT h.1.1 c,h.1.2⟩,h.2⟩
theorem QV{D:Nat->Prop}{w:World}{s:j6}{t:gD}(h:kG D w n s t)(j:∀b,D b->b<w.heap.size)(f:n<=10){jw:Option Addr}{nq jF:Nat}{ax:List Int}(g:aN w jw nq jF ax)(k:nq<=1000)(l:s.gs.length<=40000){nB:Int}:
  Calls Tryz.prog 36 #[.agg t.L.toArray,.slice jw nq jF,.int .i64 nB] w λ e W=>∃(c:gD)(u:kY)(m:Int),e=.returned (sd c u m)/\Below w.heap.size w W:=by
 cases i:qb n ax nB with
 |true=>exact(zH h j f g k l i).mono λ e W ⟨c,u,_,h1,d,_⟩=>⟨c,u,0,h1,d⟩
 |false=>exact(A1 h f g (by omega) i).mono λ e W ⟨h1,d⟩=>⟨qa,xF,1,h1,d⟩
theorem QW(n:Int)(A:Option Addr)(nl cl:Nat)(es:List s6)(j:Int)(db:Option Addr)(nq dd:Nat)(df:List Int)(w:World)(h:vM w A nl cl es)(dj:aN w db nq dd df):
  Calls Tryz.prog 17 #[.int .i64 n,.slice A nl cl,.int .i64 j,.slice db nq dd] w λ e w'=>e=.returned (.bool true)/\Below w.heap.size w w':=by
 have pQ:=U (EN w);have ao:=U (z_ (h) (z_ (dj) (Below.refl w.heap.size w)));clear h dj;go_enter Tryz.func17,Tryz.ntmps17
 go_upto_region 3 with(go_at_call 40;refine pQ.o.mono ?_;rintro e w1 ⟨rfl,dk⟩;have cj:=U dk;clear dk)
 have B:=U (z_ (ao.o.1.below cj.o) (z_ (ao.o.2.1.below cj.o) (ao.o.2.2.trans (cj.o.mono ao.o.2.2.size))));clear ao;have ar:=U (EI n A nl cl es w1 B.o.1)
 by_cases dp:20<nq
 ·have cq:(20:Int)<(nq:Int):=by omega
  go_upto_region 5 with(go_at_call 52;refine ar.o.mono ?_;rintro e w1 ⟨r,rfl,rfl,C⟩;have aw:=U C;clear C;cases r)
  all_goals
   go_ret;exact⟨rfl,B.o.2.2⟩
 have cq:¬(20:Int)<(nq:Int):=by omega
 by_cases e1:j<0
 ·skip
  go_upto_region 5 with(go_at_call 52;refine ar.o.mono ?_;rintro e w1 ⟨r,rfl,rfl,C⟩;have aw:=U C;clear C;cases r)
  all_goals
   go_ret;exact⟨rfl,B.o.2.2⟩
 by_cases br:3<j
 ·skip
  go_upto_region 5 with(go_at_call 52;refine ar.o.mono ?_;rintro e w1 ⟨r,rfl,rfl,C⟩;have aw:=U C;clear C;cases r)
  all_goals
   go_ret;exact⟨rfl,B.o.2.2⟩
 go_upto_region 5 with(go_at_call 52;refine ar.o.mono ?_;rintro e w1 ⟨r,rfl,rfl,C⟩;have aw:=U C;clear C;cases r)
 ·go_ret;exact⟨rfl,B.o.2.2⟩
 obtain⟨e2,n6,dq,dt⟩:=aw.o trivial;obtain⟨n,rfl⟩:∃m:Nat,n=m:=⟨n.toNat,by omega⟩
 have du:=U (EV n (by omega) A nl cl es w1 B.o.1 dq dt);clear e2 n6 dq dt
 go_upto_region 6 with(go_at_call 53;refine du.o.mono ?_;rintro e bs ⟨m,s,t,rfl,br,hm,dv,b0⟩;have W:=U (z_ br (z_ dv (z_ hm b0)));clear br dv hm b0;unfold gD.L)
 have aE:=bg bs (.cells t.L.toArray 47);have a6:=aM.new bs 47 t.L;simp only[gD.L] at aE a6;generalize bs.alloc (.cells #[.int .i64 t.n,.slice t.g.A t.g.n t.g.c,.slice t.l.A t.l.n t.l.c,.slice t.a.A t.a.n t.a.c,.slice t.o.A t.o.n t.o.c,.int .i64 t.b,.slice t.h.A t.h.n t.h.c,.slice t.p.A t.p.n t.p.c] 47)=e' at aE a6⊢;generalize bs.heap.size=fa at a6⊢;have b1:=W.o.1.trans (aE.mono W.o.1.size);have dC:=W.o.2.2.1;have G:t.n=(m:Int):=by rw[W.o.2.1.e];rfl
 have F:=U (z_ (show aM e' fa 47 [.int .i64 t.n,.slice t.g.A t.g.n t.g.c,.slice t.l.A t.l.n t.l.c,.slice t.a.A t.a.n t.a.c,.slice t.o.A t.o.n t.o.c,.int .i64 t.b,.slice t.h.A t.h.n t.h.c,.slice t.p.A t.p.n t.p.c] from a6) (z_ (W.o.2.1.below aE) (z_ (B.o.1.below b1) (z_ (B.o.2.1.below b1) (B.o.2.2.trans (b1.mono B.o.2.2.size))))));have cx:=U W.o.2.2.2;clear B W aE a6 b1 du ar pQ aw;obtain⟨j,rfl⟩:∃b:Nat,j=b:=⟨j.toNat,by omega⟩
 have dE:j<=3:=by omega
 clear e1 br;have fy:IntKind.i64.wrap ((m:Int)+(j:Int))=((m+j:Nat):Int):=by rw[IntKind.wrap_i64];omega
 have d:=(F.o.1).cell;have D:=d 0;have H:=d 1;have I:=d 2;have J:=d 3;have K:=d 4;have M:=d 5;have P:=d 6;have Q:=d 7;simp only[gD.L,kY.L,y_,x_] at D H I J K M P Q;clear d;rw[G] at D;have b2:=U (EG F.o.2.1 (λ _ h=>h.elim) (by omega) (m:=m+j) (by omega) (by omega));simp only[gD.L] at b2;rw[G] at b2
 go_upto_region 7 with(go_at_call 44;refine b2.o.mono ?_;rintro e b3 ⟨t4,iI,rfl,y,R⟩;have a7:=U (z_ y R);clear y R D H I J K M P Q;unfold pV gD.L)
 have a8:=bg b3 (.cells t4.L.toArray 47);have a':=aM.new b3 47 t4.L;simp only[gD.L] at a8 a';generalize b3.alloc (.cells #[.int .i64 t4.n,.slice t4.g.A t4.g.n t4.g.c,.slice t4.l.A t4.l.n t4.l.c,.slice t4.a.A t4.a.n t4.a.c,.slice t4.o.A t4.o.n t4.o.c,.int .i64 t4.b,.slice t4.h.A t4.h.n t4.h.c,.slice t4.p.A t4.p.n t4.p.c] 47)=fb at a8 a'⊢;generalize b3.heap.size=g4 at a'⊢;have ae:=a7.o.1.trans (a8.mono a7.o.1.size);have i:=U (z_ (show aM fb g4 47 [.int .i64 t4.n,.slice t4.g.A t4.g.n t4.g.c,.slice t4.l.A t4.l.n t4.l.c,.slice t4.a.A t4.a.n t4.a.c,.slice t4.o.A t4.o.n t4.o.c,.int .i64 t4.b,.slice t4.h.A t4.h.n t4.h.c,.slice t4.p.A t4.p.n t4.p.c] from a') (z_ (a7.o.2.1.below a8) (z_ (F.o.1.below ae) (z_ (F.o.2.1.below ae) (z_ (F.o.2.2.1.below ae) (z_ (F.o.2.2.2.1.below ae) (F.o.2.2.2.2.trans (ae.mono F.o.2.2.2.2.size))))))));have cy:=U a7.o.2.2.1;clear a8 a' ae a7 b2 F;have d:=(i.o.2.2.1).cell;have D:=d 0;have H:=d 1;have I:=d 2;have J:=d 3;have K:=d 4;have M:=d 5;have P:=d 6;have Q:=d 7;simp only[gD.L,kY.L,y_,x_] at D H I J K M P Q;clear d;rw[G] at D
 cases b4:qb m df 1073741824 with
 |false=>
  have b':=U (A1 i.o.2.2.2.1 (by omega) i.o.2.2.2.2.2.1 (by omega) b4);simp only[gD.L,kY.L,qa,xF,lX,sd] at b';rw[G] at b'
  go_upto_region 8 with(go_at_call 36;refine b'.o.mono ?_;rintro e X ⟨rfl,y⟩;have S:=U y;clear y D H I J K M P Q)
  have mV:=AV X qa xF;simp only[gD.L,kY.L,qa,xF,lX] at mV;obtain⟨T,-⟩:=mV;generalize (X.alloc (.cells #[.int .i64 0,.slice none 0 0,.slice none 0 0,.slice none 0 0,.slice none 0 0,.int .i64 0,.slice none 0 0,.slice none 0 0] 47)).alloc (.cells #[.int .i64 0,.slice none 0 0,.slice none 0 0,.int .i64 0] 30)=dT at T⊢;have v:=S.o.trans (T.mono S.o.size);have q:=U (z_ (i.o.1.below v) (z_ (i.o.2.1.below v) (z_ (i.o.2.2.1.below v) (z_ (i.o.2.2.2.1.below v) (z_ (i.o.2.2.2.2.1.below v) (z_ (i.o.2.2.2.2.2.1.below v) (i.o.2.2.2.2.2.2.trans (v.mono i.o.2.2.2.2.2.2.size))))))));clear T v S b';have d:=(q.o.1).cell;have z0:=d 0;have V:=d 1;have z2:=d 2;have z3:=d 3;have z4:=d 4;have z5:=d 5;have ba:=d 6;have bb:=d 7;simp only[gD.L,kY.L,y_,x_] at z0 V z2 z3 z4 z5 ba bb;clear d;have Y:=U (QV q.o.2.1 (λ _ h=>h.elim) (by omega) q.o.2.2.2.2.2.1 (by omega) (by rw[cy.o];have:=cx.o;omega) (nB:=1073741824));simp only[gD.L] at Y
  go_wp2_with (go_at_call 36;refine Y.o.mono ?_;rintro e al ⟨t6,f,fz,rfl,y⟩;have Z:=U y;clear y z0 V z2 z3 z4 z5 ba bb;unfold sd gD.L kY.L)
  go_ret;have d':=q.o.2.2.2.2.2.2.trans (Z.o.mono q.o.2.2.2.2.2.2.size);exact⟨rfl,d'.trans ((AV al t6 f).1.mono d'.size)⟩
 |true=>
  have ca:=U (zH i.o.2.2.2.1 (λ _ h=>h.elim) (by omega) i.o.2.2.2.2.2.1 (by omega) (by have:=cx.o;omega) b4);simp only[gD.L] at ca;rw[G] at ca
  go_upto_region 8 with(go_at_call 36;refine ca.o.mono ?_;rintro e X ⟨t5,u,fX,rfl,y,R⟩;have S:=U (z_ y R);clear y R D H I J K M P Q;unfold sd gD.L kY.L)
  have mV:=AV X t5 u;have cd:=EJ X t5 u;simp only[gD.L,kY.L] at mV cd;obtain⟨T,mV⟩:=mV;generalize (X.alloc (.cells #[.int .i64 t5.n,.slice t5.g.A t5.g.n t5.g.c,.slice t5.l.A t5.l.n t5.l.c,.slice t5.a.A t5.a.n t5.a.c,.slice t5.o.A t5.o.n t5.o.c,.int .i64 t5.b,.slice t5.h.A t5.h.n t5.h.c,.slice t5.p.A t5.p.n t5.p.c] 47)).alloc (.cells #[.int .i64 u.k,.slice u.m.A u.m.n u.m.c,.slice u.o.A u.o.n u.o.c,.int .i64 u.s] 30)=dT at T mV cd⊢;generalize X.heap.size=g5 at mV cd⊢;have v:=S.o.1.trans (T.mono S.o.1.size);have q:=U (z_ (show aM dT (g5+1) 30 [.int .i64 u.k,.slice u.m.A u.m.n u.m.c,.slice u.o.A u.o.n u.o.c,.int .i64 u.s] from mV) (z_ (S.o.2.2.2.2.below T) (z_ (i.o.1.below v) (z_ (i.o.2.1.below v) (z_ (i.o.2.2.1.below v) (z_ (i.o.2.2.2.1.below v) (z_ (i.o.2.2.2.2.1.below v) (z_ (i.o.2.2.2.2.2.1.below v) (i.o.2.2.2.2.2.2.trans (v.mono i.o.2.2.2.2.2.2.size))))))))));clear mV cd T v S ca i;have d:=(q.o.2.2.1).cell;have z0:=d 0;have V:=d 1;have z2:=d 2;have z3:=d 3;have z4:=d 4;have z5:=d 5;have ba:=d 6;have bb:=d 7;simp only[gD.L,kY.L,y_,x_] at z0 V z2 z3 z4 z5 ba bb;clear d;have ea:=QU (n:=m) (n2:=m+j) b4 (by omega);have Y:=U (zH q.o.2.2.2.1 (λ _ h=>h.elim) (by omega) q.o.2.2.2.2.2.2.2.1 (by omega) (by rw[cy.o];have:=cx.o;omega) ea);rw[cy.o] at Y;simp only[gD.L] at Y
  go_upto_region 11 with(go_at_call 36;refine Y.o.mono ?_;rintro e al ⟨t6,f,tr,rfl,y,R⟩;have Z:=U (z_ y R);clear y R z0 V z2 z3 z4 z5 ba bb;unfold sd gD.L kY.L)
  have ab:=AV al t6 f;have bc:=EJ al t6 f;simp only[gD.L,kY.L] at ab bc;obtain⟨cf,ab⟩:=ab;generalize (al.alloc (.cells #[.int .i64 t6.n,.slice t6.g.A t6.g.n t6.g.c,.slice t6.l.A t6.l.n t6.l.c,.slice t6.a.A t6.a.n t6.a.c,.slice t6.o.A t6.o.n t6.o.c,.int .i64 t6.b,.slice t6.h.A t6.h.n t6.h.c,.slice t6.p.A t6.p.n t6.p.c] 47)).alloc (.cells #[.int .i64 f.k,.slice f.m.A f.m.n f.m.c,.slice f.o.A f.o.n f.o.c,.int .i64 f.s] 30)=ch at cf ab bc⊢;generalize al.heap.size=g6 at ab bc⊢;have E:=Z.o.1.trans (cf.mono Z.o.1.size);have cJ:t6.n=((m+j:Nat):Int):=by rw[Z.o.2.1.e];rfl
  have z:=U (z_ (show aM ch g6 47 [.int .i64 t6.n,.slice t6.g.A t6.g.n t6.g.c,.slice t6.l.A t6.l.n t6.l.c,.slice t6.a.A t6.a.n t6.a.c,.slice t6.o.A t6.o.n t6.o.c,.int .i64 t6.b,.slice t6.h.A t6.h.n t6.h.c,.slice t6.p.A t6.p.n t6.p.c] from bc) (z_ (show aM ch (g6+1) 30 [.int .i64 f.k,.slice f.m.A f.m.n f.m.c,.slice f.o.A f.o.n f.o.c,.int .i64 f.s] from ab) (z_ (Z.o.2.2.2.2.below cf) (z_ (q.o.1.below E) (z_ (q.o.2.1.below E) (z_ (q.o.2.2.1.below E) (z_ (q.o.2.2.2.1.below E) (z_ (q.o.2.2.2.2.1.below E) (z_ (q.o.2.2.2.2.2.1.below E) (z_ (q.o.2.2.2.2.2.2.1.below E) (z_ (q.o.2.2.2.2.2.2.2.1.below E) (q.o.2.2.2.2.2.2.2.2.trans (E.mono q.o.2.2.2.2.2.2.2.2.size)))))))))))));clear ab bc cf E Z Y q b4 ea;have fg:=I7 z.o.2.2.2.2.1 (by omega) (by decide);have eb:=I7 z.o.2.2.1 (by omega) (by decide);have d:=(z.o.2.2.2.1).cell;have v0:=d 0;have v1:=d 1;have v2:=d 2;have v3:=d 3;simp only[gD.L,kY.L,y_,x_] at v0 v1 v2 v3;clear d;have d:=(z.o.2.1).cell;have z0:=d 0;have V:=d 1;have z2:=d 2;have z3:=d 3;simp only[gD.L,kY.L,y_,x_] at z0 V z2 z3;clear d;have d:=(z.o.2.2.2.2.2.2.2.1).cell;have D:=d 0;have H:=d 1;have I:=d 2;have J:=d 3;have K:=d 4;have M:=d 5;have P:=d 6;have Q:=d 7;simp only[gD.L,kY.L,y_,x_] at D H I J K M P Q;clear d;rw[G] at D;have d:=(z.o.1).cell;have ed:=d 0;have fi:=d 1;have fj:=d 2;have fl:=d 3;have fp:=d 4;have fr:=d 5;have fs:=d 6;have ft:=d 7;simp only[gD.L,kY.L,y_,x_] at ed fi fj fl fp fr fs ft;clear d;rw[cJ] at ed;rcases fg with⟨bd,_,fY,fv,eg⟩|⟨bd,_,eh,_⟩
  ·rw[bd] at v0;rcases eb with⟨ad,_,cP,bj,bo⟩|⟨ad,_,cX,_⟩
   ·rw[ad] at z0;have et:f.m.n=m+j+1:=by rw[<-bj.len,bo.len]
    rw[et] at V bj;have ev:t.g.n=s.gs.length:=by rw[z.o.2.2.2.2.2.2.2.2.1.e];rfl
    have eI:mc ch t.g.A t.g.n t.g.c s.gs:=by rw[ev];exact z.o.2.2.2.2.2.2.2.2.1.aO.gs
    have cY:=z.o.2.2.2.2.2.2.2.2.1.O;have eJ:lB ((m+j:Nat):Int) s.gs=0:=yl (by omega) cY.g1 λ g b0 x fw=>(cY.bk g b0 x fw).up (by omega)
    have eK:vQ ((m+j:Nat):Int) s.gs cP=true:=(En eJ).2 bo.sat;have eQ:=U (Bd ((m+j:Nat):Int) t.g.A t.g.n t.g.c s.gs f.m.A (m+j+1) f.m.c cP ch eI bj);rw[eK] at eQ;have wc:IntKind.i64.wrap (((m+j:Nat):Int)+1)=((m+j+1:Nat):Int):=by rw[IntKind.wrap_i64];omega
    clear eK eJ cY eI ev et bj bo fv eg ad bd G cJ dE dC cq dp;generalize da:m+j=N at*;clear da
    go_wp2_with (go_at_call 58;refine eQ.o.mono ?_;rintro e f' ⟨rfl,e0⟩;have fx:=U e0;clear e0)
    go_ret;exact⟨rfl,z.o.2.2.2.2.2.2.2.2.2.2.2.trans (fx.o.mono z.o.2.2.2.2.2.2.2.2.2.2.2.size)⟩
   ·exact absurd eg.can cX
  ·rw[bd] at v0;rcases eb with⟨ad,_,cP,bj,bo⟩|⟨ad,_,cX,_⟩
   ·exact absurd bo.can eh
   ·rw[ad] at z0;clear eh cX G cJ ad bd dE dC cq dp;generalize da:m+j=N at*;clear da
    go_wp2_with fail
    go_ret;exact⟨rfl,z.o.2.2.2.2.2.2.2.2.2.2.2⟩
end
end Go.Proofs.YtogdlkfacflmaaaGreat
