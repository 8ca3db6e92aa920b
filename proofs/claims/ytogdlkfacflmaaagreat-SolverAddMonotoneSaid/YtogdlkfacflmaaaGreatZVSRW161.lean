/- Parts of the walk of the solver and its core; no condition. -/
import Derived.Test.YtogdlkfacflmaaaGreatZV10
import Derived.Test.YtogdlkfacflmaaaGreatZV11
import Derived.Test.YtogdlkfacflmaaaGreatZV1
namespace Go.Proofs.YtogdlkfacflmaaaGreat
set_option linter.unusedVariables false
set_option linter.unusedSimpArgs false
set_option maxRecDepth 100000
set_option maxHeartbeats 16000000
open _root_.And renaming intro→z_
open _root_.List renaming getElem?_cons_zero→y_,getElem?_cons_succ→x_
open _root_.Go.Proofs.Tryz renaming prog→w_
variable{n:Nat}{W:World}{F:List (List Int)}{ax:List Int}{aO:Ending->World->Prop}{a:Act}{mA:Int}
section
open Go.RowKit Go.Shelf Go.Lib
theorem E3(b:n<=9):3^n<=19683:=by
 have c:3^n<=3^9:=Nat.pow_le_pow_right (by omega) b;have d:(3:Nat)^9=19683:=by decide
 omega
theorem I7{b:Nat}{u:kY}(h:uO W F ax n b u)(f:n<=9)(l:19683<=b):
  (u.k=1/\u.o=lX/\∃m,kS W u.m.A u.m.n u.m.c m/\ri F n ax m)\/(u.k=2/\u.m=lX/\¬Can F ax/\∃co,aN W u.o.A u.o.n u.o.c co/\co.Sublist ax/\¬Can F co):=by
 obtain⟨_,_,h|⟨h1,g,co,i,e,d⟩|⟨_,_,_,_,d⟩⟩:=h
 ·exact .inl h
 ·exact .inr ⟨h1,g,λ h=>d (h.mono λ x j=>e.subset j),co,i,e,d⟩
 ·have:=E3 f;omega
theorem Can.less{G:List (List Int)}(h:Can (F++G) ax):Can F ax:=by
 obtain⟨M,⟨h1,b⟩,c⟩:=h;exact⟨M,⟨h1,λ l hl=>b l (by simp[hl])⟩,c⟩
theorem ri.more{more:List Int}{b:List Bool}(h:ri F n ax b)(hl:∀x∈more,gF n x)(d:n<=65536)(e:oF b more=true):Can (F++[more]) ax:=by
 refine⟨p0 b,⟨yV _,λ g c=>?_⟩,h.ax⟩;rcases List.mem_append.1 c with c|c
 ·exact h.sat g c
 ·rw[List.mem_singleton.1 c];exact(vK hl d).1 e
theorem QT{aU:Nat}{t:gD}(n:a.defers=[])(c:a.tmps.getD 4 undef=.pointer (some ⟨aU,0,none⟩))(d:a.tmps.getD 5 undef=.int .i64 mA)
  (o:aM W aU 47 t.L) (h:aO (.returned (pV t mA)) W):bodyPost w_ Tryz.f46 aO .ret a W:=by
 have b:=o.cell;have e:=b 0;have f:=b 1;have g:=b 2;have i:=b 3;have j:=b 4;have k:=b 5;have l:=b 6;have m:=b 7;simp only[gD.L,y_,x_] at e f g i j k l m;clear b;rw[Array.getD_eq_getD_getElem?] at c d;refine bodyPost_ret (v:=pV t mA) ?_ n h;simp[results,Tryz.results46,go_sem,c,d,e,f,g,i,j,k,l,m,gD.L,pV]
theorem QU{w:World}{L:List Value}(S:qT w W L mU)(c:a.defers=[])(d:a.tmps.getD 4 undef=.pointer (some ⟨w.heap.size+1,0,none⟩))(e:a.tmps.getD 5 undef=.int .i64 mA)
  (h:∀W',Below w.heap.size w W'->aO (.returned (pV qa mA)) W'):bodyPost w_ Tryz.f46 aO .ret a ((((((((W.setCell ⟨w.heap.size+1,0,none⟩ (.int .i64 0)).setCell ⟨w.heap.size+1,1,none⟩ (.slice none 0 0)).setCell ⟨w.heap.size+1,2,none⟩ (.slice none 0 0)).setCell ⟨w.heap.size+1,3,none⟩ (.slice none 0 0)).setCell ⟨w.heap.size+1,4,none⟩ (.slice none 0 0)).setCell ⟨w.heap.size+1,5,none⟩ (.int .i64 0)).setCell ⟨w.heap.size+1,6,none⟩ (.slice none 0 0)).setCell ⟨w.heap.size+1,7,none⟩ (.slice none 0 0)):=by
 have B:=S.aU;unfold mU at B;have f8:=aF.eight (W:=W) (B:=w.heap.size+1) (.int .i64 0) (.slice none 0 0) (.slice none 0 0) (.slice none 0 0) (.slice none 0 0) (.int .i64 0) (.slice none 0 0) (.slice none 0 0);exact QT (t:=qa) c d e (aM.rL B (.int .i64 0) (.slice none 0 0) (.slice none 0 0) (.slice none 0 0) (.slice none 0 0) (.int .i64 0) (.slice none 0 0) (.slice none 0 0)) (h _ (S.kZ.trans ⟨f8.os,f8.tape,f8.output,f8.size,λ b f=>f8.keep b (by omega)⟩))
theorem QV(t:gD)(j:Int)(m:j≠0)(G:Option Addr)(H c0:Nat)(w:World)(r:∀W,Below w.heap.size w W->Calls w_ 49 #[.agg t.L.toArray] W λ e w'=>e=.returned (.int .i64 j)/\Below W.heap.size W w'):
  Calls w_ 46 #[.agg t.L.toArray,.slice G H c0] w λ e W=>e=.returned (pV qa j)/\Below w.heap.size w W:=by
 have I:=U r;have X:(j==0)=false:=by simpa using m
 have Y:(j !=0)=true:=by simpa using m
 have Z:decide (j=0)=false:=decide_eq_false m;clear r m;unfold gD.L at*;go_enter Tryz.func46,Tryz.ntmps46
 go_upto_region 1 with fail
 have k:=qT.init w t.L mU;simp only[gD.L,mU] at k;generalize ((w.alloc (.cells #[.int .i64 t.n,.slice t.g.A t.g.n t.g.c,.slice t.l.A t.l.n t.l.c,.slice t.a.A t.a.n t.a.c,.slice t.o.A t.o.n t.o.c,.int .i64 t.b,.slice t.h.A t.h.n t.h.c,.slice t.p.A t.p.n t.p.c] 47)).alloc (.cells #[.int .i64 0,.slice none 0 0,.slice none 0 0,.slice none 0 0,.slice none 0 0,.int .i64 0,.slice none 0 0,.slice none 0 0] 47))=s at*;have d:=k.bf.cell;have u:=d 0;have v:=d 1;have y:=d 2;have z:=d 3;have B:=d 4;have C:=d 5;have D:=d 6;have E:=d 7;simp only[y_,x_] at u v y z B C D E;clear d;have J:=U (I.o s k.kZ);have K:bF (qT w s t.L mU):=U k;clear k
 go_upto_region 3 with(go_at_call 49;refine J.o.mono ?_;rintro e ab ⟨rfl,F⟩;have q:=U (K.o.below F);clear u v y z B C D E F)
 have f:=q.o.aU.cell;have M:=f 0;have N:=f 1;have O:=f 2;have P:=f 3;have Q:=f 4;have R:=f 5;have S:=f 6;have T:=f 7;simp only[mU,y_,x_] at M N O P Q R S T;clear f;have i:=q.o.aU.free;have f0:=i 0;have f1:=i 1;have f2:=i 2;have f3:=i 3;have f4:=i 4;have f5:=i 5;have f6:=i 6;have f7:=i 7;clear i
 go_wp2_with fail
 exact QU q.o rfl rfl rfl λ W' V=>⟨rfl,V⟩
theorem QW(b:Option Addr)(c c0:Nat)(w:World):Calls w_ 46 #[.agg qa.L.toArray,.slice b c c0] w λ e W=>e=.returned (pV qa 1)/\Below w.heap.size w W:=
 QV qa 1 (by decide) b c c0 w λ W _=>Px W
theorem QX(n:Int)(A:Option Addr)(nl cl:Nat)(es:List s6)(ao:Option Addr)(M ar:Nat)(more:List Int)(dj:Option Addr)(nq dk:Nat)(dp:List Int)(w:World)(h:vM w A nl cl es)(hm:aN w ao M ar more)(dq:aN w dj nq dk dp):
  Calls w_ 16 #[.int .i64 n,.slice A nl cl,.slice ao M ar,.slice dj nq dk] w λ e w'=>e=.returned (.bool true)/\Below w.heap.size w w':=by
 have pQ:=U (EN w);have T:=U (z_ (h) (z_ (hm) (z_ (dq) (Below.refl w.heap.size w))));clear h hm dq;go_enter Tryz.func16,Tryz.ntmps16
 go_upto_region 3 with(go_at_call 40;refine pQ.o.mono ?_;rintro e w1 ⟨rfl,dt⟩;have bd:=U dt;clear dt)
 have C:=U (z_ (T.o.1.below bd.o) (z_ (T.o.2.1.below bd.o) (z_ (T.o.2.2.1.below bd.o) (T.o.2.2.2.trans (bd.o.mono T.o.2.2.2.size)))));clear T;have bj:=U (EI n A nl cl es w1 C.o.1)
 by_cases ft:20<M
 ·have e1:(20:Int)<(M:Int):=by omega
  go_upto_region 5 with(go_at_call 52;refine bj.o.mono ?_;rintro e w1 ⟨r,rfl,rfl,N⟩;have bo:=U N;clear N;cases r)
  all_goals
   go_ret;exact⟨rfl,C.o.2.2.2⟩
 have e1:¬(20:Int)<(M:Int):=by omega
 by_cases fv:20<nq
 ·have e2:(20:Int)<(nq:Int):=by omega
  go_upto_region 5 with(go_at_call 52;refine bj.o.mono ?_;rintro e w1 ⟨r,rfl,rfl,N⟩;have bo:=U N;clear N;cases r)
  all_goals
   go_ret;exact⟨rfl,C.o.2.2.2⟩
 have e2:¬(20:Int)<(nq:Int):=by omega
 go_upto_region 5 with(go_at_call 52;refine bj.o.mono ?_;rintro e w1 ⟨r,rfl,rfl,N⟩;have bo:=U N;clear N;cases r)
 ·go_ret;exact⟨rfl,C.o.2.2.2⟩
 obtain⟨e',n6,du,dv⟩:=bo.o trivial;obtain⟨n,rfl⟩:∃m:Nat,n=m:=⟨n.toNat,by omega⟩
 have dC:=U (EV n (by omega) A nl cl es w1 C.o.1 du dv);clear e' n6 du dv
 go_upto_region 6 with(go_at_call 53;refine dC.o.mono ?_;rintro e br ⟨m,s,t,rfl,dE,hm,dT,d'⟩;have Q:=U (z_ dE (z_ dT (z_ hm d')));clear dE dT hm d';unfold gD.L)
 have aw:=bg br (.cells t.L.toArray 47);have aE:=aM.new br 47 t.L;simp only[gD.L] at aw aE;generalize br.alloc (.cells #[.int .i64 t.n,.slice t.g.A t.g.n t.g.c,.slice t.l.A t.l.n t.l.c,.slice t.a.A t.a.n t.a.c,.slice t.o.A t.o.n t.o.c,.int .i64 t.b,.slice t.h.A t.h.n t.h.c,.slice t.p.A t.p.n t.p.c] 47)=fa at aw aE⊢;generalize br.heap.size=fb at aE⊢;have a6:=Q.o.1.trans (aw.mono Q.o.1.size);have fw:=Q.o.2.2.1;have fg:t.n=(m:Int):=by rw[Q.o.2.1.e];rfl
 have q:=U (z_ (show aM fa fb 47 [.int .i64 t.n,.slice t.g.A t.g.n t.g.c,.slice t.l.A t.l.n t.l.c,.slice t.a.A t.a.n t.a.c,.slice t.o.A t.o.n t.o.c,.int .i64 t.b,.slice t.h.A t.h.n t.h.c,.slice t.p.A t.p.n t.p.c] from aE) (z_ (Q.o.2.1.below aw) (z_ (C.o.1.below a6) (z_ (C.o.2.1.below a6) (z_ (C.o.2.2.1.below a6) (C.o.2.2.2.trans (a6.mono C.o.2.2.2.size)))))));have cy:=U Q.o.2.2.2;clear C Q aw aE a6 dC bj pQ bo;clear fg;have d:=(q.o.1).cell;have V:=d 0;have W:=d 1;have X:=d 2;have Y:=d 3;have Z:=d 4;have ab:=d 5;have ad:=d 6;have ae:=d 7;simp only[gD.L,kY.L,y_,x_] at V W X Y Z ab ad ae;clear d
 cases bs:qb m dp 1073741824 with
 |false=>
  have cJ:=U (A1 q.o.2.1 (by omega) q.o.2.2.2.2.1 (by omega) bs);simp only[gD.L,kY.L,qa,xF,lX,sd] at cJ
  go_upto_region 7 with(go_at_call 36;refine cJ.o.mono ?_;rintro e H ⟨rfl,v⟩;have F:=U v;clear v V W X Y Z ab ad ae)
  have y:=AV H qa xF;have D:=EJ H qa xF;simp only[gD.L,kY.L,qa,xF,lX] at y D;obtain⟨I,y⟩:=y;generalize (H.alloc (.cells #[.int .i64 0,.slice none 0 0,.slice none 0 0,.slice none 0 0,.slice none 0 0,.int .i64 0,.slice none 0 0,.slice none 0 0] 47)).alloc (.cells #[.int .i64 0,.slice none 0 0,.slice none 0 0,.int .i64 0] 30)=b0 at I y D⊢;generalize H.heap.size=g4 at y D⊢;have B:=F.o.trans (I.mono F.o.size);have j:=U (z_ (D) (z_ (q.o.1.below B) (z_ (q.o.2.1.below B) (z_ (q.o.2.2.1.below B) (z_ (q.o.2.2.2.1.below B) (z_ (q.o.2.2.2.2.1.below B) (q.o.2.2.2.2.2.trans (B.mono q.o.2.2.2.2.2.size))))))));clear y D I B F cJ;have d:=(j.o.1).cell;have z0:=d 0;have J:=d 1;have z2:=d 2;have z3:=d 3;have z4:=d 4;have z5:=d 5;have a7:=d 6;have a8:=d 7;simp only[gD.L,kY.L,y_,x_] at z0 J z2 z3 z4 z5 a7 a8;clear d;have ea:=U (QW ao M ar b0);simp only[gD.L,qa,lX,pV] at ea
  go_wp2_with (go_at_call 46;refine ea.o.mono ?_;rintro e al ⟨rfl,v⟩;have R:=U v;clear v z0 J z2 z3 z4 z5 a7 a8)
  go_ret;exact⟨rfl,(j.o.2.2.2.2.2.2.trans (R.o.mono j.o.2.2.2.2.2.2.size)).trans ((bg al _).mono (j.o.2.2.2.2.2.2.trans (R.o.mono j.o.2.2.2.2.2.2.size)).size)⟩
 |true=>
  have cP:=U (zH q.o.2.1 (λ _ h=>h.elim) (by omega) q.o.2.2.2.2.1 (by omega) (by have:=cy.o;omega) bs);simp only[gD.L] at cP
  go_upto_region 7 with(go_at_call 36;refine cP.o.mono ?_;rintro e H ⟨t4,f,iI,rfl,v,O⟩;have F:=U (z_ v O);clear v O V W X Y Z ab ad ae;unfold sd gD.L kY.L)
  have y:=AV H t4 f;have D:=EJ H t4 f;simp only[gD.L,kY.L] at y D;obtain⟨I,y⟩:=y;generalize (H.alloc (.cells #[.int .i64 t4.n,.slice t4.g.A t4.g.n t4.g.c,.slice t4.l.A t4.l.n t4.l.c,.slice t4.a.A t4.a.n t4.a.c,.slice t4.o.A t4.o.n t4.o.c,.int .i64 t4.b,.slice t4.h.A t4.h.n t4.h.c,.slice t4.p.A t4.p.n t4.p.c] 47)).alloc (.cells #[.int .i64 f.k,.slice f.m.A f.m.n f.m.c,.slice f.o.A f.o.n f.o.c,.int .i64 f.s] 30)=b0 at I y D⊢;generalize H.heap.size=g4 at y D⊢;have B:=F.o.1.trans (I.mono F.o.1.size);have j:=U (z_ (show aM b0 g4 47 [.int .i64 t4.n,.slice t4.g.A t4.g.n t4.g.c,.slice t4.l.A t4.l.n t4.l.c,.slice t4.a.A t4.a.n t4.a.c,.slice t4.o.A t4.o.n t4.o.c,.int .i64 t4.b,.slice t4.h.A t4.h.n t4.h.c,.slice t4.p.A t4.p.n t4.p.c] from D) (z_ (show aM b0 (g4+1) 30 [.int .i64 f.k,.slice f.m.A f.m.n f.m.c,.slice f.o.A f.o.n f.o.c,.int .i64 f.s] from y) (z_ (F.o.2.1.below I) (z_ (F.o.2.2.2.2.below I) (z_ (q.o.2.2.1.below B) (z_ (q.o.2.2.2.1.below B) (z_ (q.o.2.2.2.2.1.below B) (q.o.2.2.2.2.2.trans (B.mono q.o.2.2.2.2.2.size)))))))));have eb:=U F.o.2.2.1;clear y D I B F cP;have d:=(j.o.1).cell;have z0:=d 0;have J:=d 1;have z2:=d 2;have z3:=d 3;have z4:=d 4;have z5:=d 5;have a7:=d 6;have a8:=d 7;simp only[gD.L,kY.L,y_,x_] at z0 J z2 z3 z4 z5 a7 a8;clear d;have b1:=U (CL j.o.2.2.1 (λ _ h=>h.elim) (by omega) j.o.2.2.2.2.2.1 (by rw[eb.o];have:=cy.o;omega));simp only[gD.L] at b1;obtain⟨ed,b2⟩:∃e,yx m more=e:=⟨_,rfl⟩
  rw[b2] at b1
  go_upto_region 8 with(go_at_call 46;refine b1.o.mono ?_;rintro e al ⟨t5,rfl,v,O⟩;have R:=U (z_ v O);clear v O z0 J z2 z3 z4 z5 a7 a8;unfold pV gD.L)
  have mV:=bg al (.cells t5.L.toArray 47);have a':=aM.new al 47 t5.L;simp only[gD.L] at mV a';generalize al.alloc (.cells #[.int .i64 t5.n,.slice t5.g.A t5.g.n t5.g.c,.slice t5.l.A t5.l.n t5.l.c,.slice t5.a.A t5.a.n t5.a.c,.slice t5.o.A t5.o.n t5.o.c,.int .i64 t5.b,.slice t5.h.A t5.h.n t5.h.c,.slice t5.p.A t5.p.n t5.p.c] 47)=fi at mV a'⊢;generalize al.heap.size=g5 at a'⊢;have K:=R.o.1.trans (mV.mono R.o.1.size);have z:=U (z_ (show aM fi g5 47 [.int .i64 t5.n,.slice t5.g.A t5.g.n t5.g.c,.slice t5.l.A t5.l.n t5.l.c,.slice t5.a.A t5.a.n t5.a.c,.slice t5.o.A t5.o.n t5.o.c,.int .i64 t5.b,.slice t5.h.A t5.h.n t5.h.c,.slice t5.p.A t5.p.n t5.p.c] from a') (z_ (j.o.1.below K) (z_ (j.o.2.1.below K) (z_ (j.o.2.2.1.below K) (z_ (j.o.2.2.2.1.below K) (z_ (j.o.2.2.2.2.1.below K) (z_ (j.o.2.2.2.2.2.1.below K) (z_ (j.o.2.2.2.2.2.2.1.below K) (j.o.2.2.2.2.2.2.2.trans (K.mono j.o.2.2.2.2.2.2.2.size))))))))))
  by_cases ba:lB m [more]=0
  ·have cX:ed=0:=by rw[<-b2];exact if_pos ba
   subst cX;obtain⟨fx,fy,b3,k2,_⟩:=R.o.2.2 ba;have b3:=b3.below mV;rw[eb.o] at k2;have b4:=U (zH b3 (λ _ h=>h.elim) (by omega) z.o.2.2.2.2.2.2.2.1 (by omega) (by rw[k2,List.length_append];have:=cy.o;simp;omega) bs);rw[k2] at b4;simp only[gD.L] at b4;have eg:bF (∀x∈more,gF m x):=U ((Cu ba).2.2 more (by simp));have d:=(z.o.1).cell;have V:=d 0;have W:=d 1;have X:=d 2;have Y:=d 3;have Z:=d 4;have ab:=d 5;have ad:=d 6;have ae:=d 7;simp only[gD.L,kY.L,y_,x_] at V W X Y Z ab ad ae;clear d;clear mV a' K R b1 b3 k2 b2 ba j
   go_upto_region 11 with(go_at_call 36;refine b4.o.mono ?_;rintro e b' ⟨t6,i,tr,rfl,v,O⟩;have ca:=U (z_ v O);clear v O V W X Y Z ab ad ae;unfold sd gD.L kY.L)
   have S:=AV b' t6 i;have cd:=EJ b' t6 i;simp only[gD.L,kY.L] at S cd;obtain⟨cf,S⟩:=S;generalize (b'.alloc (.cells #[.int .i64 t6.n,.slice t6.g.A t6.g.n t6.g.c,.slice t6.l.A t6.l.n t6.l.c,.slice t6.a.A t6.a.n t6.a.c,.slice t6.o.A t6.o.n t6.o.c,.int .i64 t6.b,.slice t6.h.A t6.h.n t6.h.c,.slice t6.p.A t6.p.n t6.p.c] 47)).alloc (.cells #[.int .i64 i.k,.slice i.m.A i.m.n i.m.c,.slice i.o.A i.o.n i.o.c,.int .i64 i.s] 30)=eh at cf S cd⊢;generalize b'.heap.size=g6 at S cd⊢;have G:=ca.o.1.trans (cf.mono ca.o.1.size);have u:=U (z_ (show aM eh (g6+1) 30 [.int .i64 i.k,.slice i.m.A i.m.n i.m.c,.slice i.o.A i.o.n i.o.c,.int .i64 i.s] from S) (z_ (ca.o.2.2.2.2.below cf) (z_ (z.o.1.below G) (z_ (z.o.2.1.below G) (z_ (z.o.2.2.1.below G) (z_ (z.o.2.2.2.1.below G) (z_ (z.o.2.2.2.2.1.below G) (z_ (z.o.2.2.2.2.2.1.below G) (z_ (z.o.2.2.2.2.2.2.1.below G) (z_ (z.o.2.2.2.2.2.2.2.1.below G) (z.o.2.2.2.2.2.2.2.2.trans (G.mono z.o.2.2.2.2.2.2.2.2.size))))))))))));clear S cd cf G ca b4 z bs;have fj:=I7 u.o.2.2.2.2.2.2.1 (by omega) (by decide);have et:=I7 u.o.2.1 (by omega) (by decide);have d:=(u.o.2.2.2.2.1).cell;have v0:=d 0;have v1:=d 1;have v2:=d 2;have v3:=d 3;simp only[gD.L,kY.L,y_,x_] at v0 v1 v2 v3;clear d;have d:=(u.o.1).cell;have z0:=d 0;have J:=d 1;have z2:=d 2;have z3:=d 3;simp only[gD.L,kY.L,y_,x_] at z0 J z2 z3;clear d;rcases fj with⟨bb,_,ev,cY,da⟩|⟨bb,_,eI,_⟩
   ·rw[bb] at v0;have db:=U (Fm ao M ar more f.m.A f.m.n f.m.c ev eh u.o.2.2.2.2.2.2.2.2.1 cY);obtain⟨eJ,ch⟩:∃b,oF ev more=b:=⟨_,rfl⟩
    rw[ch] at db;rcases et with⟨P,_,dd,df,cj⟩|⟨P,_,cq,_⟩
    ·rw[P] at z0;have eK:oF dd more=true:=(vK eg.o (by omega)).2 (cj.sat more (by simp));have fl:=U df;have fp:=U eK;clear cY da df cj eK ch
     go_upto_region 12 with(go_at_call 60;refine db.o.mono ?_;rintro e eQ ⟨rfl,E⟩;have d:=(u.o.1.below E).cell;have w0:=d 0;have w1:=d 1;simp only[kY.L,y_,x_] at w0 w1;have d:=(u.o.2.2.2.2.1.below E).cell;have bc:=d 0;simp only[kY.L,y_,x_] at bc;rw[bb] at bc;rw[P] at w0;have cx:=U E;have e0:=U (Fm ao M ar more i.m.A i.m.n i.m.c dd eQ (u.o.2.2.2.2.2.2.2.2.1.below E) (fl.o.below E));rw[fp.o] at e0;clear E d v0 v1 v2 v3 z0 J z2 z3)
     go_wp2_with (go_at_call 60;refine e0.o.mono ?_;rintro e fz ⟨rfl,bi⟩;have fr:=U (cx.o.trans (bi.mono cx.o.size));clear bi)
     all_goals
      go_ret;exact⟨rfl,u.o.2.2.2.2.2.2.2.2.2.2.trans (fr.o.mono u.o.2.2.2.2.2.2.2.2.2.2.size)⟩
    ·rw[P] at z0;have fs:eJ=false:=by
      cases eJ with
      |false=>rfl
      |true=>exact absurd (da.more eg.o (by omega) ch) cq
     subst fs;clear cY da cq ch
     go_upto_region 12 with(go_at_call 60;refine db.o.mono ?_;rintro e eQ ⟨rfl,E⟩;have d:=(u.o.1.below E).cell;have w0:=d 0;have w1:=d 1;simp only[kY.L,y_,x_] at w0 w1;have d:=(u.o.2.2.2.2.1.below E).cell;have bc:=d 0;simp only[kY.L,y_,x_] at bc;rw[bb] at bc;rw[P] at w0;have cx:=U E;clear E d v0 v1 v2 v3 z0 J z2 z3)
     go_wp2_with fail
     go_ret;exact⟨rfl,u.o.2.2.2.2.2.2.2.2.2.2.trans (cx.o.mono u.o.2.2.2.2.2.2.2.2.2.2.size)⟩
   ·rw[bb] at v0;rcases et with⟨P,_,dd,df,cj⟩|⟨P,_,cq,_⟩
    ·exact absurd cj.can.less eI
    ·rw[P] at z0;clear eI cq
     go_wp2_with fail
     go_ret;exact⟨rfl,u.o.2.2.2.2.2.2.2.2.2.2⟩
  ·have cX:ed=140:=by rw[<-b2];exact if_neg ba
   subst cX
   go_wp2_with fail
   go_ret;exact⟨rfl,z.o.2.2.2.2.2.2.2.2⟩
end
end Go.Proofs.YtogdlkfacflmaaaGreat
