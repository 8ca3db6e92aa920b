/- CoreAgreesWithSolver walked. No condition. -/
import Derived.Test.YtogdlkfacflmaaaGreatZW20
import Derived.Test.YtogdlkfacflmaaaGreatZW1
namespace Go.Proofs.YtogdlkfacflmaaaGreat
set_option linter.unusedVariables false
set_option linter.unusedSimpArgs false
set_option maxRecDepth 100000
set_option maxHeartbeats 16000000
open _root_.And renaming intro→z_
open _root_.List renaming getElem?_cons_zero→y_,getElem?_cons_succ→x_
section
open Go.RowKit Go.Lib
theorem PL(x:Int)(A:Option Addr)(nl cl:Nat)(ls:List (List Int))(aH:Option Addr)(nq aI:Nat)(ao:List Int)(w:World)(h:kD w A nl cl ls)(bt:aS w aH nq aI ao)(b4:tn ao):
  Calls Tryz.prog 7 #[.agg #[.int .i64 x,.slice A nl cl],.slice aH nq aI] w λ e w'=>e=.returned (.bool true)/\Below w.heap.size w w':=by
 have aK:Below w.heap.size w (w.alloc (.cells #[.int .i64 x,.slice A nl cl] 24)):=(Below.refl _ _).alloc (Nat.le_refl _) _;have aL:=tu.new w x A nl cl;generalize b5:w.alloc (.cells #[.int .i64 x,.slice A nl cl] 24)=W at aK aL;have aO:=aL.bH;have aP:=aL.c1;have J:=aa (z_ aK aL);have aZ:=aa (h.below aK);have a6:=aa (z_ (bt.below aK) (z_ bt.len b4));have qR:=aa (PF W);have b6:fE (∀W',Below W.heap.size W W'->Calls Tryz.prog 27 #[.agg #[.int .i64 x,.slice A nl cl],.slice none 0 0,.slice aH nq aI] W' (Er W' x nl 0 nq)):=aa λ W' aq=>Pt x A nl cl ls none 0 0 aH nq aI W' (aZ.o.below aq)
 clear h aK aL bt b4;go_enter Tryz.func7,Tryz.ntmps7
 go_upto_region 1 with fail
 try rw[b5]
 clear b5
 go_upto_region 3 with(go_at_call 26;refine qR.o.mono ?_;rintro e w1 ⟨rfl,bu⟩;have H1:=aa bu;have K:=J.o.2.below bu;have aO:=K.bH;have aP:=K.c1;clear K bu)
 have b7:=aa (b6.o w1 H1.o)
 go_upto_region 5 with(go_at_call 27;refine b7.o.mono ?_;rintro e cX hF;obtain⟨r,rfl,b8,aQ⟩:=hF;have av:=aa (H1.o.trans (b8.mono H1.o.size));have K:=J.o.2.below av.o;have aO:=K.bH;have aP:=K.c1;have b9:=aa aQ;clear K b8 aQ;cases r)
 ·go_ret;exact⟨rfl,J.o.1.trans (av.o.mono J.o.1.size)⟩
 have b':=b9.o (by trivial);have S:fE (x<=10/\nl<=60/\0<=20/\nq<=20):=aa b';clear b9 b' qR b6 b7;have ca:=aa (Ij x S.o.1 A nl cl ls aH nq aI ao 1073741824 cX (aZ.o.below av.o) (a6.o.1.below av.o) a6.o.2.2 (by have:=S.o;omega) (by have:=S.o;omega))
 go_upto_region 6 with(go_at_call 28;refine ca.o.mono ?_;rintro e ai ⟨a7,bw,bx,bz,aw,C,ay,bA,m3,R,cY,rfl,H⟩;have bC:=H.kQ;have aR:=aa H;have cc:=aa (av.o.trans (bC.mono av.o.size));clear bC H aO aP)
 have a8:=bB ai (.cells #[.int .i64 a7,.slice bw bx bz,.slice aw C ay,.int .i64 (bA:Nat)] 30);have a':=aN.new ai 30 [.int .i64 a7,.slice bw bx bz,.slice aw C ay,.int .i64 (bA:Nat)];have t3:=(cc.o).trans (a8.mono (cc.o).size);generalize ai.alloc (.cells #[.int .i64 a7,.slice bw bx bz,.slice aw C ay,.int .i64 (bA:Nat)] 30)=cZ at a8 a' t3⊢;generalize ai.heap.size=g3 at a'⊢;have M:=aa (z_ t3 (z_ a' a8));clear a8 a' t3;have K:=J.o.2.below M.o.1;have aO:=K.bH;have aP:=K.c1;clear K;have cd:=aa (O8 x S.o.1 A nl cl ls cZ (aZ.o.below M.o.1) S.o.2.1)
 go_upto_region 7 with(go_at_call 35;refine cd.o.mono ?_;rintro e ba ⟨t4,dw,rfl,cf,cg⟩;have aj:=aa cf;have ch:=aa cg;clear cf cg aO aP;unfold kR.L)
 have bb:=bB ba (.cells #[.int .i64 t4.n,.slice t4.g.A t4.g.n t4.g.c,.slice t4.l.A t4.l.n t4.l.c,.slice t4.a.A t4.a.n t4.a.c,.slice t4.o.A t4.o.n t4.o.c,.int .i64 t4.b,.slice t4.h.A t4.h.n t4.h.c,.slice t4.p.A t4.p.n t4.p.c] 47);have aT:=aN.new ba 47 t4.L;simp only[kR.L] at aT;have bD:=(M.o.1.trans (aj.o.mono M.o.1.size)).trans (bb.mono (M.o.1.trans (aj.o.mono M.o.1.size)).size);generalize ba.alloc (.cells #[.int .i64 t4.n,.slice t4.g.A t4.g.n t4.g.c,.slice t4.l.A t4.l.n t4.l.c,.slice t4.a.A t4.a.n t4.a.c,.slice t4.o.A t4.o.n t4.o.c,.int .i64 t4.b,.slice t4.h.A t4.h.n t4.h.c,.slice t4.p.A t4.p.n t4.p.c] 47)=cj at bb aT bD⊢;generalize ba.heap.size=g4 at aT⊢;have F:=aa (z_ bD (z_ (show aN cj g4 47 t4.L from aT) bb));clear bb aT bD
 by_cases he:qG x ls ao 1073741824=0
 ·obtain⟨n,b,rfl,aq,bE,az,ck⟩:=PG he;have c0:=S.o.1;obtain⟨rfl,cm⟩:=aR.o.res he;have cn:=aa (PI cm);obtain⟨rfl,s,bF,c3,bI,bJ,bK,bL,aM,aF,bM,bN,rfl,G,bO⟩:=ch.o bE;simp only[Int.toNat_natCast] at G;have ar:=aa (z_ he (z_ bE (z_ az (z_ ck (show n<=10 by omega)))));have aA:=aa (z_ (G.below F.o.2.2) bO);have cp:fE (aN cj g4 47 (nP n s bF c3 bI bJ bK bL aM aF bM bN).L):=aa F.o.2.1;have cq:s.gs.length<=40000:=by rw[bO,aZ.o.len];have:=S.o.2.1;omega
  have bP:=aa cq;clear he bE az ck aq G bO cm ch cq c0;simp only[Int.toNat_natCast];have cr:=aa (M.o.2.1.below (aj.o.trans (F.o.2.2.mono aj.o.size)));have D:=cr.o.cell;have ak:=D 0;have al:=D 1;have T:=D 2;have H:=D 3;simp only[kR.L,nP,y_,x_] at ak al T H;clear D;have q:=cp.o.cell;have U:=q 0;have V:=q 1;have X:=q 2;have Y:=q 3;have Z:=q 4;have ab:=q 5;have ad:=q 6;have I:=q 7;simp only[kR.L,nP,y_,x_] at U V X Y Z ab ad I;clear q;have bQ:=aa (Ev ar.o.2.2.2.2 aA.o.1 (a6.o.1.below F.o.1) ar.o.2.2.1 ar.o.2.2.2.1 (by have:=S.o;omega) bP.o);simp only[kR.L,nP] at bQ
  go_upto_region 10 with(go_at_call 36;refine bQ.o.mono ?_;rintro e bc ⟨t5,N,rfl,aB,ct⟩;have bd:=aa aB;have c4:=aa ct;clear aB ct ak al T H U V X Y Z ab ad I;unfold uG kR.L pF.L)
  have cu:=Im bc t5 N;simp only[kR.L,pF.L] at cu;obtain⟨bf,mO⟩:=cu;have bR:=(F.o.1.trans (bd.o.mono F.o.1.size)).trans (bf.mono (F.o.1.trans (bd.o.mono F.o.1.size)).size);have bg:aN _ (bc.heap.size+1) 30 N.L:=mO;generalize (bc.alloc (.cells #[.int .i64 t5.n,.slice t5.g.A t5.g.n t5.g.c,.slice t5.l.A t5.l.n t5.l.c,.slice t5.a.A t5.a.n t5.a.c,.slice t5.o.A t5.o.n t5.o.c,.int .i64 t5.b,.slice t5.h.A t5.h.n t5.h.c,.slice t5.p.A t5.p.n t5.p.c] 47)).alloc (.cells #[.int .i64 N.k,.slice N.m.A N.m.n N.m.c,.slice N.o.A N.o.n N.o.c,.int .i64 N.s] 30)=c5 at bf mO bg bR⊢;generalize bc.heap.size=g5 at mO bg⊢;have E:=aa (z_ bR (z_ bg (bd.o.trans (bf.mono bd.o.size))));clear bf mO bg bR;have cv:=aa (cr.o.below E.o.2.2);have cw:=aa (cp.o.below E.o.2.2);obtain⟨bS,m5,cx,dx⟩:=N;have c6:bS=a7:=by
   have h1:(bS=1/\Can s.gs ao)\/(bS=2/\¬Can s.gs ao):=c4.o;rw[aA.o.2] at h1;rcases cn.o with⟨e,_,aJ⟩|⟨e,hs,hu,_⟩
   ·rcases h1 with⟨bT,_⟩|⟨_,aC⟩
    ·rw[bT,e]
    ·exact absurd aJ aC
   ·rcases h1 with⟨_,aC⟩|⟨bT,_⟩
    ·exact absurd (aC.mono λ x aU=>hs.subset aU) hu
    ·rw[bT,e]
  subst c6;have D:=cv.o.cell;have ak:=D 0;have al:=D 1;have T:=D 2;have H:=D 3;simp only[kR.L,nP,y_,x_] at ak al T H;clear D;have O:=E.o.2.1.cell;have v0:=O 0;have v1:=O 1;have v2:=O 2;have v3:=O 3;simp only[pF.L,y_,x_] at v0 v1 v2 v3;clear O;rcases cn.o with⟨rfl,dy,dz⟩|⟨rfl,hs,hu,hm⟩
  ·go_wp2_with fail
   go_ret;exact⟨rfl,J.o.1.trans (E.o.1.mono J.o.1.size)⟩
  ·have aV:=aa (z_ hs (z_ hu hm));clear hs hu hm;have cy:Below ai.heap.size ai c5:=M.o.2.2.trans ((aj.o.trans ((F.o.2.2.trans (E.o.2.2.mono F.o.2.2.size)).mono aj.o.size)).mono M.o.2.2.size);have bh:=aa (z_ (aR.o.aJ.below cy) aR.o.aJ.len);have cz:C<=20:=by have h1:=bh.o.2;have aC:=aV.o.1.length_le;have bC:=a6.o.2.1;have:=S.o;omega
   have bU:=aa (z_ cz (bh.o.1.cap));have bj:=aa (z_ (λ x (aU:x∈R)=>ar.o.2.2.1 x (aV.o.1.subset aU)) (ar.o.2.2.2.1.sublist (aV.o.1.map aG)));have bV:=aa (Ev ar.o.2.2.2.2 (aA.o.1.below E.o.2.2) bh.o.1 bj.o.1 bj.o.2 (by omega) bP.o);simp only[kR.L,nP] at bV;have q:=cw.o.cell;have U:=q 0;have V:=q 1;have X:=q 2;have Y:=q 3;have Z:=q 4;have ab:=q 5;have ad:=q 6;have I:=q 7;simp only[kR.L,nP,y_,x_] at U V X Y Z ab ad I;clear q;clear cz cy
   go_upto_region 15 with(go_at_call 36;refine bV.o.mono ?_;rintro e bk ⟨t6,P,rfl,aW,cA⟩;have bl:=aa aW;have c7:=aa cA;clear aW cA ak al T H U V X Y Z ab ad I v0 v1 v2 v3;unfold uG kR.L pF.L)
   have cB:=Im bk t6 P;simp only[kR.L,pF.L] at cB;obtain⟨bn,bo⟩:=cB;have bW:=(E.o.1.trans (bl.o.mono E.o.1.size)).trans (bn.mono (E.o.1.trans (bl.o.mono E.o.1.size)).size);have bp:aN _ (bk.heap.size+1) 30 P.L:=bo;generalize (bk.alloc (.cells #[.int .i64 t6.n,.slice t6.g.A t6.g.n t6.g.c,.slice t6.l.A t6.l.n t6.l.c,.slice t6.a.A t6.a.n t6.a.c,.slice t6.o.A t6.o.n t6.o.c,.int .i64 t6.b,.slice t6.h.A t6.h.n t6.h.c,.slice t6.p.A t6.p.n t6.p.c] 47)).alloc (.cells #[.int .i64 P.k,.slice P.m.A P.m.n P.m.c,.slice P.o.A P.o.n P.o.c,.int .i64 P.s] 30)=cC at bn bo bp bW⊢;generalize bk.heap.size=g6 at bo bp⊢;have ae:=aa (z_ bW (z_ bp (bl.o.trans (bn.mono bl.o.size))));clear bn bo bp bW;obtain⟨bX,m6,dA,dB⟩:=P;obtain rfl:bX=2:=by
    have h1:(bX=1/\Can s.gs R)\/(bX=2/\¬Can s.gs R):=c7.o;rw[aA.o.2] at h1;exact h1.elim (λ h=>absurd h.2 aV.o.2.1) (·.1)
   have cD:=aa (cv.o.below ae.o.2.2);have cE:=aa (cw.o.below ae.o.2.2);have O:=ae.o.2.1.cell;have v0:=O 0;have v1:=O 1;have v2:=O 2;have v3:=O 3;simp only[pF.L,y_,x_] at v0 v1 v2 v3;clear O
   go_wp2_with fail
   clear v0 v1 v2 v3
   go_loopw [15] (λ i W=>∃k:Nat,i=.int .i64 k/\k<=C/\Below cC.heap.size cC W) (λ i _=>C-(intOf i).toNat)
   case atStart=>exact⟨0,rfl,Nat.zero_le _,Below.refl _ _⟩
   case round=>
    obtain⟨k,rfl,hk,cG⟩:=hrel;have af:=aa cG;have D:=(cD.o.below af.o).cell;have ak:=D 0;have al:=D 1;have T:=D 2;have H:=D 3;simp only[kR.L,nP,y_,x_] at ak al T H;clear D;have q:=(cE.o.below af.o).cell;have U:=q 0;have V:=q 1;have X:=q 2;have Y:=q 3;have Z:=q 4;have ab:=q 5;have ad:=q 6;have I:=q 7;simp only[kR.L,nP,y_,x_] at U V X Y Z ab ad I;clear q;clear cG
    by_cases az:k<C
    ·have c8:(k:Int)<(C:Int):=by omega
     have aX:=aa az;clear az hk
     go_upto_region 20 with fail
     have c9:=(cD.o.below af.o).lt;have an:=(cE.o.below af.o).lt;have cH:Below ai.heap.size ai wr:=M.o.2.2.trans ((aj.o.trans ((F.o.2.2.trans ((E.o.2.2.trans ((ae.o.2.2.trans (af.o.mono ae.o.2.2.size)).mono E.o.2.2.size)).mono F.o.2.2.size)).mono aj.o.size)).mono M.o.2.2.size);have cI:=aa (z_ (aR.o.aJ.below cH) (aA.o.1.below (E.o.2.2.trans ((ae.o.2.2.trans (af.o.mono ae.o.2.2.size)).mono E.o.2.2.size))));have cJ:=aa (z_ (λ x (aU:x∈R.eraseIdx k)=>bj.o.1 x (List.eraseIdx_subset aU)) (bj.o.2.sublist ((List.eraseIdx_sublist R k).map aG)));obtain⟨cs,aY⟩:∃cs:List Value,cs=[.agg (nP n s bF c3 bI bJ bK bL aM aF bM bN).L.toArray,.pointer (some ⟨g3,2,none⟩),.slice aw C ay,.int .i64 k]:=⟨_,rfl⟩
     clear cH ca bQ bV cd;refine Eg (rj Tryz.f7 20) 14 105 [some 89,some 90,some 91,some 92,some 93,some 94,some 88,some 95,some 96,some 97,some 16,some 17,none,none,some 18] _ [(7,.pointer (some ⟨g4,0,none⟩)),(5,.pointer (some ⟨g3,0,none⟩)),(15,.int .i64 k)] (λ w'=>Below wr.heap.size wr w') (oC cs sj (p6 wr.heap.size (C-1) (R.eraseIdx k))) (by kernel_rfl) (by kernel_rfl) (by kernel_rfl) rfl (by kernel_rfl) (by kernel_rfl) (by kernel_rfl) (by kernel_rfl) (by kernel_rfl) (by kernel_rfl) rfl ⟨rfl,rfl,rfl,trivial⟩ (p6.xu (by kernel_rfl)) (Below.refl _ _).drew (zl.ok (by kernel_rfl) ?_) _ rfl ?_
     ·refine⟨?_,?_,?_,?_,⟨λ _=>?_,λ h=>(by cases h)⟩,⟨λ _=>?_,λ h=>(by cases h)⟩,⟨λ _=>?_,λ h=>(by cases h)⟩,⟨λ _=>?_,λ h=>(by cases h)⟩,⟨λ _=>?_,λ h=>(by cases h)⟩,⟨λ _=>?_,λ h=>(by cases h)⟩,⟨λ _=>?_,λ h=>(by cases h)⟩,⟨λ _=>?_,λ h=>(by cases h)⟩,⟨λ _=>?_,λ h=>(by cases h)⟩,⟨λ _=>?_,λ h=>(by cases h)⟩,trivial⟩
      rotate_left 4
      ·intro vals z w' B y d Q hp ag;have bY:B (.tmp 91)=vals 2:=(d.1 rfl).2 _ rfl;have f2:vals 2=.slice aw C ay:=by have:=(d.1 rfl).1 (.inl rfl);rw[aY] at this;exact this
       have da:B (.tmp 92)=vals 3:=(d.2.1 rfl).2 _ rfl;have f3:vals 3=.int .i64 k:=by have:=(d.2.1 rfl).1 (.inl rfl);rw[aY] at this;exact this
       refine r4 37 #[.tmp 91,.tmp 92] #[25,3] rfl PJ hp ?_;simp only[List.map_toArray,List.map_cons,List.map_nil,bY,da,f2,f3];refine(Pr aw C ay R w' (cI.o.1.below y) k aX.o (by have:=bU.o.1;omega)).mono ?_;rintro e cK ⟨au,aD,rfl,bZ,db,aW⟩;exact⟨_,rfl,.more p6.more aW (y.trans (aW.mono y.size)) (show oC cs sj (p6 wr.heap.size (C-1) (R.eraseIdx k)) 4 (w'.heap.size,cK.heap.size) _ cK from⟨au,aD,rfl,bZ,λ b aq=>db.lt b (by show(ax.v ⟨au,C-1,aD⟩).ownBlock=_;rw[ax.own];exact aq)⟩)⟩
      ·intro vals z w' B y d Q hp ag;have dc:B (.tmp 89)=vals 0:=(d.1 rfl).2 _ rfl;have f0:vals 0=.agg (nP n s bF c3 bI bJ bK bL aM aF bM bN).L.toArray:=by have:=(d.1 rfl).1 (.inl rfl);rw[aY] at this;exact this
       have dd:B (.tmp 93)=vals 4:=(d.2.1 rfl).2 _ rfl;obtain⟨au,aD,f9,bZ,-⟩:∃au aD,vals 4=.slice au (C-1) aD/\aS w' au (C-1) aD (R.eraseIdx k)/\∀b,au.map (·.block)=some b->(z 4).1<=b/\b<(z 4).2:=(d.2.1 rfl).1 (.inl rfl);refine r4 36 #[.tmp 89,.tmp 93,.const (.int .i64 1073741824)] #[47,25,3] rfl HT hp ?_;simp only[List.map_toArray,List.map_cons,List.map_nil,dc,dd,f0,f9,hp.1];refine(Ev ar.o.2.2.2.2 (cI.o.2.below y) bZ cJ.o.1 cJ.o.2 (by have:=bU.o.1;omega) bP.o).mono ?_;rintro e cL ⟨t7,I,rfl,cM,cN⟩;have hk:I.k=1:=by
        rw[aA.o.2] at cN;exact cN.elim (·.1) (λ h=>absurd (aV.o.2.2 k (by have:=bh.o.2;have:=aX.o;omega)) h.2)
       exact⟨_,rfl,.more p6.more cM (y.trans (cM.mono y.size)) (show oC cs sj (p6 wr.heap.size (C-1) (R.eraseIdx k)) 5 (w'.heap.size,cL.heap.size) _ cL from⟨t7,I,hk,rfl⟩)⟩
      ·intro vals z w' B y d Q hp ag;have e:B (.tmp 94)=vals 5:=(d.1 rfl).2 _ rfl;obtain⟨t,u,hu,f⟩:∃(t:kR)(u:pF),u.k=1/\vals 5=uG t u:=(d.1 rfl).1 (.inl rfl);rw[f] at e;simp only[bq,execOp,e];simp[cF,go_sem];exact .same y ⟨t,u,hu,rfl⟩
      ·intro vals z w' B y d Q hp ag;have e:B (.tmp 88)=vals 6:=(d.1 rfl).2 _ rfl;obtain⟨t,u,hu,f⟩:∃(t:kR)(u:pF),u.k=1/\vals 6=uG t u:=(d.1 rfl).1 (.inl rfl);rw[f] at e;simp only[bq,execOp,e,uG];simp[cF,go_sem];exact .same y ⟨t,rfl⟩
      ·intro vals z w' B y d Q hp ag;have e:B (.tmp 88)=vals 6:=(d.1 rfl).2 _ rfl;obtain⟨t,u,hu,f⟩:∃(t:kR)(u:pF),u.k=1/\vals 6=uG t u:=(d.1 rfl).1 (.inl rfl);rw[f] at e;simp only[bq,execOp,e,uG];simp[cF,go_sem];exact .same y ⟨u,hu,rfl⟩
      ·intro vals z w' B y d Q hp ag;have e:B (.tmp 88)=vals 6:=(d.1 rfl).2 _ rfl;obtain⟨t,u,hu,f⟩:∃(t:kR)(u:pF),u.k=1/\vals 6=uG t u:=(d.1 rfl).1 (.inl rfl);rw[f] at e;simp only[bq,execOp,e,uG];simp[cF,go_sem];exact .same y rfl
      ·intro vals z w' B y d Q hp ag;simp only[bq,execOp];simp[cF,go_sem];exact .more p6.more (bB w' _) (y.trans ((bB w' _).mono y.size)) ⟨rfl,y.size,by simp,_,_,_,_,_,_,_,_,aN.new w' 47 o6⟩
      ·intro vals z w' B y d Q hp ag;simp only[bq,execOp];simp[cF,go_sem];exact .more p6.more (bB w' _) (y.trans ((bB w' _).mono y.size)) ⟨rfl,y.size,by simp,_,_,_,_,aN.new w' 30 [.int .i64 0,.slice none 0 0,.slice none 0 0,.int .i64 0]⟩
      ·intro vals z w' B y d Q hp ag;have cO:B (.tmp 16)=vals 10:=(d.1 rfl).2 _ rfl;obtain⟨f10,b0,de,df,dh,di,dj,dC,dD,dE,dF,aE⟩:vals 10=.pointer (some ⟨(z 10).1,0,none⟩)/\wr.heap.size<=(z 10).1/\(z 10).1<(z 10).2/\∃a0 a1 a2 a3 a4 a5 dk dm,aN w' (z 10).1 47 [a0,a1,a2,a3,a4,a5,dk,dm]:=(d.1 rfl).1 (.inl rfl);have cP:B (.tmp 95)=vals 7:=(d.2.1 rfl).2 _ rfl;obtain⟨t,f7⟩:∃t:kR,vals 7=.agg t.L.toArray:=(d.2.1 rfl).1 (.inl rfl);rw[f10] at cO;rw[f7] at cP;refine HV rfl rfl cO cP aE λ W f1 br=>?_
       refine⟨y.trans ⟨f1.os,f1.tape,f1.output,f1.size,λ b aq=>f1.keep b (by omega)⟩,f1.size,trivial,λ j cQ aQ hs b1 h=>?_⟩;unfold oC at*;split at h
       ·rename_i ah;rw[if_pos ah]
        by_cases cR:j=10
        ·subst cR;exact⟨h.1,h.2.1,h.2.2.1,_,_,_,_,_,_,_,_,br⟩
        ·have dn:=b1 10 rfl (Ne.symm cR);refine h.keep ah f1.size (λ b h1 aC=>f1.keep b ?_) (λ e=>?_)
         ·rcases dn with aB|aB<;>omega
         ·subst e;exact absurd aQ (by decide)
       ·rename_i ah;rw[if_neg ah];exact h
      ·intro vals z w' B y d Q hp ag;have cS:B (.tmp 17)=vals 11:=(d.1 rfl).2 _ rfl;obtain⟨f11,b0,de,df,dh,di,dj,aE⟩:vals 11=.pointer (some ⟨(z 11).1,0,none⟩)/\wr.heap.size<=(z 11).1/\(z 11).1<(z 11).2/\∃a0 a1 a2 a3,aN w' (z 11).1 30 [a0,a1,a2,a3]:=(d.1 rfl).1 (.inl rfl);have cT:B (.tmp 96)=vals 8:=(d.2.1 rfl).2 _ rfl;obtain⟨u,hu,f8⟩:∃u:pF,u.k=1/\vals 8=.agg u.L.toArray:=(d.2.1 rfl).1 (.inl rfl);rw[f11] at cS;rw[f8] at cT;refine PK rfl rfl cS cT aE λ W f1 br=>?_
       refine⟨y.trans ⟨f1.os,f1.tape,f1.output,f1.size,λ b aq=>f1.keep b (by omega)⟩,f1.size,⟨_,u,hu,f11,b0,br⟩,λ j cQ aQ hs b1 h=>?_⟩;unfold oC at*;split at h
       ·rename_i ah;rw[if_pos ah]
        by_cases cU:j=11
        ·subst cU;exact⟨h.1,h.2.1,h.2.2.1,_,_,_,_,br⟩
        ·have dp:=b1 11 rfl (Ne.symm cU);refine h.keep ah f1.size (λ b h1 aC=>f1.keep b ?_) (λ e=>absurd e cQ);rcases dp with aB|aB<;>omega
       ·rename_i ah;rw[if_neg ah];exact h
      all_goals
       refine⟨λ h=>(by cases h),λ _ B w' G d Q hp=>?_⟩;obtain⟨dq,cx,dr,-⟩:=Q;have d0:=(G.cell (p:=⟨g4,0,none⟩) an).trans U;have d1:=(G.cell (p:=⟨g4,1,none⟩) an).trans V;have d2:=(G.cell (p:=⟨g4,2,none⟩) an).trans X;have d3:=(G.cell (p:=⟨g4,3,none⟩) an).trans Y;have d4:=(G.cell (p:=⟨g4,4,none⟩) an).trans Z;have d5:=(G.cell (p:=⟨g4,5,none⟩) an).trans ab;have d6:=(G.cell (p:=⟨g4,6,none⟩) an).trans ad;have d7:=(G.cell (p:=⟨g4,7,none⟩) an).trans I;have bY:=(G.cell (p:=⟨g3,2,none⟩) c9).trans T;rw[aY] at d⊢
       try simp[uT,qB,Region.binds,sj] at d
       simp[bq,execOp,cF,go_sem,dq,cx,dr,d,d0,d1,d2,d3,d4,d5,d6,d7,bY,hp.1,nP,kR.L]
     intro vals z bG cV b2 dt dG cW;obtain⟨dH,dI,du,f11,b0,aE⟩:∃(b:Nat)(u:pF),u.k=1/\vals 11=.pointer (some ⟨b,0,none⟩)/\wr.heap.size<=b/\aN bG b 30 u.L:=b2 13 (by omega);have f9:vals 9=.int .i64 0:=b2 9 (by omega);have z0:=aE.cell 0;simp only[pF.L,y_,du] at z0;have dv:=aa (show Below wr.heap.size wr bG from cV);clear b2 cV dt aE ak al T H U V X Y Z ab ad I aY;simp[nZ,Act.put,f9,f11] at cW;subst cW;show bq _ _ (Oper.mk _ _ _ _ _ _) _ _;simp[bq,execOp,cF,go_sem,Act.eval,Act.put,f9];have dJ:IntKind.i64.wrap ((k:Int)+1)=(k:Int)+1:=by rw[IntKind.wrap_i64];have:=aX.o;have:=bU.o.1;omega
     go_wp2_with fail
     go_roundw
     case rel=>exact⟨k+1,by go_num,by have:=aX.o;omega,af.o.trans (dv.o.mono af.o.size)⟩
     case measure=>have:=aX.o;simp[intOf];omega
    ·have c8:¬(k:Int)<(C:Int):=by omega
     clear az hk
     go_wp2_with fail
     go_ret;exact⟨rfl,J.o.1.trans ((ae.o.1.trans (af.o.mono ae.o.1.size)).mono J.o.1.size)⟩
 ·obtain⟨bs,b3⟩:∃e,qG x ls ao 1073741824=e:=⟨_,rfl⟩
  rw[b3] at he;obtain rfl:bs=cY:=b3.symm.trans aR.o.he;have dK:(bs==0)=false:=by simpa using he
  have dL:(bs !=0)=true:=by simpa using he
  have dM:decide (bs=0)=false:=decide_eq_false he;clear b3
  go_wp2_with fail
  go_ret;exact⟨rfl,J.o.1.trans (F.o.1.mono J.o.1.size)⟩
end
end Go.Proofs.YtogdlkfacflmaaaGreat
