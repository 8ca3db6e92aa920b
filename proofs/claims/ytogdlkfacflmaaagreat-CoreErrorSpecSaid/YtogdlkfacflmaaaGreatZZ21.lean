/- Parts of the walk of the solver and its core; no condition. -/
import Derived.Test.YtogdlkfacflmaaaGreatZZ20
import Derived.Test.YtogdlkfacflmaaaGreatZZ1
namespace Go.Proofs.YtogdlkfacflmaaaGreat
set_option linter.unusedVariables false
set_option linter.unusedSimpArgs false
set_option maxRecDepth 100000
set_option maxHeartbeats 8000000
open _root_.And renaming intro→z_
open _root_.List renaming getElem?_cons_zero→y_,getElem?_cons_succ→x_
open _root_.Go.Proofs.Tryz renaming prog→w_
variable{w W:World}{x aJ kind jy:Int}{ls:List (List Int)}{ah core:List Int}{aU bw:Option Addr}{bq aP bn aV aB:Nat}{m:List Bool}
section
open Go.RowKit Go.Lib
theorem EH{V:World}{o:Obj}{f:FuncId}{args:Array Value}{jv:Ending}(b:Below V.heap.size V w)(h:Calls w_ f args (w.alloc o) λ e W'=>e=jv/\Below (w.alloc o).heap.size (w.alloc o) W'):Calls w_ f args (w.alloc o) λ e W'=>e=jv/\Below V.heap.size V W':=
 h.mono λ e W' ⟨h1,c⟩=>⟨h1,b.trans (((bz w o).trans (c.mono (bz w o).size)).mono b.size)⟩
theorem AO(w:World):Calls w_ 26 #[] w λ e w'=>e=.returned (.bool true)/\Below w.heap.size w w':=by
 have aU:=bz w (mP [-1,-2]);have br:=aL.lit w [-1,-2] 2 _ rfl rfl (by omega);have bs:=bz (w.alloc (mP [-1,-2])) (.cells #[.slice (some ⟨w.heap.size,0,none⟩) 2 2] 25);have bt:=ku.sg (w:=w.alloc (mP [-1,-2])) (rs:=[⟨some ⟨w.heap.size,0,none⟩,2,2,[-1,-2]⟩]) (ls:=n4) (n:=1) (s:=w.heap.size+1) (t:=25) rfl rfl (by simp[mP]) (by omega) rfl (λ r bu=>by
  simp only[List.mem_cons,List.not_mem_nil,or_false] at bu;subst bu;exact br)
 have aV:ku ((w.alloc (.cells #[.int .i64 (-1),.int .i64 (-2)] 3)).alloc (.cells #[.slice (some ⟨w.heap.size,0,none⟩) 2 2] 25)) (some ⟨w.heap.size+1,0,none⟩) 1 1 n4:=bt;have aW:Below w.heap.size w ((w.alloc (.cells #[.int .i64 (-1),.int .i64 (-2)] 3)).alloc (.cells #[.slice (some ⟨w.heap.size,0,none⟩) 2 2] 25)):=aU.trans (bs.mono aU.size);generalize aX:(w.alloc (.cells #[.int .i64 (-1),.int .i64 (-2)] 3)).alloc (.cells #[.slice (some ⟨w.heap.size,0,none⟩) 2 2] 25)=aN at aV aW;have bw:=o6.new aN 3 (some ⟨w.heap.size+1,0,none⟩) 1 1;have bx:=bz aN (.cells #[.int .i64 3,.slice (some ⟨w.heap.size+1,0,none⟩) 1 1] 24);have aa:=U (z_ aW (z_ bx (z_ bw aV)));have bV:bJ (aN.heap.size=w.heap.size+2):=U (by rw[<-aX];simp);clear aU bs aW bx br bt aV bw;go_enter Tryz.func26,Tryz.ntmps26
 go_upto_region 2 with fail
 try rw[aX]
 have f:=U (z_ aa.o.2.2.2 (z_ aa.o.2.1 aa.o.2.2.1));have b:=f.o.2.2.bf;have g:=f.o.2.2.c1;generalize aN.alloc (.cells #[.int .i64 3,.slice (some ⟨w.heap.size+1,0,none⟩) 1 1] 24)=aY at*;have bA:=U (P8 f.o.1 aY f.o.2.1)
 go_upto_region 3 with(go_at_call 28;refine bA.o.mono ?_;rintro e ab ⟨ad,ae,af,H,I,s2,m2,rfl,aC⟩;have aO:=U aC;clear aC b g)
 have R:=aT.new ab 30 [.int .i64 2,.slice ad ae af,.slice H 2 I,.int .i64 (s2:Nat)];have t2:Below aY.heap.size aY (ab.alloc (.cells #[.int .i64 2,.slice ad ae af,.slice H 2 I,.int .i64 (s2:Nat)] 30)):=(aO.o.kD).trans ((bz ab (.cells #[.int .i64 2,.slice ad ae af,.slice H 2 I,.int .i64 (s2:Nat)] 30)).mono (aO.o.kD).size);have aZ:=bz ab (.cells #[.int .i64 2,.slice ad ae af,.slice H 2 I,.int .i64 (s2:Nat)] 30);generalize ab.alloc (.cells #[.int .i64 2,.slice ad ae af,.slice H 2 I,.int .i64 (s2:Nat)] 30)=a6 at R t2 aZ⊢;generalize ab.heap.size=bW at R⊢;have a7:=U (z_ R (z_ t2 aZ));have b:=f.o.2.2.below t2;have aE:=U (z_ ((f.o.2.1).trans (t2.mono (f.o.2.1).size)) b);have g:=b.c1;replace b:=b.bf;clear R t2 aZ;have bB:=U (P9 f.o.1 a6 aE.o.1)
 go_upto_region 4 with(go_at_call 28;refine bB.o.mono ?_;rintro e S ⟨i,J,ag,ah,ai,aj,s3,rfl,aF⟩;have O:=U aF;clear aF b g)
 have T:=aT.new S 30 [.int .i64 1,.slice (some ⟨i,J,none⟩) 4 ag,.slice ah ai aj,.int .i64 (s3:Nat)];have t3:Below a6.heap.size a6 (S.alloc (.cells #[.int .i64 1,.slice (some ⟨i,J,none⟩) 4 ag,.slice ah ai aj,.int .i64 (s3:Nat)] 30)):=(O.o.2.2.2.2.2).trans ((bz S (.cells #[.int .i64 1,.slice (some ⟨i,J,none⟩) 4 ag,.slice ah ai aj,.int .i64 (s3:Nat)] 30)).mono (O.o.2.2.2.2.2).size);have a8:=bz S (.cells #[.int .i64 1,.slice (some ⟨i,J,none⟩) 4 ag,.slice ah ai aj,.int .i64 (s3:Nat)] 30);generalize S.alloc (.cells #[.int .i64 1,.slice (some ⟨i,J,none⟩) 4 ag,.slice ah ai aj,.int .i64 (s3:Nat)] 30)=a' at T t3 a8⊢;generalize S.heap.size=bX at T⊢;have ak:=U (z_ T (z_ t3 a8));have b:=aE.o.2.below t3;have aG:=U (z_ ((aE.o.1).trans (t3.mono (aE.o.1).size)) b);have g:=b.c1;replace b:=b.bf;clear T t3 a8;have bC:=U (Qa f.o.1 a' aG.o.1)
 go_upto_region 5 with(go_at_call 29;refine bC.o.mono ?_;rintro e V ⟨k,P,al,K,L,iY,rfl,bD⟩;have Q:=U bD;clear bD b g)
 have X:=aT.new V 30 [.int .i64 1,.slice (some ⟨k,P,none⟩) 4 al,.slice K 1 L,.int .i64 (iY:Nat)];have t4:Below a'.heap.size a' (V.alloc (.cells #[.int .i64 1,.slice (some ⟨k,P,none⟩) 4 al,.slice K 1 L,.int .i64 (iY:Nat)] 30)):=(Q.o.2.2.2.2.2).trans ((bz V (.cells #[.int .i64 1,.slice (some ⟨k,P,none⟩) 4 al,.slice K 1 L,.int .i64 (iY:Nat)] 30)).mono (Q.o.2.2.2.2.2).size);have ba:=bz V (.cells #[.int .i64 1,.slice (some ⟨k,P,none⟩) 4 al,.slice K 1 L,.int .i64 (iY:Nat)] 30);generalize V.alloc (.cells #[.int .i64 1,.slice (some ⟨k,P,none⟩) 4 al,.slice K 1 L,.int .i64 (iY:Nat)] 30)=bb at X t4 ba⊢;generalize V.heap.size=bY at X⊢;have Y:=U (z_ X (z_ t4 ba));have b:=aG.o.2.below t4;have aH:=U (z_ ((aG.o.1).trans (t4.mono (aG.o.1).size)) b);have g:=b.c1;replace b:=b.bf;clear X t4 ba;have bE:=U (Qb f.o.1 bb aH.o.1)
 go_upto_region 6 with(go_at_call 29;refine bE.o.mono ?_;rintro e an ⟨ao,aq,ar,M,N,au,m5,rfl,bF⟩;have aP:=U bF;clear bF b g)
 have nJ:=aT.new an 30 [.int .i64 2,.slice ao aq ar,.slice M 2 N,.int .i64 (au:Nat)];have t5:Below bb.heap.size bb (an.alloc (.cells #[.int .i64 2,.slice ao aq ar,.slice M 2 N,.int .i64 (au:Nat)] 30)):=(aP.o.kD).trans ((bz an (.cells #[.int .i64 2,.slice ao aq ar,.slice M 2 N,.int .i64 (au:Nat)] 30)).mono (aP.o.kD).size);have bc:=bz an (.cells #[.int .i64 2,.slice ao aq ar,.slice M 2 N,.int .i64 (au:Nat)] 30);generalize an.alloc (.cells #[.int .i64 2,.slice ao aq ar,.slice M 2 N,.int .i64 (au:Nat)] 30)=bd at nJ t5 bc⊢;generalize an.heap.size=bZ at nJ⊢;have aI:=U (z_ nJ (z_ t5 bc));have b:=aH.o.2.below t5;have aJ:=U (z_ ((aH.o.1).trans (t5.mono (aH.o.1).size)) b);have g:=b.c1;replace b:=b.bf;clear nJ t5 bc;have bG:=U (Qc f.o.1 bd aJ.o.1)
 go_upto_region 7 with(go_at_call 28;refine bG.o.mono ?_;rintro e av ⟨rfl,bH⟩;have bg:=U bH;clear bH b g)
 have aQ:=aT.new av 30 [.int .i64 0,.slice none 0 0,.slice none 0 0,.int .i64 0];have t6:Below bd.heap.size bd (av.alloc (.cells #[.int .i64 0,.slice none 0 0,.slice none 0 0,.int .i64 0] 30)):=(bg.o).trans ((bz av (.cells #[.int .i64 0,.slice none 0 0,.slice none 0 0,.int .i64 0] 30)).mono (bg.o).size);have bh:=bz av (.cells #[.int .i64 0,.slice none 0 0,.slice none 0 0,.int .i64 0] 30);generalize av.alloc (.cells #[.int .i64 0,.slice none 0 0,.slice none 0 0,.int .i64 0] 30)=bj at aQ t6 bh⊢;generalize av.heap.size=b6 at aQ⊢;have bk:=U (z_ aQ (z_ t6 bh));have b:=aJ.o.2.below t6;have aK:=U (z_ ((aJ.o.1).trans (t6.mono (aJ.o.1).size)) b);have g:=b.c1;replace b:=b.bf;clear aQ t6 bh;have bI:=U (Qd f.o.1 bj aK.o.1)
 go_upto_region 8 with(go_at_call 29;refine bI.o.mono ?_;rintro e aw ⟨rfl,bK⟩;have bl:=U bK;clear bK b g)
 have mI:=aT.new aw 30 [.int .i64 0,.slice none 0 0,.slice none 0 0,.int .i64 0];have t7:Below bj.heap.size bj (aw.alloc (.cells #[.int .i64 0,.slice none 0 0,.slice none 0 0,.int .i64 0] 30)):=(bl.o).trans ((bz aw (.cells #[.int .i64 0,.slice none 0 0,.slice none 0 0,.int .i64 0] 30)).mono (bl.o).size);have bn:=bz aw (.cells #[.int .i64 0,.slice none 0 0,.slice none 0 0,.int .i64 0] 30);generalize aw.alloc (.cells #[.int .i64 0,.slice none 0 0,.slice none 0 0,.int .i64 0] 30)=d at mI t7 bn⊢;generalize aw.heap.size=b7 at mI⊢;have bL:=U (z_ mI (z_ t7 bn));have b:=aK.o.2.below t7;have bM:=U (z_ ((aK.o.1).trans (t7.mono (aK.o.1).size)) b);have g:=b.c1;replace b:=b.bf;clear mI t7 bn;have bN:=bL.o.2.1;have aR:=bk.o.2.1.trans (bN.mono bk.o.2.1.size);have aM:=aI.o.2.1.trans (aR.mono aI.o.2.1.size);have aS:=Y.o.2.1.trans (aM.mono Y.o.2.1.size);have bo:=ak.o.2.1.trans (aS.mono ak.o.2.1.size);have R:=a7.o.1.below bo;have T:=ak.o.1.below aS;have X:=Y.o.1.below aM;have nJ:=aI.o.1.below aR;have bO:=(aO.o.aD.below a7.o.2.2).below bo;have bP:=(Q.o.2.2.2.2.1.below Y.o.2.2).below aM;have bQ:=(aP.o.aD.below aI.o.2.2).below aR;have bp:=ak.o.2.2.trans (aS.mono ak.o.2.2.size);have bq:=Y.o.2.2.trans (aM.mono Y.o.2.2.size);have Z:bJ (∀W,Below d.heap.size d W->aT W bW 30 [.int .i64 2,.slice ad ae af,.slice H 2 I,.int .i64 (s2:Nat)]/\aT W bX 30 [.int .i64 1,.slice (some ⟨i,J,none⟩) 4 ag,.slice ah ai aj,.int .i64 (s3:Nat)]/\aT W bY 30 [.int .i64 1,.slice (some ⟨k,P,none⟩) 4 al,.slice K 1 L,.int .i64 (iY:Nat)]/\aT W bZ 30 [.int .i64 2,.slice ao aq ar,.slice M 2 N,.int .i64 (au:Nat)]/\
   W.cell? ⟨i,J+1,none⟩=some (.bool true)/\W.cell? ⟨i,J+2,none⟩=some (.bool false)/\W.cell? ⟨i,J+3,none⟩=some (.bool true)/\W.cell? ⟨k,P+1,none⟩=some (.bool true)/\W.cell? ⟨k,P+3,none⟩=some (.bool true)/\aL W H 2 I [1,2]/\aL W K 1 L [2]/\aL W M 2 N [2,1]):=U λ W c=>
  have f3:∀j,W.cell? ⟨i,j,none⟩=S.cell? ⟨i,j,none⟩:=λ j=>(bp.trans (c.mono bp.size)).cell (p:=⟨i,j,none⟩) O.o.1
  have f4:∀j,W.cell? ⟨k,j,none⟩=V.cell? ⟨k,j,none⟩:=λ j=>(bq.trans (c.mono bq.size)).cell (p:=⟨k,j,none⟩) Q.o.1
  ⟨R.below c,T.below c,X.below c,nJ.below c,(f3 _).trans O.o.2.1,(f3 _).trans O.o.2.2.1,(f3 _).trans O.o.2.2.2.1,(f4 _).trans Q.o.2.1,(f4 _).trans Q.o.2.2.1,bO.below c,bP.below c,bQ.below c⟩
 have c3:=O.o.2.2.2.2.1;have b8:=Q.o.2.2.2.1;have bR:=U (aa.o.1.trans (bM.o.1.mono aa.o.1.size));clear bA bB bC bE bG bI aO O Q aP bg bl a7 ak Y aI bk bL aE aG aH aJ aK bM aa bV f aX bN aR aM aS bo R T X nJ bO bP bQ bp bq b g;obtain⟨l,m,q,u,ax,ay,az,aA,aB,_⟩:=Z.o d (Below.refl _ _);have z:=l.cell;have v:=z 0;have y:=z 2;clear z;have z:=m.cell;have A:=z 0;have B:=z 1;clear z;have z:=q.cell;have C:=z 0;have D:=z 1;have E:=z 2;clear z;have z:=u.cell;have F:=z 0;have G:=z 2;clear z;simp only[y_,x_] at v y A B C D E F G;clear l m q u;have b0:bJ (∀W,Below d.heap.size d W->Calls w_ 38 #[.slice H 2 I,.slice (some ⟨W.heap.size,0,none⟩) 2 2] (W.alloc (.cells #[.int .i64 1,.int .i64 2] 3)) λ e W'=>e=.returned (.bool true)/\Below d.heap.size d W'):=U λ W c=>EH c<|AL H 2 I _ 2 2 [1,2] _ (((Z.o W c).2.2.2.2.2.2.2.2.2.1).below (bz _ _)) (aL.lit W [1,2] 2 _ rfl rfl (by omega))
 have b1:bJ (∀W,Below d.heap.size d W->Calls w_ 38 #[.slice K 1 L,.slice (some ⟨W.heap.size,0,none⟩) 1 1] (W.alloc (.cells #[.int .i64 2] 3)) λ e W'=>e=.returned (.bool true)/\Below d.heap.size d W'):=U λ W c=>EH c<|AL K 1 L _ 1 1 [2] _ (((Z.o W c).2.2.2.2.2.2.2.2.2.2.1).below (bz _ _)) (aL.lit W [2] 1 _ rfl rfl (by omega))
 have b2:bJ (∀W,Below d.heap.size d W->Calls w_ 38 #[.slice M 2 N,.slice (some ⟨W.heap.size,0,none⟩) 2 2] (W.alloc (.cells #[.int .i64 2,.int .i64 1] 3)) λ e W'=>e=.returned (.bool true)/\Below d.heap.size d W'):=U λ W c=>EH c<|AL M 2 N _ 2 2 [2,1] _ (((Z.o W c).2.2.2.2.2.2.2.2.2.2.2).below (bz _ _)) (aL.lit W [2,1] 2 _ rfl rfl (by omega))
 go_upto_region 10 with fail
 simp only[List.append_eq,List.cons_append,List.nil_append]
 go_wp2_with (go_at_call 38;first|(with_reducible refine(b0.o _ (Below.refl _ _)).mono ?_;rintro e b3 ⟨rfl,h1⟩;have bS:=U h1;clear h1 v y A B C D E F G ax ay az aA aB;obtain⟨l,m,q,u,ax,ay,az,aA,aB,_⟩:=Z.o b3 bS.o;have z:=l.cell;have v:=z 0;have y:=z 2;clear z;have z:=m.cell;have A:=z 0;have B:=z 1;clear z;have z:=q.cell;have C:=z 0;have D:=z 1;have E:=z 2;clear z;have z:=u.cell;have F:=z 0;have G:=z 2;clear z;simp only[y_,x_] at v y A B C D E F G;clear l m q u)|(with_reducible refine(b1.o _ bS.o).mono ?_;rintro e b4 ⟨rfl,aC⟩;have bT:=U aC;clear aC v y A B C D E F G ax ay az aA aB;obtain⟨l,m,q,u,ax,ay,az,aA,aB,_⟩:=Z.o b4 bT.o;have z:=l.cell;have v:=z 0;have y:=z 2;clear z;have z:=m.cell;have A:=z 0;have B:=z 1;clear z;have z:=q.cell;have C:=z 0;have D:=z 1;have E:=z 2;clear z;have z:=u.cell;have F:=z 0;have G:=z 2;clear z;simp only[y_,x_] at v y A B C D E F G;clear l m q u)|(with_reducible refine(b2.o _ bT.o).mono ?_;rintro e b5 ⟨rfl,aF⟩;have bU:=U aF;clear aF v y A B C D E F G ax ay az aA aB;obtain⟨l,m,q,u,ax,ay,az,aA,aB,_⟩:=Z.o b5 bU.o;have z:=l.cell;have v:=z 0;have y:=z 2;clear z;have z:=m.cell;have A:=z 0;have B:=z 1;clear z;have z:=q.cell;have C:=z 0;have D:=z 1;have E:=z 2;clear z;have z:=u.cell;have F:=z 0;have G:=z 2;clear z;simp only[y_,x_] at v y A B C D E F G;clear l m q u))
 go_ret;exact⟨rfl,bR.o.trans (bU.o.mono bR.o.size)⟩
theorem CA.res(h:CA w x ls ah aJ kind aU bq aP bw bn aV aB m core jy W)(he:ny x ls ah aJ=0):jy=0/\vo ls x.toNat ah aJ.toNat kind m core aB:=
 have b:jy=0:=h.he.symm.trans he
 ⟨b,h.yd b⟩
theorem CB.res{keep:List Int}(h:CB w x ls keep ah aJ kind aU bq aP bw bn aV aB m core jy W)(he:ny x ls (keep++ah) aJ=0):jy=0/\w9 ls x.toNat keep ah aJ.toNat kind m core aB:=
 have b:jy=0:=h.he.symm.trans he
 ⟨b,h.yd b⟩
theorem uD{a b:List Int}(h1:nZ a)(c:nZ b):nZ (a++b):=λ x d=>(List.mem_append.1 d).elim (h1 x) (c x)
theorem EI(he:ny x ls ah aJ=0):∃n b:Nat,x=n/\aJ=b/\lM n ls=0/\(∀y∈ah,gK n y)/\(ah.map aC).Nodup:=by
 obtain⟨c,hm,d,e⟩:=y6 he;have f:0<=x:=by
  rcases Int.lt_or_le x 0 with h1|h1
  ·rw[xo (.inl h1)] at c;cases c
  ·exact h1
 obtain⟨n,rfl⟩:∃n:Nat,x=n:=⟨x.toNat,by omega⟩
 obtain⟨b,rfl⟩:∃b:Nat,aJ=b:=⟨aJ.toNat,by omega⟩
 exact⟨n,b,rfl,rfl,c,(Cc hm).1,(Cc hm).2⟩
theorem Qe(x:Int)(A:Option Addr)(nl cl:Nat)(ls:List (List Int))(j:Option Addr)(nq k:Nat)(l:List Int)(H:Int)(w:World)(h:ku w A nl cl ls)(K:aL w j nq k l)(Q:nZ l):
  Calls w_ 4 #[.agg #[.int .i64 x,.slice A nl cl],.slice j nq k,.int .i64 H] w λ e w'=>e=.returned (.bool true)/\Below w.heap.size w w':=by
 have B:Below w.heap.size w (w.alloc (.cells #[.int .i64 x,.slice A nl cl] 24)):=(Below.refl _ _).alloc (Nat.le_refl _) _;have C:=o6.new w x A nl cl;generalize R:w.alloc (.cells #[.int .i64 x,.slice A nl cl] 24)=W at B C;have I:=C.bf;have J:=C.c1;have d:=U (z_ B C);have L:=U (h.below B);have M:=U (z_ (K.below B) (z_ K.len Q));have nF:=U (AO W);have S:bJ (∀W',Below W.heap.size W W'->Calls w_ 27 #[.agg #[.int .i64 x,.slice A nl cl],.slice none 0 0,.slice j nq k] W' (yc W' x nl 0 nq)):=U λ W' aj=>AM x A nl cl ls none 0 0 j nq k W' (L.o.below aj)
 clear h B C K Q;go_enter Tryz.func4,Tryz.ntmps4
 go_upto_region 1 with fail
 try rw[R]
 clear R
 go_upto_region 3 with(go_at_call 26;refine nF.o.mono ?_;rintro e w1 ⟨rfl,N⟩;have H1:=U N;have c:=d.o.2.below N;have I:=c.bf;have J:=c.c1;clear c N)
 have T:=U (S.o w1 H1.o)
 go_upto_region 5 with(go_at_call 27;refine T.o.mono ?_;rintro e ak hF;obtain⟨r,rfl,V,X⟩:=hF;have g:=U (H1.o.trans (V.mono H1.o.size));have c:=d.o.2.below g.o;have I:=c.bf;have J:=c.c1;have Y:=U X;clear c V X;cases r)
 ·go_ret;exact⟨rfl,d.o.1.trans (g.o.mono d.o.1.size)⟩
 have Z:=Y.o (by trivial);have D:bJ (x<=10/\nl<=60/\0<=20/\nq<=20):=U Z;clear Y Z nF S T;have aa:=U (zk x D.o.1 A nl cl ls j nq k l H ak (L.o.below g.o) (M.o.1.below g.o) M.o.2.2 (by have:=D.o;omega) (by have:=D.o;omega))
 by_cases he:ny x ls l H=0
 ·obtain⟨n,b,rfl,rfl,ab,ad,al⟩:=EI he;have E:=U (z_ he (z_ ab ad));clear he ab ad al
  go_upto_region 6 with(go_at_call 28;refine aa.o.mono ?_;rintro e F ⟨kind,p,q,s,t,u,v,y,m,core,ae,rfl,f⟩;obtain⟨rfl,af⟩:=f.res E.o.1;have i:=U (z_ (g.o.trans (f.kD.mono g.o.size)) (z_ f.hm (z_ f.aD af)));clear f af I J)
  have G:=bz F (.cells #[.int .i64 kind,.slice p q s,.slice t u v,.int .i64 (y:Nat)] 30);have O:=aT.new F 30 [.int .i64 kind,.slice p q s,.slice t u v,.int .i64 (y:Nat)];have t3:=i.o.1.trans (G.mono i.o.1.size);generalize F.alloc (.cells #[.int .i64 kind,.slice p q s,.slice t u v,.int .i64 (y:Nat)] 30)=an at G O t3⊢;have ao:=U (P3 n (by have:=D.o;omega) A nl cl ls j nq k l b kind p q s m t u v core y an (L.o.below t3) (M.o.1.below t3) (i.o.2.1.below G) (i.o.2.2.1.below G) E.o.2.1 E.o.2.2 (by have:=D.o;omega) i.o.2.2.2);have ag:=U t3;have c:=d.o.2.below t3;have I:=c.bf;have J:=c.c1;have z:=O.cell;have z0:=z 0;have aq:=z 1;have z2:=z 2;have z3:=z 3;simp only[y_,x_] at z0 aq z2 z3;clear G O t3 c z
  go_wp2_with (go_at_call 32;refine ao.o.mono ?_;rintro e au ⟨rfl,ah⟩;have ar:=U (ag.o.trans (ah.mono ag.o.size));clear ah)
  go_ret;exact⟨rfl,d.o.1.trans (ar.o.mono d.o.1.size)⟩
 ·obtain⟨ai,P⟩:∃e,ny x ls l H=e:=⟨_,rfl⟩
  rw[P] at he;have av:(ai==0)=false:=by simpa using he
  have E:=U P;clear P
  go_wp2_with (go_at_call 28;refine aa.o.mono ?_;rintro e F ⟨kind,p,q,s,t,u,v,y,m,core,ae,rfl,f⟩;obtain rfl:ai=ae:=E.o.symm.trans f.he;have i:=U (g.o.trans (f.kD.mono g.o.size));clear f)
  go_ret;have t3:=i.o.trans ((bz F (.cells #[.int .i64 kind,.slice p q s,.slice t u v,.int .i64 (y:Nat)] 30)).mono i.o.size);exact⟨rfl,d.o.1.trans (t3.mono d.o.1.size)⟩
end
end Go.Proofs.YtogdlkfacflmaaaGreat
