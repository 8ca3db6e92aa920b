/- Parts of the walk of the solver and its core; no condition. -/
import Derived.Test.YtogdlkfacflmaaaGreatZY20
import Derived.Test.YtogdlkfacflmaaaGreatZY1
namespace Go.Proofs.YtogdlkfacflmaaaGreat
set_option linter.unusedVariables false
set_option linter.unusedSimpArgs false
set_option maxRecDepth 100000
set_option maxHeartbeats 40000000
open _root_.List renaming getElem?_cons_zero→z_,getElem?_cons_succ→y_,mem_append→u_
open _root_.And renaming intro→x_
open _root_.Go renaming wpQuiet_nil→w_
open _root_.Go.Proofs.Tryz renaming prog→v_
open _root_.Classical renaming em→t_
variable{F:List (List Int)}{n aB:Nat}{ah core:List Int}{kind:Int}{m:List Bool}
section
open Go.RowKit Go.Lib
theorem A5(b:lS n F=0)(hl:∀x∈ah,gP n x)(h:si F n ah 1073741824 kind m core aB):(kind=1/\oK n F ah=true)\/(kind=2/\oK n F ah=false):=by
 obtain⟨_,⟨h1,_,c⟩|⟨h1,_,hs,hu,_⟩|⟨_,_,_,f,_⟩⟩:=h
 ·exact .inl ⟨h1,AU b hl c.can⟩
 ·exact .inr ⟨h1,zC b hl λ d=>hu (d.mono λ x e=>hs.subset e)⟩
 ·omega
theorem A6{keep:List Int}(b:lS n F=0)(hl:∀x∈keep,gP n x)(h:tX F n keep ah 1073741824 kind m core aB):(kind=1/\oK n F keep=true)\/(kind=2/\oK n F keep=false):=by
 obtain⟨_,⟨h1,c,_,_⟩|⟨h1,_,hs,hu⟩|⟨_,_,f,_⟩⟩:=h
 ·exact .inl ⟨h1,AU b hl c.can⟩
 ·exact .inr ⟨h1,zC b hl λ d=>hu (d.mono λ x e=>hs.subset e)⟩
 ·omega
theorem ET(x:Int)(A:Option Addr)(nl cl:Nat)(ls:List (List Int))(P:Option Addr)(L Q:Nat)(keep:List Int)(I:Option Addr)(nq J:Nat)(ah:List Int)(w:World)(h:kE w A nl cl ls)(hk:aP w P L Q keep)(bb:mq keep)(aK:aP w I nq J ah)(bc:mq ah)(bd:kU x ls ah 1073741824=0):
  Calls v_ 6 #[.agg #[.int .i64 x,.slice A nl cl],.slice P L Q,.slice I nq J] w λ e w'=>e=.returned (.bool true)/\Below w.heap.size w w':=by
 have aB:Below w.heap.size w (w.alloc (.cells #[.int .i64 x,.slice A nl cl] 24)):=(Below.refl _ _).alloc (Nat.le_refl _) _;have aC:=qm.new w x A nl cl;generalize bf:w.alloc (.cells #[.int .i64 x,.slice A nl cl] 24)=W at aB aC;have g:=aC.aY;have i:=aC.c1;have d:=U (x_ aB aC);have M:=U (h.below aB);have X:=U (x_ (hk.below aB) (x_ hk.len bb));have N:=U (x_ (aK.below aB) (x_ aK.len bc));have mO:=U (xP W);have bg:bF (∀W',Below W.heap.size W W'->Calls v_ 27 #[.agg #[.int .i64 x,.slice A nl cl],.slice P L Q,.slice I nq J] W' (vM W' x nl L nq)):=U λ W' bq=>xN x A nl cl ls P L Q I nq J W' (M.o.below bq)
 clear h aB aC hk bb aK bc;go_enter Tryz.func6,Tryz.ntmps6
 go_upto_region 1 with fail
 try rw[bf]
 clear bf
 go_upto_region 3 with(go_at_call 26;refine mO.o.mono ?_;rintro e w1 ⟨rfl,aL⟩;have H1:=U aL;have f:=d.o.2.below aL;have g:=f.aY;have i:=f.c1;clear f aL)
 have bh:=U (bg.o w1 H1.o)
 go_upto_region 5 with(go_at_call 27;refine bh.o.mono ?_;rintro e bj hF;obtain⟨r,rfl,aM,bk⟩:=hF;have V:=U (H1.o.trans (aM.mono H1.o.size));have f:=d.o.2.below V.o;have g:=f.aY;have i:=f.c1;have bl:=U bk;clear f aM bk;cases r)
 ·go_ret;exact⟨rfl,d.o.1.trans (V.o.mono d.o.1.size)⟩
 have bn:=bl.o (by trivial);have K:bF (x<=10/\nl<=60/\L<=20/\nq<=20):=U bn;clear bl bn mO bg bh;obtain⟨br,aN⟩:∃e,kU x ls ah 1073741824=e:=⟨_,rfl⟩
 obtain⟨aD,bo⟩:∃e,kU x ls (keep++ah) 1073741824=e:=⟨_,rfl⟩
 have al:=U (x_ aN bo);have hl:br=0:=by rw[<-aN];exact bd
 clear bd aN bo;rcases t_ (aD=0) with aj|aj
 ·obtain⟨n,bs,rfl,aO,aE,aF,_⟩:=uS (al.o.1.trans hl);have R:=U (x_ aE aF);clear aO aE aF;subst hl;have aG:bF (∀y∈keep++ah,gP n y):=U (by
   obtain⟨bu,aM,bz,_,_,h,_⟩:=uS (al.o.2.trans aj);obtain rfl:n=bu:=by omega
   exact h)
  subst aj;have aQ:=U (sS n K.o.1 A nl cl ls I nq J ah 1073741824 bj (M.o.below V.o) (N.o.1.below V.o) N.o.2.2 (by have:=K.o;omega) (by have:=K.o;omega))
  go_upto_region 6 with(go_at_call 28;refine aQ.o.mono ?_;rintro e Y ⟨an,ao,aq,ar,au,av,aw,ax,m3,bw,bx,rfl,q⟩;obtain⟨rfl,ak⟩:=q.res al.o.1;have aS:=U (A5 R.o.1 R.o.2 ak);have aH:=q.jU;have aI:=U (V.o.trans (aH.mono V.o.size));clear aH ak q g i)
  have Z:=bC Y (.cells #[.int .i64 an,.slice ao aq ar,.slice au av aw,.int .i64 (ax:Nat)] 30);have aa:=aR.new Y 30 [.int .i64 an,.slice ao aq ar,.slice au av aw,.int .i64 (ax:Nat)];have t3:=(aI.o).trans (Z.mono (aI.o).size);generalize Y.alloc (.cells #[.int .i64 an,.slice ao aq ar,.slice au av aw,.int .i64 (ax:Nat)] 30)=aT at Z aa t3⊢;generalize Y.heap.size=g3 at aa⊢;have O:=U (x_ t3 (x_ aa Z));clear Z aa t3;have f:=d.o.2.below O.o.1;have g:=f.aY;have i:=f.c1;clear f;have aU:=U (wH n K.o.1 A nl cl ls P L Q keep I nq J ah 1073741824 aT (M.o.below O.o.1) (X.o.1.below O.o.1) (N.o.1.below O.o.1) (sq X.o.2.2 N.o.2.2) (by have:=K.o;omega) (by have:=K.o;omega))
  go_upto_region 7 with(go_at_call 29;refine aU.o.mono ?_;rintro e ab ⟨aV,aW,aX,aZ,a6,a7,a8,a',m4,bA,bB,rfl,ba⟩;obtain⟨rfl,ak⟩:=ba.res al.o.2;have bp:=U (A6 R.o.1 (λ y ad=>aG.o y (u_.2 (.inl ad))) ak);have ay:=ba.jU;have ae:=U (x_ (O.o.1.trans (ay.mono O.o.1.size)) ay);clear ay ak ba g i)
  have af:=bC ab (.cells #[.int .i64 aV,.slice aW aX aZ,.slice a6 a7 a8,.int .i64 (a':Nat)] 30);have ag:=aR.new ab 30 [.int .i64 aV,.slice aW aX aZ,.slice a6 a7 a8,.int .i64 (a':Nat)];have t4:=(ae.o.1).trans (af.mono (ae.o.1).size);generalize ab.alloc (.cells #[.int .i64 aV,.slice aW aX aZ,.slice a6 a7 a8,.int .i64 (a':Nat)] 30)=m at af ag t4⊢;generalize ab.heap.size=g4 at ag⊢;have b:=U (x_ t4 (x_ ag af));clear af ag t4;have C:=U (O.o.2.1.below (ae.o.2.trans (b.o.2.2.mono ae.o.2.size)));have f:=d.o.2.below b.o.1;have g:=f.aY;have i:=f.c1;clear f;have z:=C.o.cell;have j:=z 0;have D:=z 1;have E:=z 2;have q:=z 3;simp only[z_,y_] at j D E q;clear z;have z:=b.o.2.1.cell;have k:=z 0;have F:=z 1;have G:=z 2;have H:=z 3;simp only[z_,y_] at k F G H;clear z;rcases aS.o with⟨rfl,ai⟩|⟨rfl,ai⟩
  ·rcases bp.o with⟨rfl,az⟩|⟨rfl,az⟩
   ·have S:bF (∀u:bt m,Calls v_ 34 #[.agg #[.int .i64 n,.slice A nl cl],.slice I nq J] u.val λ e w'=>e=.returned (.bool true)/\Below u.val.heap.size u.val w'):=U λ u=>pN true n (by have:=K.o;omega) A nl cl ls I nq J ah u.val (M.o.below ((b.o.1).trans (u.ok.mono (b.o.1).size))) (N.o.1.below ((b.o.1).trans (u.ok.mono (b.o.1).size))) R.o.2 ai
    have s:=λ u:bt m=>u.cell (p:=⟨w.heap.size,0,none⟩) (d.o.2.below b.o.1).lt g
    have t:=λ u:bt m=>u.cell (p:=⟨w.heap.size,1,none⟩) (d.o.2.below b.o.1).lt i
    have v:=λ u:bt m=>u.cell (p:=⟨g3,0,none⟩) C.o.lt j
    have B:=λ u:bt m=>u.cell (p:=⟨g4,0,none⟩) b.o.2.1.lt k
    refine mA (by kernel_rfl) (by kernel_rfl) ?_
    repeat (go_big_quiet_step ((go_at_call 34;exact bt.call _ (S.o _))))
    refine w_ ?_;rintro l ⟨⟨_,h⟩,rfl⟩;have c:=U h;clear h;clear s t v B g i j D E q k F G H;have f:=d.o.2.below (b.o.1.trans ((c.o).mono b.o.1.size));have g:=f.aY;have i:=f.c1;clear f;have z:=(C.o.below (c.o)).cell;have j:=z 0;have D:=z 1;have E:=z 2;have q:=z 3;simp only[z_,y_] at j D E q;clear z;have z:=(b.o.2.1.below (c.o)).cell;have k:=z 0;have F:=z 1;have G:=z 2;have H:=z 3;simp only[z_,y_] at k F G H;clear z
    go_upto_region 9 with fail
    have aA:bF (∀u:bt l,Calls v_ 34 #[.agg #[.int .i64 n,.slice A nl cl],.slice P L Q] u.val λ e w'=>e=.returned (.bool true)/\Below u.val.heap.size u.val w'):=U λ u=>pN true n (by have:=K.o;omega) A nl cl ls P L Q keep u.val (M.o.below (((b.o.1.trans (c.o.mono b.o.1.size))).trans (u.ok.mono ((b.o.1.trans (c.o.mono b.o.1.size))).size))) (X.o.1.below (((b.o.1.trans (c.o.mono b.o.1.size))).trans (u.ok.mono ((b.o.1.trans (c.o.mono b.o.1.size))).size))) (λ y ad=>aG.o y (u_.2 (.inl ad))) az
    have s:=λ u:bt l=>u.cell (p:=⟨w.heap.size,0,none⟩) (d.o.2.below (b.o.1.trans (c.o.mono b.o.1.size))).lt g
    have t:=λ u:bt l=>u.cell (p:=⟨w.heap.size,1,none⟩) (d.o.2.below (b.o.1.trans (c.o.mono b.o.1.size))).lt i
    have v:=λ u:bt l=>u.cell (p:=⟨g3,0,none⟩) (C.o.below c.o).lt j
    have B:=λ u:bt l=>u.cell (p:=⟨g4,0,none⟩) (b.o.2.1.below c.o).lt k
    refine mA (by kernel_rfl) (by kernel_rfl) ?_
    repeat (go_big_quiet_step ((go_at_call 34;exact bt.call _ (aA.o _))))
    refine w_ ?_;rintro aJ ⟨⟨_,h⟩,rfl⟩;have T:=U h;clear h;clear s t v B
    go_wp2_with fail
    go_ret;exact⟨rfl,d.o.1.trans (((b.o.1.trans (c.o.mono b.o.1.size)).trans (T.o.mono (b.o.1.trans (c.o.mono b.o.1.size)).size)).mono d.o.1.size)⟩
   ·have S:bF (∀u:bt m,Calls v_ 34 #[.agg #[.int .i64 n,.slice A nl cl],.slice I nq J] u.val λ e w'=>e=.returned (.bool true)/\Below u.val.heap.size u.val w'):=U λ u=>pN true n (by have:=K.o;omega) A nl cl ls I nq J ah u.val (M.o.below ((b.o.1).trans (u.ok.mono (b.o.1).size))) (N.o.1.below ((b.o.1).trans (u.ok.mono (b.o.1).size))) R.o.2 ai
    have s:=λ u:bt m=>u.cell (p:=⟨w.heap.size,0,none⟩) (d.o.2.below b.o.1).lt g
    have t:=λ u:bt m=>u.cell (p:=⟨w.heap.size,1,none⟩) (d.o.2.below b.o.1).lt i
    have v:=λ u:bt m=>u.cell (p:=⟨g3,0,none⟩) C.o.lt j
    have B:=λ u:bt m=>u.cell (p:=⟨g4,0,none⟩) b.o.2.1.lt k
    refine mA (by kernel_rfl) (by kernel_rfl) ?_
    repeat (go_big_quiet_step ((go_at_call 34;exact bt.call _ (S.o _))))
    refine w_ ?_;rintro l ⟨⟨_,h⟩,rfl⟩;have c:=U h;clear h;clear s t v B g i j D E q k F G H;have f:=d.o.2.below (b.o.1.trans ((c.o).mono b.o.1.size));have g:=f.aY;have i:=f.c1;clear f;have z:=(C.o.below (c.o)).cell;have j:=z 0;have D:=z 1;have E:=z 2;have q:=z 3;simp only[z_,y_] at j D E q;clear z;have z:=(b.o.2.1.below (c.o)).cell;have k:=z 0;have F:=z 1;have G:=z 2;have H:=z 3;simp only[z_,y_] at k F G H;clear z
    go_upto_region 9 with fail
    have aA:bF (∀u:bt l,Calls v_ 34 #[.agg #[.int .i64 n,.slice A nl cl],.slice P L Q] u.val λ e w'=>e=.returned (.bool false)/\Below u.val.heap.size u.val w'):=U λ u=>pN false n (by have:=K.o;omega) A nl cl ls P L Q keep u.val (M.o.below (((b.o.1.trans (c.o.mono b.o.1.size))).trans (u.ok.mono ((b.o.1.trans (c.o.mono b.o.1.size))).size))) (X.o.1.below (((b.o.1.trans (c.o.mono b.o.1.size))).trans (u.ok.mono ((b.o.1.trans (c.o.mono b.o.1.size))).size))) (λ y ad=>aG.o y (u_.2 (.inl ad))) az
    have s:=λ u:bt l=>u.cell (p:=⟨w.heap.size,0,none⟩) (d.o.2.below (b.o.1.trans (c.o.mono b.o.1.size))).lt g
    have t:=λ u:bt l=>u.cell (p:=⟨w.heap.size,1,none⟩) (d.o.2.below (b.o.1.trans (c.o.mono b.o.1.size))).lt i
    have v:=λ u:bt l=>u.cell (p:=⟨g3,0,none⟩) (C.o.below c.o).lt j
    have B:=λ u:bt l=>u.cell (p:=⟨g4,0,none⟩) (b.o.2.1.below c.o).lt k
    refine mA (by kernel_rfl) (by kernel_rfl) ?_
    repeat (go_big_quiet_step ((go_at_call 34;exact bt.call _ (aA.o _))))
    refine w_ ?_;rintro aJ ⟨⟨_,h⟩,rfl⟩;have T:=U h;clear h;clear s t v B
    go_wp2_with fail
    go_ret;exact⟨rfl,d.o.1.trans (((b.o.1.trans (c.o.mono b.o.1.size)).trans (T.o.mono (b.o.1.trans (c.o.mono b.o.1.size)).size)).mono d.o.1.size)⟩
  ·rcases bp.o with⟨rfl,az⟩|⟨rfl,az⟩
   ·have S:bF (∀u:bt m,Calls v_ 34 #[.agg #[.int .i64 n,.slice A nl cl],.slice I nq J] u.val λ e w'=>e=.returned (.bool false)/\Below u.val.heap.size u.val w'):=U λ u=>pN false n (by have:=K.o;omega) A nl cl ls I nq J ah u.val (M.o.below ((b.o.1).trans (u.ok.mono (b.o.1).size))) (N.o.1.below ((b.o.1).trans (u.ok.mono (b.o.1).size))) R.o.2 ai
    have s:=λ u:bt m=>u.cell (p:=⟨w.heap.size,0,none⟩) (d.o.2.below b.o.1).lt g
    have t:=λ u:bt m=>u.cell (p:=⟨w.heap.size,1,none⟩) (d.o.2.below b.o.1).lt i
    have v:=λ u:bt m=>u.cell (p:=⟨g3,0,none⟩) C.o.lt j
    have B:=λ u:bt m=>u.cell (p:=⟨g4,0,none⟩) b.o.2.1.lt k
    refine mA (by kernel_rfl) (by kernel_rfl) ?_
    repeat (go_big_quiet_step ((go_at_call 34;exact bt.call _ (S.o _))))
    refine w_ ?_;rintro l ⟨⟨_,h⟩,rfl⟩;have c:=U h;clear h;clear s t v B g i j D E q k F G H;have f:=d.o.2.below (b.o.1.trans ((c.o).mono b.o.1.size));have g:=f.aY;have i:=f.c1;clear f;have z:=(C.o.below (c.o)).cell;have j:=z 0;have D:=z 1;have E:=z 2;have q:=z 3;simp only[z_,y_] at j D E q;clear z;have z:=(b.o.2.1.below (c.o)).cell;have k:=z 0;have F:=z 1;have G:=z 2;have H:=z 3;simp only[z_,y_] at k F G H;clear z
    go_upto_region 9 with fail
    have aA:bF (∀u:bt l,Calls v_ 34 #[.agg #[.int .i64 n,.slice A nl cl],.slice P L Q] u.val λ e w'=>e=.returned (.bool true)/\Below u.val.heap.size u.val w'):=U λ u=>pN true n (by have:=K.o;omega) A nl cl ls P L Q keep u.val (M.o.below (((b.o.1.trans (c.o.mono b.o.1.size))).trans (u.ok.mono ((b.o.1.trans (c.o.mono b.o.1.size))).size))) (X.o.1.below (((b.o.1.trans (c.o.mono b.o.1.size))).trans (u.ok.mono ((b.o.1.trans (c.o.mono b.o.1.size))).size))) (λ y ad=>aG.o y (u_.2 (.inl ad))) az
    have s:=λ u:bt l=>u.cell (p:=⟨w.heap.size,0,none⟩) (d.o.2.below (b.o.1.trans (c.o.mono b.o.1.size))).lt g
    have t:=λ u:bt l=>u.cell (p:=⟨w.heap.size,1,none⟩) (d.o.2.below (b.o.1.trans (c.o.mono b.o.1.size))).lt i
    have v:=λ u:bt l=>u.cell (p:=⟨g3,0,none⟩) (C.o.below c.o).lt j
    have B:=λ u:bt l=>u.cell (p:=⟨g4,0,none⟩) (b.o.2.1.below c.o).lt k
    refine mA (by kernel_rfl) (by kernel_rfl) ?_
    repeat (go_big_quiet_step ((go_at_call 34;exact bt.call _ (aA.o _))))
    refine w_ ?_;rintro aJ ⟨⟨_,h⟩,rfl⟩;have T:=U h;clear h;clear s t v B
    go_wp2_with fail
    go_ret;exact⟨rfl,d.o.1.trans (((b.o.1.trans (c.o.mono b.o.1.size)).trans (T.o.mono (b.o.1.trans (c.o.mono b.o.1.size)).size)).mono d.o.1.size)⟩
   ·have S:bF (∀u:bt m,Calls v_ 34 #[.agg #[.int .i64 n,.slice A nl cl],.slice I nq J] u.val λ e w'=>e=.returned (.bool false)/\Below u.val.heap.size u.val w'):=U λ u=>pN false n (by have:=K.o;omega) A nl cl ls I nq J ah u.val (M.o.below ((b.o.1).trans (u.ok.mono (b.o.1).size))) (N.o.1.below ((b.o.1).trans (u.ok.mono (b.o.1).size))) R.o.2 ai
    have s:=λ u:bt m=>u.cell (p:=⟨w.heap.size,0,none⟩) (d.o.2.below b.o.1).lt g
    have t:=λ u:bt m=>u.cell (p:=⟨w.heap.size,1,none⟩) (d.o.2.below b.o.1).lt i
    have v:=λ u:bt m=>u.cell (p:=⟨g3,0,none⟩) C.o.lt j
    have B:=λ u:bt m=>u.cell (p:=⟨g4,0,none⟩) b.o.2.1.lt k
    refine mA (by kernel_rfl) (by kernel_rfl) ?_
    repeat (go_big_quiet_step ((go_at_call 34;exact bt.call _ (S.o _))))
    refine w_ ?_;rintro l ⟨⟨_,h⟩,rfl⟩;have c:=U h;clear h;clear s t v B g i j D E q k F G H;have f:=d.o.2.below (b.o.1.trans ((c.o).mono b.o.1.size));have g:=f.aY;have i:=f.c1;clear f;have z:=(C.o.below (c.o)).cell;have j:=z 0;have D:=z 1;have E:=z 2;have q:=z 3;simp only[z_,y_] at j D E q;clear z;have z:=(b.o.2.1.below (c.o)).cell;have k:=z 0;have F:=z 1;have G:=z 2;have H:=z 3;simp only[z_,y_] at k F G H;clear z
    go_upto_region 9 with fail
    have aA:bF (∀u:bt l,Calls v_ 34 #[.agg #[.int .i64 n,.slice A nl cl],.slice P L Q] u.val λ e w'=>e=.returned (.bool false)/\Below u.val.heap.size u.val w'):=U λ u=>pN false n (by have:=K.o;omega) A nl cl ls P L Q keep u.val (M.o.below (((b.o.1.trans (c.o.mono b.o.1.size))).trans (u.ok.mono ((b.o.1.trans (c.o.mono b.o.1.size))).size))) (X.o.1.below (((b.o.1.trans (c.o.mono b.o.1.size))).trans (u.ok.mono ((b.o.1.trans (c.o.mono b.o.1.size))).size))) (λ y ad=>aG.o y (u_.2 (.inl ad))) az
    have s:=λ u:bt l=>u.cell (p:=⟨w.heap.size,0,none⟩) (d.o.2.below (b.o.1.trans (c.o.mono b.o.1.size))).lt g
    have t:=λ u:bt l=>u.cell (p:=⟨w.heap.size,1,none⟩) (d.o.2.below (b.o.1.trans (c.o.mono b.o.1.size))).lt i
    have v:=λ u:bt l=>u.cell (p:=⟨g3,0,none⟩) (C.o.below c.o).lt j
    have B:=λ u:bt l=>u.cell (p:=⟨g4,0,none⟩) (b.o.2.1.below c.o).lt k
    refine mA (by kernel_rfl) (by kernel_rfl) ?_
    repeat (go_big_quiet_step ((go_at_call 34;exact bt.call _ (aA.o _))))
    refine w_ ?_;rintro aJ ⟨⟨_,h⟩,rfl⟩;have T:=U h;clear h;clear s t v B
    go_wp2_with fail
    go_ret;exact⟨rfl,d.o.1.trans (((b.o.1.trans (c.o.mono b.o.1.size)).trans (T.o.mono (b.o.1.trans (c.o.mono b.o.1.size)).size)).mono d.o.1.size)⟩
 ·obtain⟨n,bs,rfl,aO,aE,aF,_⟩:=uS (al.o.1.trans hl);have R:=U (x_ aE aF);clear aO aE aF;subst hl;have aQ:=U (sS n K.o.1 A nl cl ls I nq J ah 1073741824 bj (M.o.below V.o) (N.o.1.below V.o) N.o.2.2 (by have:=K.o;omega) (by have:=K.o;omega))
  go_upto_region 6 with(go_at_call 28;refine aQ.o.mono ?_;rintro e Y ⟨an,ao,aq,ar,au,av,aw,ax,m3,bw,bx,rfl,q⟩;obtain⟨rfl,ak⟩:=q.res al.o.1;have aS:=U (A5 R.o.1 R.o.2 ak);have aH:=q.jU;have aI:=U (V.o.trans (aH.mono V.o.size));clear aH ak q g i)
  have Z:=bC Y (.cells #[.int .i64 an,.slice ao aq ar,.slice au av aw,.int .i64 (ax:Nat)] 30);have aa:=aR.new Y 30 [.int .i64 an,.slice ao aq ar,.slice au av aw,.int .i64 (ax:Nat)];have t3:=(aI.o).trans (Z.mono (aI.o).size);generalize Y.alloc (.cells #[.int .i64 an,.slice ao aq ar,.slice au av aw,.int .i64 (ax:Nat)] 30)=aT at Z aa t3⊢;generalize Y.heap.size=g3 at aa⊢;have O:=U (x_ t3 (x_ aa Z));clear Z aa t3;have f:=d.o.2.below O.o.1;have g:=f.aY;have i:=f.c1;clear f;have bD:(aD==0)=false:=by simpa using aj
  have bE:decide (aD=0)=false:=decide_eq_false aj;have bG:(aD !=0)=true:=by simpa using aj
  have aU:=U (A2 n A nl cl ls P L Q keep I nq J ah 1073741824 aT (M.o.below O.o.1) (X.o.1.below O.o.1) (N.o.1.below O.o.1) (sq X.o.2.2 N.o.2.2) (by rw[List.length_append];have:=K.o;have:=N.o.2.1;have:=X.o.2.1;omega) aD al.o.2 aj);clear aj
  go_upto_region 7 with(go_at_call 29;refine aU.o.mono ?_;rintro e ab ⟨rfl,ay⟩;have ae:=U (x_ (O.o.1.trans (ay.mono O.o.1.size)) ay);clear ay g i)
  have af:=bC ab (.cells #[.int .i64 0,.slice none 0 0,.slice none 0 0,.int .i64 0] 30);have ag:=aR.new ab 30 [.int .i64 0,.slice none 0 0,.slice none 0 0,.int .i64 0];have t4:=(ae.o.1).trans (af.mono (ae.o.1).size);generalize ab.alloc (.cells #[.int .i64 0,.slice none 0 0,.slice none 0 0,.int .i64 0] 30)=m at af ag t4⊢;generalize ab.heap.size=g4 at ag⊢;have b:=U (x_ t4 (x_ ag af));clear af ag t4;have C:=U (O.o.2.1.below (ae.o.2.trans (b.o.2.2.mono ae.o.2.size)));have f:=d.o.2.below b.o.1;have g:=f.aY;have i:=f.c1;clear f;have z:=C.o.cell;have j:=z 0;have D:=z 1;have E:=z 2;have q:=z 3;simp only[z_,y_] at j D E q;clear z;have z:=b.o.2.1.cell;have k:=z 0;have F:=z 1;have G:=z 2;have H:=z 3;simp only[z_,y_] at k F G H;clear z;rcases aS.o with⟨rfl,ai⟩|⟨rfl,ai⟩
  ·have S:bF (∀u:bt m,Calls v_ 34 #[.agg #[.int .i64 n,.slice A nl cl],.slice I nq J] u.val λ e w'=>e=.returned (.bool true)/\Below u.val.heap.size u.val w'):=U λ u=>pN true n (by have:=K.o;omega) A nl cl ls I nq J ah u.val (M.o.below ((b.o.1).trans (u.ok.mono (b.o.1).size))) (N.o.1.below ((b.o.1).trans (u.ok.mono (b.o.1).size))) R.o.2 ai
   have s:=λ u:bt m=>u.cell (p:=⟨w.heap.size,0,none⟩) (d.o.2.below b.o.1).lt g
   have t:=λ u:bt m=>u.cell (p:=⟨w.heap.size,1,none⟩) (d.o.2.below b.o.1).lt i
   have v:=λ u:bt m=>u.cell (p:=⟨g3,0,none⟩) C.o.lt j
   have B:=λ u:bt m=>u.cell (p:=⟨g4,0,none⟩) b.o.2.1.lt k
   refine mA (by kernel_rfl) (by kernel_rfl) ?_
   repeat (go_big_quiet_step ((go_at_call 34;exact bt.call _ (S.o _))))
   refine w_ ?_;rintro l ⟨⟨_,h⟩,rfl⟩;have c:=U h;clear h;clear s t v B g i j D E q k F G H;have f:=d.o.2.below (b.o.1.trans ((c.o).mono b.o.1.size));have g:=f.aY;have i:=f.c1;clear f;have z:=(C.o.below (c.o)).cell;have j:=z 0;have D:=z 1;have E:=z 2;have q:=z 3;simp only[z_,y_] at j D E q;clear z;have z:=(b.o.2.1.below (c.o)).cell;have k:=z 0;have F:=z 1;have G:=z 2;have H:=z 3;simp only[z_,y_] at k F G H;clear z
   go_upto_region 9 with fail
   have s:=λ u:bt l=>u.cell (p:=⟨w.heap.size,0,none⟩) (d.o.2.below (b.o.1.trans (c.o.mono b.o.1.size))).lt g
   have t:=λ u:bt l=>u.cell (p:=⟨w.heap.size,1,none⟩) (d.o.2.below (b.o.1.trans (c.o.mono b.o.1.size))).lt i
   have v:=λ u:bt l=>u.cell (p:=⟨g3,0,none⟩) (C.o.below c.o).lt j
   have B:=λ u:bt l=>u.cell (p:=⟨g4,0,none⟩) (b.o.2.1.below c.o).lt k
   refine mA (by kernel_rfl) (by kernel_rfl) ?_
   repeat (go_big_quiet_step (fail))
   refine w_ ?_;rintro aJ ⟨⟨_,h⟩,rfl⟩;have T:=U h;clear h;clear s t v B
   go_wp2_with fail
   go_ret;exact⟨rfl,d.o.1.trans (((b.o.1.trans (c.o.mono b.o.1.size)).trans (T.o.mono (b.o.1.trans (c.o.mono b.o.1.size)).size)).mono d.o.1.size)⟩
  ·have S:bF (∀u:bt m,Calls v_ 34 #[.agg #[.int .i64 n,.slice A nl cl],.slice I nq J] u.val λ e w'=>e=.returned (.bool false)/\Below u.val.heap.size u.val w'):=U λ u=>pN false n (by have:=K.o;omega) A nl cl ls I nq J ah u.val (M.o.below ((b.o.1).trans (u.ok.mono (b.o.1).size))) (N.o.1.below ((b.o.1).trans (u.ok.mono (b.o.1).size))) R.o.2 ai
   have s:=λ u:bt m=>u.cell (p:=⟨w.heap.size,0,none⟩) (d.o.2.below b.o.1).lt g
   have t:=λ u:bt m=>u.cell (p:=⟨w.heap.size,1,none⟩) (d.o.2.below b.o.1).lt i
   have v:=λ u:bt m=>u.cell (p:=⟨g3,0,none⟩) C.o.lt j
   have B:=λ u:bt m=>u.cell (p:=⟨g4,0,none⟩) b.o.2.1.lt k
   refine mA (by kernel_rfl) (by kernel_rfl) ?_
   repeat (go_big_quiet_step ((go_at_call 34;exact bt.call _ (S.o _))))
   refine w_ ?_;rintro l ⟨⟨_,h⟩,rfl⟩;have c:=U h;clear h;clear s t v B g i j D E q k F G H;have f:=d.o.2.below (b.o.1.trans ((c.o).mono b.o.1.size));have g:=f.aY;have i:=f.c1;clear f;have z:=(C.o.below (c.o)).cell;have j:=z 0;have D:=z 1;have E:=z 2;have q:=z 3;simp only[z_,y_] at j D E q;clear z;have z:=(b.o.2.1.below (c.o)).cell;have k:=z 0;have F:=z 1;have G:=z 2;have H:=z 3;simp only[z_,y_] at k F G H;clear z
   go_upto_region 9 with fail
   have s:=λ u:bt l=>u.cell (p:=⟨w.heap.size,0,none⟩) (d.o.2.below (b.o.1.trans (c.o.mono b.o.1.size))).lt g
   have t:=λ u:bt l=>u.cell (p:=⟨w.heap.size,1,none⟩) (d.o.2.below (b.o.1.trans (c.o.mono b.o.1.size))).lt i
   have v:=λ u:bt l=>u.cell (p:=⟨g3,0,none⟩) (C.o.below c.o).lt j
   have B:=λ u:bt l=>u.cell (p:=⟨g4,0,none⟩) (b.o.2.1.below c.o).lt k
   refine mA (by kernel_rfl) (by kernel_rfl) ?_
   repeat (go_big_quiet_step (fail))
   refine w_ ?_;rintro aJ ⟨⟨_,h⟩,rfl⟩;have T:=U h;clear h;clear s t v B
   go_wp2_with fail
   go_ret;exact⟨rfl,d.o.1.trans (((b.o.1.trans (c.o.mono b.o.1.size)).trans (T.o.mono (b.o.1.trans (c.o.mono b.o.1.size)).size)).mono d.o.1.size)⟩
theorem EU(x:Int)(A:Option Addr)(nl cl:Nat)(ls:List (List Int))(L:Option Addr)(s M:Nat)(keep:List Int)(X:Option Addr)(nq Y:Nat)(ah:List Int)(w:World)(h:kE w A nl cl ls)(hk:aP w L s M keep)(aL:mq keep)(ar:aP w X nq Y ah)(aM:mq ah)(aN:kU x ls ah 1073741824≠0):
  Calls v_ 6 #[.agg #[.int .i64 x,.slice A nl cl],.slice L s M,.slice X nq Y] w λ e w'=>e=.returned (.bool true)/\Below w.heap.size w w':=by
 have ag:Below w.heap.size w (w.alloc (.cells #[.int .i64 x,.slice A nl cl] 24)):=(Below.refl _ _).alloc (Nat.le_refl _) _;have ai:=qm.new w x A nl cl;generalize aO:w.alloc (.cells #[.int .i64 x,.slice A nl cl] 24)=W at ag ai;have g:=ai.aY;have i:=ai.c1;have f:=U (x_ ag ai);have ab:=U (h.below ag);have ad:=U (x_ (hk.below ag) (x_ hk.len aL));have G:=U (x_ (ar.below ag) (x_ ar.len aM));have mO:=U (xP W);have aQ:bF (∀W',Below W.heap.size W W'->Calls v_ 27 #[.agg #[.int .i64 x,.slice A nl cl],.slice L s M,.slice X nq Y] W' (vM W' x nl s nq)):=U λ W' ba=>xN x A nl cl ls L s M X nq Y W' (ab.o.below ba)
 clear h ag ai hk aL ar aM;go_enter Tryz.func6,Tryz.ntmps6
 go_upto_region 1 with fail
 try rw[aO]
 clear aO
 go_upto_region 3 with(go_at_call 26;refine mO.o.mono ?_;rintro e w1 ⟨rfl,au⟩;have H1:=U au;have d:=f.o.2.below au;have g:=d.aY;have i:=d.c1;clear d au)
 have aS:=U (aQ.o w1 H1.o)
 go_upto_region 5 with(go_at_call 27;refine aS.o.mono ?_;rintro e aT hF;obtain⟨r,rfl,aU,aV⟩:=hF;have N:=U (H1.o.trans (aU.mono H1.o.size));have d:=f.o.2.below N.o;have g:=d.aY;have i:=d.c1;have aW:=U aV;clear d aU aV;cases r)
 ·go_ret;exact⟨rfl,f.o.1.trans (N.o.mono f.o.1.size)⟩
 have aX:=aW.o (by trivial);have Z:bF (x<=10/\nl<=60/\s<=20/\nq<=20):=U aX;clear aW aX mO aQ aS;obtain⟨ae,av⟩:∃e,kU x ls ah 1073741824=e:=⟨_,rfl⟩
 obtain⟨aj,aZ⟩:∃e,kU x ls (keep++ah) 1073741824=e:=⟨_,rfl⟩
 have ak:=U (x_ av aZ);have hl:ae≠0:=by rw[<-av];exact aN
 clear aN av aZ;rcases t_ (aj=0) with aa|aa
 ·obtain⟨n,bh,rfl,bb,a6,a7,_⟩:=uS (ak.o.2.trans aa);have bc:=U (x_ a6 True.intro);have aw:=U a7;clear bb a6 a7;subst aa;have bd:(ae==0)=false:=by simpa using hl
  have bf:decide (ae=0)=false:=decide_eq_false hl;have ax:=U (A0 n A nl cl ls X nq Y ah 1073741824 aT (ab.o.below N.o) (G.o.1.below N.o) G.o.2.2 (by have:=Z.o;have:=G.o.2.1;omega) ae ak.o.1 hl);clear hl
  go_upto_region 6 with(go_at_call 28;refine ax.o.mono ?_;rintro e O ⟨rfl,al⟩;have an:=U (N.o.trans (al.mono N.o.size));clear al g i)
  have P:=bC O (.cells #[.int .i64 0,.slice none 0 0,.slice none 0 0,.int .i64 0] 30);have Q:=aR.new O 30 [.int .i64 0,.slice none 0 0,.slice none 0 0,.int .i64 0];have t3:=(an.o).trans (P.mono (an.o).size);generalize O.alloc (.cells #[.int .i64 0,.slice none 0 0,.slice none 0 0,.int .i64 0] 30)=ay at P Q t3⊢;generalize O.heap.size=g3 at Q⊢;have m:=U (x_ t3 (x_ Q P));clear P Q t3;have d:=f.o.2.below m.o.1;have g:=d.aY;have i:=d.c1;clear d;have az:=U (wH n Z.o.1 A nl cl ls L s M keep X nq Y ah 1073741824 ay (ab.o.below m.o.1) (ad.o.1.below m.o.1) (G.o.1.below m.o.1) (sq ad.o.2.2 G.o.2.2) (by have:=Z.o;omega) (by have:=Z.o;omega))
  go_upto_region 7 with(go_at_call 29;refine az.o.mono ?_;rintro e R ⟨aA,aB,aC,aD,aE,aF,aG,aH,m4,bj,bk,rfl,aI⟩;obtain⟨rfl,a8⟩:=aI.res ak.o.2;have bg:=U (A6 bc.o.1 (λ y ao=>aw.o y (u_.2 (.inl ao))) a8);have af:=aI.jU;have S:=U (x_ (m.o.1.trans (af.mono m.o.1.size)) af);clear af a8 aI g i)
  have T:=bC R (.cells #[.int .i64 aA,.slice aB aC aD,.slice aE aF aG,.int .i64 (aH:Nat)] 30);have V:=aR.new R 30 [.int .i64 aA,.slice aB aC aD,.slice aE aF aG,.int .i64 (aH:Nat)];have t4:=(S.o.1).trans (T.mono (S.o.1).size);generalize R.alloc (.cells #[.int .i64 aA,.slice aB aC aD,.slice aE aF aG,.int .i64 (aH:Nat)] 30)=q at T V t4⊢;generalize R.heap.size=g4 at V⊢;have b:=U (x_ t4 (x_ V T));clear T V t4;have t:=U (m.o.2.1.below (S.o.2.trans (b.o.2.2.mono S.o.2.size)));have d:=f.o.2.below b.o.1;have g:=d.aY;have i:=d.c1;clear d;have z:=t.o.cell;have j:=z 0;have v:=z 1;have B:=z 2;have C:=z 3;simp only[z_,y_] at j v B C;clear z;have z:=b.o.2.1.cell;have k:=z 0;have D:=z 1;have E:=z 2;have F:=z 3;simp only[z_,y_] at k D E F;clear z;rcases bg.o with⟨rfl,aJ⟩|⟨rfl,aJ⟩
  ·have H:=λ u:bt q=>u.cell (p:=⟨w.heap.size,0,none⟩) (f.o.2.below b.o.1).lt g
   have I:=λ u:bt q=>u.cell (p:=⟨w.heap.size,1,none⟩) (f.o.2.below b.o.1).lt i
   have J:=λ u:bt q=>u.cell (p:=⟨g3,0,none⟩) t.o.lt j
   have K:=λ u:bt q=>u.cell (p:=⟨g4,0,none⟩) b.o.2.1.lt k
   refine mA (by kernel_rfl) (by kernel_rfl) ?_
   repeat (go_big_quiet_step (fail))
   refine w_ ?_;rintro l ⟨⟨_,h⟩,rfl⟩;have c:=U h;clear h;clear H I J K g i j v B C k D E F;have d:=f.o.2.below (b.o.1.trans ((c.o).mono b.o.1.size));have g:=d.aY;have i:=d.c1;clear d;have z:=(t.o.below (c.o)).cell;have j:=z 0;have v:=z 1;have B:=z 2;have C:=z 3;simp only[z_,y_] at j v B C;clear z;have z:=(b.o.2.1.below (c.o)).cell;have k:=z 0;have D:=z 1;have E:=z 2;have F:=z 3;simp only[z_,y_] at k D E F;clear z
   go_upto_region 9 with fail
   have aK:bF (∀u:bt l,Calls v_ 34 #[.agg #[.int .i64 n,.slice A nl cl],.slice L s M] u.val λ e w'=>e=.returned (.bool true)/\Below u.val.heap.size u.val w'):=U λ u=>pN true n (by have:=Z.o;omega) A nl cl ls L s M keep u.val (ab.o.below (((b.o.1.trans (c.o.mono b.o.1.size))).trans (u.ok.mono ((b.o.1.trans (c.o.mono b.o.1.size))).size))) (ad.o.1.below (((b.o.1.trans (c.o.mono b.o.1.size))).trans (u.ok.mono ((b.o.1.trans (c.o.mono b.o.1.size))).size))) (λ y ao=>aw.o y (u_.2 (.inl ao))) aJ
   have H:=λ u:bt l=>u.cell (p:=⟨w.heap.size,0,none⟩) (f.o.2.below (b.o.1.trans (c.o.mono b.o.1.size))).lt g
   have I:=λ u:bt l=>u.cell (p:=⟨w.heap.size,1,none⟩) (f.o.2.below (b.o.1.trans (c.o.mono b.o.1.size))).lt i
   have J:=λ u:bt l=>u.cell (p:=⟨g3,0,none⟩) (t.o.below c.o).lt j
   have K:=λ u:bt l=>u.cell (p:=⟨g4,0,none⟩) (b.o.2.1.below c.o).lt k
   refine mA (by kernel_rfl) (by kernel_rfl) ?_
   repeat (go_big_quiet_step ((go_at_call 34;exact bt.call _ (aK.o _))))
   refine w_ ?_;rintro a' ⟨⟨_,h⟩,rfl⟩;have aq:=U h;clear h;clear H I J K
   go_wp2_with fail
   go_ret;exact⟨rfl,f.o.1.trans (((b.o.1.trans (c.o.mono b.o.1.size)).trans (aq.o.mono (b.o.1.trans (c.o.mono b.o.1.size)).size)).mono f.o.1.size)⟩
  ·have H:=λ u:bt q=>u.cell (p:=⟨w.heap.size,0,none⟩) (f.o.2.below b.o.1).lt g
   have I:=λ u:bt q=>u.cell (p:=⟨w.heap.size,1,none⟩) (f.o.2.below b.o.1).lt i
   have J:=λ u:bt q=>u.cell (p:=⟨g3,0,none⟩) t.o.lt j
   have K:=λ u:bt q=>u.cell (p:=⟨g4,0,none⟩) b.o.2.1.lt k
   refine mA (by kernel_rfl) (by kernel_rfl) ?_
   repeat (go_big_quiet_step (fail))
   refine w_ ?_;rintro l ⟨⟨_,h⟩,rfl⟩;have c:=U h;clear h;clear H I J K g i j v B C k D E F;have d:=f.o.2.below (b.o.1.trans ((c.o).mono b.o.1.size));have g:=d.aY;have i:=d.c1;clear d;have z:=(t.o.below (c.o)).cell;have j:=z 0;have v:=z 1;have B:=z 2;have C:=z 3;simp only[z_,y_] at j v B C;clear z;have z:=(b.o.2.1.below (c.o)).cell;have k:=z 0;have D:=z 1;have E:=z 2;have F:=z 3;simp only[z_,y_] at k D E F;clear z
   go_upto_region 9 with fail
   have aK:bF (∀u:bt l,Calls v_ 34 #[.agg #[.int .i64 n,.slice A nl cl],.slice L s M] u.val λ e w'=>e=.returned (.bool false)/\Below u.val.heap.size u.val w'):=U λ u=>pN false n (by have:=Z.o;omega) A nl cl ls L s M keep u.val (ab.o.below (((b.o.1.trans (c.o.mono b.o.1.size))).trans (u.ok.mono ((b.o.1.trans (c.o.mono b.o.1.size))).size))) (ad.o.1.below (((b.o.1.trans (c.o.mono b.o.1.size))).trans (u.ok.mono ((b.o.1.trans (c.o.mono b.o.1.size))).size))) (λ y ao=>aw.o y (u_.2 (.inl ao))) aJ
   have H:=λ u:bt l=>u.cell (p:=⟨w.heap.size,0,none⟩) (f.o.2.below (b.o.1.trans (c.o.mono b.o.1.size))).lt g
   have I:=λ u:bt l=>u.cell (p:=⟨w.heap.size,1,none⟩) (f.o.2.below (b.o.1.trans (c.o.mono b.o.1.size))).lt i
   have J:=λ u:bt l=>u.cell (p:=⟨g3,0,none⟩) (t.o.below c.o).lt j
   have K:=λ u:bt l=>u.cell (p:=⟨g4,0,none⟩) (b.o.2.1.below c.o).lt k
   refine mA (by kernel_rfl) (by kernel_rfl) ?_
   repeat (go_big_quiet_step ((go_at_call 34;exact bt.call _ (aK.o _))))
   refine w_ ?_;rintro a' ⟨⟨_,h⟩,rfl⟩;have aq:=U h;clear h;clear H I J K
   go_wp2_with fail
   go_ret;exact⟨rfl,f.o.1.trans (((b.o.1.trans (c.o.mono b.o.1.size)).trans (aq.o.mono (b.o.1.trans (c.o.mono b.o.1.size)).size)).mono f.o.1.size)⟩
 ·have bd:(ae==0)=false:=by simpa using hl
  have bf:decide (ae=0)=false:=decide_eq_false hl;have ax:=U (A0 x A nl cl ls X nq Y ah 1073741824 aT (ab.o.below N.o) (G.o.1.below N.o) G.o.2.2 (by have:=Z.o;have:=G.o.2.1;omega) ae ak.o.1 hl);clear hl
  go_upto_region 6 with(go_at_call 28;refine ax.o.mono ?_;rintro e O ⟨rfl,al⟩;have an:=U (N.o.trans (al.mono N.o.size));clear al g i)
  have P:=bC O (.cells #[.int .i64 0,.slice none 0 0,.slice none 0 0,.int .i64 0] 30);have Q:=aR.new O 30 [.int .i64 0,.slice none 0 0,.slice none 0 0,.int .i64 0];have t3:=(an.o).trans (P.mono (an.o).size);generalize O.alloc (.cells #[.int .i64 0,.slice none 0 0,.slice none 0 0,.int .i64 0] 30)=ay at P Q t3⊢;generalize O.heap.size=g3 at Q⊢;have m:=U (x_ t3 (x_ Q P));clear P Q t3;have d:=f.o.2.below m.o.1;have g:=d.aY;have i:=d.c1;clear d;have bl:(aj==0)=false:=by simpa using aa
  have bn:decide (aj=0)=false:=decide_eq_false aa;have bo:(aj !=0)=true:=by simpa using aa
  have az:=U (A2 x A nl cl ls L s M keep X nq Y ah 1073741824 ay (ab.o.below m.o.1) (ad.o.1.below m.o.1) (G.o.1.below m.o.1) (sq ad.o.2.2 G.o.2.2) (by rw[List.length_append];have:=Z.o;have:=G.o.2.1;have:=ad.o.2.1;omega) aj ak.o.2 aa);clear aa
  go_upto_region 7 with(go_at_call 29;refine az.o.mono ?_;rintro e R ⟨rfl,af⟩;have S:=U (x_ (m.o.1.trans (af.mono m.o.1.size)) af);clear af g i)
  have T:=bC R (.cells #[.int .i64 0,.slice none 0 0,.slice none 0 0,.int .i64 0] 30);have V:=aR.new R 30 [.int .i64 0,.slice none 0 0,.slice none 0 0,.int .i64 0];have t4:=(S.o.1).trans (T.mono (S.o.1).size);generalize R.alloc (.cells #[.int .i64 0,.slice none 0 0,.slice none 0 0,.int .i64 0] 30)=q at T V t4⊢;generalize R.heap.size=g4 at V⊢;have b:=U (x_ t4 (x_ V T));clear T V t4;have t:=U (m.o.2.1.below (S.o.2.trans (b.o.2.2.mono S.o.2.size)));have d:=f.o.2.below b.o.1;have g:=d.aY;have i:=d.c1;clear d;have z:=t.o.cell;have j:=z 0;have v:=z 1;have B:=z 2;have C:=z 3;simp only[z_,y_] at j v B C;clear z;have z:=b.o.2.1.cell;have k:=z 0;have D:=z 1;have E:=z 2;have F:=z 3;simp only[z_,y_] at k D E F;clear z;have H:=λ u:bt q=>u.cell (p:=⟨w.heap.size,0,none⟩) (f.o.2.below b.o.1).lt g
  have I:=λ u:bt q=>u.cell (p:=⟨w.heap.size,1,none⟩) (f.o.2.below b.o.1).lt i
  have J:=λ u:bt q=>u.cell (p:=⟨g3,0,none⟩) t.o.lt j
  have K:=λ u:bt q=>u.cell (p:=⟨g4,0,none⟩) b.o.2.1.lt k
  refine mA (by kernel_rfl) (by kernel_rfl) ?_
  repeat (go_big_quiet_step (fail))
  refine w_ ?_;rintro l ⟨⟨_,h⟩,rfl⟩;have c:=U h;clear h;clear H I J K g i j v B C k D E F;have d:=f.o.2.below (b.o.1.trans ((c.o).mono b.o.1.size));have g:=d.aY;have i:=d.c1;clear d;have z:=(t.o.below (c.o)).cell;have j:=z 0;have v:=z 1;have B:=z 2;have C:=z 3;simp only[z_,y_] at j v B C;clear z;have z:=(b.o.2.1.below (c.o)).cell;have k:=z 0;have D:=z 1;have E:=z 2;have F:=z 3;simp only[z_,y_] at k D E F;clear z
  go_upto_region 9 with fail
  have H:=λ u:bt l=>u.cell (p:=⟨w.heap.size,0,none⟩) (f.o.2.below (b.o.1.trans (c.o.mono b.o.1.size))).lt g
  have I:=λ u:bt l=>u.cell (p:=⟨w.heap.size,1,none⟩) (f.o.2.below (b.o.1.trans (c.o.mono b.o.1.size))).lt i
  have J:=λ u:bt l=>u.cell (p:=⟨g3,0,none⟩) (t.o.below c.o).lt j
  have K:=λ u:bt l=>u.cell (p:=⟨g4,0,none⟩) (b.o.2.1.below c.o).lt k
  refine mA (by kernel_rfl) (by kernel_rfl) ?_
  repeat (go_big_quiet_step (fail))
  refine w_ ?_;rintro a' ⟨⟨_,h⟩,rfl⟩;have aq:=U h;clear h;clear H I J K
  go_wp2_with fail
  go_ret;exact⟨rfl,f.o.1.trans (((b.o.1.trans (c.o.mono b.o.1.size)).trans (aq.o.mono (b.o.1.trans (c.o.mono b.o.1.size)).size)).mono f.o.1.size)⟩
theorem I7(x:Int)(A:Option Addr)(nl cl:Nat)(ls:List (List Int))(b:Option Addr)(c d:Nat)(keep:List Int)(f:Option Addr)(nq g:Nat)(ah:List Int)(w:World)(h:kE w A nl cl ls)(hk:aP w b c d keep)(i:mq keep)(j:aP w f nq g ah)(k:mq ah):
  Calls v_ 6 #[.agg #[.int .i64 x,.slice A nl cl],.slice b c d,.slice f nq g] w λ e w'=>e=.returned (.bool true)/\Below w.heap.size w w':=by
 rcases t_ (kU x ls ah 1073741824=0) with hl|hl
 ·exact ET x A nl cl ls b c d keep f nq g ah w h hk i j k hl
 ·exact EU x A nl cl ls b c d keep f nq g ah w h hk i j k hl
end
end Go.Proofs.YtogdlkfacflmaaaGreat
