/- Parts of the walk of the solver and its core; no condition. -/
import Derived.Test.YtogdlkfacflmaaaGreatZW11
import Derived.Deep.LoopGhost
import Derived.Test.YtogdlkfacflmaaaGreatZW1
namespace Go.Proofs.YtogdlkfacflmaaaGreat
set_option linter.unusedVariables false
set_option linter.unusedSimpArgs false
set_option maxRecDepth 1000000
set_option maxHeartbeats 8000000
open _root_.And renaming intro→z_
open _root_.List renaming getElem?_cons_zero→y_,getElem?_cons_succ→x_,length_append→r_
open _root_.Go.Proofs.Tryz renaming prog→w_
open _root_.Go.Value renaming bool→v_,int→s_
open _root_.Nat renaming lt_of_lt_of_le→u_,le_trans→n_
open _root_.Go.Handed renaming intro→t_
open _root_.Go.IntKind renaming wrap_i64→q_,i64→m_
open _root_.Go renaming wp_loop_ghost_k→p_
open _root_.Go.Code renaming wp→o_
variable{aT gU K:Nat->Prop}{base G n fL jv bC gJ bf bu aB iT kX g h:Nat}{w0 W A B:World}{F:List (List Int)}{ai oA:List Int}{aI s:an}{gG:Option Addr}{hs:Nat->ax}{cb:Nat->Nat}{left next:Int}{c5 jy iW gR gE gl gQ u16 gm gn gp gD gq gr gu gv gw gx gy gz fN fO fP u32 fQ fR fS fT fU fV fW fZ ga gb gd gA gB ig gX gY bM bN bO bP bQ bR bS bT bU bV bW bX bY bZ b5 u64 b6 b7 b8 b9 cc cg ck cm cn cp cr ct cu cv cw cz cA cB cC cD cE c7 c8 c9 dc de dh di dm cG cH cI cK cL cM cN cO cQ cR cS cT cU cV cW cZ c4 dn dr dw dx dy dz dA dB dD dF dG dH dI dJ dK dL dM dN dO dP dQ dR dS dU dV dW dX dY dZ ec fF fG fH ee ef ei ej ek en eo ep er eu ew ey fI fJ fK ez eA eB eC eD eE eF eG eH eL eM eN eO eP eR eS eT eU eV eW eX eY eZ e3 e4 e5 e6 e7 e8 e9 fc fe ff fh fk fm gh gi fo fq fu fA fB fC fD iB iC iD iE iF iG iH iI iJ iK iL iM jc jd je jf jg jh ji jj jM jN jO jP jQ jR gI:Value}{Q:Exit->Act->World->Prop}{a:Act}{row:Option Nat}
section
open Go.RowKit Go.Shelf
def MA:Code->Code
 | .cond _ _ b=>b
 |c=>c
noncomputable def MB:Code:=By (mU (MA (mU ((Tryz.f99.body.bind λ c=>qj c 4).getD .skip))))
theorem MC{p:Int}
  (C:sg aT gU w0 F ai n fL jv aI gG bC gJ bu) (S:mI aT gU base w0 G F ai n fL jv aI bf bu K W hs cb s aB s.c.ag) (U:s.c.st.length<bC) (ar:aj ai s.c.st.length=p) (X:gW n p) (Y: -p∈s.c.ay)
  (au:∀(K:Nat->Prop)(hs:Nat->ax)(cb:Nat->Nat)(s':an)(h':Nat)(av:Option Addr)(aw az:Nat)(c5 jy iW gR gE gl bj bk gQ u16 gm gn gp gD gq gr gu gv gw gx gy gz fN fO fP u32 fQ fR fS fT fU fV fW fZ ga gb gd gA gB ig gX gY bM bN bO bP bQ bR bS bT bU bV bW bX bY bZ b5 u64 b6 b7 b8 b9 cc cg ck cm cn cp cr ct cu cv cw cz cA cB cC cD cE c7 c8 c9 dc de dh di dm cG cH cI cK cL cM cN cO cQ cR cS cT cU cV cW cZ c4 dn dr dw dx dy dz dA dB dD dF dG dH dI dJ dK dL dM dN dO dP dQ dR dS dU dV dW dX dY dZ ec fF fG fH ee ef ei ej ek en eo ep er eu ew ey fI fJ fK ez eA eB eC eD eE eF eG eH eL eM eN eO eP eR eS eT eU eV eW eX eY eZ e3 e4 e5 e6 e7 e8 e9 fc fe ff fh fk fm gh gi fo fq fu fA fB fC fD iB iC iD iE iF iG iH iI iJ iK iL iM jc jd je jf jg jh ji jj jM jN jO jP jQ jR:Value)(W':World),si aT gU base w0 G F ai n fL aI bf bu K W' hs cb s' aB h' 2 none 0 0 av aw az->aN W' bf 30 [.int .i64 2,mY,.slice av aw az,.int .i64 (aB:Int)]->Q .ret {tmps:= #[.pointer (some ⟨G,0,none⟩),.slice gG bC gJ,.int .i64 (bu:Int),c5,jy,iW,.pointer (some ⟨bf,0,none⟩),.int .i64 (iT:Int),.int .i64 left,.int .i64 2000,gR,gE,gl,bj,bk,gQ,u16,gm,gn,gp,gD,gq,gr,gu,gv,gw,gx,gy,gz,fN,fO,fP,u32,fQ,fR,fS,fT,fU,fV,fW,fZ,ga,gb,gd,gA,gB,ig,gX,gY,bM,bN,bO,bP,bQ,bR,bS,bT,bU,bV,bW,bX,bY,bZ,b5,u64,b6,b7,b8,b9,cc,cg,ck,cm,cn,cp,cr,ct,cu,cv,cw,cz,cA,cB,cC,cD,cE,c7,c8,c9,dc,de,dh,di,dm,cG,cH,cI,cK,cL,cM,cN,cO,cQ,cR,cS,cT,cU,cV,cW,cZ,c4,dn,dr,dw,dx,dy,dz,dA,dB,dD,dF,dG,dH,dI,dJ,dK,dL,dM,dN,dO,dP,dQ,dR,dS,dU,dV,dW,dX,dY,dZ,ec,fF,fG,fH,ee,ef,ei,ej,ek,en,eo,ep,er,eu,ew,ey,fI,fJ,fK,ez,eA,eB,eC,eD,eE,eF,eG,eH,eL,eM,eN,eO,eP,eR,eS,eT,eU,eV,eW,eX,eY,eZ,e3,e4,e5,e6,e7,e8,e9,fc,fe,ff,fh,fk,fm,gh,gi,fo,fq,fu,fA,fB,fC,fD,iB,iC,iD,iE,iF,iG,iH,iI,iJ,iK,iL,iM,jc,jd,je,jf,jg,jh,ji,jj,jM,jN,jO,jP,jQ,jR],defers:=[]} W'):
  o_ w_ MB Q {tmps:= #[.pointer (some ⟨G,0,none⟩),.slice gG bC gJ,.int .i64 (bu:Int),c5,jy,iW,.pointer (some ⟨bf,0,none⟩),.int .i64 (iT:Int),.int .i64 left,.int .i64 2000,gR,gE,gl,.int .i64 0,.int .i64 p,gQ,u16,gm,gn,gp,gD,gq,gr,gu,gv,gw,gx,gy,gz,fN,fO,fP,u32,fQ,fR,fS,fT,fU,fV,fW,fZ,ga,gb,gd,gA,gB,ig,gX,gY,bM,bN,bO,bP,bQ,bR,bS,bT,bU,bV,bW,bX,bY,bZ,b5,u64,b6,b7,b8,b9,cc,cg,ck,cm,cn,cp,cr,ct,cu,cv,cw,cz,cA,cB,cC,cD,cE,c7,c8,c9,dc,de,dh,di,dm,cG,cH,cI,cK,cL,cM,cN,cO,cQ,cR,cS,cT,cU,cV,cW,cZ,c4,dn,dr,dw,dx,dy,dz,dA,dB,dD,dF,dG,dH,dI,dJ,dK,dL,dM,dN,dO,dP,dQ,dR,dS,dU,dV,dW,dX,dY,dZ,ec,fF,fG,fH,ee,ef,ei,ej,ek,en,eo,ep,er,eu,ew,ey,fI,fJ,fK,ez,eA,eB,eC,eD,eE,eF,eG,eH,eL,eM,eN,eO,eP,eR,eS,eT,eU,eV,eW,eX,eY,eZ,e3,e4,e5,e6,e7,e8,e9,fc,fe,ff,fh,fk,fm,gh,gi,fo,fq,fu,fA,fB,fC,fD,iB,iC,iD,iE,iF,iG,iH,iI,iJ,iK,iL,iM,jc,jd,je,jf,jg,jh,ji,jj,jM,jN,jO,jP,jQ,jR],defers:=[]} W:=by
 have bl:=aa au;have z:=aa C;have aA:=aa S;have aD:=aa (S.mT C);have Z:=aa (z_ U (z_ ar (z_ X Y)));have bn:fE (∀b,w0.heap.size<=b->¬aT b):=aa λ b i=>C.DE i
 have aE:=aa (Mz S.gH S.jZ.gP.aL S.jZ.gP.jF (by have:=aD.o;omega) (by have:=aD.o;omega) (p:=p) (by rw[S.jZ.rg.jt];exact X) Y);clear au C S U ar X Y
 conv=>arg 2;whnf
 dsimp only
 go_upto_region 32 with(go_at_call 153;refine aE.o.mono ?_;rintro e w1 ⟨j,co,out,rfl,wX,aF,aG,aH,un,aJ⟩;dsimp only)
 have f:=aa ((aA.o.below aF).below (bB w1 (.cells #[.slice j out.length co] 25)));have aK:(w1.alloc (.cells #[.slice j out.length co] 25)).cell? ⟨w1.heap.size,0,none⟩=some (.slice j out.length co):=by go_simp
 have aM:=aa aK;have bo:=aa (wX.alloc (.cells #[.slice j out.length co] 25));have aO:∀b,j.map (·.block)=some b->0<out.length->b<w1.heap.size:=λ b e bp=>by
  obtain⟨bI,off,aP,h1,_⟩:=wX.cells bp;rw[aP] at e;injection e with e;exact e▸h1
 have bq:=aa aO;have br:fE (w1.heap.size<(w1.alloc (.cells #[.slice j out.length co] 25)).heap.size):=aa (by simp);have L:=aa (z_ aG (z_ aH un));have bs:fE (∀b,j.map (·.block)=some b->b≠bf):=aa (λ b e=>by have h1:=aJ b e;have A:=aA.o.jS.lt;omega);clear aK aO wX aF aG aH un aJ aE;generalize w1.alloc (.cells #[.slice j out.length co] 25)=V at*;generalize w1.heap.size=B at*;have M:=f.o.jS.cell 0;have N:=f.o.jS.cell 1;have O:=f.o.jS.cell 2;have P:=f.o.jS.cell 3;have aQ:=f.o.jS.free 0;have aR:=f.o.jS.free 1;have aU:=f.o.jS.free 2;have aV:=f.o.jS.free 3;simp only[mY,y_,x_] at M N O P;have bJ:∀(fn:Fn)(first cap:Array Value)(w:World),(Instr.makeFunc fn first cap).run w_ w=.ok (.func fn first cap) w:=λ _ _ _ _=>rfl
 go_upto_region 33 with fail
 clear M N O P aQ aR aU aV;have aW:fE (aN (V.setCell ⟨bf,0,none⟩ (.int .i64 2)) bf 30 [.int .i64 2,mY,mY,.int .i64 (aB:Int)]):=aa (f.o.jS.set 0 _);have D:=aa (f.o.gH.uU f.o.sF 0 (.int .i64 2));have aX:=aa (aC.DG f.o 0 (.int .i64 2));have bt:B≠bf:=λ e=>by
  have h1:V.heap[bf]? =_:=f.o.jS;have A:=aM.o;rw[e] at A;have ab:=f.o.jS.cell 0;rw[ab] at A;simp at A
 have c3:(V.setCell ⟨bf,0,none⟩ (.int .i64 2)).cell? ⟨B,0,none⟩=some (.slice j out.length co):=by
  rw[World.cell?_setCell_other _ _ _ _ (by simp[bt])];exact aM.o
 have aY:=((f.o.GF z.o).iR (aC.set (K:=gU) bf 0 (.int .i64 2) f.o.tK) z.o.GC)
 have aZ:aS (V.setCell ⟨bf,0,none⟩ (.int .i64 2)) j out.length co out:=bo.o.iR (aC.set (K:=λ b=>b≠bf) bf 0 (.int .i64 2) (λ h=>h rfl)) (λ b e _=>bs.o b e);have H:fE (B<V.heap.size/\∀b,j.map (·.block)=some b->0<out.length->b<B):=aa ⟨br.o,bq.o⟩;have a6:(V.setCell ⟨bf,0,none⟩ (.int .i64 2)).heap.size=V.heap.size:=by simp
 generalize V.setCell ⟨bf,0,none⟩ (.int .i64 2)=l at*;have E:=aa (z_ c3 (z_ aZ a6));have bw:=aa (vm gG bC gJ ai l aY);have bx:=D.o.e;have bz:fE (∀(I:Option Addr)(t:Nat)(y:World),y.ownsRow l.heap.size 3 1 (.slice I ai.length t) ai.length (ai.map (s_ .i64))->Below l.heap.size l y->∃g,I=some ⟨g,0,none⟩/\l.heap.size<=g/\g<y.heap.size/\Calls w_ 85 #[.slice (some ⟨g,0,none⟩) ai.length t,.func (.func 154) #[] #[.pointer (some ⟨B,0,none⟩)]] y λ e w'=>
   ∃m,e=.returned (.slice (some ⟨g,0,none⟩) m t)/\Own w' l.heap.size g m t (ai.filter λ x=>hasB out x)/\Below l.heap.size y w'):=aa (by
  intro I t y R i;have hl:=z.o.x8;have U:=Z.o.1;obtain⟨k,hk⟩:∃k,ai.length=k+1:=⟨ai.length-1,by omega⟩
  rw[hk] at R⊢;obtain⟨g,cap,bA⟩:=CB R;injection bA with bD aP bK
  subst bD;have ad:=R.lt g rfl;refine⟨g,rfl,ad.1,ad.2,Mw y l.heap.size g (k+1) t ai R ad.1 ((i.cell (p:=⟨B,0,none⟩) (by rw[E.o.2.2];exact H.o.1)).trans E.o.1) (u_ (by rw[E.o.2.2];exact H.o.1) i.size) (by have:=H.o.1;have:=E.o.2.2;omega) (E.o.2.1.below i) (λ b e=>?_)⟩;have bE:0<out.length:=List.length_pos_iff.2 (λ e=>by have h:=L.o.2.1;rw[e] at h;cases h);have h1:=H.o.2 b e bE;have A:=H.o.1;have ab:=E.o.2.2;have bF:=i.size;exact⟨by omega,by omega⟩)
 clear aY c3 aZ a6 bx
 go_upto_region 34 with(first
  |(go_at_call 81;refine bw.o.mono ?_;rintro e bG ⟨I,t,rfl,a7,ae⟩;dsimp only;obtain⟨g,rfl,a8,a',af⟩:=bz.o I t bG a7 ae;have af:=aa af;have v:=aa (z_ ae (z_ a8 a'));clear a7 ae a8 a')
  |(go_at_call 85;refine af.o.mono ?_;rintro e J ⟨m,rfl,ba,ah⟩;dsimp only;have ak:=aa (aW.o.below (v.o.1.trans ah));have T:=aa (z_ ba ah);clear ba ah;have f2:=ak.o.free 2;have bb:=ak.o.cell 2;simp only[mY,y_,x_] at bb))
 have u:=aa (ak.o.set 2 (.slice (some ⟨g,0,none⟩) m t));have M:=u.o.cell 0;have N:=u.o.cell 1;have O:=u.o.cell 2;have P:=u.o.cell 3;have aQ:=u.o.free 0;have aR:=u.o.free 1;have aU:=u.o.free 2;have aV:=u.o.free 3;simp only[mY,List.set_cons_succ,List.set_cons_zero,y_,x_] at M N O P;clear f2 bb;have al:Below l.heap.size l J:=v.o.1.trans T.o.2;have bc:g<J.heap.size:=u_ v.o.2.2 T.o.2.size;have bd:=(D.o.below al).1;have bg:=bd.qC (g:=g) bc (by have:=D.o.e.box.lt;have:=v.o.2.1;omega) (λ r e=>by have:=(D.o.e.rows.lt e).2;have:=v.o.2.1;omega) (λ d ag e=>by have:=(D.o.e.cls d ag).lt;have:=v.o.2.1;omega);have ao:aC (λ b=>K b/\b≠bf) V J:=aX.o.trans ((aC.pY al D.o.s.lt).mono λ b i=>i.1);have bh:g≠bf:=by have:=aW.o.lt;have:=v.o.2.1;omega
 have hm:m<=1000:=by
  have h1:=T.o.1.len;have A:=List.length_filter_le (λ x=>hasB out x) ai;have ab:=z.o.x8;have bF:=z.o.GB;omega
 have aq:si aT gU base w0 G F ai n fL aI bf bu (qC K g) J hs cb s aB s.c.ag 2 none 0 0 (some ⟨g,0,none⟩) m t:=by
  have f0:aC gU V J:=ao.mono λ b i=>⟨f.o.rz b i,λ e=>f.o.tK (e▸i)⟩
  refine⟨λ b i=>.inl (f.o.rz b i),bg,f.o.iR.trans f0,f.o.jZ,.inl f.o.sF,f.o.tK,f.o.w5.kept (f0.mono λ b i=>i.1) rfl rfl,λ q bH=>((f.o.w6 q bH).iR (ao.mono λ b i=>i.1)).mono λ b i=>⟨⟨.inl i.1.1,i.1.2⟩,i.2⟩,f.o.w8,f.o.uV,f.o.nt,.inr (.inl ⟨rfl,rfl,ai.filter λ x=>hasB out x,T.o.1.wX (by omega),λ b e=>?_,List.filter_sublist,?_⟩)⟩
  ·injection e with e
   have e:g=b:=e;subst e;exact⟨⟨.inr rfl,bh⟩,bn.o _ (n_ f.o.iR.size (n_ aX.o.size v.o.2.1))⟩
  ·exact f.o.jZ.core (by rw[z.o.x8];exact Z.o.1) Z.o.2.1 L.o.1 L.o.2.2 L.o.2.1
 have aq:=aa aq;clear al bc bd bg ao bh hm
 go_wp2_with fail
 apply bl.o
 ·exact((((((aq.o.set 2 _).set 0 _).set 1 _).set 2 _).set 3 _))
 ·exact((((u.o.set 0 _).set 1 _).set 2 _).set 3 _)
structure DL(aT gU:Nat->Prop)(base:Nat)(w0:World)(G:Nat)(F:List (List Int))(ai:List Int)(n fL jv:Nat)(aI:an)(bf bu bC:Nat)(K:Nat->Prop)(cb:Nat->Nat)(aB kX:Nat)(oA:List Int)(hs:Nat->ax)(s:an)(next:Int)(W:World)(g:Nat):Prop where
 S:mI aT gU base w0 G F ai n fL jv aI bf bu K W hs cb s aB s.c.ag
 fix:s.c.ag=s.c.ay.length
 kS:s.c.kS=false
 aO:s.aO.length=kX
 ay:s.c.ay=oA
 MD:next=0\/(next≠0/\gW n next/\jW s.c next=0/\s.c.st.length<bC/\aj ai s.c.st.length=next)
 g:g=2*(bC-s.c.st.length)+(if next=0 then 1 else 0)
inductive ya(aT gU:Nat->Prop)(base:Nat)(w0:World)(G:Nat)(F:List (List Int))(ai:List Int)(n fL jv:Nat)(aI:an)(gG:Option Addr)(bC gJ bf bu:Nat)(K:Nat->Prop)(cb:Nat->Nat)(aB iT:Nat)(left:Int)(kX:Nat)(oA:List Int):Nat->Act->World->Prop
 |mk {hs:Nat->ax} {s:an} {next:Int} {g:Nat} {c5 jy iW gR gE gl gI gQ u16 gm gn gp gD gq gr gu gv gw gx gy gz fN fO fP u32 fQ fR fS fT fU fV fW fZ ga gb gd gA gB ig gX gY bM bN bO bP bQ bR bS bT bU bV bW bX bY bZ b5 u64 b6 b7 b8 b9 cc cg ck cm cn cp cr ct cu cv cw cz cA cB cC cD cE c7 c8 c9 dc de dh di dm cG cH cI cK cL cM cN cO cQ cR cS cT cU cV cW cZ c4 dn dr dw dx dy dz dA dB dD dF dG dH dI dJ dK dL dM dN dO dP dQ dR dS dU dV dW dX dY dZ ec fF fG fH ee ef ei ej ek en eo ep er eu ew ey fI fJ fK ez eA eB eC eD eE eF eG eH eL eM eN eO eP eR eS eT eU eV eW eX eY eZ e3 e4 e5 e6 e7 e8 e9 fc fe ff fh fk fm gh gi fo fq fu fA fB fC fD iB iC iD iE iF iG iH iI iJ iK iL iM jc jd je jf jg jh ji jj jM jN jO jP jQ jR:Value} {W:World} (h:DL aT gU base w0 G F ai n fL jv aI bf bu bC K cb aB kX oA hs s next W g):ya aT gU base w0 G F ai n fL jv aI gG bC gJ bf bu K cb aB iT left kX oA g {tmps:= #[.pointer (some ⟨G,0,none⟩),.slice gG bC gJ,.int .i64 (bu:Int),c5,jy,iW,.pointer (some ⟨bf,0,none⟩),.int .i64 (iT:Int),.int .i64 left,.int .i64 2000,gR,gE,gl,.int .i64 next,gI,gQ,u16,gm,gn,gp,gD,gq,gr,gu,gv,gw,gx,gy,gz,fN,fO,fP,u32,fQ,fR,fS,fT,fU,fV,fW,fZ,ga,gb,gd,gA,gB,ig,gX,gY,bM,bN,bO,bP,bQ,bR,bS,bT,bU,bV,bW,bX,bY,bZ,b5,u64,b6,b7,b8,b9,cc,cg,ck,cm,cn,cp,cr,ct,cu,cv,cw,cz,cA,cB,cC,cD,cE,c7,c8,c9,dc,de,dh,di,dm,cG,cH,cI,cK,cL,cM,cN,cO,cQ,cR,cS,cT,cU,cV,cW,cZ,c4,dn,dr,dw,dx,dy,dz,dA,dB,dD,dF,dG,dH,dI,dJ,dK,dL,dM,dN,dO,dP,dQ,dR,dS,dU,dV,dW,dX,dY,dZ,ec,fF,fG,fH,ee,ef,ei,ej,ek,en,eo,ep,er,eu,ew,ey,fI,fJ,fK,ez,eA,eB,eC,eD,eE,eF,eG,eH,eL,eM,eN,eO,eP,eR,eS,eT,eU,eV,eW,eX,eY,eZ,e3,e4,e5,e6,e7,e8,e9,fc,fe,ff,fh,fk,fm,gh,gi,fo,fq,fu,fA,fB,fC,fD,iB,iC,iD,iE,iF,iG,iH,iI,iJ,iK,iL,iM,jc,jd,je,jf,jg,jh,ji,jj,jM,jN,jO,jP,jQ,jR],defers:=[]} W
theorem ya.elim(b:ya aT gU base w0 G F ai n fL jv aI gG bC gJ bf bu K cb aB iT left kX oA g a W){P:Prop}
  (k:∀{hs:Nat->ax}{s:an}{next:Int}{c d e f i j l m u16 o p q r t u v w y z A B C D E u32 H I J L M N O Q R S T U V X Y Z aa ab ad ae af ag ah aj ak al ao aq ar au av u64 aw ay az aA aC aD aE aF aG aH aJ aK aL aM aN aO aP aQ aR aS aU aV aW aX aY aZ a6 a7 a8 a' ba bb bc bd bg bh bj bk bl bn bo bp bq br bs bt bw bx bz bA bB bD bE bF bG bH bI bJ bK bL bM bN bO bP bQ bR bS bT bU bV bW bX bY bZ b0 b1 b2 b3 b4 b5 b6 b7 b8 b9 b' ca cc cd cf cg ch cj ck cm cn cp cq cr ct cu cv cw cx cy cz cA cB cC cD cE cF cG cH cI cJ cK cL cM cN cO cP cQ cR cS cT cU cV cW cX cY cZ c0 c4 c5 c6 c7 c8 c9 da db dc dd de df dh di dj dk dm dn dp dq dr dt du dv dw dx dy dz dA dB dC dD dE:Value},a={tmps:= #[.pointer (some ⟨G,0,none⟩),.slice gG bC gJ,.int .i64 (bu:Int),c,d,e,.pointer (some ⟨bf,0,none⟩),.int .i64 (iT:Int),.int .i64 left,.int .i64 2000,f,i,j,.int .i64 next,l,m,u16,o,p,q,r,t,u,v,w,y,z,A,B,C,D,E,u32,H,I,J,L,M,N,O,Q,R,S,T,U,V,X,Y,Z,aa,ab,ad,ae,af,ag,ah,aj,ak,al,ao,aq,ar,au,av,u64,aw,ay,az,aA,aC,aD,aE,aF,aG,aH,aJ,aK,aL,aM,aN,aO,aP,aQ,aR,aS,aU,aV,aW,aX,aY,aZ,a6,a7,a8,a',ba,bb,bc,bd,bg,bh,bj,bk,bl,bn,bo,bp,bq,br,bs,bt,bw,bx,bz,bA,bB,bD,bE,bF,bG,bH,bI,bJ,bK,bL,bM,bN,bO,bP,bQ,bR,bS,bT,bU,bV,bW,bX,bY,bZ,b0,b1,b2,b3,b4,b5,b6,b7,b8,b9,b',ca,cc,cd,cf,cg,ch,cj,ck,cm,cn,cp,cq,cr,ct,cu,cv,cw,cx,cy,cz,cA,cB,cC,cD,cE,cF,cG,cH,cI,cJ,cK,cL,cM,cN,cO,cP,cQ,cR,cS,cT,cU,cV,cW,cX,cY,cZ,c0,c4,c5,c6,c7,c8,c9,da,db,dc,dd,de,df,dh,di,dj,dk,dm,dn,dp,dq,dr,dt,du,dv,dw,dx,dy,dz,dA,dB,dC,dD,dE],defers:=[]}->DL aT gU base w0 G F ai n fL jv aI bf bu bC K cb aB kX oA hs s next W g->P):P:=by
 cases b with
 |mk h=>exact k rfl h
noncomputable def ME:Code:=(Tryz.f99.body.bind λ c=>qj c 2).getD .skip
theorem BV(l:List Nat):(l.map λ k:Nat=>(k:Int)).map (s_ .i64)=qc l:=by unfold qc;rw[List.map_map];rfl
theorem MF{aT gU:Nat->Prop}{base:Nat}{w0:World}{G:Nat}{F:List (List Int)}{ai:List Int}{n fL jv:Nat}{aI:an}{gG:Option Addr}{bC gJ bf bu:Nat}{K:Nat->Prop}{W:World}{hs:Nat->ax}{cb:Nat->Nat}{s:an}{aB iT:Nat}{left:Int}{c5 jy iW gR gE gl gI gQ u16 gm gn gp gD gq gr gu gv gw gx gy gz fN fO fP u32 fQ fR fS fT fU fV fW fZ ga gb gd gA gB ig gX gY bM bN bO bP bQ bR bS bT bU bV bW bX bY bZ b5 u64 b6 b7 b8 b9 cc cg ck cm cn cp cr ct cu cv cw cz cA cB cC cD cE c7 c8 c9 dc de dh di dm cG cH cI cK cL cM cN cO cQ cR cS cT cU cV cW cZ c4 dn dr dw dx dy dz dA dB dD dF dG dH dI dJ dK dL dM dN dO dP dQ dR dS dU dV dW dX dY dZ ec fF fG fH ee ef ei ej ek en eo ep er eu ew ey fI fJ fK ez eA eB eC eD eE eF eG eH eL eM eN eO eP eR eS eT eU eV eW eX eY eZ e3 e4 e5 e6 e7 e8 e9 fc fe ff fh fk fm gh gi fo fq fu fA fB fC fD iB iC iD iE iF iG iH iI iJ iK iL iM jc jd je jf jg jh ji jj jM jN jO jP jQ jR:Value}{Q:Exit->Act->World->Prop}
  (C:sg aT gU w0 F ai n fL jv aI gG bC gJ bu) (S:mI aT gU base w0 G F ai n fL jv aI bf bu K W hs cb s aB s.c.ag) (N:s.c.ag=s.c.ay.length) (O:s.c.kS=false)
  (P:∀(hs:Nat->ax)(s':an)(next:Int)(c5 jy iW gR gE gl gI gQ u16 gm gn gp gD gq gr gu gv gw gx gy gz fN fO fP u32 fQ fR fS fT fU fV fW fZ ga gb gd gA gB ig gX gY bM bN bO bP bQ bR bS bT bU bV bW bX bY bZ b5 u64 b6 b7 b8 b9 cc cg ck cm cn cp cr ct cu cv cw cz cA cB cC cD cE c7 c8 c9 dc de dh di dm cG cH cI cK cL cM cN cO cQ cR cS cT cU cV cW cZ c4 dn dr dw dx dy dz dA dB dD dF dG dH dI dJ dK dL dM dN dO dP dQ dR dS dU dV dW dX dY dZ ec fF fG fH ee ef ei ej ek en eo ep er eu ew ey fI fJ fK ez eA eB eC eD eE eF eG eH eL eM eN eO eP eR eS eT eU eV eW eX eY eZ e3 e4 e5 e6 e7 e8 e9 fc fe ff fh fk fm gh gi fo fq fu fA fB fC fD iB iC iD iE iF iG iH iI iJ iK iL iM jc jd je jf jg jh ji jj jM jN jO jP jQ jR:Value)(W':World),mI aT gU base w0 G F ai n fL jv aI bf bu K W' hs cb s' aB s'.c.ag->s'.c.ag=s'.c.ay.length->s'.c.kS=false->s'.aO.length=s.aO.length->s'.c.ay=s.c.ay->((next=0/\bC<=s'.c.st.length)\/(next≠0/\gW n next/\jW s'.c next=0/\s'.c.st.length<bC/\aj ai s'.c.st.length=next))->Q (.exit 2) {tmps:= #[.pointer (some ⟨G,0,none⟩),.slice gG bC gJ,.int .i64 (bu:Int),c5,jy,iW,.pointer (some ⟨bf,0,none⟩),.int .i64 (iT:Int),.int .i64 left,.int .i64 2000,gR,gE,gl,.int .i64 next,gI,gQ,u16,gm,gn,gp,gD,gq,gr,gu,gv,gw,gx,gy,gz,fN,fO,fP,u32,fQ,fR,fS,fT,fU,fV,fW,fZ,ga,gb,gd,gA,gB,ig,gX,gY,bM,bN,bO,bP,bQ,bR,bS,bT,bU,bV,bW,bX,bY,bZ,b5,u64,b6,b7,b8,b9,cc,cg,ck,cm,cn,cp,cr,ct,cu,cv,cw,cz,cA,cB,cC,cD,cE,c7,c8,c9,dc,de,dh,di,dm,cG,cH,cI,cK,cL,cM,cN,cO,cQ,cR,cS,cT,cU,cV,cW,cZ,c4,dn,dr,dw,dx,dy,dz,dA,dB,dD,dF,dG,dH,dI,dJ,dK,dL,dM,dN,dO,dP,dQ,dR,dS,dU,dV,dW,dX,dY,dZ,ec,fF,fG,fH,ee,ef,ei,ej,ek,en,eo,ep,er,eu,ew,ey,fI,fJ,fK,ez,eA,eB,eC,eD,eE,eF,eG,eH,eL,eM,eN,eO,eP,eR,eS,eT,eU,eV,eW,eX,eY,eZ,e3,e4,e5,e6,e7,e8,e9,fc,fe,ff,fh,fk,fm,gh,gi,fo,fq,fu,fA,fB,fC,fD,iB,iC,iD,iE,iF,iG,iH,iI,iJ,iK,iL,iM,jc,jd,je,jf,jg,jh,ji,jj,jM,jN,jO,jP,jQ,jR],defers:=[]} W')
  (R:∀(K:Nat->Prop)(hs:Nat->ax)(cb:Nat->Nat)(s':an)(h':Nat)(T:Option Addr)(U V:Nat)(c5 jy iW gR gE gl aF gI gQ u16 gm gn gp gD gq gr gu gv gw gx gy gz fN fO fP u32 fQ fR fS fT fU fV fW fZ ga gb gd gA gB ig gX gY bM bN bO bP bQ bR bS bT bU bV bW bX bY bZ b5 u64 b6 b7 b8 b9 cc cg ck cm cn cp cr ct cu cv cw cz cA cB cC cD cE c7 c8 c9 dc de dh di dm cG cH cI cK cL cM cN cO cQ cR cS cT cU cV cW cZ c4 dn dr dw dx dy dz dA dB dD dF dG dH dI dJ dK dL dM dN dO dP dQ dR dS dU dV dW dX dY dZ ec fF fG fH ee ef ei ej ek en eo ep er eu ew ey fI fJ fK ez eA eB eC eD eE eF eG eH eL eM eN eO eP eR eS eT eU eV eW eX eY eZ e3 e4 e5 e6 e7 e8 e9 fc fe ff fh fk fm gh gi fo fq fu fA fB fC fD iB iC iD iE iF iG iH iI iJ iK iL iM jc jd je jf jg jh ji jj jM jN jO jP jQ jR:Value)(W':World),si aT gU base w0 G F ai n fL aI bf bu K W' hs cb s' aB h' 2 none 0 0 T U V->aN W' bf 30 [.int .i64 2,mY,.slice T U V,.int .i64 (aB:Int)]->Q .ret {tmps:= #[.pointer (some ⟨G,0,none⟩),.slice gG bC gJ,.int .i64 (bu:Int),c5,jy,iW,.pointer (some ⟨bf,0,none⟩),.int .i64 (iT:Int),.int .i64 left,.int .i64 2000,gR,gE,gl,aF,gI,gQ,u16,gm,gn,gp,gD,gq,gr,gu,gv,gw,gx,gy,gz,fN,fO,fP,u32,fQ,fR,fS,fT,fU,fV,fW,fZ,ga,gb,gd,gA,gB,ig,gX,gY,bM,bN,bO,bP,bQ,bR,bS,bT,bU,bV,bW,bX,bY,bZ,b5,u64,b6,b7,b8,b9,cc,cg,ck,cm,cn,cp,cr,ct,cu,cv,cw,cz,cA,cB,cC,cD,cE,c7,c8,c9,dc,de,dh,di,dm,cG,cH,cI,cK,cL,cM,cN,cO,cQ,cR,cS,cT,cU,cV,cW,cZ,c4,dn,dr,dw,dx,dy,dz,dA,dB,dD,dF,dG,dH,dI,dJ,dK,dL,dM,dN,dO,dP,dQ,dR,dS,dU,dV,dW,dX,dY,dZ,ec,fF,fG,fH,ee,ef,ei,ej,ek,en,eo,ep,er,eu,ew,ey,fI,fJ,fK,ez,eA,eB,eC,eD,eE,eF,eG,eH,eL,eM,eN,eO,eP,eR,eS,eT,eU,eV,eW,eX,eY,eZ,e3,e4,e5,e6,e7,e8,e9,fc,fe,ff,fh,fk,fm,gh,gi,fo,fq,fu,fA,fB,fC,fD,iB,iC,iD,iE,iF,iG,iH,iI,iJ,iK,iL,iM,jc,jd,je,jf,jg,jh,ji,jj,jM,jN,jO,jP,jQ,jR],defers:=[]} W'):
  o_ w_ ME Q {tmps:= #[.pointer (some ⟨G,0,none⟩),.slice gG bC gJ,.int .i64 (bu:Int),c5,jy,iW,.pointer (some ⟨bf,0,none⟩),.int .i64 (iT:Int),.int .i64 left,.int .i64 2000,gR,gE,gl,.int .i64 0,gI,gQ,u16,gm,gn,gp,gD,gq,gr,gu,gv,gw,gx,gy,gz,fN,fO,fP,u32,fQ,fR,fS,fT,fU,fV,fW,fZ,ga,gb,gd,gA,gB,ig,gX,gY,bM,bN,bO,bP,bQ,bR,bS,bT,bU,bV,bW,bX,bY,bZ,b5,u64,b6,b7,b8,b9,cc,cg,ck,cm,cn,cp,cr,ct,cu,cv,cw,cz,cA,cB,cC,cD,cE,c7,c8,c9,dc,de,dh,di,dm,cG,cH,cI,cK,cL,cM,cN,cO,cQ,cR,cS,cT,cU,cV,cW,cZ,c4,dn,dr,dw,dx,dy,dz,dA,dB,dD,dF,dG,dH,dI,dJ,dK,dL,dM,dN,dO,dP,dQ,dR,dS,dU,dV,dW,dX,dY,dZ,ec,fF,fG,fH,ee,ef,ei,ej,ek,en,eo,ep,er,eu,ew,ey,fI,fJ,fK,ez,eA,eB,eC,eD,eE,eF,eG,eH,eL,eM,eN,eO,eP,eR,eS,eT,eU,eV,eW,eX,eY,eZ,e3,e4,e5,e6,e7,e8,e9,fc,fe,ff,fh,fk,fm,gh,gi,fo,fq,fu,fA,fB,fC,fD,iB,iC,iD,iE,iF,iG,iH,iI,iJ,iK,iL,iM,jc,jd,je,jf,jg,jh,ji,jj,jM,jN,jO,jP,jQ,jR],defers:=[]} W:=by
 have z:=aa P;have aG:=aa R;have i:=aa C;have X:DL aT gU base w0 G F ai n fL jv aI bf bu bC K cb aB s.aO.length s.c.ay hs s 0 W (2*(bC-s.c.st.length)+1):=⟨S,N,O,rfl,rfl,.inl rfl,by rw[if_pos rfl]⟩
 clear P R C S N O
 conv=>arg 2;whnf
 dsimp only;refine p_ (ya aT gU base w0 G F ai n fL jv aI gG bC gJ bf bu K cb aB iT left s.aO.length s.c.ay) (2*(bC-s.c.st.length)+1) ?start ?round
 case start=>exact ya.mk X
 case round=>
  clear X;obtain⟨bb,Y⟩:∃t,s.aO.length=t:=⟨_,rfl⟩
  obtain⟨bc,Z⟩:∃t,s.c.ay=t:=⟨_,rfl⟩
  rw[Y,Z] at z⊢;clear Y Z W hs s;intro g a W ab bd aH ad ae;refine ab.elim ?_;intro hs s next c5 jy iW gR gE gl gI gQ u16 gm gn gp gD gq gr gu gv gw gx gy gz fN fO fP u32 fQ fR fS fT fU fV fW fZ ga gb gd gA gB ig gX gY bM bN bO bP bQ bR bS bT bU bV bW bX bY bZ b5 u64 b6 b7 b8 b9 cc cg ck cm cn cp cr ct cu cv cw cz cA cB cC cD cE c7 c8 c9 dc de dh di dm cG cH cI cK cL cM cN cO cQ cR cS cT cU cV cW cZ c4 dn dr dw dx dy dz dA dB dD dF dG dH dI dJ dK dL dM dN dO dP dQ dR dS dU dV dW dX dY dZ ec fF fG fH ee ef ei ej ek en eo ep er eu ew ey fI fJ fK ez eA eB eC eD eE eF eG eH eL eM eN eO eP eR eS eT eU eV eW eX eY eZ e3 e4 e5 e6 e7 e8 e9 fc fe ff fh fk fm gh gi fo fq fu fA fB fC fD iB iC iD iE iF iG iH iI iJ iK iL iM jc jd je jf jg jh ji jj jM jN jO jP jQ jR j H
  clear ab;subst j;have b:=aa H;have af:=aa ad;have ah:=aa ae;have ak:=aa (H.S.mT i.o);obtain⟨q,jX,r,u⟩:∃A n c,hs 5=⟨A,n,c⟩:=⟨_,_,_,rfl⟩
  have bg:W.cell? ⟨G,6,none⟩=some (.slice q jX r):=by have:=H.S.gH.e.ku (k:=6) (v:=(hs 5).v) rfl;rw[u] at this;exact this
  have al:jX=s.c.st.length:=by have:=H.S.gH.e.jX;rw[u] at this;exact this
  have f:=aa (z_ u al);clear u al ad ae
  by_cases B:next=0
  ·subst B;clear H
   by_cases l:jX<bC
   ·have D:(jX:Int)<(bC:Int):=by omega
    have d5:decide ((jX:Int)<(bC:Int))=true:=decide_eq_true D;obtain⟨bh,bj,rfl,aJ,ao⟩:=(b.o.S.GF i.o).cells (by omega);obtain⟨p,hp⟩:∃p,j8 ai jX=p:=⟨_,rfl⟩
    have aK:=ao jX l;rw[hp] at aK;have E:aj ai jX=p:=hp;have aq:p∈ai:=by rw[<-E];exact lZ (by rw[i.o.x8];exact l)
    have I:=i.o.Md p aq;have w:=aa (Bw b.o.S.gH b.o.S.jZ.gP.aL (by have:=ak.o;omega) (x:=p) (by rw[b.o.S.jZ.rg.jt];exact I));obtain⟨t,J⟩:∃t,jW s.c p=t:=⟨_,rfl⟩
    have ar:=b.o.S.jZ.gP.aL.range p;rw[J] at w ar;have d:=aa (z_ l (z_ E (z_ I J)));clear l hp E aq I J ao aJ;rcases ar with rfl|rfl|rfl
    ·
     go_wp2_with (go_at_call 152;refine w.o.mono ?_;rintro e w1 ⟨rfl,rfl⟩;dsimp only)
     have au:p≠0:=d.o.2.2.1.oE;refine ah.o _ _ (t_ (2*(bC-s.c.st.length)) ?_ (af.o _ _ _ (ya.mk (hs:=hs) (s:=s) (next:=p) ⟨b.o.S,b.o.fix,b.o.kS,b.o.aO,b.o.ay,.inr ⟨au,d.o.2.2.1,d.o.2.2.2,?_,?_⟩,?_⟩)))
     ·have:=b.o.g;rw[if_pos rfl] at this;omega
     ·rw[<-f.o.2];exact d.o.1
     ·rw[<-f.o.2];exact d.o.2.1
     ·rw[if_neg au];rfl
    ·
     obtain⟨av,j5,aw,y⟩:∃A n c,hs 4=⟨A,n,c⟩:=⟨_,_,_,rfl⟩
     have bk:W.cell? ⟨G,5,none⟩=some (.slice av j5 aw):=by have:=b.o.S.gH.e.ku (k:=5) (v:=(hs 4).v) rfl;rw[y] at this;exact this
     have az:j5=s.c.ay.length:=by have:=b.o.S.gH.e.j5;rw[y] at this;exact this
     have aA:=aa (z_ az y);clear y az
     go_upto_region 29 with(go_at_call 152;refine w.o.mono ?_;rintro e w1 ⟨rfl,rfl⟩;dsimp only)
     have m:=aa (b.o.S.gH.below ((bB W (.cells #[.int .i64 (j5:Int)] 3)).drew));have aM:fE (((W.alloc (.cells #[.int .i64 (j5:Int)] 3)).drew).ownsRow base 3 1 (.slice q jX r) jX ((s.c.st.map λ k:Nat=>(k:Int)).map (s_ .i64))):=aa (by
      have h1:=m.o.1.e.rows.row 5;rw[f.o.1] at h1;rw[BV];exact h1)
     have aP:=aa (Nat.le_of_lt m.o.1.e.lt);have aQ:fE (jX<=1100):=aa (by have:=ak.o;have:=f.o.2;omega);have aR:fE (∀v9 bG,nW ((W.alloc (.cells #[.int .i64 (j5:Int)] 3)).drew) base 3 (.slice q jX r) (jX+1) (((s.c.st.map λ k:Nat=>(k:Int))++[(j5:Int)]).map (s_ .i64)) v9 bG->nW ((W.alloc (.cells #[.int .i64 (j5:Int)] 3)).drew) base 3 (hs 5).v (s.c.st.length+1) (qc (s.c.st++[j5])) v9 bG):=aa (λ v9 bG j=>by
      rw[f.o.1,<-f.o.2,<-BV,List.map_append];exact j)
     have L:=m.o.1.e.ku (k:=6) (v:=(hs 5).v) rfl;have M:=m.o.1.e.ku (k:=5) (v:=(hs 4).v) rfl;rw[f.o.1] at L;rw[aA.o.2] at M;have L:((W.alloc (.cells #[.int .i64 (j5:Int)] 3)).drew).cell? ⟨G,6,none⟩=some (.slice q jX r):=L;have M:((W.alloc (.cells #[.int .i64 (j5:Int)] 3)).drew).cell? ⟨G,5,none⟩=some (.slice av j5 aw):=M;refine wp_region_noPanic ?_
     go_region_law (refine EF rfl (.tmp 131) (.tmp 137) rfl base (.slice q jX r) jX (s.c.st.map λ k:Nat=>(k:Int)) rfl aM.o (some ⟨W.heap.size,0,none⟩) 1 1 [(j5:Int)] rfl ((aS.lit W [(j5:Int)] 1 _ rfl rfl (by omega)).drew) (by have:=aQ.o;omega) aP.o ?_;intro v9 bG j;obtain⟨⟨A',aU,c'⟩,aV,bl,bn,f9,aC,aW⟩:=aX.FA (x:=j5) m.o.1 (aR.o v9 bG j);obtain rfl:v9=.slice A' aU c':=aV;clear j)
     all_goals
      have aY:p∈s.c.ay:=(b.o.S.jZ.gP.aL.pos p (by rw[b.o.S.jZ.rg.jt];exact d.o.2.2.1)).1 d.o.2.2.2;have aZ:=b.o.S.jZ.level b.o.fix b.o.kS (by rw[i.o.x8,<-f.o.2];exact d.o.1) (by rw[<-f.o.2,d.o.2.1];exact aY);rw[aA.o.1] at aC;have a6:=b.o.S.move (s':={s with c:=nk s.c}) aC (m.o.2.trans aW) aZ rfl rfl rfl;show aH _ _;refine ah.o _ _ (t_ (2*(bC-(s.c.st.length+1))+1) ?_ (af.o _ _ _ (ya.mk (s:={s with c:=nk s.c}) (next:=0) ⟨a6,b.o.fix,b.o.kS,b.o.aO,b.o.ay,.inl rfl,?_⟩)))
      ·have h1:=b.o.g;rw[if_pos rfl] at h1;have bo:=d.o.1;have bp:=f.o.2;omega
      ·rw[if_pos rfl];show _=2*(bC-(s.c.st++[s.c.ay.length]).length)+1;rw[r_];rfl
    ·
     have aD: -p∈s.c.ay:=(b.o.S.jZ.gP.aL.xJ (by rw[b.o.S.jZ.rg.jt];exact d.o.2.2.1)).1 d.o.2.2.2;have a7:=aa aD;clear aD
     go_upto_region 30 with(go_at_call 152;refine w.o.mono ?_;rintro e w1 ⟨rfl,rfl⟩;dsimp only)
     rename_i bq aE;have a8:=aa aE;clear aE
     go_wp2_with fail
     apply a8.o;refine wp_cond (t:=true) rfl ?_;rw[if_pos rfl];refine MC i.o b.o.S (by rw[<-f.o.2];exact d.o.1) (by rw[<-f.o.2];exact d.o.2.1) d.o.2.2.1 a7.o ?_;exact aG.o
   ·have D:¬(jX:Int)<(bC:Int):=by omega
    have d5:decide ((jX:Int)<(bC:Int))=false:=decide_eq_false D;have a':=aa l;clear l
    go_wp2_with fail
    apply z.o hs s 0
    ·exact b.o.S
    ·exact b.o.fix
    ·exact b.o.kS
    ·exact b.o.aO
    ·exact b.o.ay
    ·exact .inl ⟨rfl,by have:=a'.o;have:=f.o.2;omega⟩
  ·have br:decide (next=0)=false:=decide_eq_false B;have ba:fE (next≠0/\gW n next/\jW s.c next=0/\s.c.st.length<bC/\aj ai s.c.st.length=next):=aa (by
    rcases H.MD with h|h
    ·exact absurd h B
    ·exact h)
   clear H
   go_wp2_with fail
   apply z.o hs s next
   ·exact b.o.S
   ·exact b.o.fix
   ·exact b.o.kS
   ·exact b.o.aO
   ·exact b.o.ay
   ·exact .inr ba.o
theorem mm.ord{sp:Nat}(S:mm F ai n fL s sp h){o p:List Int}(b:me n o p)(d:∀v:Nat,1<=v->v<=n->aj s.c.val v=0->0<=aj p v):mm F ai n fL {s with ord:=o,pl:=p} sp h:=
 ⟨S.gP,⟨S.rg.jt,b,S.rg.k5,S.rg.qf,S.rg.a0,S.rg.ru,S.rg.oH,S.rg.nE,S.rg.oS,S.rg.nF,S.rg.pZ,S.rg.kX⟩,S.vL,S.lb,d,S.aP,S.wR,S.pN,S.yF,S.v0,S.qD⟩
structure DM(aT gU:Nat->Prop)(base:Nat)(w0:World)(G:Nat)(F:List (List Int))(ai:List Int)(n fL jv:Nat)(aI:an)(bf bu:Nat)(K:Nat->Prop)(cb:Nat->Nat)(aB kX:Nat)(oA:List Int)(hs:Nat->ax)(s1:an)(next:Int)(W:World):Prop where
 old:∃(kJ:World)(vS:Nat->ax)(s':an),mI aT gU base w0 G F ai n fL jv aI bf bu K kJ vS cb s' aB s'.c.ag/\aC K kJ W/\s1={s' with ord:=s1.ord,pl:=s1.pl}
 gH:aX K base W G hs cb s1
 fix:s1.c.ag=s1.c.ay.length
 kS:s1.c.kS=false
 aO:s1.aO.length=kX
 ay:s1.c.ay=oA
 lR:me n s1.ord s1.pl
 l5:∀v:Nat,1<=v->v<=n->aj s1.c.val v=0->v≠aG next->0<=aj s1.pl v
 jY:next≠0
 nl:gW n next
 ql:jW s1.c next=0
 Ak:s1.c.st.length<ai.length->next=aj ai s1.c.st.length
structure Al(aT gU:Nat->Prop)(base:Nat)(w0:World)(G:Nat)(F:List (List Int))(ai:List Int)(n fL jv:Nat)(aI:an)(bf bu:Nat)(K:Nat->Prop)(cb:Nat->Nat)(aB kX:Nat)(oA:List Int)(hs:Nat->ax)(s:an)(next:Int)(W:World)(g:Nat):Prop where
 no:next=0->mI aT gU base w0 G F ai n fL jv aI bf bu K W hs cb s aB s.c.ag/\s.c.ag=s.c.ay.length/\s.c.kS=false/\s.aO.length=kX/\s.c.ay=oA/\ai.length<=s.c.st.length
 yes:next≠0->DM aT gU base w0 G F ai n fL jv aI bf bu K cb aB kX oA hs s next W
 gH:aX K base W G hs cb s
 g:g=s.ord.length+(if next=0 then 1 else 0)
inductive xe(aT gU:Nat->Prop)(base:Nat)(w0:World)(G:Nat)(F:List (List Int))(ai:List Int)(n fL jv:Nat)(aI:an)(gG:Option Addr)(bC gJ bf bu:Nat)(K:Nat->Prop)(cb:Nat->Nat)(aB iT:Nat)(left:Int)(kX:Nat)(oA:List Int):Nat->Act->World->Prop
 |mk {hs:Nat->ax} {s:an} {next:Int} {g:Nat} {c5 jy iW gR gE gl gI gQ u16 gm gn gp gD gq gr gu gv gw gx gy gz fN fO fP u32 fQ fR fS fT fU fV fW fZ ga gb gd gA gB ig gX gY bM bN bO bP bQ bR bS bT bU bV bW bX bY bZ b5 u64 b6 b7 b8 b9 cc cg ck cm cn cp cr ct cu cv cw cz cA cB cC cD cE c7 c8 c9 dc de dh di dm cG cH cI cK cL cM cN cO cQ cR cS cT cU cV cW cZ c4 dn dr dw dx dy dz dA dB dD dF dG dH dI dJ dK dL dM dN dO dP dQ dR dS dU dV dW dX dY dZ ec fF fG fH ee ef ei ej ek en eo ep er eu ew ey fI fJ fK ez eA eB eC eD eE eF eG eH eL eM eN eO eP eR eS eT eU eV eW eX eY eZ e3 e4 e5 e6 e7 e8 e9 fc fe ff fh fk fm gh gi fo fq fu fA fB fC fD iB iC iD iE iF iG iH iI iJ iK iL iM jc jd je jf jg jh ji jj jM jN jO jP jQ jR:Value} {W:World} (h:Al aT gU base w0 G F ai n fL jv aI bf bu K cb aB kX oA hs s next W g):xe aT gU base w0 G F ai n fL jv aI gG bC gJ bf bu K cb aB iT left kX oA g {tmps:= #[.pointer (some ⟨G,0,none⟩),.slice gG bC gJ,.int .i64 (bu:Int),c5,jy,iW,.pointer (some ⟨bf,0,none⟩),.int .i64 (iT:Int),.int .i64 left,.int .i64 2000,gR,gE,gl,.int .i64 next,gI,gQ,u16,gm,gn,gp,gD,gq,gr,gu,gv,gw,gx,gy,gz,fN,fO,fP,u32,fQ,fR,fS,fT,fU,fV,fW,fZ,ga,gb,gd,gA,gB,ig,gX,gY,bM,bN,bO,bP,bQ,bR,bS,bT,bU,bV,bW,bX,bY,bZ,b5,u64,b6,b7,b8,b9,cc,cg,ck,cm,cn,cp,cr,ct,cu,cv,cw,cz,cA,cB,cC,cD,cE,c7,c8,c9,dc,de,dh,di,dm,cG,cH,cI,cK,cL,cM,cN,cO,cQ,cR,cS,cT,cU,cV,cW,cZ,c4,dn,dr,dw,dx,dy,dz,dA,dB,dD,dF,dG,dH,dI,dJ,dK,dL,dM,dN,dO,dP,dQ,dR,dS,dU,dV,dW,dX,dY,dZ,ec,fF,fG,fH,ee,ef,ei,ej,ek,en,eo,ep,er,eu,ew,ey,fI,fJ,fK,ez,eA,eB,eC,eD,eE,eF,eG,eH,eL,eM,eN,eO,eP,eR,eS,eT,eU,eV,eW,eX,eY,eZ,e3,e4,e5,e6,e7,e8,e9,fc,fe,ff,fh,fk,fm,gh,gi,fo,fq,fu,fA,fB,fC,fD,iB,iC,iD,iE,iF,iG,iH,iI,iJ,iK,iL,iM,jc,jd,je,jf,jg,jh,ji,jj,jM,jN,jO,jP,jQ,jR],defers:=[]} W
theorem xe.elim(b:xe aT gU base w0 G F ai n fL jv aI gG bC gJ bf bu K cb aB iT left kX oA g a W){P:Prop}
  (k:∀{hs:Nat->ax}{s:an}{next:Int}{c d e f i j l m u16 o p q r t u v w y z A B C D E u32 H I J L M N O Q R S T U V X Y Z aa ab ad ae af ag ah aj ak al ao aq ar au av u64 aw ay az aA aC aD aE aF aG aH aJ aK aL aM aN aO aP aQ aR aS aU aV aW aX aY aZ a6 a7 a8 a' ba bb bc bd bg bh bj bk bl bn bo bp bq br bs bt bw bx bz bA bB bD bE bF bG bH bI bJ bK bL bM bN bO bP bQ bR bS bT bU bV bW bX bY bZ b0 b1 b2 b3 b4 b5 b6 b7 b8 b9 b' ca cc cd cf cg ch cj ck cm cn cp cq cr ct cu cv cw cx cy cz cA cB cC cD cE cF cG cH cI cJ cK cL cM cN cO cP cQ cR cS cT cU cV cW cX cY cZ c0 c4 c5 c6 c7 c8 c9 da db dc dd de df dh di dj dk dm dn dp dq dr dt du dv dw dx dy dz dA dB dC dD dE:Value},a={tmps:= #[.pointer (some ⟨G,0,none⟩),.slice gG bC gJ,.int .i64 (bu:Int),c,d,e,.pointer (some ⟨bf,0,none⟩),.int .i64 (iT:Int),.int .i64 left,.int .i64 2000,f,i,j,.int .i64 next,l,m,u16,o,p,q,r,t,u,v,w,y,z,A,B,C,D,E,u32,H,I,J,L,M,N,O,Q,R,S,T,U,V,X,Y,Z,aa,ab,ad,ae,af,ag,ah,aj,ak,al,ao,aq,ar,au,av,u64,aw,ay,az,aA,aC,aD,aE,aF,aG,aH,aJ,aK,aL,aM,aN,aO,aP,aQ,aR,aS,aU,aV,aW,aX,aY,aZ,a6,a7,a8,a',ba,bb,bc,bd,bg,bh,bj,bk,bl,bn,bo,bp,bq,br,bs,bt,bw,bx,bz,bA,bB,bD,bE,bF,bG,bH,bI,bJ,bK,bL,bM,bN,bO,bP,bQ,bR,bS,bT,bU,bV,bW,bX,bY,bZ,b0,b1,b2,b3,b4,b5,b6,b7,b8,b9,b',ca,cc,cd,cf,cg,ch,cj,ck,cm,cn,cp,cq,cr,ct,cu,cv,cw,cx,cy,cz,cA,cB,cC,cD,cE,cF,cG,cH,cI,cJ,cK,cL,cM,cN,cO,cP,cQ,cR,cS,cT,cU,cV,cW,cX,cY,cZ,c0,c4,c5,c6,c7,c8,c9,da,db,dc,dd,de,df,dh,di,dj,dk,dm,dn,dp,dq,dr,dt,du,dv,dw,dx,dy,dz,dA,dB,dC,dD,dE],defers:=[]}->Al aT gU base w0 G F ai n fL jv aI bf bu K cb aB kX oA hs s next W g->P):P:=by
 cases b with
 |mk h=>exact k rfl h
noncomputable def MG:Code:=(Tryz.f99.body.bind λ c=>qj c 5).getD .skip
theorem MH{aT gU:Nat->Prop}{base:Nat}{w0:World}{G:Nat}{F:List (List Int)}{ai:List Int}{n fL jv:Nat}{aI:an}{gG:Option Addr}{bC gJ bf bu:Nat}{K:Nat->Prop}{W:World}{hs:Nat->ax}{cb:Nat->Nat}{s:an}{aB iT kX:Nat}{oA:List Int}{left next g0:Int}{g:Nat}{c5 jy iW gR gE gl gI gQ u16 gm gn gp gD gq gr gu gv gw gx gy gz fN fO fP u32 fQ fR fS fT fU fV fW fZ ga gb gd gA gB ig gX gY bM bN bO bP bQ bR bS bT bU bV bW bX bY bZ b5 u64 b6 b7 b8 b9 cc cg ck cm cn cp cr ct cu cv cw cz cA cB cC cD cE c7 c8 c9 dc de dh di dm cG cH cI cK cL cM cN cO cQ cR cS cT cU cV cW cZ c4 dn dr dw dx dy dz dA dB dD dF dG dH dI dJ dK dL dM dN dO dP dQ dR dS dU dV dW dX dY dZ ec fF fG fH ee ef ei ej ek en eo ep er eu ew ey fI fJ fK ez eA eB eC eD eE eF eG eH eL eM eN eO eP eR eS eT eU eV eW eX eY eZ e3 e4 e5 e6 e7 e8 e9 fc fe ff fh fk fm gh gi fo fq fu fA fB fC fD iB iC iD iE iF iG iH iI iJ iK iL iM jc jd je jf jg jh ji jj jM jN jO jP jQ jR:Value}{Q:Exit->Act->World->Prop}
  (C:sg aT gU w0 F ai n fL jv aI gG bC gJ bu) (O:Al aT gU base w0 G F ai n fL jv aI bf bu K cb aB kX oA hs s next W g)
  (P:∀(hs:Nat->ax)(s':an)(next:Int)(g:Nat)(c5 jy iW gR gE gl gI gQ u16 gm gn gp gD gq gr gu gv gw gx gy gz fN fO fP u32 fQ fR fS fT fU fV fW fZ ga gb gd gA gB ig gX gY bM bN bO bP bQ bR bS bT bU bV bW bX bY bZ b5 u64 b6 b7 b8 b9 cc cg ck cm cn cp cr ct cu cv cw cz cA cB cC cD cE c7 c8 c9 dc de dh di dm cG cH cI cK cL cM cN cO cQ cR cS cT cU cV cW cZ c4 dn dr dw dx dy dz dA dB dD dF dG dH dI dJ dK dL dM dN dO dP dQ dR dS dU dV dW dX dY dZ ec fF fG fH ee ef ei ej ek en eo ep er eu ew ey fI fJ fK ez eA eB eC eD eE eF eG eH eL eM eN eO eP eR eS eT eU eV eW eX eY eZ e3 e4 e5 e6 e7 e8 e9 fc fe ff fh fk fm gh gi fo fq fu fA fB fC fD iB iC iD iE iF iG iH iI iJ iK iL iM jc jd je jf jg jh ji jj jM jN jO jP jQ jR:Value)(W':World),Al aT gU base w0 G F ai n fL jv aI bf bu K cb aB kX oA hs s' next W' g->(next=0->s'.ord.length=0)->Q (.exit 5) {tmps:= #[.pointer (some ⟨G,0,none⟩),.slice gG bC gJ,.int .i64 (bu:Int),c5,jy,iW,.pointer (some ⟨bf,0,none⟩),.int .i64 (iT:Int),.int .i64 left,.int .i64 2000,gR,gE,gl,.int .i64 next,gI,gQ,u16,gm,gn,gp,gD,gq,gr,gu,gv,gw,gx,gy,gz,fN,fO,fP,u32,fQ,fR,fS,fT,fU,fV,fW,fZ,ga,gb,gd,gA,gB,ig,gX,gY,bM,bN,bO,bP,bQ,bR,bS,bT,bU,bV,bW,bX,bY,bZ,b5,u64,b6,b7,b8,b9,cc,cg,ck,cm,cn,cp,cr,ct,cu,cv,cw,cz,cA,cB,cC,cD,cE,c7,c8,c9,dc,de,dh,di,dm,cG,cH,cI,cK,cL,cM,cN,cO,cQ,cR,cS,cT,cU,cV,cW,cZ,c4,dn,dr,dw,dx,dy,dz,dA,dB,dD,dF,dG,dH,dI,dJ,dK,dL,dM,dN,dO,dP,dQ,dR,dS,dU,dV,dW,dX,dY,dZ,ec,fF,fG,fH,ee,ef,ei,ej,ek,en,eo,ep,er,eu,ew,ey,fI,fJ,fK,ez,eA,eB,eC,eD,eE,eF,eG,eH,eL,eM,eN,eO,eP,eR,eS,eT,eU,eV,eW,eX,eY,eZ,e3,e4,e5,e6,e7,e8,e9,fc,fe,ff,fh,fk,fm,gh,gi,fo,fq,fu,fA,fB,fC,fD,iB,iC,iD,iE,iF,iG,iH,iI,iJ,iK,iL,iM,jc,jd,je,jf,jg,jh,ji,jj,jM,jN,jO,jP,jQ,jR],defers:=[]} W'):
  o_ w_ MG Q {tmps:= #[.pointer (some ⟨G,0,none⟩),.slice gG bC gJ,.int .i64 (bu:Int),c5,jy,iW,.pointer (some ⟨bf,0,none⟩),.int .i64 (iT:Int),.int .i64 left,.int .i64 2000,gR,gE,gl,.int .i64 next,gI,gQ,u16,gm,gn,gp,gD,gq,gr,gu,gv,gw,gx,gy,gz,fN,fO,fP,u32,fQ,fR,fS,fT,fU,fV,fW,fZ,ga,gb,gd,gA,gB,ig,gX,gY,bM,bN,bO,bP,bQ,bR,bS,bT,bU,bV,bW,bX,bY,bZ,b5,u64,b6,b7,b8,b9,cc,cg,ck,cm,cn,cp,cr,ct,cu,cv,cw,cz,cA,cB,cC,cD,cE,c7,c8,c9,dc,de,dh,di,dm,cG,cH,cI,cK,cL,cM,cN,cO,cQ,cR,cS,cT,cU,cV,cW,cZ,c4,dn,dr,dw,dx,dy,dz,dA,dB,dD,dF,dG,dH,dI,dJ,dK,dL,dM,dN,dO,dP,dQ,dR,dS,dU,dV,dW,dX,dY,dZ,ec,fF,fG,fH,ee,ef,ei,ej,ek,en,eo,ep,er,eu,ew,ey,fI,fJ,fK,ez,eA,eB,eC,eD,eE,eF,eG,eH,eL,eM,eN,eO,eP,eR,eS,eT,eU,eV,eW,eX,eY,eZ,e3,e4,e5,e6,e7,e8,e9,fc,fe,ff,fh,fk,fm,gh,gi,fo,fq,fu,fA,fB,fC,fD,iB,iC,iD,iE,iF,iG,iH,iI,iJ,iK,iL,iM,jc,jd,je,jf,jg,jh,ji,jj,jM,jN,jO,jP,jQ,jR],defers:=[]} W:=by
 have R:=aa P;have z:=aa C;clear P C
 conv=>arg 2;whnf
 dsimp only;refine p_ (xe aT gU base w0 G F ai n fL jv aI gG bC gJ bf bu K cb aB iT left kX oA) g ?start ?round
 case start=>exact xe.mk O
 case round=>
  clear O W hs s next g
  intro g a W S aZ a6 U V;refine S.elim ?_;intro hs s next c5 jy iW gR gE gl gI gQ u16 gm gn gp gD gq gr gu gv gw gx gy gz fN fO fP u32 fQ fR fS fT fU fV fW fZ ga gb gd gA gB ig gX gY bM bN bO bP bQ bR bS bT bU bV bW bX bY bZ b5 u64 b6 b7 b8 b9 cc cg ck cm cn cp cr ct cu cv cw cz cA cB cC cD cE c7 c8 c9 dc de dh di dm cG cH cI cK cL cM cN cO cQ cR cS cT cU cV cW cZ c4 dn dr dw dx dy dz dA dB dD dF dG dH dI dJ dK dL dM dN dO dP dQ dR dS dU dV dW dX dY dZ ec fF fG fH ee ef ei ej ek en eo ep er eu ew ey fI fJ fK ez eA eB eC eD eE eF eG eH eL eM eN eO eP eR eS eT eU eV eW eX eY eZ e3 e4 e5 e6 e7 e8 e9 fc fe ff fh fk fm gh gi fo fq fu fA fB fC fD iB iC iD iE iF iG iH iI iJ iK iL iM jc jd je jf jg jh ji jj jM jN jO jP jQ jR aF H
  clear S;subst aF;have j:=aa H;have B:=aa U;have D:=aa V;obtain⟨aH,n7,aJ,E⟩:∃A n c,hs 7=⟨A,n,c⟩:=⟨_,_,_,rfl⟩
  have aK:W.cell? ⟨G,10,none⟩=some (.slice aH n7 aJ):=by have:=H.gH.e.ku (k:=10) (v:=(hs 7).v) rfl;rw[E] at this;exact this
  have Y:n7=s.ord.length:=by have:=H.gH.e.n7;rw[E] at this;exact this
  have Z:=aa Y;clear E Y U V
  by_cases I:next=0
  ·subst I;have b:=aa (H.no rfl);clear H;have a7:=aa (b.o.1.mT z.o)
   by_cases l:0<n7
   ·have J:(0:Int)<(n7:Int):=by omega
    have d7:decide ((0:Int)<(n7:Int))=true:=decide_eq_true J;have L:=b.o.1.jZ.rg.jt;have aM:=z.o.n10;have ab:=aa (J3 b.o.1.gH (by rw[L];exact b.o.1.jZ.rg.lR) (by rw[L];exact b.o.1.jZ.rg.k5) (by omega) (by rw[<-Z.o];exact l) (by have h1:=me.len b.o.1.jZ.rg.lR;omega));have ad:=aa l;clear l L aM
    go_upto_region 37 with(go_at_call 155;refine ab.o.mono ?_;rintro e w1 ⟨v,i,s1,rfl,aN,ae,af,aO,f,ag,q,ah,ak⟩;dsimp only)
    obtain⟨o,p,rfl⟩:=aO;have T:=b.o.1.jZ.gP.aL;have al:v<=n:=by rw[<-b.o.1.jZ.rg.jt];exact af
    have q:me n o p:=by rw[<-b.o.1.jZ.rg.jt];exact q
    have f:aX K base w1 G i cb {s with ord:=o,pl:=p}:=f;have ao:v<s.c.val.length:=by rw[T.rE];omega
    obtain⟨aq,ar,au,aP⟩:=f.e.lW 2 1 rfl f.e.kj (by show s.c.val.length≠0;omega);have M:=f.e.zO ar (k:=v) ao;replace au:w1.cell? ⟨G,2,none⟩=some (.slice (some ⟨aq,0,none⟩) s.c.val.length (i 1).c):=au;replace M:w1.cell? ⟨aq,v,none⟩=some (.int .i8 (aj s.c.val v)):=M;have a8:(v:Int)<(s.c.val.length:Int):=by omega
    have aQ:s.gN.length=n+1:=b.o.1.jZ.rg.nE;obtain⟨av,aw,ay,aR⟩:=f.e.lW 12 9 rfl f.e.j3 (by show s.gN.length≠0;omega);have r:=f.e.Fa aw (k:=v) (by show v<s.gN.length;omega);replace ay:w1.cell? ⟨G,12,none⟩=some (.slice (some ⟨av,0,none⟩) s.gN.length (i 9).c):=ay;replace r:w1.cell? ⟨av,v,none⟩=some (.bool (iU s.gN v)):=r;have a':(v:Int)<(s.gN.length:Int):=by omega
    have wn:m_.wrap (-(v:Int))= -(v:Int):=by rw[q_];have:=z.o.n10;omega
    have X:=aa (z_ ae (z_ al (z_ q (z_ f (z_ ag (z_ ah ak))))));clear aN ae af f ag q ah ak al ao ar aP aw aR aQ T ab aK;obtain⟨y,N⟩:∃y,aj s.c.val v=y:=⟨_,rfl⟩
    rw[N] at M;have az:=aa N;clear N
    by_cases t:y=0
    ·subst t;have aA:fE (∀x:Int,x=v\/x= -(v:Int)->DM aT gU base w0 G F ai n fL jv aI bf bu K cb aB kX oA i {s with ord:=o,pl:=p} x w1):=aa (λ x ba=>by
      have h1:=X.o.1;have w:aG x=v:=by unfold aG;omega
      have aC:gW n x:=⟨by rw[w];exact h1,by rw[w];exact X.o.2.1⟩
      refine⟨⟨W,hs,s,b.o.1,X.o.2.2.2.2.1,rfl⟩,X.o.2.2.2.1,b.o.2.1,b.o.2.2.1,b.o.2.2.2.1,b.o.2.2.2.2.1,X.o.2.2.1,λ u d m aS aD=>?_,aC.oE,aC,?_,λ h=>absurd h (Nat.not_lt.2 b.o.2.2.2.2.2)⟩
      ·rw[w] at aD;exact(X.o.2.2.2.2.2.2 u aD).2 (b.o.1.jZ.un u d m aS)
      ·show jW s.c x=0;unfold jW;rw[w,az.o];split<;>rfl)
     cases aE:iU s.gN v with
     |true=>
      rw[aE] at r
      go_wp2_with fail
      refine D.o _ _ (t_ o.length ?_ (B.o _ _ _ (xe.mk (hs:=i) (s:={s with ord:=o,pl:=p}) (next:=(v:Int)) ⟨λ e=>?_,λ _=>aA.o _ (.inl rfl),X.o.2.2.2.1,?_⟩)))
      ·have h1:=j.o.g;have d:=X.o.2.2.2.2.2.1;rw[if_pos rfl] at h1;have d:o.length+1=s.ord.length:=d;omega
      ·exact absurd e (by have:=X.o.1;omega)
      ·rw[if_neg (by have:=X.o.1;omega)];rfl
     |false=>
      rw[aE] at r
      go_wp2_with fail
      refine D.o _ _ (t_ o.length ?_ (B.o _ _ _ (xe.mk (hs:=i) (s:={s with ord:=o,pl:=p}) (next:= -(v:Int)) ⟨λ e=>?_,λ _=>aA.o _ (.inr rfl),X.o.2.2.2.1,?_⟩)))
      ·have h1:=j.o.g;have d:=X.o.2.2.2.2.2.1;rw[if_pos rfl] at h1;have d:o.length+1=s.ord.length:=d;omega
      ·exact absurd e (by have:=X.o.1;omega)
      ·rw[if_neg (by have:=X.o.1;omega)];rfl
    ·have bb:(y==0)=false:=by simpa using t
     have aU:=aa t;clear t
     go_wp2_with fail
     have aV:=b.o.1.jZ.ord X.o.2.2.1 (λ u h1 d m=>(X.o.2.2.2.2.2.2 u (λ e=>by subst e;rw[az.o] at m;exact aU.o m)).2 (b.o.1.jZ.un u h1 d m));have aW:=b.o.1.move X.o.2.2.2.1 X.o.2.2.2.2.1 aV rfl rfl rfl;refine D.o _ _ (t_ (o.length+1) ?_ (B.o _ _ _ (xe.mk (hs:=i) (s:={s with ord:=o,pl:=p}) (next:=0) ⟨λ _=>⟨aW,b.o.2⟩,λ e=>absurd rfl e,X.o.2.2.2.1,?_⟩)))
     ·have h1:=j.o.g;have d:=X.o.2.2.2.2.2.1;rw[if_pos rfl] at h1;have d:o.length+1=s.ord.length:=d;omega
     ·rw[if_pos rfl]
   ·have J:¬(0:Int)<(n7:Int):=by omega
    have d7:decide ((0:Int)<(n7:Int))=false:=decide_eq_false J;have ad:=aa l;clear l
    go_wp2_with fail
    apply R.o hs s 0 g
    ·exact j.o
    ·intro _;rw[<-Z.o];have:=ad.o;omega
  ·have bc:decide (next=0)=false:=decide_eq_false I;have aY:=aa I;clear H
   go_wp2_with fail
   apply R.o hs s next g
   ·exact j.o
   ·exact λ h=>absurd h aY.o
theorem xg{C:World}(h:A.grownBy B row)(k:B.grownBy C row):A.grownBy C row:=
 ⟨k.os.trans h.os,k.tape.trans h.tape,k.output.trans h.output,n_ h.size k.size,λ i b c=>(k.block i (u_ b h.size) c).trans (h.block i b c)⟩
theorem DN(h:A.grownBy B row):A.grownBy B.drew row:=⟨h.os,h.tape,h.output,h.size,h.block⟩
structure vq(K:Nat->Prop)(base:Nat)(W:World)(G:Nat)(hs:Nat->ax)(cb:Nat->Nat)(s:an)(bf aB n g:Nat)(jC:List Bool):Prop where
 gH:aX (qC K g) base W G hs cb s
 jS:aN W bf 30 [.int .i64 1,.slice (some ⟨g,0,none⟩) (n+1) (n+1),mY,.int .i64 (aB:Int)]
 row:W.ownsRow g 4 1 (.slice (some ⟨g,0,none⟩) (n+1) (n+1)) (n+1) (pI jC)
 ne:g≠bf
theorem vq.set{K:Nat->Prop}{base:Nat}{W:World}{G:Nat}{hs:Nat->ax}{cb:Nat->Nat}{s:an}{bf aB n g:Nat}{jC:List Bool}(h:vq K base W G hs cb s bf aB n g jC)(k:Nat)(b:Bool):vq K base (W.setCell ⟨g,k,none⟩ (.bool b)) G hs cb s bf aB n g (jC.set k b):=
 ⟨h.gH.uU (.inr rfl) k _,h.jS.kept (kZ W g k _) (λ e=>h.ne (by injection e with e;exact e.symm)),by unfold pI;rw[List.map_set];exact IU h.row _,h.ne⟩
theorem vq.drew{K:Nat->Prop}{base:Nat}{W:World}{G:Nat}{hs:Nat->ax}{cb:Nat->Nat}{s:an}{bf aB n g:Nat}{jC:List Bool}(h:vq K base W G hs cb s bf aB n g jC):vq K base W.drew G hs cb s bf aB n g jC:=
 ⟨h.gH.drew,h.jS,nc h.row ((Below.refl _ W).drew),h.ne⟩
structure GL(K:Nat->Prop)(base:Nat)(V W:World)(G:Nat)(hs:Nat->ax)(cb:Nat->Nat)(s:an)(bf aB n g k:Nat):Prop where
 st:∃jC:List Bool,vq K base W G hs cb s bf aB n g jC/\jC.length=n+1/\∀j,j<k->iU jC j=decide (0<aj s.c.val j)
 mX:V.grownBy W (some g)
 vz:k<=n+1
inductive y6(K:Nat->Prop)(base:Nat)(V:World)(G:Nat)(hs:Nat->ax)(cb:Nat->Nat)(s:an)(gG:Option Addr)(bC gJ bf bu aB iT:Nat)(left:Int)(n g:Nat):Nat->Act->World->Prop
 |mk {k:Nat} {c5 jy iW gR gE gl iw gI gQ u16 gm gn gp gD gq gr gu gv gw gx gy gz fN fO fP u32 fQ fR fS fT fU fV fW fZ ga gb gd gA gB ig gX gY bM bN bO bP bQ bR bS bT bU bV bW bX bY bZ b5 u64 b6 b7 b8 b9 cc cg ck cm cn cp cr ct cu cv cw cz cA cB cC cD cE c7 c8 c9 dc de dh di dm cG cH cI cK cL cM cN cO cQ cR cS cT cU cV cW cZ c4 dn dr dw dx dy dz dA dB dD dF dG dH dI dJ dK dL dM dN dO dP dQ dR dS dU dV dW dX dY dZ ec fF fG fH ee ef ei ej ek en eo ep er eu ew ey fI fJ fK ez eA eB eC eD eE eF eG eH eL eM eN eO eP eR eS eT eU eV eW eX eY eZ e3 e4 e5 e6 e7 e8 e9 fc fe ff fh fk fm fo fq fu fA fB fC fD iB iC iD iE iF iG iH iI iJ iK iL iM jc jd je jf jg jh ji jj jM jN jO jP jQ jR:Value} {W:World} (h:GL K base V W G hs cb s bf aB n g k):y6 K base V G hs cb s gG bC gJ bf bu aB iT left n g (n+1-k) {tmps:= #[.pointer (some ⟨G,0,none⟩),.slice gG bC gJ,.int .i64 (bu:Int),c5,jy,iW,.pointer (some ⟨bf,0,none⟩),.int .i64 (iT:Int),.int .i64 left,.int .i64 2000,gR,gE,gl,iw,gI,gQ,u16,gm,gn,gp,gD,gq,gr,gu,gv,gw,gx,gy,gz,fN,fO,fP,u32,fQ,fR,fS,fT,fU,fV,fW,fZ,ga,gb,gd,gA,gB,ig,gX,gY,bM,bN,bO,bP,bQ,bR,bS,bT,bU,bV,bW,bX,bY,bZ,b5,u64,b6,b7,b8,b9,cc,cg,ck,cm,cn,cp,cr,ct,cu,cv,cw,cz,cA,cB,cC,cD,cE,c7,c8,c9,dc,de,dh,di,dm,cG,cH,cI,cK,cL,cM,cN,cO,cQ,cR,cS,cT,cU,cV,cW,cZ,c4,dn,dr,dw,dx,dy,dz,dA,dB,dD,dF,dG,dH,dI,dJ,dK,dL,dM,dN,dO,dP,dQ,dR,dS,dU,dV,dW,dX,dY,dZ,ec,fF,fG,fH,ee,ef,ei,ej,ek,en,eo,ep,er,eu,ew,ey,fI,fJ,fK,ez,eA,eB,eC,eD,eE,eF,eG,eH,eL,eM,eN,eO,eP,eR,eS,eT,eU,eV,eW,eX,eY,eZ,e3,e4,e5,e6,e7,e8,e9,fc,fe,ff,fh,fk,fm,.int .i64 ((n:Int)+1),.int .i64 (k:Int),fo,fq,fu,fA,fB,fC,fD,iB,iC,iD,iE,iF,iG,iH,iI,iJ,iK,iL,iM,jc,jd,je,jf,jg,jh,ji,jj,jM,jN,jO,jP,jQ,jR],defers:=[]} W
theorem y6.elim{V:World}{m:Nat}(b:y6 K base V G hs cb s gG bC gJ bf bu aB iT left n g m a W){P:Prop}
  (k:∀{k:Nat}{c d e f i j l o p u16 q r t u v w y z A B C D E F H u32 I J L M N O Q R S T U X Y Z aa ab ad ae af ag ah ai aj ak al ao aq ar au av aw u64 ay az aA aC aD aE aF aG aH aI aJ aK aL aM aN aO aP aQ aR aS aT aU aV aW aX aY aZ a6 a7 a8 a' ba bb bc bd bg bh bj bk bl bn bo bp bq br bs bt bw bx bz bA bB bD bE bF bG bH bI bJ bK bL bM bN bO bP bQ bR bS bT bU bV bW bX bY bZ b0 b1 b2 b3 b4 b5 b6 b7 b8 b9 b' ca cc cd cf cg ch cj ck cm cn cp cq cr ct cu cv cw cx cy cz cA cB cC cD cE cF cG cH cI cJ cK cL cM cN cO cP cQ cR cS cT cU cV cW cX cY cZ c0 c4 c5 c6 c7 c8 c9 da db dc dd de df dh di dj dk dm dn dp dq dr dt du dv dw dx dy dz dA dB:Value},a={tmps:= #[.pointer (some ⟨G,0,none⟩),.slice gG bC gJ,.int .i64 (bu:Int),c,d,e,.pointer (some ⟨bf,0,none⟩),.int .i64 (iT:Int),.int .i64 left,.int .i64 2000,f,i,j,l,o,p,u16,q,r,t,u,v,w,y,z,A,B,C,D,E,F,H,u32,I,J,L,M,N,O,Q,R,S,T,U,X,Y,Z,aa,ab,ad,ae,af,ag,ah,ai,aj,ak,al,ao,aq,ar,au,av,aw,u64,ay,az,aA,aC,aD,aE,aF,aG,aH,aI,aJ,aK,aL,aM,aN,aO,aP,aQ,aR,aS,aT,aU,aV,aW,aX,aY,aZ,a6,a7,a8,a',ba,bb,bc,bd,bg,bh,bj,bk,bl,bn,bo,bp,bq,br,bs,bt,bw,bx,bz,bA,bB,bD,bE,bF,bG,bH,bI,bJ,bK,bL,bM,bN,bO,bP,bQ,bR,bS,bT,bU,bV,bW,bX,bY,bZ,b0,b1,b2,b3,b4,b5,b6,b7,b8,b9,b',ca,cc,cd,cf,cg,ch,cj,ck,cm,cn,cp,cq,cr,ct,cu,cv,cw,cx,cy,cz,cA,cB,cC,cD,cE,cF,cG,cH,cI,cJ,cK,cL,cM,cN,cO,cP,cQ,cR,cS,cT,cU,cV,cW,cX,.int .i64 ((n:Int)+1),.int .i64 (k:Int),cY,cZ,c0,c4,c5,c6,c7,c8,c9,da,db,dc,dd,de,df,dh,di,dj,dk,dm,dn,dp,dq,dr,dt,du,dv,dw,dx,dy,dz,dA,dB],defers:=[]}->m=n+1-k->GL K base V W G hs cb s bf aB n g k->P):P:=by
 cases b with
 |mk h=>exact k rfl rfl h
noncomputable def GM:Code:=Dr (mU (mU (mU (mU (mU BS)))))
noncomputable def MI:Code:=mU (By (mU GM))
theorem MJ{K:Nat->Prop}{base:Nat}{V:World}{G:Nat}{hs:Nat->ax}{cb:Nat->Nat}{s:an}{gG:Option Addr}{bC gJ bf bu aB iT:Nat}{left:Int}{n g:Nat}{BW:List Bool}{c5 jy iW gR gE gl iw gI gQ u16 gm gn gp gD gq gr gu gv gw gx gy gz fN fO fP u32 fQ fR fS fT fU fV fW fZ ga gb gd gA gB ig gX gY bM bN bO bP bQ bR bS bT bU bV bW bX bY bZ b5 u64 b6 b7 b8 b9 cc cg ck cm cn cp cr ct cu cv cw cz cA cB cC cD cE c7 c8 c9 dc de dh di dm cG cH cI cK cL cM cN cO cQ cR cS cT cU cV cW cZ c4 dn dr dw dx dy dz dA dB dD dF dG dH dI dJ dK dL dM dN dO dP dQ dR dS dU dV dW dX dY dZ ec fF fG fH ee ef ei ej ek en eo ep er eu ew ey fI fJ fK ez eA eB eC eD eE eF eG eH eL eM eN eO eP eR eS eT eU eV eW eX eY eZ e3 e4 e5 e6 e7 e8 e9 fc fe ff fh fk fm gh gi fo fq fu fA fB fC fD iB iC iD iE iF iG iH iI iJ iK iL iM jc jd je jf jg jh ji jj jM jN jO jP jQ jR:Value}{Q:Exit->Act->World->Prop}
  (p:vq K base V G hs cb s bf aB n g BW) (v:BW.length=n+1) (ak:n<=10) (al:s.c.val.length=n+1)
  (w:∀(d:List Bool)(c5 jy iW gR gE gl iw gI gQ u16 gm gn gp gD gq gr gu gv gw gx gy gz fN fO fP u32 fQ fR fS fT fU fV fW fZ ga gb gd gA gB ig gX gY bM bN bO bP bQ bR bS bT bU bV bW bX bY bZ b5 u64 b6 b7 b8 b9 cc cg ck cm cn cp cr ct cu cv cw cz cA cB cC cD cE c7 c8 c9 dc de dh di dm cG cH cI cK cL cM cN cO cQ cR cS cT cU cV cW cZ c4 dn dr dw dx dy dz dA dB dD dF dG dH dI dJ dK dL dM dN dO dP dQ dR dS dU dV dW dX dY dZ ec fF fG fH ee ef ei ej ek en eo ep er eu ew ey fI fJ fK ez eA eB eC eD eE eF eG eH eL eM eN eO eP eR eS eT eU eV eW eX eY eZ e3 e4 e5 e6 e7 e8 e9 fc fe ff fh fk fm gh gi fo fq fu fA fB fC fD iB iC iD iE iF iG iH iI iJ iK iL iM jc jd je jf jg jh ji jj jM jN jO jP jQ jR:Value)(W':World),vq K base W' G hs cb s bf aB n g d->d.length=n+1->(∀j,j<n+1->iU d j=decide (0<aj s.c.val j))->V.grownBy W' (some g)->Q .ret {tmps:= #[.pointer (some ⟨G,0,none⟩),.slice gG bC gJ,.int .i64 (bu:Int),c5,jy,iW,.pointer (some ⟨bf,0,none⟩),.int .i64 (iT:Int),.int .i64 left,.int .i64 2000,gR,gE,gl,iw,gI,gQ,u16,gm,gn,gp,gD,gq,gr,gu,gv,gw,gx,gy,gz,fN,fO,fP,u32,fQ,fR,fS,fT,fU,fV,fW,fZ,ga,gb,gd,gA,gB,ig,gX,gY,bM,bN,bO,bP,bQ,bR,bS,bT,bU,bV,bW,bX,bY,bZ,b5,u64,b6,b7,b8,b9,cc,cg,ck,cm,cn,cp,cr,ct,cu,cv,cw,cz,cA,cB,cC,cD,cE,c7,c8,c9,dc,de,dh,di,dm,cG,cH,cI,cK,cL,cM,cN,cO,cQ,cR,cS,cT,cU,cV,cW,cZ,c4,dn,dr,dw,dx,dy,dz,dA,dB,dD,dF,dG,dH,dI,dJ,dK,dL,dM,dN,dO,dP,dQ,dR,dS,dU,dV,dW,dX,dY,dZ,ec,fF,fG,fH,ee,ef,ei,ej,ek,en,eo,ep,er,eu,ew,ey,fI,fJ,fK,ez,eA,eB,eC,eD,eE,eF,eG,eH,eL,eM,eN,eO,eP,eR,eS,eT,eU,eV,eW,eX,eY,eZ,e3,e4,e5,e6,e7,e8,e9,fc,fe,ff,fh,fk,fm,gh,gi,fo,fq,fu,fA,fB,fC,fD,iB,iC,iD,iE,iF,iG,iH,iI,iJ,iK,iL,iM,jc,jd,je,jf,jg,jh,ji,jj,jM,jN,jO,jP,jQ,jR],defers:=[]} (((((W'.setCell ⟨bf,0,none⟩ (.int .i64 1)).setCell ⟨bf,1,none⟩ (.slice (some ⟨g,0,none⟩) (n+1) (n+1)))).setCell ⟨bf,2,none⟩ (.slice none 0 0)).setCell ⟨bf,3,none⟩ (.int .i64 (aB:Int)))):
  o_ w_ MI Q {tmps:= #[.pointer (some ⟨G,0,none⟩),.slice gG bC gJ,.int .i64 (bu:Int),c5,jy,iW,.pointer (some ⟨bf,0,none⟩),.int .i64 (iT:Int),.int .i64 left,.int .i64 2000,gR,gE,gl,iw,gI,gQ,u16,gm,gn,gp,gD,gq,gr,gu,gv,gw,gx,gy,gz,fN,fO,fP,u32,fQ,fR,fS,fT,fU,fV,fW,fZ,ga,gb,gd,gA,gB,ig,gX,gY,bM,bN,bO,bP,bQ,bR,bS,bT,bU,bV,bW,bX,bY,bZ,b5,u64,b6,b7,b8,b9,cc,cg,ck,cm,cn,cp,cr,ct,cu,cv,cw,cz,cA,cB,cC,cD,cE,c7,c8,c9,dc,de,dh,di,dm,cG,cH,cI,cK,cL,cM,cN,cO,cQ,cR,cS,cT,cU,cV,cW,cZ,c4,dn,dr,dw,dx,dy,dz,dA,dB,dD,dF,dG,dH,dI,dJ,dK,dL,dM,dN,dO,dP,dQ,dR,dS,dU,dV,dW,dX,dY,dZ,ec,fF,fG,fH,ee,ef,ei,ej,ek,en,eo,ep,er,eu,ew,ey,fI,fJ,fK,ez,eA,eB,eC,eD,eE,eF,eG,eH,eL,eM,eN,eO,eP,eR,eS,eT,eU,eV,eW,eX,eY,eZ,e3,e4,e5,e6,e7,e8,e9,fc,fe,ff,fh,fk,fm,gh,gi,fo,fq,fu,fA,fB,fC,fD,iB,iC,iD,iE,iF,iG,iH,iI,iJ,iK,iL,iM,jc,jd,je,jf,jg,jh,ji,jj,jM,jN,jO,jP,jQ,jR],defers:=[]} V:=by
 have N:=aa w;have b:=p.jS.cell 1;simp only[mY,y_,x_] at b;have z:=aa p;clear w p
 conv=>arg 2;whnf
 dsimp only
 go_upto_region 44 with fail
 clear b;refine p_ (y6 K base V G hs cb s gG bC gJ bf bu aB iT left n g) (n+1-0) ?start ?round
 case start=>exact y6.mk ⟨⟨BW,z.o,v,λ j O=>by omega⟩,⟨rfl,rfl,rfl,Nat.le_refl _,λ _ _ _=>rfl⟩,Nat.zero_le _⟩
 case round=>
  clear z v BW;intro m a W A ao aq B C;refine A.elim ?_;intro k c5 jy iW gR gE gl iw gI gQ u16 gm gn gp gD gq gr gu gv gw gx gy gz fN fO fP u32 fQ fR fS fT fU fV fW fZ ga gb gd gA gB ig gX gY bM bN bO bP bQ bR bS bT bU bV bW bX bY bZ b5 u64 b6 b7 b8 b9 cc cg ck cm cn cp cr ct cu cv cw cz cA cB cC cD cE c7 c8 c9 dc de dh di dm cG cH cI cK cL cM cN cO cQ cR cS cT cU cV cW cZ c4 dn dr dw dx dy dz dA dB dD dF dG dH dI dJ dK dL dM dN dO dP dQ dR dS dU dV dW dX dY dZ ec fF fG fH ee ef ei ej ek en eo ep er eu ew ey fI fJ fK ez eA eB eC eD eE eF eG eH eL eM eN eO eP eR eS eT eU eV eW eX eY eZ e3 e4 e5 e6 e7 e8 e9 fc fe ff fh fk fm fo fq fu fA fB fC fD iB iC iD iE iF iG iH iI iJ iK iL iM jc jd je jf jg jh ji jj jM jN jO jP jQ jR P hm H;clear A;subst P;subst hm;obtain⟨⟨d,D,E,F⟩,I,f⟩:=H;have Y:=aa D;have X:=aa (z_ E (z_ F (z_ I f)));have R:=aa B;have S:=aa C;clear D E F I f B C
  by_cases q:k<n+1
  ·have r:(k:Int)<(n:Int)+1:=by omega
   have T:decide ((k:Int)<(n:Int)+1)=true:=decide_eq_true r;have b:=Y.o.jS.cell 1;simp only[mY,y_,x_] at b;have J:k<s.c.val.length:=by omega
   obtain⟨i,t,U,Z⟩:=Y.o.gH.e.lW 2 1 rfl Y.o.gH.e.kj (by omega);have L:=Y.o.gH.e.zO t (k:=k) J;obtain⟨y,u⟩:∃y,aj s.c.val k=y:=⟨_,rfl⟩
   rw[u] at L;have ar:(k:Int)<(s.c.val.length:Int):=by omega
   have M:=Y.o.row.cellAt k (by omega);have au:=Y.o.row.frozenAt k;have ab:=(Y.o.row.lt g rfl).2;have av:W.cell? ⟨g,k,none⟩=some (.bool (iU d k)):=by
    rw[M];unfold pI;rw[List.getElem?_map,List.getElem?_eq_getElem (by have:=X.o.1;omega),A1 (by have:=X.o.1;omega)];rfl
   have kj:g≠G:=λ e=>Y.o.gH.s.g (by rw[<-e];exact .inr rfl)
   have aw:g≠bf:=Y.o.ne;have ay:g≠i:=λ e=>Y.o.gH.s.row 1 i t (by rw[<-e];exact .inr rfl)
   have l:=aa (z_ q u);have az:m_.wrap ((k:Int)+1)=(k:Int)+1:=by rw[q_];omega
   clear q u t Z M J ab
   go_upto_region 46 with fail
   go_region_held3 (λ w'=>w'.cell? ⟨bf,1,none⟩=some (.slice (some ⟨g,0,none⟩) (n+1) (n+1))/\w'.cell? ⟨G,2,none⟩=some (.slice (some ⟨i,0,none⟩) s.c.val.length (hs 1).c)/\w'.cell? ⟨i,k,none⟩=some (.int .i8 y)) (first|exact⟨b,U,L⟩|go_keep) (fail)
   have ad:=(Y.o.set k (decide (0<y))).drew;have ae:=DN (xg X.o.2.2.1 (kZ W g k (.bool (decide (0<y)))))
   go_wp2_with fail
   refine S.o _ _ (t_ (n+1-(k+1)) (by have:=l.o.1;omega) (R.o _ _ _ (y6.mk (k:=k+1) ⟨⟨_,ad,by rw[List.length_set];exact X.o.1,λ j O=>?_⟩,ae,by have:=l.o.1;omega⟩)));rw[zA]
   by_cases e:k=j
   ·subst e;rw[if_pos ⟨rfl,by have:=X.o.1;have:=l.o.1;omega⟩,l.o.2]
   ·rw[if_neg (λ h=>e h.1)];exact X.o.2.1 j (by omega)
  ·have r:¬(k:Int)<(n:Int)+1:=by omega
   have T:decide ((k:Int)<(n:Int)+1)=false:=decide_eq_false r;have f:k=n+1:=by have:=X.o.2.2.2;omega
   have af:=aa f;have ag:=Y.o.jS.cell 0;have b:=Y.o.jS.cell 1;have ah:=Y.o.jS.cell 2;have ai:=Y.o.jS.cell 3;have aA:=Y.o.jS.free 0;have aC:=Y.o.jS.free 1;have aD:=Y.o.jS.free 2;have aE:=Y.o.jS.free 3;simp only[mY,y_,x_] at ag b ah ai;clear q f
   go_wp2_with fail
   apply N.o d
   ·exact Y.o
   ·exact X.o.1
   ·rw[<-af.o];exact X.o.2.1
   ·exact X.o.2.2.1
theorem BX:(w_.info? 4).map (λ i=>(i.zero,i.size,i.bytes))=some (some (.bool false),1,1):=by kernel_rfl
theorem MK{gG:Option Addr}{bC gJ:Nat}(S:mI aT gU base w0 G F ai n fL jv aI bf bu K W hs cb s aB h)(p:n<=10):
  vq K base ((((W.setCell ⟨bf,0,none⟩ (.int .i64 1)).setCell ⟨bf,1,none⟩ (.slice (some ⟨W.heap.size,0,none⟩) (n+1) (n+1))).alloc (.cells (madeCells (v_ false).cells (n+1)) 4)).drew) G hs cb s bf aB n W.heap.size (List.replicate (n+1) false)/\
  aC (λ b=>K b/\b≠bf) W ((((W.setCell ⟨bf,0,none⟩ (.int .i64 1)).setCell ⟨bf,1,none⟩ (.slice (some ⟨W.heap.size,0,none⟩) (n+1) (n+1))).alloc (.cells (madeCells (v_ false).cells (n+1)) 4)).drew):=by
 have g:=(S.gH.uU S.sF 0 (.int .i64 1)).uU S.sF 1 (.slice (some ⟨W.heap.size,0,none⟩) (n+1) (n+1));have j:=(aC.DG S 0 (.int .i64 1)).trans (aC.set (K:=λ b=>K b/\b≠bf) bf 1 (.slice (some ⟨W.heap.size,0,none⟩) (n+1) (n+1)) (λ c=>c.2 rfl));have k:=(S.jS.set 0 (.int .i64 1)).set 1 (.slice (some ⟨W.heap.size,0,none⟩) (n+1) (n+1));have l:((W.setCell ⟨bf,0,none⟩ (.int .i64 1)).setCell ⟨bf,1,none⟩ (.slice (some ⟨W.heap.size,0,none⟩) (n+1) (n+1))).heap.size=W.heap.size:=by simp
 have q:=S.jS.lt;generalize (W.setCell ⟨bf,0,none⟩ (.int .i64 1)).setCell ⟨bf,1,none⟩ (.slice (some ⟨W.heap.size,0,none⟩) (n+1) (n+1))=f at*;have c:=(bB f (.cells (madeCells (v_ false).cells (n+1)) 4)).drew;have m:((f.alloc (.cells (madeCells (v_ false).cells (n+1)) 4)).drew).ownsRow W.heap.size 4 1 (.slice (some ⟨W.heap.size,0,none⟩) (n+1) (n+1)) (n+1) ((List.replicate (n+1) false).map v_):=by
  rw[<-l];refine⟨by simp,Or.inr ⟨f.heap.size,n+1,_,rfl,Nat.le_refl _,heap_alloc_new f _,Nat.le_refl _,by unfold maxLen;omega,by rw[size_madeCells];omega,?_⟩⟩;show(madeCells #[v_ false] (n+1)).toList.take ((n+1)*1)=_;rw[toList_madeCells_one];simp
 have i:=(g.below c)
 refine⟨⟨i.1.qC (by show _<(f.alloc _).heap.size;simp;omega) (by have:=g.e.box.lt;omega) (λ r e=>by have:=(g.e.rows.lt e).2;omega) (λ d o e=>by have:=(g.e.cls d o).lt;omega),k.below c,m,by omega⟩,j.trans (i.2.mono λ b c=>c.1)⟩
theorem ML
  (C:sg aT gU w0 F ai n fL jv aI gG bC gJ bu) (S:next=0->mI aT gU base w0 G F ai n fL jv aI bf bu K W hs cb s aB s.c.ag/\s.c.ag=s.c.ay.length/\s.c.kS=false/\ai.length<=s.c.st.length/\s.ord.length=0)
  (p:∀(c5 jy iW gR gE gl gI gQ u16 gm gn gp gD gq gr gu gv gw gx gy gz fN fO fP u32 fQ fR fS fT fU fV fW fZ ga gb gd gA gB ig gX gY bM bN bO bP bQ bR bS bT bU bV bW bX bY bZ b5 u64 b6 b7 b8 b9 cc cg ck cm cn cp cr ct cu cv cw cz cA cB cC cD cE c7 c8 c9 dc de dh di dm cG cH cI cK cL cM cN cO cQ cR cS cT cU cV cW cZ c4 dn dr dw dx dy dz dA dB dD dF dG dH dI dJ dK dL dM dN dO dP dQ dR dS dU dV dW dX dY dZ ec fF fG fH ee ef ei ej ek en eo ep er eu ew ey fI fJ fK ez eA eB eC eD eE eF eG eH eL eM eN eO eP eR eS eT eU eV eW eX eY eZ e3 e4 e5 e6 e7 e8 e9 fc fe ff fh fk fm gh gi fo fq fu fA fB fC fD iB iC iD iE iF iG iH iI iJ iK iL iM jc jd je jf jg jh ji jj jM jN jO jP jQ jR:Value),next≠0->Q .normal {tmps:= #[.pointer (some ⟨G,0,none⟩),.slice gG bC gJ,.int .i64 (bu:Int),c5,jy,iW,.pointer (some ⟨bf,0,none⟩),.int .i64 (iT:Int),.int .i64 left,.int .i64 2000,gR,gE,gl,.int .i64 next,gI,gQ,u16,gm,gn,gp,gD,gq,gr,gu,gv,gw,gx,gy,gz,fN,fO,fP,u32,fQ,fR,fS,fT,fU,fV,fW,fZ,ga,gb,gd,gA,gB,ig,gX,gY,bM,bN,bO,bP,bQ,bR,bS,bT,bU,bV,bW,bX,bY,bZ,b5,u64,b6,b7,b8,b9,cc,cg,ck,cm,cn,cp,cr,ct,cu,cv,cw,cz,cA,cB,cC,cD,cE,c7,c8,c9,dc,de,dh,di,dm,cG,cH,cI,cK,cL,cM,cN,cO,cQ,cR,cS,cT,cU,cV,cW,cZ,c4,dn,dr,dw,dx,dy,dz,dA,dB,dD,dF,dG,dH,dI,dJ,dK,dL,dM,dN,dO,dP,dQ,dR,dS,dU,dV,dW,dX,dY,dZ,ec,fF,fG,fH,ee,ef,ei,ej,ek,en,eo,ep,er,eu,ew,ey,fI,fJ,fK,ez,eA,eB,eC,eD,eE,eF,eG,eH,eL,eM,eN,eO,eP,eR,eS,eT,eU,eV,eW,eX,eY,eZ,e3,e4,e5,e6,e7,e8,e9,fc,fe,ff,fh,fk,fm,gh,gi,fo,fq,fu,fA,fB,fC,fD,iB,iC,iD,iE,iF,iG,iH,iI,iJ,iK,iL,iM,jc,jd,je,jf,jg,jh,ji,jj,jM,jN,jO,jP,jQ,jR],defers:=[]} W)
  (r:∀(K:Nat->Prop)(hs:Nat->ax)(cb:Nat->Nat)(s':an)(h':Nat)(t:Option Addr)(u w:Nat)(c5 jy iW gR gE gl y gI gQ u16 gm gn gp gD gq gr gu gv gw gx gy gz fN fO fP u32 fQ fR fS fT fU fV fW fZ ga gb gd gA gB ig gX gY bM bN bO bP bQ bR bS bT bU bV bW bX bY bZ b5 u64 b6 b7 b8 b9 cc cg ck cm cn cp cr ct cu cv cw cz cA cB cC cD cE c7 c8 c9 dc de dh di dm cG cH cI cK cL cM cN cO cQ cR cS cT cU cV cW cZ c4 dn dr dw dx dy dz dA dB dD dF dG dH dI dJ dK dL dM dN dO dP dQ dR dS dU dV dW dX dY dZ ec fF fG fH ee ef ei ej ek en eo ep er eu ew ey fI fJ fK ez eA eB eC eD eE eF eG eH eL eM eN eO eP eR eS eT eU eV eW eX eY eZ e3 e4 e5 e6 e7 e8 e9 fc fe ff fh fk fm gh gi fo fq fu fA fB fC fD iB iC iD iE iF iG iH iI iJ iK iL iM jc jd je jf jg jh ji jj jM jN jO jP jQ jR:Value)(W':World),si aT gU base w0 G F ai n fL aI bf bu K W' hs cb s' aB h' 1 t u w none 0 0->aN W' bf 30 [.int .i64 1,.slice t u w,mY,.int .i64 (aB:Int)]->Q .ret {tmps:= #[.pointer (some ⟨G,0,none⟩),.slice gG bC gJ,.int .i64 (bu:Int),c5,jy,iW,.pointer (some ⟨bf,0,none⟩),.int .i64 (iT:Int),.int .i64 left,.int .i64 2000,gR,gE,gl,y,gI,gQ,u16,gm,gn,gp,gD,gq,gr,gu,gv,gw,gx,gy,gz,fN,fO,fP,u32,fQ,fR,fS,fT,fU,fV,fW,fZ,ga,gb,gd,gA,gB,ig,gX,gY,bM,bN,bO,bP,bQ,bR,bS,bT,bU,bV,bW,bX,bY,bZ,b5,u64,b6,b7,b8,b9,cc,cg,ck,cm,cn,cp,cr,ct,cu,cv,cw,cz,cA,cB,cC,cD,cE,c7,c8,c9,dc,de,dh,di,dm,cG,cH,cI,cK,cL,cM,cN,cO,cQ,cR,cS,cT,cU,cV,cW,cZ,c4,dn,dr,dw,dx,dy,dz,dA,dB,dD,dF,dG,dH,dI,dJ,dK,dL,dM,dN,dO,dP,dQ,dR,dS,dU,dV,dW,dX,dY,dZ,ec,fF,fG,fH,ee,ef,ei,ej,ek,en,eo,ep,er,eu,ew,ey,fI,fJ,fK,ez,eA,eB,eC,eD,eE,eF,eG,eH,eL,eM,eN,eO,eP,eR,eS,eT,eU,eV,eW,eX,eY,eZ,e3,e4,e5,e6,e7,e8,e9,fc,fe,ff,fh,fk,fm,gh,gi,fo,fq,fu,fA,fB,fC,fD,iB,iC,iD,iE,iF,iG,iH,iI,iJ,iK,iL,iM,jc,jd,je,jf,jg,jh,ji,jj,jM,jN,jO,jP,jQ,jR],defers:=[]} W'):
  o_ w_ GM Q {tmps:= #[.pointer (some ⟨G,0,none⟩),.slice gG bC gJ,.int .i64 (bu:Int),c5,jy,iW,.pointer (some ⟨bf,0,none⟩),.int .i64 (iT:Int),.int .i64 left,.int .i64 2000,gR,gE,gl,.int .i64 next,gI,gQ,u16,gm,gn,gp,gD,gq,gr,gu,gv,gw,gx,gy,gz,fN,fO,fP,u32,fQ,fR,fS,fT,fU,fV,fW,fZ,ga,gb,gd,gA,gB,ig,gX,gY,bM,bN,bO,bP,bQ,bR,bS,bT,bU,bV,bW,bX,bY,bZ,b5,u64,b6,b7,b8,b9,cc,cg,ck,cm,cn,cp,cr,ct,cu,cv,cw,cz,cA,cB,cC,cD,cE,c7,c8,c9,dc,de,dh,di,dm,cG,cH,cI,cK,cL,cM,cN,cO,cQ,cR,cS,cT,cU,cV,cW,cZ,c4,dn,dr,dw,dx,dy,dz,dA,dB,dD,dF,dG,dH,dI,dJ,dK,dL,dM,dN,dO,dP,dQ,dR,dS,dU,dV,dW,dX,dY,dZ,ec,fF,fG,fH,ee,ef,ei,ej,ek,en,eo,ep,er,eu,ew,ey,fI,fJ,fK,ez,eA,eB,eC,eD,eE,eF,eG,eH,eL,eM,eN,eO,eP,eR,eS,eT,eU,eV,eW,eX,eY,eZ,e3,e4,e5,e6,e7,e8,e9,fc,fe,ff,fh,fk,fm,gh,gi,fo,fq,fu,fA,fB,fC,fD,iB,iC,iD,iE,iF,iG,iH,iI,iJ,iK,iL,iM,jc,jd,je,jf,jg,jh,ji,jj,jM,jN,jO,jP,jQ,jR],defers:=[]} W:=by
 have R:=aa p;have T:=aa r;have i:=aa C;have l:=aa S;clear p r C S
 conv=>arg 2;whnf
 dsimp only
 by_cases m:next=0
 ·subst m;have d:=aa (l.o rfl);clear l;have U:W.cell? ⟨G,0,none⟩=some (.int .i64 (n:Int)):=by have:=d.o.1.gH.e.ku (k:=0) (v:=.int .i64 (s.c.n:Int)) rfl;rw[d.o.1.jZ.rg.jt] at this;exact this
  have V:=d.o.1.jS.cell 0;have X:=d.o.1.jS.cell 1;have Z:=d.o.1.jS.cell 2;have ab:=d.o.1.jS.cell 3;have az:=d.o.1.jS.free 0;have aA:=d.o.1.jS.free 1;have aD:=d.o.1.jS.free 2;have aE:=d.o.1.jS.free 3;simp only[mY,y_,x_] at V X Z ab;obtain⟨i0,z,A,B,D⟩:=info_parts BX;have aF:=i.o.n10;have ad:∀W:World,(Instr.makeSlice 28 (.int .i64 ((n:Int)+1)) (.int .i64 ((n:Int)+1))).run w_ W=.ok (.slice (some ⟨W.heap.size,0,none⟩) (n+1) (n+1)) (W.alloc (.cells (madeCells (v_ false).cells (n+1)) 4)):=λ W=>by
   have:=run_make (P:=w_) W 28 4 i0 (.bool false) Tryz.underlying28 z A .i64 .i64 ((n:Int)+1) ((n:Int)+1) (by omega) (by omega) (by rw[D];omega) (by omega);rw[B,show((n:Int)+1).toNat=n+1 by omega,Nat.mul_one] at this;exact this
  have wn:m_.wrap ((n:Int)+1)=(n:Int)+1:=by rw[q_];omega
  have aG:=d.o.1.jS.lt;have aH:=d.o.1.gH.e.box.lt;have ae:G≠bf:=λ e=>d.o.1.gH.s.g (by rw[e];exact d.o.1.sF)
  have aJ:bf≠G:=λ e=>ae e.symm
  clear z A B D;generalize E:madeCells (v_ false).cells (n+1)=cs at ad;have af:=aa E;clear E
  go_upto_region 42 with fail
  rename_i ah H;have aj:=aa H;clear H
  go_region_held3 (λ w'=>w'.cell? ⟨G,0,none⟩=some (.int .i64 (n:Int))) (first|exact U|go_keep) (fail)
  all_goals
   show ah _ _;apply aj.o;rw[<-af.o];obtain⟨ak,I⟩:=MK (gG:=gG) (bC:=bC) (gJ:=gJ) d.o.1 i.o.n10;refine MJ ak (by simp) i.o.n10 (by rw[d.o.1.jZ.gP.aL.rE,d.o.1.jZ.rg.jt]) ?_;intro J c5 jy iW gR gE gl y gI gQ u16 gm gn gp gD gq gr gu gv gw gx gy gz fN fO fP u32 fQ fR fS fT fU fV fW fZ ga gb gd gA gB ig gX gY bM bN bO bP bQ bR bS bT bU bV bW bX bY bZ b5 u64 b6 b7 b8 b9 cc cg ck cm cn cp cr ct cu cv cw cz cA cB cC cD cE c7 c8 c9 dc de dh di dm cG cH cI cK cL cM cN cO cQ cR cS cT cU cV cW cZ c4 dn dr dw dx dy dz dA dB dD dF dG dH dI dJ dK dL dM dN dO dP dQ dR dS dU dV dW dX dY dZ ec fF fG fH ee ef ei ej ek en eo ep er eu ew ey fI fJ fK ez eA eB eC eD eE eF eG eH eL eM eN eO eP eR eS eT eU eV eW eX eY eZ e3 e4 e5 e6 e7 e8 e9 fc fe ff fh fk fm gh gi fo fq fu fA fB fC fD iB iC iD iE iF iG iH iI iJ iK iL iM jc jd je jf jg jh ji jj jM jN jO jP jQ jR W' Y L al ao;have M:=d.o.1.jZ.rg.jt;have hm:J=vM s:=by
    refine List.ext_getElem (by rw[J4,L,M]) (λ j h1 aq=>?_);have N:=al j (by omega);rw[A1 h1] at N;rw[<-A1 aq,C6 s (by rw[M];omega),N]
   have O:aC (λ b=>K b/\b≠bf) W W':=I.trans (aC.grown ao (λ b f=>u_ (d.o.1.gH.s.lt b f.1) I.size) (λ b e f=>by injection e with e;have:=d.o.1.gH.s.lt b f.1;omega));have f0:aC gU W W':=O.mono λ b f=>⟨d.o.1.rz b f,λ e=>d.o.1.tK (e▸f)⟩
   obtain⟨hF,ar⟩:=d.o.1.jZ.yes d.o.2.1 d.o.2.2.1 d.o.2.2.2.2 i.o.lit d.o.2.2.2.1;have au:si aT gU base w0 G F ai n fL aI bf bu (qC K W.heap.size) W' hs cb s aB s.c.ag 1 (some ⟨W.heap.size,0,none⟩) (n+1) (n+1) none 0 0:=by
    refine⟨λ b f=>.inl (d.o.1.rz b f),Y.gH,d.o.1.iR.trans f0,d.o.1.jZ,.inl d.o.1.sF,d.o.1.tK,d.o.1.w5.kept (f0.mono λ b f=>f.1) rfl rfl,λ q av=>((d.o.1.w6 q av).iR (O.mono λ b f=>f.1)).mono λ b f=>⟨⟨.inl f.1.1,f.1.2⟩,f.2⟩,d.o.1.w8,d.o.1.uV,d.o.1.nt,.inl ⟨rfl,rfl,J,kE.lG Y.row (by have:=i.o.n10;omega),λ b e=>?_,L,by rw[hm];exact d.o.1.jZ.J5,by rw[hm];exact hF,by rw[hm];exact ar⟩⟩;injection e with e
    have e:W.heap.size=b:=e;subst e;exact⟨⟨.inr rfl,Y.ne⟩,i.o.DE (d.o.1.iR.size)⟩
   apply T.o
   ·exact((((au.set 0 _).set 1 _).set 2 _).set 3 _)
   ·exact(((Y.jS.set 0 _).set 1 _).set 2 _).set 3 _
 ·have aK:decide (next=0)=false:=decide_eq_false m;have aw:=aa m;clear l
  go_wp2_with fail
  apply R.o;exact aw.o
noncomputable def MM:Code:=mU (mU (mU (mU (mU (mU BS)))))
theorem MN
  (C:sg aT gU w0 F ai n fL jv aI gG bC gJ bu) (D:DM aT gU base w0 G F ai n fL jv aI bf bu K cb aB kX oA hs s next W)
  (E:∀(hs':Nat->ax)(s':an)(c5 jy iW gR gE gl Y gI gQ u16 gm gn gp gD gq gr gu gv gw gx gy gz fN fO fP u32 fQ fR fS fT fU fV fW fZ ga gb gd gA gB ig gX gY bM bN bO bP bQ bR bS bT bU bV bW bX bY bZ b5 u64 b6 b7 b8 b9 cc cg ck cm cn cp cr ct cu cv cw cz cA cB cC cD cE c7 c8 c9 dc de dh di dm cG cH cI cK cL cM cN cO cQ cR cS cT cU cV cW cZ c4 dn dr dw dx dy dz dA dB dD dF dG dH dI dJ dK dL dM dN dO dP dQ dR dS dU dV dW dX dY dZ ec fF fG fH ee ef ei ej ek en eo ep er eu ew ey fI fJ fK ez eA eB eC eD eE eF eG eH eL eM eN eO eP eR eS eT eU eV eW eX eY eZ e3 e4 e5 e6 e7 e8 e9 fc fe ff fh fk fm gh gi fo fq fu fA fB fC fD iB iC iD iE iF iG iH iI iJ iK iL iM jc jd je jf jg jh ji jj jM jN jO jP jQ jR:Value)(W':World),mI aT gU base w0 G F ai n fL jv aI bf bu K W' hs' cb s' aB s'.c.ag->s'.aO.length=kX->s'.c.ay.length=oA.length+1->Q .normal {tmps:= #[.pointer (some ⟨G,0,none⟩),.slice gG bC gJ,.int .i64 (bu:Int),c5,jy,iW,.pointer (some ⟨bf,0,none⟩),.int .i64 (iT:Int),.int .i64 left,.int .i64 2000,gR,gE,gl,Y,gI,gQ,u16,gm,gn,gp,gD,gq,gr,gu,gv,gw,gx,gy,gz,fN,fO,fP,u32,fQ,fR,fS,fT,fU,fV,fW,fZ,ga,gb,gd,gA,gB,ig,gX,gY,bM,bN,bO,bP,bQ,bR,bS,bT,bU,bV,bW,bX,bY,bZ,b5,u64,b6,b7,b8,b9,cc,cg,ck,cm,cn,cp,cr,ct,cu,cv,cw,cz,cA,cB,cC,cD,cE,c7,c8,c9,dc,de,dh,di,dm,cG,cH,cI,cK,cL,cM,cN,cO,cQ,cR,cS,cT,cU,cV,cW,cZ,c4,dn,dr,dw,dx,dy,dz,dA,dB,dD,dF,dG,dH,dI,dJ,dK,dL,dM,dN,dO,dP,dQ,dR,dS,dU,dV,dW,dX,dY,dZ,ec,fF,fG,fH,ee,ef,ei,ej,ek,en,eo,ep,er,eu,ew,ey,fI,fJ,fK,ez,eA,eB,eC,eD,eE,eF,eG,eH,eL,eM,eN,eO,eP,eR,eS,eT,eU,eV,eW,eX,eY,eZ,e3,e4,e5,e6,e7,e8,e9,fc,fe,ff,fh,fk,fm,gh,gi,fo,fq,fu,fA,fB,fC,fD,iB,iC,iD,iE,iF,iG,iH,iI,iJ,iK,iL,iM,jc,jd,je,jf,jg,jh,ji,jj,jM,jN,jO,jP,jQ,jR],defers:=[]} W'):
  o_ w_ MM Q {tmps:= #[.pointer (some ⟨G,0,none⟩),.slice gG bC gJ,.int .i64 (bu:Int),c5,jy,iW,.pointer (some ⟨bf,0,none⟩),.int .i64 (iT:Int),.int .i64 left,.int .i64 2000,gR,gE,gl,.int .i64 next,gI,gQ,u16,gm,gn,gp,gD,gq,gr,gu,gv,gw,gx,gy,gz,fN,fO,fP,u32,fQ,fR,fS,fT,fU,fV,fW,fZ,ga,gb,gd,gA,gB,ig,gX,gY,bM,bN,bO,bP,bQ,bR,bS,bT,bU,bV,bW,bX,bY,bZ,b5,u64,b6,b7,b8,b9,cc,cg,ck,cm,cn,cp,cr,ct,cu,cv,cw,cz,cA,cB,cC,cD,cE,c7,c8,c9,dc,de,dh,di,dm,cG,cH,cI,cK,cL,cM,cN,cO,cQ,cR,cS,cT,cU,cV,cW,cZ,c4,dn,dr,dw,dx,dy,dz,dA,dB,dD,dF,dG,dH,dI,dJ,dK,dL,dM,dN,dO,dP,dQ,dR,dS,dU,dV,dW,dX,dY,dZ,ec,fF,fG,fH,ee,ef,ei,ej,ek,en,eo,ep,er,eu,ew,ey,fI,fJ,fK,ez,eA,eB,eC,eD,eE,eF,eG,eH,eL,eM,eN,eO,eP,eR,eS,eT,eU,eV,eW,eX,eY,eZ,e3,e4,e5,e6,e7,e8,e9,fc,fe,ff,fh,fk,fm,gh,gi,fo,fq,fu,fA,fB,fC,fD,iB,iC,iD,iE,iF,iG,iH,iI,iJ,iK,iL,iM,jc,jd,je,jf,jg,jh,ji,jj,jM,jN,jO,jP,jQ,jR],defers:=[]} W:=by
 have Z:=aa E;have ab:=aa C;have d:=aa D;obtain⟨aC,aD,s',w,H,he⟩:=D.old;have f:=aa (z_ w (z_ H he));have I:=aa (w.mT C);clear E C D w H he
 conv=>arg 2;whnf
 dsimp only;have J:s.c=s'.c:=by rw[f.o.2.2]
 obtain⟨j,jX,l,p⟩:∃A n c,hs 5=⟨A,n,c⟩:=⟨_,_,_,rfl⟩
 have ad:W.cell? ⟨G,6,none⟩=some (.slice j jX l):=by have:=d.o.gH.e.ku (k:=6) (v:=(hs 5).v) rfl;rw[p] at this;exact this
 have L:jX=s.c.st.length:=by have:=d.o.gH.e.jX;rw[p] at this;exact this
 obtain⟨M,j5,N,q⟩:∃A n c,hs 4=⟨A,n,c⟩:=⟨_,_,_,rfl⟩
 have ae:W.cell? ⟨G,5,none⟩=some (.slice M j5 N):=by have:=d.o.gH.e.ku (k:=5) (v:=(hs 4).v) rfl;rw[q] at this;exact this
 have O:j5=s.c.ay.length:=by have:=d.o.gH.e.j5;rw[q] at this;exact this
 have b:=aa (z_ J (z_ p (z_ L (z_ q O))));clear J p L q O
 go_upto_region 49 with fail
 have g:=aa (d.o.gH.below ((bB W (.cells #[.int .i64 (j5:Int)] 3)).drew));have af:fE (((W.alloc (.cells #[.int .i64 (j5:Int)] 3)).drew).ownsRow base 3 1 (.slice j jX l) jX ((s.c.st.map λ k:Nat=>(k:Int)).map (s_ .i64))):=aa (by
  have h1:=g.o.1.e.rows.row 5;rw[b.o.2.1] at h1;rw[BV];exact h1)
 have ah:=aa (Nat.le_of_lt g.o.1.e.lt);have aj:fE (jX<=1100):=aa (by have h1:=I.o;have ak:=b.o.2.2.1;rw[b.o.1] at ak;omega);have al:fE (∀v9 bG,nW ((W.alloc (.cells #[.int .i64 (j5:Int)] 3)).drew) base 3 (.slice j jX l) (jX+1) (((s.c.st.map λ k:Nat=>(k:Int))++[(j5:Int)]).map (s_ .i64)) v9 bG->nW ((W.alloc (.cells #[.int .i64 (j5:Int)] 3)).drew) base 3 (hs 5).v (s.c.st.length+1) (qc (s.c.st++[j5])) v9 bG):=aa (λ v9 bG r=>by
  rw[b.o.2.1,<-b.o.2.2.1,<-BV,List.map_append];exact r)
 have t:=g.o.1.e.ku (k:=6) (v:=(hs 5).v) rfl;have u:=g.o.1.e.ku (k:=5) (v:=(hs 4).v) rfl;rw[b.o.2.1] at t;rw[b.o.2.2.2.1] at u;replace t:((W.alloc (.cells #[.int .i64 (j5:Int)] 3)).drew).cell? ⟨G,6,none⟩=some (.slice j jX l):=t;replace u:((W.alloc (.cells #[.int .i64 (j5:Int)] 3)).drew).cell? ⟨G,5,none⟩=some (.slice M j5 N):=u;rename_i ao P;have aq:=aa P;clear P;refine wp_region_noPanic ?_
 go_region_law (refine EF rfl (.tmp 217) (.tmp 223) rfl base (.slice j jX l) jX (s.c.st.map λ k:Nat=>(k:Int)) rfl af.o (some ⟨W.heap.size,0,none⟩) 1 1 [(j5:Int)] rfl ((aS.lit W [(j5:Int)] 1 _ rfl rfl (by omega)).drew) (by have:=aj.o;omega) ah.o ?_;intro v9 bG r;obtain⟨⟨A',m,c'⟩,ar,aE,au,f9,i,R⟩:=aX.FA (x:=j5) g.o.1 (al.o v9 bG r);obtain rfl:v9=.slice A' m c':=ar;clear r)
 all_goals
  show ao _ _;apply aq.o;rw[b.o.2.2.2.2] at i;have i:aX K base (bG.setCell ⟨G,6,none⟩ (.slice A' m c')) G (iN hs 5 ⟨A',m,c'⟩) cb {s with c:=nk s.c}:=i;have i:=aa i;have av:=aa (f.o.2.1.trans (g.o.2.trans R));clear R au f9 t u ad ae;generalize bG.setCell ⟨G,6,none⟩ (.slice A' m c')=V at*;have y:s'.c.ag=s'.c.ay.length:=by rw[<-b.o.1];exact d.o.fix
  have z:s'.c.kS=false:=by rw[<-b.o.1];exact d.o.kS
  have S:j7 F F s'.c s'.c.ay.length []:=by rw[<-y];exact f.o.1.jZ.gP
  have T:jT (nk s.c):=by rw[b.o.1];exact(S.level z).aL
  have B:s.c.n=n:=by rw[b.o.1];exact f.o.1.jZ.rg.jt
  have aw:=aa (Bv i.o next none T (by show gW s.c.n next;rw[B];exact d.o.nl) (by show s.c.n<=60000;have:=ab.o.n10;omega) (by show(s.c.st++[s.c.ay.length]).length<=1000000;rw[r_,b.o.1];have:=I.o;simp;omega));have U:=aa (z_ y (z_ z B));clear y z S T B
  go_wp2_with (go_at_call 156;refine aw.o.mono ?_;rintro e aF ⟨rfl,h',az,aA⟩;dsimp only)
  have l5:=d.o.l5;rw[b.o.1] at l5;have X:=f.o.1.jZ.decide (aI:=s) U.o.1 U.o.2.1 d.o.nl (by rw[<-b.o.1];exact d.o.ql) (by rw[<-b.o.1];exact d.o.Ak) f.o.2.2 d.o.lR l5;rw[<-b.o.1] at X;apply Z.o (iN (iN hs 5 ⟨A',m,c'⟩) 4 h') {s with c:=k6 (nk s.c) next none}
  ·refine f.o.1.move az (av.o.trans aA) ?_ (by rw[f.o.2.2]) (by rw[f.o.2.2]) (by show s.c.cl.length=_;rw[b.o.1]);exact X
  ·exact d.o.aO
  ·show(s.c.ay++[next]).length=_;rw[r_,d.o.ay];rfl
end
end Go.Proofs.YtogdlkfacflmaaaGreat
