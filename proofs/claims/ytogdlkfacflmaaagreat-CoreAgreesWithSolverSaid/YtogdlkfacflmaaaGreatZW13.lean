/- Parts of the walk of the solver and its core; no condition. -/
import Derived.Test.YtogdlkfacflmaaaGreatZW12
import Derived.Laws.Rows
import Derived.Test.YtogdlkfacflmaaaGreatZW6
import Derived.Test.YtogdlkfacflmaaaGreatZW1
namespace Go.Proofs.YtogdlkfacflmaaaGreat
set_option linter.unusedVariables false
set_option linter.unusedSimpArgs false
set_option maxRecDepth 1000000
set_option maxHeartbeats 8000000
open _root_.Or renaming inl→z_
open _root_.Go.Value renaming slice→y_
open _root_.Go.World renaming cell?_of_block→x_
open _root_.List renaming getElem?_cons_zero→w_,getElem?_cons_succ→t_,map_toArray→s_,map_cons→r_,map_nil→q_,range→n_
open _root_.Go.Proofs.Tryz renaming prog→v_
open _root_.Nat renaming lt_of_lt_of_le→u_
open _root_.And renaming intro→p_
open _root_.Option.some renaming injEq→o_
open _root_.Go.Handed renaming intro→m_
open _root_.Go.Value.slice renaming injEq→l_
variable{a:Act}{W w0 w:World}{bf base G n fL jv bC gJ bu g c:Nat}{aT gU:Nat->Prop}{F:List (List Int)}{ai act:List Int}{aI:an}{gG:Option Addr}{hs:Nat->ax}{cb:Nat->Nat}
section
open Go.RowKit Go.Shelf
theorem MO{aK:Ending->World->Prop}{v0 v1 v2 v3:Value}(b:a.defers=[])(c:a.tmps.getD 6 undef=.pointer (some ⟨bf,0,none⟩))(d:aN W bf 30 [v0,v1,v2,v3])(h:aK (.returned (.agg #[v0,v1,v2,v3])) W):bodyPost v_ Tryz.f99 aK .ret a W:=
 bodyPost_ret (results_cell_row (p:=6) (ty:=30) rfl a.tmps W bf 30 #[v0,v1,v2,v3] (0,0) _ c d Tryz.underlying30 rfl (by kernel_rfl)) b h
structure BY(aT gU:Nat->Prop)(base:Nat)(w0:World)(G:Nat)(F:List (List Int))(ai:List Int)(n fL jv:Nat)(aI:an)(bf bu:Nat)(K:Nat->Prop)(hs:Nat->ax)(cb:Nat->Nat)(s:an)(aB iT:Nat)(left:Int)(W:World)(g:Nat):Prop where
 S:mI aT gU base w0 G F ai n fL jv aI bf bu K W hs cb s aB s.c.ag
 t1:1<=iT
 t2:iT<=aB+1
 t3:left<=0->iT<=aB
 iV: -(aB:Int)<=left
 kz:left<=3000000
 g:g=(59050-aB)*1000+(if left<=0 then 100 else 0)+(20-s.c.ay.length)
inductive xh(aT gU:Nat->Prop)(base:Nat)(w0:World)(G:Nat)(F:List (List Int))(ai:List Int)(n fL jv:Nat)(aI:an)(gG:Option Addr)(bC gJ bf bu:Nat):Nat->Act->World->Prop
 |mk {K:Nat->Prop} {hs:Nat->ax} {cb:Nat->Nat} {s:an} {aB iT:Nat} {left:Int} {g:Nat} {c5 jy iW gR gE gl iw gI gQ u16 gm gn gp gD gq gr gu gv gw gx gy gz fN fO fP u32 fQ fR fS fT fU fV fW fZ ga gb gd gA gB ig gX gY bM bN bO bP bQ bR bS bT bU bV bW bX bY bZ b5 u64 b6 b7 b8 b9 cc cg ck cm cn cp cr ct cu cv cw cz cA cB cC cD cE c7 c8 c9 dc de dh di dm cG cH cI cK cL cM cN cO cQ cR cS cT cU cV cW cZ c4 dn dr dw dx dy dz dA dB dD dF dG dH dI dJ dK dL dM dN dO dP dQ dR dS dU dV dW dX dY dZ ec fF fG fH ee ef ei ej ek en eo ep er eu ew ey fI fJ fK ez eA eB eC eD eE eF eG eH eL eM eN eO eP eR eS eT eU eV eW eX eY eZ e3 e4 e5 e6 e7 e8 e9 fc fe ff fh fk fm gh gi fo fq fu fA fB fC fD iB iC iD iE iF iG iH iI iJ iK iL iM jc jd je jf jg jh ji jj jM jN jO jP jQ jR:Value} {W:World} (h:BY aT gU base w0 G F ai n fL jv aI bf bu K hs cb s aB iT left W g):xh aT gU base w0 G F ai n fL jv aI gG bC gJ bf bu g {tmps:= #[.pointer (some ⟨G,0,none⟩),.slice gG bC gJ,.int .i64 (bu:Int),c5,jy,iW,.pointer (some ⟨bf,0,none⟩),.int .i64 (iT:Int),.int .i64 left,.int .i64 2000,gR,gE,gl,iw,gI,gQ,u16,gm,gn,gp,gD,gq,gr,gu,gv,gw,gx,gy,gz,fN,fO,fP,u32,fQ,fR,fS,fT,fU,fV,fW,fZ,ga,gb,gd,gA,gB,ig,gX,gY,bM,bN,bO,bP,bQ,bR,bS,bT,bU,bV,bW,bX,bY,bZ,b5,u64,b6,b7,b8,b9,cc,cg,ck,cm,cn,cp,cr,ct,cu,cv,cw,cz,cA,cB,cC,cD,cE,c7,c8,c9,dc,de,dh,di,dm,cG,cH,cI,cK,cL,cM,cN,cO,cQ,cR,cS,cT,cU,cV,cW,cZ,c4,dn,dr,dw,dx,dy,dz,dA,dB,dD,dF,dG,dH,dI,dJ,dK,dL,dM,dN,dO,dP,dQ,dR,dS,dU,dV,dW,dX,dY,dZ,ec,fF,fG,fH,ee,ef,ei,ej,ek,en,eo,ep,er,eu,ew,ey,fI,fJ,fK,ez,eA,eB,eC,eD,eE,eF,eG,eH,eL,eM,eN,eO,eP,eR,eS,eT,eU,eV,eW,eX,eY,eZ,e3,e4,e5,e6,e7,e8,e9,fc,fe,ff,fh,fk,fm,gh,gi,fo,fq,fu,fA,fB,fC,fD,iB,iC,iD,iE,iF,iG,iH,iI,iJ,iK,iL,iM,jc,jd,je,jf,jg,jh,ji,jj,jM,jN,jO,jP,jQ,jR],defers:=[]} W
theorem xh.elim(b:xh aT gU base w0 G F ai n fL jv aI gG bC gJ bf bu g a W){P:Prop}
  (k:∀{K:Nat->Prop}{hs:Nat->ax}{cb:Nat->Nat}{s:an}{c iT:Nat}{left:Int}{d e f i j l m o p u16 q r t u v w y z A B C D E H I u32 J L M N O Q R S T U V X Y Z aa ab ad ae af ag ah aj ak al ao aq ar au av aw ay u64 az aA aB aC aD aE aF aG aH aJ aK aL aM aN aO aP aQ aR aS aU aV aW aX aY aZ a6 a7 a8 a' ba bb bc bd bg bh bj bk bl bn bo bp bq br bs bt bw bx bz bA bB bD bE bF bG bH bI bJ bK bL bM bN bO bP bQ bR bS bT bU bV bW bX bY bZ b0 b1 b2 b3 b4 b5 b6 b7 b8 b9 b' ca cc cd cf cg ch cj ck cm cn cp cq cr ct cu cv cw cx cy cz cA cB cC cD cE cF cG cH cI cJ cK cL cM cN cO cP cQ cR cS cT cU cV cW cX cY cZ c0 c4 c5 c6 c7 c8 c9 da db dc dd de df dh di dj dk dm dn dp dq dr dt du dv dw dx dy dz dA dB dC dD dE dF:Value},a={tmps:= #[.pointer (some ⟨G,0,none⟩),.slice gG bC gJ,.int .i64 (bu:Int),d,e,f,.pointer (some ⟨bf,0,none⟩),.int .i64 (iT:Int),.int .i64 left,.int .i64 2000,i,j,l,m,o,p,u16,q,r,t,u,v,w,y,z,A,B,C,D,E,H,I,u32,J,L,M,N,O,Q,R,S,T,U,V,X,Y,Z,aa,ab,ad,ae,af,ag,ah,aj,ak,al,ao,aq,ar,au,av,aw,ay,u64,az,aA,aB,aC,aD,aE,aF,aG,aH,aJ,aK,aL,aM,aN,aO,aP,aQ,aR,aS,aU,aV,aW,aX,aY,aZ,a6,a7,a8,a',ba,bb,bc,bd,bg,bh,bj,bk,bl,bn,bo,bp,bq,br,bs,bt,bw,bx,bz,bA,bB,bD,bE,bF,bG,bH,bI,bJ,bK,bL,bM,bN,bO,bP,bQ,bR,bS,bT,bU,bV,bW,bX,bY,bZ,b0,b1,b2,b3,b4,b5,b6,b7,b8,b9,b',ca,cc,cd,cf,cg,ch,cj,ck,cm,cn,cp,cq,cr,ct,cu,cv,cw,cx,cy,cz,cA,cB,cC,cD,cE,cF,cG,cH,cI,cJ,cK,cL,cM,cN,cO,cP,cQ,cR,cS,cT,cU,cV,cW,cX,cY,cZ,c0,c4,c5,c6,c7,c8,c9,da,db,dc,dd,de,df,dh,di,dj,dk,dm,dn,dp,dq,dr,dt,du,dv,dw,dx,dy,dz,dA,dB,dC,dD,dE,dF],defers:=[]}->BY aT gU base w0 G F ai n fL jv aI bf bu K hs cb s c iT left W g->P):P:=by
 cases b with
 |mk h=>exact k rfl h
noncomputable def MP:Code:=(Tryz.f99.body.bind λ c=>qj c 0).getD .skip
theorem MQ{aT gU:Nat->Prop}{base:Nat}{w0:World}{G:Nat}{F:List (List Int)}{ai:List Int}{n fL jv:Nat}{aI:an}{gG:Option Addr}{bC gJ bf bu:Nat}{K:Nat->Prop}{W:World}{hs:Nat->ax}{cb:Nat->Nat}{s:an}{aB iT g:Nat}{left:Int}{c5 jy iW gR gE gl iw gI gQ u16 gm gn gp gD gq gr gu gv gw gx gy gz fN fO fP u32 fQ fR fS fT fU fV fW fZ ga gb gd gA gB ig gX gY bM bN bO bP bQ bR bS bT bU bV bW bX bY bZ b5 u64 b6 b7 b8 b9 cc cg ck cm cn cp cr ct cu cv cw cz cA cB cC cD cE c7 c8 c9 dc de dh di dm cG cH cI cK cL cM cN cO cQ cR cS cT cU cV cW cZ c4 dn dr dw dx dy dz dA dB dD dF dG dH dI dJ dK dL dM dN dO dP dQ dR dS dU dV dW dX dY dZ ec fF fG fH ee ef ei ej ek en eo ep er eu ew ey fI fJ fK ez eA eB eC eD eE eF eG eH eL eM eN eO eP eR eS eT eU eV eW eX eY eZ e3 e4 e5 e6 e7 e8 e9 fc fe ff fh fk fm gh gi fo fq fu fA fB fC fD iB iC iD iE iF iG iH iI iJ iK iL iM jc jd je jf jg jh ji jj jM jN jO jP jQ jR:Value}{Q:Exit->Act->World->Prop}
  (C:sg aT gU w0 F ai n fL jv aI gG bC gJ bu) (D:BY aT gU base w0 G F ai n fL jv aI bf bu K hs cb s aB iT left W g)
  (E:∀(iT:Nat)(left:Int)(v0 v1 v2 v3:Value)(c5 jy iW gR gE gl iw gI gQ u16 gm gn gp gD gq gr gu gv gw gx gy gz fN fO fP u32 fQ fR fS fT fU fV fW fZ ga gb gd gA gB ig gX gY bM bN bO bP bQ bR bS bT bU bV bW bX bY bZ b5 u64 b6 b7 b8 b9 cc cg ck cm cn cp cr ct cu cv cw cz cA cB cC cD cE c7 c8 c9 dc de dh di dm cG cH cI cK cL cM cN cO cQ cR cS cT cU cV cW cZ c4 dn dr dw dx dy dz dA dB dD dF dG dH dI dJ dK dL dM dN dO dP dQ dR dS dU dV dW dX dY dZ ec fF fG fH ee ef ei ej ek en eo ep er eu ew ey fI fJ fK ez eA eB eC eD eE eF eG eH eL eM eN eO eP eR eS eT eU eV eW eX eY eZ e3 e4 e5 e6 e7 e8 e9 fc fe ff fh fk fm gh gi fo fq fu fA fB fC fD iB iC iD iE iF iG iH iI iJ iK iL iM jc jd je jf jg jh ji jj jM jN jO jP jQ jR:Value)(W':World),aN W' bf 30 [v0,v1,v2,v3]->DF aT gU base w0 G F ai n fL aI bu (.returned (.agg #[v0,v1,v2,v3])) W'->Q .ret {tmps:= #[.pointer (some ⟨G,0,none⟩),.slice gG bC gJ,.int .i64 (bu:Int),c5,jy,iW,.pointer (some ⟨bf,0,none⟩),.int .i64 (iT:Int),.int .i64 left,.int .i64 2000,gR,gE,gl,iw,gI,gQ,u16,gm,gn,gp,gD,gq,gr,gu,gv,gw,gx,gy,gz,fN,fO,fP,u32,fQ,fR,fS,fT,fU,fV,fW,fZ,ga,gb,gd,gA,gB,ig,gX,gY,bM,bN,bO,bP,bQ,bR,bS,bT,bU,bV,bW,bX,bY,bZ,b5,u64,b6,b7,b8,b9,cc,cg,ck,cm,cn,cp,cr,ct,cu,cv,cw,cz,cA,cB,cC,cD,cE,c7,c8,c9,dc,de,dh,di,dm,cG,cH,cI,cK,cL,cM,cN,cO,cQ,cR,cS,cT,cU,cV,cW,cZ,c4,dn,dr,dw,dx,dy,dz,dA,dB,dD,dF,dG,dH,dI,dJ,dK,dL,dM,dN,dO,dP,dQ,dR,dS,dU,dV,dW,dX,dY,dZ,ec,fF,fG,fH,ee,ef,ei,ej,ek,en,eo,ep,er,eu,ew,ey,fI,fJ,fK,ez,eA,eB,eC,eD,eE,eF,eG,eH,eL,eM,eN,eO,eP,eR,eS,eT,eU,eV,eW,eX,eY,eZ,e3,e4,e5,e6,e7,e8,e9,fc,fe,ff,fh,fk,fm,gh,gi,fo,fq,fu,fA,fB,fC,fD,iB,iC,iD,iE,iF,iG,iH,iI,iJ,iK,iL,iM,jc,jd,je,jf,jg,jh,ji,jj,jM,jN,jO,jP,jQ,jR],defers:=[]} W'):
  Code.wp v_ MP Q {tmps:= #[.pointer (some ⟨G,0,none⟩),.slice gG bC gJ,.int .i64 (bu:Int),c5,jy,iW,.pointer (some ⟨bf,0,none⟩),.int .i64 (iT:Int),.int .i64 left,.int .i64 2000,gR,gE,gl,iw,gI,gQ,u16,gm,gn,gp,gD,gq,gr,gu,gv,gw,gx,gy,gz,fN,fO,fP,u32,fQ,fR,fS,fT,fU,fV,fW,fZ,ga,gb,gd,gA,gB,ig,gX,gY,bM,bN,bO,bP,bQ,bR,bS,bT,bU,bV,bW,bX,bY,bZ,b5,u64,b6,b7,b8,b9,cc,cg,ck,cm,cn,cp,cr,ct,cu,cv,cw,cz,cA,cB,cC,cD,cE,c7,c8,c9,dc,de,dh,di,dm,cG,cH,cI,cK,cL,cM,cN,cO,cQ,cR,cS,cT,cU,cV,cW,cZ,c4,dn,dr,dw,dx,dy,dz,dA,dB,dD,dF,dG,dH,dI,dJ,dK,dL,dM,dN,dO,dP,dQ,dR,dS,dU,dV,dW,dX,dY,dZ,ec,fF,fG,fH,ee,ef,ei,ej,ek,en,eo,ep,er,eu,ew,ey,fI,fJ,fK,ez,eA,eB,eC,eD,eE,eF,eG,eH,eL,eM,eN,eO,eP,eR,eS,eT,eU,eV,eW,eX,eY,eZ,e3,e4,e5,e6,e7,e8,e9,fc,fe,ff,fh,fk,fm,gh,gi,fo,fq,fu,fA,fB,fC,fD,iB,iC,iD,iE,iF,iG,iH,iI,iJ,iK,iL,iM,jc,jd,je,jf,jg,jh,ji,jj,jM,jN,jO,jP,jQ,jR],defers:=[]} W:=by
 have r:=aa E;have d:=aa C;clear E C
 conv=>arg 2;whnf
 dsimp only;refine wp_loop_ghost_k (xh aT gU base w0 G F ai n fL jv aI gG bC gJ bf bu) g ?start ?round
 case start=>exact xh.mk D
 case round=>
  clear D K W hs cb s aB iT g left;intro g a W I a6 t J L;refine I.elim ?_;intro K hs cb s aB iT left c5 jy iW gR gE gl iw gI gQ u16 gm gn gp gD gq gr gu gv gw gx gy gz fN fO fP u32 fQ fR fS fT fU fV fW fZ ga gb gd gA gB ig gX gY bM bN bO bP bQ bR bS bT bU bV bW bX bY bZ b5 u64 b6 b7 b8 b9 cc cg ck cm cn cp cr ct cu cv cw cz cA cB cC cD cE c7 c8 c9 dc de dh di dm cG cH cI cK cL cM cN cO cQ cR cS cT cU cV cW cZ c4 dn dr dw dx dy dz dA dB dD dF dG dH dI dJ dK dL dM dN dO dP dQ dR dS dU dV dW dX dY dZ ec fF fG fH ee ef ei ej ek en eo ep er eu ew ey fI fJ fK ez eA eB eC eD eE eF eG eH eL eM eN eO eP eR eS eT eU eV eW eX eY eZ e3 e4 e5 e6 e7 e8 e9 fc fe ff fh fk fm gh gi fo fq fu fA fB fC fD iB iC iD iE iF iG iH iI iJ iK iL iM jc jd je jf jg jh ji jj jM jN jO jP jQ jR az H;clear I;subst az;have b:=aa H;have u:=aa J;have w:=aa L;have i:=aa (H.S.mT d.o);clear H J L;refine wp_block ?_;refine wp_seq_k ?_;intro aA M;have aD:=aa M;clear M;refine Mh d.o b.o.S (by have:=b.o.iV;have:=b.o.kz;have:=i.o;omega) ?_ ?_ ?_
  ·intro a7 s1 c5 jy iW gR gE gl iw gI gQ u16 gm gn gp gD gq gr gu gv gw gx gy gz fN fO fP u32 fQ fR fS fT fU fV fW fZ ga gb gd gA gB ig gX gY bM bN bO bP bQ bR bS bT bU bV bW bX bY bZ b5 u64 b6 b7 b8 b9 cc cg ck cm cn cp cr ct cu cv cw cz cA cB cC cD cE c7 c8 c9 dc de dh di dm cG cH cI cK cL cM cN cO cQ cR cS cT cU cV cW cZ c4 dn dr dw dx dy dz dA dB dD dF dG dH dI dJ dK dL dM dN dO dP dQ dR dS dU dV dW dX dY dZ ec fF fG fH ee ef ei ej ek en eo ep er eu ew ey fI fJ fK ez eA eB eC eD eE eF eG eH eL eM eN eO eP eR eS eT eU eV eW eX eY eZ e3 e4 e5 e6 e7 e8 e9 fc fe ff fh fk fm gh gi fo fq fu fA fB fC fD iB iC iD iE iF iG iH iI iJ iK iL iM jc jd je jf jg jh ji jj jM jN jO jP jQ jR a8 N O P R T;have j:=aa (p_ N (p_ O (p_ P (p_ R T))));clear N O P R T;show aA _ _;apply aD.o;refine wp_seq_k ?_;intro s5 U;have aE:=aa U;clear U;refine Mt d.o j.o.1 ⟨b.o.t1,by have:=b.o.t2;have:=i.o;omega⟩ ?_ ?_
   ·intro c5 jy iW gR gE gl iw gI gQ u16 gm gn gp gD gq gr gu gv gw gx gy gz fN fO fP u32 fQ fR fS fT fU fV fW fZ ga gb gd gA gB ig gX gY bM bN bO bP bQ bR bS bT bU bV bW bX bY bZ b5 u64 b6 b7 b8 b9 cc cg ck cm cn cp cr ct cu cv cw cz cA cB cC cD cE c7 c8 c9 dc de dh di dm cG cH cI cK cL cM cN cO cQ cR cS cT cU cV cW cZ c4 dn dr dw dx dy dz dA dB dD dF dG dH dI dJ dK dL dM dN dO dP dQ dR dS dU dV dW dX dY dZ ec fF fG fH ee ef ei ej ek en eo ep er eu ew ey fI fJ fK ez eA eB eC eD eE eF eG eH eL eM eN eO eP eR eS eT eU eV eW eX eY eZ e3 e4 e5 e6 e7 e8 e9 fc fe ff fh fk fm gh gi fo fq fu fA fB fC fD iB iC iD iE iF iG iH iI iJ iK iL iM jc jd je jf jg jh ji jj jM jN jO jP jQ jR hl;show s5 _ _;apply aE.o;refine wp_seq_k ?_;intro a' V;have aF:=aa V;clear V
    go_wp2_with fail
    apply aF.o;refine wp_seq_k ?_;intro aG X;have aH:=aa X;clear X;refine wp_block ?_;refine MF d.o j.o.1 j.o.2.1 j.o.2.2.1 ?_ ?_
    ·intro m s2 next c5 jy iW gR gE gl gI gQ u16 gm gn gp gD gq gr gu gv gw gx gy gz fN fO fP u32 fQ fR fS fT fU fV fW fZ ga gb gd gA gB ig gX gY bM bN bO bP bQ bR bS bT bU bV bW bX bY bZ b5 u64 b6 b7 b8 b9 cc cg ck cm cn cp cr ct cu cv cw cz cA cB cC cD cE c7 c8 c9 dc de dh di dm cG cH cI cK cL cM cN cO cQ cR cS cT cU cV cW cZ c4 dn dr dw dx dy dz dA dB dD dF dG dH dI dJ dK dL dM dN dO dP dQ dR dS dU dV dW dX dY dZ ec fF fG fH ee ef ei ej ek en eo ep er eu ew ey fI fJ fK ez eA eB eC eD eE eF eG eH eL eM eN eO eP eR eS eT eU eV eW eX eY eZ e3 e4 e5 e6 e7 e8 e9 fc fe ff fh fk fm gh gi fo fq fu fA fB fC fD iB iC iD iE iF iG iH iI iJ iK iL iM jc jd je jf jg jh ji jj jM jN jO jP jQ jR p f y z A ab B
     show aG _ _;apply aH.o;refine wp_seq_k ?_;intro aJ ad;have aK:=aa ad;clear ad;refine wp_block ?_;have ae:Al aT gU base w0 G F ai n fL jv aI bf bu K cb aB s2.aO.length s2.c.ay m s2 next p (s2.ord.length+(if next=0 then 1 else 0)):=by
      refine⟨λ e=>⟨f,y,z,rfl,rfl,?_⟩,λ e=>?_,f.gH,rfl⟩
      ·rcases B with h|h
       ·rw[d.o.x8];exact h.2
       ·exact absurd e h.1
      ·rcases B with h|h
       ·exact absurd h.1 e
       ·exact⟨⟨p,m,s2,f,aC.refl,rfl⟩,f.gH,y,z,rfl,rfl,f.jZ.rg.lR,λ v h1 q af _=>f.jZ.un v h1 q af,h.1,h.2.1,h.2.2.1,λ _=>h.2.2.2.2.symm⟩
     refine MH (g0:=0) d.o ae ?_;intro ba s3 bb g3 c5 jy iW gR gE gl gI gQ u16 gm gn gp gD gq gr gu gv gw gx gy gz fN fO fP u32 fQ fR fS fT fU fV fW fZ ga gb gd gA gB ig gX gY bM bN bO bP bQ bR bS bT bU bV bW bX bY bZ b5 u64 b6 b7 b8 b9 cc cg ck cm cn cp cr ct cu cv cw cz cA cB cC cD cE c7 c8 c9 dc de dh di dm cG cH cI cK cL cM cN cO cQ cR cS cT cU cV cW cZ c4 dn dr dw dx dy dz dA dB dD dF dG dH dI dJ dK dL dM dN dO dP dQ dR dS dU dV dW dX dY dZ ec fF fG fH ee ef ei ej ek en eo ep er eu ew ey fI fJ fK ez eA eB eC eD eE eF eG eH eL eM eN eO eP eR eS eT eU eV eW eX eY eZ e3 e4 e5 e6 e7 e8 e9 fc fe ff fh fk fm gh gi fo fq fu fA fB fC fD iB iC iD iE iF iG iH iI iJ iK iL iM jc jd je jf jg jh ji jj jM jN jO jP jQ jR bc ag ah;have Y:=aa (p_ ag ah);have Z:=aa (p_ A ab);clear ag ah ae B f y z A ab;show aJ _ _;apply aK.o;refine wp_seq_k ?_;intro aL aj;have aM:=aa aj;clear aj;refine ML d.o (λ e=>⟨(Y.o.1.no e).1,(Y.o.1.no e).2.1,(Y.o.1.no e).2.2.1,(Y.o.1.no e).2.2.2.2.2,Y.o.2 e⟩) ?_ ?_
     ·intro c5 jy iW gR gE gl gI gQ u16 gm gn gp gD gq gr gu gv gw gx gy gz fN fO fP u32 fQ fR fS fT fU fV fW fZ ga gb gd gA gB ig gX gY bM bN bO bP bQ bR bS bT bU bV bW bX bY bZ b5 u64 b6 b7 b8 b9 cc cg ck cm cn cp cr ct cu cv cw cz cA cB cC cD cE c7 c8 c9 dc de dh di dm cG cH cI cK cL cM cN cO cQ cR cS cT cU cV cW cZ c4 dn dr dw dx dy dz dA dB dD dF dG dH dI dJ dK dL dM dN dO dP dQ dR dS dU dV dW dX dY dZ ec fF fG fH ee ef ei ej ek en eo ep er eu ew ey fI fJ fK ez eA eB eC eD eE eF eG eH eL eM eN eO eP eR eS eT eU eV eW eX eY eZ e3 e4 e5 e6 e7 e8 e9 fc fe ff fh fk fm gh gi fo fq fu fA fB fC fD iB iC iD iE iF iG iH iI iJ iK iL iM jc jd je jf jg jh ji jj jM jN jO jP jQ jR aP;show aL _ _;apply aM.o;refine MN d.o (Y.o.1.yes aP) ?_;intro bd iP c5 jy iW gR gE gl iw gI gQ u16 gm gn gp gD gq gr gu gv gw gx gy gz fN fO fP u32 fQ fR fS fT fU fV fW fZ ga gb gd gA gB ig gX gY bM bN bO bP bQ bR bS bT bU bV bW bX bY bZ b5 u64 b6 b7 b8 b9 cc cg ck cm cn cp cr ct cu cv cw cz cA cB cC cD cE c7 c8 c9 dc de dh di dm cG cH cI cK cL cM cN cO cQ cR cS cT cU cV cW cZ c4 dn dr dw dx dy dz dA dB dD dF dG dH dI dJ dK dL dM dN dO dP dQ dR dS dU dV dW dX dY dZ ec fF fG fH ee ef ei ej ek en eo ep er eu ew ey fI fJ fK ez eA eB eC eD eE eF eG eH eL eM eN eO eP eR eS eT eU eV eW eX eY eZ e3 e4 e5 e6 e7 e8 e9 fc fe ff fh fk fm gh gi fo fq fu fA fB fC fD iB iC iD iE iF iG iH iI iJ iK iL iM jc jd je jf jg jh ji jj jM jN jO jP jQ jR bg ak bh aQ;show t _ _;refine w.o _ _ (m_ ((59050-aB)*1000+(if left<=0 then 100 else 0)+(20-iP.c.ay.length)) ?_ (u.o _ _ _ (xh.mk ⟨ak,b.o.t1,b.o.t2,b.o.t3,b.o.iV,b.o.kz,rfl⟩)));have h1:=b.o.g;have q:=Z.o.2;have af:=j.o.2.2.2.2;have aR:=(ak.mT d.o).2.2.2.2.2.2;have al:=d.o.n10;rw[q] at aQ;omega
     ·intro ao aq ar sj au aS aU aV c5 jy iW gR gE gl iw gI gQ u16 gm gn gp gD gq gr gu gv gw gx gy gz fN fO fP u32 fQ fR fS fT fU fV fW fZ ga gb gd gA gB ig gX gY bM bN bO bP bQ bR bS bT bU bV bW bX bY bZ b5 u64 b6 b7 b8 b9 cc cg ck cm cn cp cr ct cu cv cw cz cA cB cC cD cE c7 c8 c9 dc de dh di dm cG cH cI cK cL cM cN cO cQ cR cS cT cU cV cW cZ c4 dn dr dw dx dy dz dA dB dD dF dG dH dI dJ dK dL dM dN dO dP dQ dR dS dU dV dW dX dY dZ ec fF fG fH ee ef ei ej ek en eo ep er eu ew ey fI fJ fK ez eA eB eC eD eE eF eG eH eL eM eN eO eP eR eS eT eU eV eW eX eY eZ e3 e4 e5 e6 e7 e8 e9 fc fe ff fh fk fm gh gi fo fq fu fA fB fC fD iB iC iD iE iF iG iH iI iJ iK iL iM jc jd je jf jg jh ji jj jM jN jO jP jQ jR av k l;have h:=r.o iT left (.int .i64 1) (.slice aS aU aV) mY (.int .i64 (aB:Int));show Q .ret _ _;apply h
      ·exact l
      ·exact k.done
    ·intro ao aq ar sj au aW aX aY c5 jy iW gR gE gl iw gI gQ u16 gm gn gp gD gq gr gu gv gw gx gy gz fN fO fP u32 fQ fR fS fT fU fV fW fZ ga gb gd gA gB ig gX gY bM bN bO bP bQ bR bS bT bU bV bW bX bY bZ b5 u64 b6 b7 b8 b9 cc cg ck cm cn cp cr ct cu cv cw cz cA cB cC cD cE c7 c8 c9 dc de dh di dm cG cH cI cK cL cM cN cO cQ cR cS cT cU cV cW cZ c4 dn dr dw dx dy dz dA dB dD dF dG dH dI dJ dK dL dM dN dO dP dQ dR dS dU dV dW dX dY dZ ec fF fG fH ee ef ei ej ek en eo ep er eu ew ey fI fJ fK ez eA eB eC eD eE eF eG eH eL eM eN eO eP eR eS eT eU eV eW eX eY eZ e3 e4 e5 e6 e7 e8 e9 fc fe ff fh fk fm gh gi fo fq fu fA fB fC fD iB iC iD iE iF iG iH iI iJ iK iL iM jc jd je jf jg jh ji jj jM jN jO jP jQ jR av k l;have h:=r.o iT left (.int .i64 2) mY (.slice aW aX aY) (.int .i64 (aB:Int));show Q .ret _ _;apply h
     ·exact l
     ·exact k.done
   ·intro m s2 aZ c5 jy iW gR gE gl iw gI gQ u16 gm gn gp gD gq gr gu gv gw gx gy gz fN fO fP u32 fQ fR fS fT fU fV fW fZ ga gb gd gA gB ig gX gY bM bN bO bP bQ bR bS bT bU bV bW bX bY bZ b5 u64 b6 b7 b8 b9 cc cg ck cm cn cp cr ct cu cv cw cz cA cB cC cD cE c7 c8 c9 dc de dh di dm cG cH cI cK cL cM cN cO cQ cR cS cT cU cV cW cZ c4 dn dr dw dx dy dz dA dB dD dF dG dH dI dJ dK dL dM dN dO dP dQ dR dS dU dV dW dX dY dZ ec fF fG fH ee ef ei ej ek en eo ep er eu ew ey fI fJ fK ez eA eB eC eD eE eF eG eH eL eM eN eO eP eR eS eT eU eV eW eX eY eZ e3 e4 e5 e6 e7 e8 e9 fc fe ff fh fk fm gh gi fo fq fu fA fB fC fD iB iC iD iE iF iG iH iI iJ iK iL iM jc jd je jf jg jh ji jj jM jN jO jP jQ jR p f A aw bj bk;show t _ _;refine w.o _ _ (m_ ((59050-aB)*1000+(if aZ<=0 then 100 else 0)+(20-s2.c.ay.length)) ?_ (u.o _ _ _ (xh.mk (iT:=iT+1) ⟨f,by omega,by have:=b.o.t3 aw;omega,λ h=>by omega,by omega,by have:=b.o.t2;have:=i.o;omega,rfl⟩)));have h1:=b.o.g;rw[if_pos aw] at h1;rw[if_neg (by omega)];have aR:=i.o.2.2.2.2.2.2;have al:=d.o.n10;omega
  ·intro s5 m bl s2 c5 jy iW gR gE gl iw gI gQ u16 gm gn gp gD gq gr gu gv gw gx gy gz fN fO fP u32 fQ fR fS fT fU fV fW fZ ga gb gd gA gB ig gX gY bM bN bO bP bQ bR bS bT bU bV bW bX bY bZ b5 u64 b6 b7 b8 b9 cc cg ck cm cn cp cr ct cu cv cw cz cA cB cC cD cE c7 c8 c9 dc de dh di dm cG cH cI cK cL cM cN cO cQ cR cS cT cU cV cW cZ c4 dn dr dw dx dy dz dA dB dD dF dG dH dI dJ dK dL dM dN dO dP dQ dR dS dU dV dW dX dY dZ ec fF fG fH ee ef ei ej ek en eo ep er eu ew ey fI fJ fK ez eA eB eC eD eE eF eG eH eL eM eN eO eP eR eS eT eU eV eW eX eY eZ e3 e4 e5 e6 e7 e8 e9 fc fe ff fh fk fm gh gi fo fq fu fA fB fC fD iB iC iD iE iF iG iH iI iJ iK iL iM jc jd je jf jg jh ji jj jM jN jO jP jQ jR p f;show t _ _;refine w.o _ _ (m_ ((59050-(aB+1))*1000+(if left-1<=0 then 100 else 0)+(20-s2.c.ay.length)) ?_ (u.o _ _ _ (xh.mk (left:=left-1) ⟨f,b.o.t1,by have:=b.o.t2;omega,λ h=>by have:=b.o.t2;omega,by have:=b.o.iV;omega,by have:=b.o.kz;omega,rfl⟩)));have h1:=b.o.g;have q:=i.o;have al:=d.o.n10;split<;>omega
  ·intro ao aq ar sj au kind c5 jy iW gR gE gl iw gI gQ u16 gm gn gp gD gq gr gu gv gw gx gy gz fN fO fP u32 fQ fR fS fT fU fV fW fZ ga gb gd gA gB ig gX gY bM bN bO bP bQ bR bS bT bU bV bW bX bY bZ b5 u64 b6 b7 b8 b9 cc cg ck cm cn cp cr ct cu cv cw cz cA cB cC cD cE c7 c8 c9 dc de dh di dm cG cH cI cK cL cM cN cO cQ cR cS cT cU cV cW cZ c4 dn dr dw dx dy dz dA dB dD dF dG dH dI dJ dK dL dM dN dO dP dQ dR dS dU dV dW dX dY dZ ec fF fG fH ee ef ei ej ek en eo ep er eu ew ey fI fJ fK ez eA eB eC eD eE eF eG eH eL eM eN eO eP eR eS eT eU eV eW eX eY eZ e3 e4 e5 e6 e7 e8 e9 fc fe ff fh fk fm gh gi fo fq fu fA fB fC fD iB iC iD iE iF iG iH iI iJ iK iL iM jc jd je jf jg jh ji jj jM jN jO jP jQ jR av k l;have h:=r.o iT left (.int .i64 kind) mY mY (.int .i64 (aB:Int));show Q .ret _ _;apply h
   ·exact l
   ·exact k.done
theorem MR{bf:Nat}(C:sg aT gU w0 F ai n fL jv aI gG bC gJ bu)(E:aX gU base w0 G hs cb aI)(S:mm F ai n fL aI 0 aI.c.ag)(P:oM (λ b=>gU b/\¬aT b) w0 aI)(L:∀p∈aI.aA,qm (λ b=>gU b/\¬aT b) w0 n p)(m:aI.c.cl.length=jv):
  Calls v_ 99 #[.pointer (some ⟨G,0,none⟩),.slice gG bC gJ,.int .i64 (bu:Int)] w0 (DF aT gU base w0 G F ai n fL aI bu):=by
 have f:=bB w0 (.cells #[.int .i64 0,.slice none 0 0,.slice none 0 0,.int .i64 0] 30);have i:aN (w0.alloc (.cells #[.int .i64 0,.slice none 0 0,.slice none 0 0,.int .i64 0] 30)) w0.heap.size 30 [.int .i64 0,mY,mY,.int .i64 ((0:Nat):Int)]:=aN.new w0 30 _;have g:=E.below f;have j:∀b,gU b->b<w0.heap.size:=E.s.lt;have l:mI aT gU base w0 G F ai n fL jv aI w0.heap.size bu (qC gU w0.heap.size) (w0.alloc (.cells #[.int .i64 0,.slice none 0 0,.slice none 0 0,.int .i64 0] 30)) hs cb aI 0 aI.c.ag:=by
  refine⟨λ b f=>.inl f,g.1.qC (by simp) (by have:=E.e.box.lt;omega) (λ r e=>by have:=(E.e.rows.lt e).2;omega) (λ d ag e=>by have:=(E.e.cls d ag).lt;omega),g.2,S,i,.inr rfl,λ h=>by have:=j _ h;omega,P.kept (g.2.mono λ b f=>f.1) rfl rfl,λ p hp=>((L p hp).iR (g.2.mono λ b f=>f.1)).mono λ b f=>⟨⟨.inl f.1,by have:=j b f.1;omega⟩,f.2⟩,List.prefix_refl _,rfl,by omega,Nat.zero_le _⟩
 have k:BY aT gU base w0 G F ai n fL jv aI w0.heap.size bu (qC gU w0.heap.size) hs cb aI 0 1 32 (w0.alloc (.cells #[.int .i64 0,.slice none 0 0,.slice none 0 0,.int .i64 0] 30)) ((59050-0)*1000+(if (32:Int)<=0 then 100 else 0)+(20-aI.c.ay.length)):=
  ⟨l,Nat.le_refl _,by omega,λ h=>by omega,by omega,by omega,rfl⟩
 have k:=aa k;have q:=aa C;clear C E S P L f i g j l m;go_enter Tryz.func99,Tryz.ntmps99
 go_wp2_with fail
 refine MQ q.o k.o ?_;intro iT left v0 v1 v2 v3 u v w y z A B D H u16 I J K M N O Q R T U V W X Y Z u32 ab ad ae af ah aj ak al ao aq ar au av aw az aB aC aD aE aF aG aH aJ aK aL aM aO aP aQ aR aS u64 aU aV aW aY aZ a6 a7 a8 a' ba bb bc bd bg bh bj bk bl bn bo bp bq br bs bt bw bx bz bA bD bE bF bG bH bI bJ bK bL bM bN bO bP bQ bR bS bT bU bV bW bX bY bZ b0 b1 b2 b3 b4 b5 b6 b7 b8 b9 b' ca cc cd cf cg ch cj ck cm cn cp cq cr ct cu cv cw cx cy cz cA cB cC cD cE cF cG cH cI cJ cK cL cM cN cO cP cQ cR cS cT cU cV cW cX cY cZ c0 c4 c5 c6 c7 c8 c9 da db dc dd de df dh di dj dk dm dn dp dq dr dt du dv dw dx dy dz dA dB dC dD dE dF dG dH dI dJ dK dL dM dN dO dP dQ dR dS dT dU dV dW dX dY dZ d' W' i t;refine MO rfl rfl i ?_;exact t
end
section
open Go.RowKit Go.Shelf Go.Sort Go.Lib
theorem MS:∀args w,(callFunc 158 args).run v_ w=.ok (.enter 158 args) w:=enters_of Tryz.func158 (by kernel_rfl) rfl
theorem MT{aH:Nat}(v u:Nat)(x y:Int)(b:w.cell? ⟨aH,0,none⟩=some (.pointer (some ⟨G,0,none⟩)))(q:w.cell? ⟨G,8,none⟩=some (.slice (some ⟨g,0,none⟩) n c))(d:(v:Int)<(n:Int))(hu:(u:Int)<(n:Int))(f:v<=65536)(i:u<=65536)
  (j:w.cell? ⟨g,v,none⟩=some (.int .i64 x)) (k:w.cell? ⟨g,u,none⟩=some (.int .i64 y)):
  Calls v_ 158 #[.int .i64 v,.int .i64 u,.pointer (some ⟨aH,0,none⟩)] w λ e w'=>e=.returned (.int .i64 (rV (ou y x) ((v:Int)-(u:Int))))/\w'=(w.drew.alloc (.cells #[.int .i64 (ou y x),.int .i64 ((v:Int)-(u:Int))] 3)):=by
 have l:wrap64 ((v:Int)-(u:Int))=(v:Int)-(u:Int):=by unfold wrap64;omega
 go_enter Tryz.func158,Tryz.ntmps158
 go_wp2;refine wp_region_still_tail 18 (by kernel_rfl) (by kernel_rfl) ?_;simp only[List.take_succ_cons,List.take_zero,List.drop_succ_cons,List.drop_zero]
 iterate 14 still_step
 still_call ((zv _ _ _).mono (λ e w' h=>⟨h.1,h.2.symm⟩))
 iterate 3 still_step
 refine wpStill_nil ?_;change wpList _ _ _ _ _ w.drew
 go_wp2_with fail
 refine(AN w.heap.size (ou y x) ((v:Int)-(u:Int)) _ (by go_simp) (by go_simp)).mono ?_;rintro e w' ⟨rfl,rfl⟩;go_wp2;go_ret;exact⟨rfl,rfl⟩
abbrev uW(n:Nat):={x:Int//1<=x/\x<=n}
def yb{n:Nat}(x:uW n):Value:=.int .i64 x.1
def BZ(act:List Int)(x y:Int):Int:=rV (ou (aj act y.toNat) (aj act x.toNat)) (x-y)
def uw(act:List Int){n:Nat}(x y:uW n):Int:=BZ act x.1 y.1
theorem DO(a b:Int):(a<b/\ou a b= -1)\/(a=b/\ou a b=0)\/(b<a/\ou a b=1):=by
 unfold ou;rcases Int.lt_trichotomy a b with h|h|h
 ·left;exact⟨h,by simp[h]⟩
 ·right;left;subst h;exact⟨rfl,by simp⟩
 ·right;right;refine⟨h,?_⟩;rw[if_neg (by omega),if_pos (by omega)]
theorem Am{x y:Int}:BZ act x y<0↔aj act y.toNat<aj act x.toNat\/(aj act y.toNat=aj act x.toNat/\x<y):=by
 unfold BZ rV;rcases DO (aj act y.toNat) (aj act x.toNat) with⟨h,e⟩|⟨h,e⟩|⟨h,e⟩<;>rw[e]
 ·simp;omega
 ·simp;omega
 ·simp;omega
theorem An(x y:uW n):ltOf (uw act) x y=decide (BZ act x.1 y.1<0):=rfl
theorem B0(act:List Int)(n:Nat):SWO (ltOf (uw act (n:=n))) where
 irrefl x:=by rw[An,decide_eq_false_iff_not,Am];omega
 trans x y z h1 b:=by rw[An,decide_eq_true_eq,Am] at*;omega
 ntrans x y z h1 b:=by rw[An,decide_eq_false_iff_not,Am] at*;omega
theorem MU(act:List Int)(n:Nat)(x y:uW n)(h1:ltOf (uw act) x y=false)(b:ltOf (uw act) y x=false):x=y:=by
 rw[An,decide_eq_false_iff_not,Am] at*;apply Subtype.ext;omega
theorem GN{α:Type}[Inhabited α](enc:α->Value)(w:World)(g m:Nat)(c:Array α)(os:Array Obj){b:Nat}(d:b<w.heap.size)(f:b≠g):(sortWorld enc w g 0 m c os).heap[b]? =w.heap[b]? :=by
 unfold sortWorld;rw[Sort.heap_grow_old _ _ (by rw[Sort.size_putRow];exact d)];unfold Sort.putRow Sort.mapBlock;rw[Array.getElem?_modify,if_neg (λ e=>f e.symm)];rfl
theorem GO(l:List (uW n)):l.map yb=(l.map (·.1)).map (Value.int .i64):=by rw[List.map_map];rfl
def o5(act:List Int){n:Nat}(ls:List (uW n)):List (uW n):=ls.mergeSort λ x y=> !(ltOf (uw act)) y x
theorem MV{m cap:Nat}{ls:List (uW n)}(h:Own w base g m cap (ls.map (·.1)))(t:base<=g)(hm:m<=1000)(H:1<=n)(I:n<=60000){aH G sH xT:Nat}(z:w.cell? ⟨aH,0,none⟩=some (.pointer (some ⟨G,0,none⟩)))(q:w.cell? ⟨G,8,none⟩=some (.slice (some ⟨sH,0,none⟩) (n+1) xT))
  (f:∀v,v<=n->w.cell? ⟨sH,v,none⟩=some (.int .i64 (aj act v))) (A:aH<w.heap.size/\aH≠g) (B:G<w.heap.size/\G≠g) (i:sH<w.heap.size/\sH≠g):
  Calls v_ 157 #[.slice (some ⟨g,0,none⟩) m cap,.func (.func 158) #[] #[.pointer (some ⟨aH,0,none⟩)]] w λ e w'=>
   e=.returned (.tuple #[])/\Own w' base g m cap ((o5 act ls).map (·.1))/\Below base w w':=by
 haveI:Inhabited (uW n):=⟨⟨1,by omega⟩⟩
 have h':w.ownsRow base 3 1 (.slice (some ⟨g,0,none⟩) m cap) m (ls.map yb):=by rw[GO];exact h
 obtain⟨J,K,he,h1,C,L,M,c,D⟩:=holds_of_ownsRow h' (by intro e;cases e)
 cases he
 have E:CmpLays1 v_ 158 #[.pointer (some ⟨aH,0,none⟩)] (yb (n:=n)) (uw act) g 0 ls.toArray.size w:=by
  intro k os l hs x y;obtain⟨x,N⟩:=x;obtain⟨y,O⟩:=y;obtain⟨v,rfl⟩:∃v:Nat,x=v:=⟨x.toNat,by omega⟩
  obtain⟨u,rfl⟩:∃u:Nat,y=u:=⟨y.toNat,by omega⟩
  have hw:∀b j,b<w.heap.size/\b≠g->(sortWorld yb w g 0 k l os).cell? ⟨b,j,none⟩=w.cell? ⟨b,j,none⟩:=λ b j o=>x_ (a:=⟨b,j,none⟩) (GN yb w g k l os o.1 o.2)
  refine(MT v u (aj act v) (aj act u) ((hw aH 0 A).trans z) ((hw G 8 B).trans q) (by omega) (by omega) (by omega) (by omega) ((hw sH v i).trans (f v (by omega))) ((hw sH u i).trans (f u (by omega)))).mono ?_;rintro e w' ⟨rfl,rfl⟩;exact⟨rfl,1, #[_],by rw[alloc_eq_grow];rfl⟩
 have p:=Tryz.slices_SortFunc_total yb (λ _=>rfl) (uw act) (B0 act n) 158 #[.pointer (some ⟨aH,0,none⟩)] g 0 cap ls.toArray w MS E D C (by simp[c];omega) (MU act n);have hs:ls.toArray.size=m:=by simp[c]
 rw[hs] at p;refine p.mono ?_;rintro e w' ⟨rfl,r,os,rfl⟩;have s:=ownsRow_putRow (q:=r) (k:=m) (ys:=ls.mergeSort λ x y=> !(ltOf (uw act)) y x) h' (by simp[c]) (Nat.le_refl _);rw[List.take_of_length_le (by simp[c]),GO] at s;refine⟨rfl,?_,?_⟩
 ·have:=ownsRow_grow s 0 os;exact this
 ·have F:=below_putRow (enc:=yb) (q:=r) (d:=(ls.mergeSort λ x y=> !(ltOf (uw act)) y x).toArray) (Below.refl base w) t;exact below_grow F (by simp[putRow,mapBlock,Sort.ahead];omega) os
def nJ(n:Nat):List (uW n):=(n_ n).attach.map λ k=>⟨(k.1:Int)+1,by have:=List.mem_range.1 k.2;omega⟩
theorem DP(n:Nat):(nJ n).map (·.1)=(n_ n).map λ k:Nat=>(k:Int)+1:=by
 unfold nJ;rw[List.map_map];show(n_ n).attach.map (λ k=>(k.1:Int)+1)=_;rw[List.attach_map_val (l:=n_ n) (f:=λ k:Nat=>(k:Int)+1)]
end
section
open Go.RowKit Go.Shelf
theorem MW:(v_.info? 74).map (λ i=>(i.zero,i.size,i.bytes))=some (some (.agg #[.slice none 0 0,.int .i64 0,.int .i64 0]),3,40):=by kernel_rfl
structure mJ where
 r:Row
 bg:Int
 ac:Int
def sI(e:mJ):List Value:=[kO e.r,.int .i64 e.bg,.int .i64 e.ac]
def pS(es:List mJ):List Value:=(es.map sI).flatten
theorem GP:∀es:List mJ,(pS es).length=es.length*3
 |[]=>rfl
 |e::es=>by
  have:=GP es;unfold pS at this⊢;simp only[r_,List.flatten_cons,List.length_append,this,sI,List.length_cons,List.length_nil];omega
theorem MX(a b:List mJ):pS (a++b)=pS a++pS b:=by simp[pS]
theorem B1:∀(es:List mJ)(j:Nat)(h:j<es.length)(k:Nat),k<3->(pS es)[j*3+k]? =(sI es[j])[k]?
 |[],j,h,k,hk=>by simp at h
 |e::es,0,h,k,hk=>by
  show(sI e++pS es)[0*3+k]? =_;rw[List.getElem?_append_left (by simp[sI];omega)];simp
 |e::es,j+1,h,k,hk=>by
  show(sI e++pS es)[(j+1)*3+k]? =_;rw[List.getElem?_append_right (by simp[sI];omega)];have:=B1 es j (by simpa using h) k hk;rw[show(j+1)*3+k-(sI e).length=j*3+k by simp[sI];omega,this];rfl
structure rR(w:World)(A:Option Addr)(n c:Nat)(es:List mJ):Prop where
 len:es.length=n
 cap:n<=c
 mG:n*40<=140737488355328
 od:c<=maxLen
 cells:0<n->∃b off,A=some ⟨b,off,none⟩/\b<w.heap.size/\∀k,k<n*3->w.cell? ⟨b,off+k,none⟩=(pS es)[k]?
 rows:∀e∈es,aS w e.r.A e.r.n e.r.c e.r.ah
theorem rR.below{w w':World}{A:Option Addr}{n c:Nat}{es:List mJ}(h:rR w A n c es)(d:Below w.heap.size w w'):rR w' A n c es:=
 ⟨h.len,h.cap,h.mG,h.od,λ g=>by
  obtain⟨b,off,rfl,f,i⟩:=h.cells g;exact⟨b,off,rfl,u_ f d.size,λ k hk=>(d.cell (p:=⟨b,_,none⟩) f).trans (i k hk)⟩,λ e he=>(h.rows e he).below d⟩
structure ny where
 lH:Int
 r:Row
def rS(e:ny):List Value:=[.int .i64 e.lH,kO e.r]
def mP(es:List ny):List Value:=(es.map rS).flatten
structure oa(w:World)(A:Option Addr)(n c:Nat)(es:List ny):Prop where
 len:es.length=n
 cap:n<=c
 mG:n*32<=140737488355328
 od:c<=maxLen
 cells:0<n->∃b off,A=some ⟨b,off,none⟩/\b<w.heap.size/\∀k,k<n*2->w.cell? ⟨b,off+k,none⟩=(mP es)[k]?
 rows:∀e∈es,aS w e.r.A e.r.n e.r.c e.r.ah
theorem oa.below{w w':World}{A:Option Addr}{n c:Nat}{es:List ny}(h:oa w A n c es)(d:Below w.heap.size w w'):oa w' A n c es:=
 ⟨h.len,h.cap,h.mG,h.od,λ g=>by
  obtain⟨b,off,rfl,f,i⟩:=h.cells g;exact⟨b,off,rfl,u_ f d.size,λ k hk=>(d.cell (p:=⟨b,_,none⟩) f).trans (i k hk)⟩,λ e he=>(h.rows e he).below d⟩
def MY(w:World)(base:Nat)(v:Value)(k:Nat)(es:List mJ)(v':Value)(w':World):Prop:=
 w'.ownsRow base 74 3 v' k (pS es)/\w.grownBy w' v.ownBlock/\(v'.ownBlock=v.ownBlock\/v'.ownBlock=some w.heap.size)
theorem MZ(w:World)(ty:TypeId)(base:Nat)(v:Value)(n:Nat)(es:List mJ)(d:w.ownsRow base 74 3 v n (pS es))(c c1:Nat)(e:mJ)(f:w.cell? ⟨c,0,none⟩=some (kO e.r))(h1:w.cell? ⟨c,1,none⟩=some (.int .i64 e.bg))(g:w.cell? ⟨c,2,none⟩=some (.int .i64 e.ac))(t:n<=1000000)(i:base<=w.heap.size):
  ∃v' w',(Builtin.append_ #[42,42] ty #[v,.slice (some ⟨c,0,none⟩) 1 c1]).run v_ w=.ok v' w'/\MY w base v (n+1) (es++[e]) v' w':=by
 obtain⟨i0,k,l,m,o⟩:=info_parts MW;have p:∀j u,(sI e)[j]? =some u->w.cell? ((⟨c,0,none⟩:Addr).add j)=some u:=by
  intro j u b;have y:j<3:=(List.getElem?_eq_some_iff.1 b).1;rw[Addr.add_lit,Nat.zero_add];unfold sI at b;rcases(show j=0\/j=1\/j=2 by omega) with rfl|rfl|rfl
  ·simp only[w_,o_] at b;subst b;exact f
  ·simp only[t_,w_,o_] at b;subst b;exact h1
  ·simp only[t_,w_,o_] at b;subst b;exact g
 have q:∀u∈sI e,u.oneCell'=true:=by
  intro u hu;unfold sI at hu;simp only[List.mem_cons,List.not_mem_nil,or_false] at hu;rcases hu with rfl|rfl|rfl<;>rfl
 have s:pS (es++[e])=pS es++sI e:=by rw[MX];simp[pS]
 obtain⟨v',w',g1,g2,g3,_,g5⟩:=run_append_own_at (P:=v_) w base 42 ty 74 i0 (.agg #[.slice none 0 0,.int .i64 0,.int .i64 0]) 3 40 Tryz.underlying42 k l m o rfl (by decide) v n (pS es) d ⟨c,0,none⟩ 1 c1 (sI e) rfl p q (by unfold maxLen;omega) (by omega) i;rw[<-s] at g2;exact⟨v',w',g1,g2,g3,g5⟩
theorem rR.lG{A:Option Addr}{es:List mJ}(h:w.ownsRow base 74 3 (.slice A n c) n (pS es))(d:n*40<=140737488355328)(f:∀e∈es,aS w e.r.A e.r.n e.r.c e.r.ah):rR w A n c es:=by
 have hl:es.length=n:=by have:=h.1;rw[GP] at this;omega
 rcases h.2 with⟨b,i⟩|⟨g,cap,cur,b,m,o,j,l,p,q⟩
 ·simp only[l_] at b;obtain⟨rfl,_,rfl⟩:=b;subst i;exact⟨hl,Nat.le_refl _,d,Nat.zero_le _,λ h=>absurd h (by omega),f⟩
 ·simp only[l_] at b;obtain⟨rfl,_,rfl⟩:=b;refine⟨hl,j,d,l,λ i=>⟨g,0,rfl,(h.lt g rfl).2,λ k hk=>?_⟩,f⟩;rw[Nat.zero_add];exact h.cellAt k hk
theorem aX.still{K:Nat->Prop}{s:an}(h:aX K base w G hs cb s){P:Nat->Prop}(f:aC (λ b=>b<w.heap.size/\¬P b) w W)(c:∀b,P b->K b):aX K base W G hs cb s:=by
 have k:¬P G:=λ e=>h.s.g (c _ e)
 refine⟨⟨f.blk h.e.box ⟨h.e.box.lt,k⟩,⟨λ r=>pL (h.e.rows.row r) (λ b i=>?_),h.e.rows.apart⟩,λ d j=>f.blk (h.e.cls d j) ⟨(h.e.cls d j).lt,λ e=>h.s.cl d j (c _ e)⟩,h.e.inj,h.e.q7,h.e.rL⟩,h.s.more f.size⟩;rw[ax.own] at i;exact f.keep b ⟨(h.e.rows.lt i).2,λ e=>h.s.row r b i (c _ e)⟩
def s8(W w:World)(c:Option Addr)(c2:Nat)(d:List Int):Prop:=aS w c d.length c2 d/\∀b,c.map (·.block)=some b->W.heap.size<=b/\b<w.heap.size
theorem s8.below{W w w':World}{bn:Option Addr}{c2:Nat}{ah:List Int}(h:s8 W w bn c2 ah)(c:Below w.heap.size w w'):s8 W w' bn c2 ah:=⟨h.1.below c,λ b e=>⟨(h.2 b e).1,u_ (h.2 b e).2 c.size⟩⟩
theorem s8.grown{w':World}{bn:Option Addr}{c2:Nat}{ah:List Int}{row:Option Nat}(h:s8 W w bn c2 ah)(c:w.grownBy w' row)(d:∀g,row=some g->g<W.heap.size):s8 W w' bn c2 ah:=
 ⟨h.1.x9 c.size (λ b e=>c.block b (h.2 b e).2 (λ f=>by have:=d b f.symm;have:=(h.2 b e).1;omega)),λ b e=>⟨(h.2 b e).1,u_ (h.2 b e).2 c.size⟩⟩
def B2(c:Option Addr)(c2:Nat)(b:List Int)(bg ac:Int):mJ:=⟨⟨c,b.length,c2,b⟩,bg,min ac 1099511627776⟩
def GE(W:World)(base m:Nat)(A:Option Addr)(j c:Nat)(es:List mJ)(e:Nat)(n:Option Addr)(o p:Nat)(f:List Int)(bg ac:Int)(i:Nat)(v:Value)(w:World):Prop:=
 match i with
 |0=>v=.pointer (some ⟨m,2,none⟩)
 |1=>v=.slice A j c
 |2=>v=.pointer (some ⟨e,0,none⟩)
 |3=>v=.pointer (some ⟨e,0,none⟩)
 |4=>v=.pointer (some ⟨e,0,none⟩)
 |5=>v=.slice n o p
 |6=>∃d c2,v=.slice d f.length c2/\s8 W w d c2 f
 |7=>v=.pointer (some ⟨e,0,none⟩)
 |8=>v=.pointer (some ⟨e,0,none⟩)
 |9=>v=.pointer (some ⟨e,2,none⟩)
 |10=>v=.int .i64 bg
 |11=>v=.pointer (some ⟨e,0,none⟩)
 |12=>v=.pointer (some ⟨e,0,none⟩)
 |13=>v=.pointer (some ⟨e,3,none⟩)
 |14=>v=.int .i64 ac
 |15=>v=.int .i64 (min ac 1099511627776)
 |16=>∃d c2,v=.agg #[.slice d f.length c2,.int .i64 bg,.int .i64 (min ac 1099511627776)]/\s8 W w d c2 f
 |17=>∃d c2 b,v=.slice (some ⟨b,0,none⟩) 1 1/\s8 W w d c2 f/\W.heap.size<=b/\b<w.heap.size/\w.cell? ⟨b,0,none⟩=some (.slice d f.length c2)/\w.cell? ⟨b,1,none⟩=some (.int .i64 bg)/\w.cell? ⟨b,2,none⟩=some (.int .i64 (min ac 1099511627776))
 |18=>∃d c2 k l,v=.slice k (j+1) l/\s8 W w d c2 f/\w.ownsRow base 74 3 (.slice k (j+1) l) (j+1) (pS (es++[B2 d c2 f bg ac]))/\((y_ k (j+1) l).ownBlock=(y_ A j c).ownBlock\/∀g,(y_ k (j+1) l).ownBlock=some g->W.heap.size<=g)/\∀b,d.map (·.block)=some b->(y_ k (j+1) l).ownBlock≠some b
 |19=>v=.pointer (some ⟨m,2,none⟩)
 |_=>True
theorem GE.mono(W:World)(base l:Nat)(A:Option Addr)(j c:Nat)(es:List mJ)(m:Nat)(o:Option Addr)(q r:Nat)(s:List Int)(bg ac:Int)(i:Nat)(u:Value)(w w':World)(d:Below w.heap.size w w')(h:GE W base l A j c es m o q r s bg ac i u w):GE W base l A j c es m o q r s bg ac i u w':=by
 match i,h with
 |0,h=>exact h
 |1,h=>exact h
 |2,h=>exact h
 |3,h=>exact h
 |4,h=>exact h
 |5,h=>exact h
 |6,h=>obtain⟨e,c2,h1,f⟩:=h;exact⟨e,c2,h1,f.below d⟩
 |7,h=>exact h
 |8,h=>exact h
 |9,h=>exact h
 |10,h=>exact h
 |11,h=>exact h
 |12,h=>exact h
 |13,h=>exact h
 |14,h=>exact h
 |15,h=>exact h
 |16,h=>obtain⟨e,c2,h1,f⟩:=h;exact⟨e,c2,h1,f.below d⟩
 |17,h=>obtain⟨e,c2,b,h1,f,k,g,t,v,y⟩:=h;exact⟨e,c2,b,h1,f.below d,k,u_ g d.size,(d.cell (p:=⟨b,0,none⟩) g).trans t,(d.cell (p:=⟨b,1,none⟩) g).trans v,(d.cell (p:=⟨b,2,none⟩) g).trans y⟩
 |18,h=>obtain⟨e,c2,z,B,h1,f,k,g⟩:=h;exact⟨e,c2,z,B,h1,f.below d,nc k d,g⟩
 |19,h=>exact h
 |n+20,h=>trivial
theorem GE.grown(W:World)(base o:Nat)(A:Option Addr)(j c:Nat)(es:List mJ)(p:Nat)(q:Option Addr)(r s:Nat)(t:List Int)(bg ac:Int)(m:∀g,(y_ A j c).ownBlock=some g->g<W.heap.size)(i:Nat)(y:i≠18)(u:Value)(w w':World)(d:w.grownBy w' (y_ A j c).ownBlock)(h:GE W base o A j c es p q r s t bg ac i u w):GE W base o A j c es p q r s t bg ac i u w':=by
 match i,h with
 |0,h=>exact h
 |1,h=>exact h
 |2,h=>exact h
 |3,h=>exact h
 |4,h=>exact h
 |5,h=>exact h
 |6,h=>obtain⟨f,c2,h1,l⟩:=h;exact⟨f,c2,h1,l.grown d m⟩
 |7,h=>exact h
 |8,h=>exact h
 |9,h=>exact h
 |10,h=>exact h
 |11,h=>exact h
 |12,h=>exact h
 |13,h=>exact h
 |14,h=>exact h
 |15,h=>exact h
 |16,h=>obtain⟨f,c2,h1,l⟩:=h;exact⟨f,c2,h1,l.grown d m⟩
 |17,h=>obtain⟨f,c2,b,h1,l,z,v,B,C,D⟩:=h;have hk:∀k,w'.cell? ⟨b,k,none⟩=w.cell? ⟨b,k,none⟩:=(λ k=>x_ (a:=⟨b,k,none⟩) (d.block b v (λ e=>by have:=m b e.symm;omega)));exact⟨f,c2,b,h1,l.grown d m,z,u_ v d.size,(hk 0).trans B,(hk 1).trans C,(hk 2).trans D⟩
 |18,h=>exact absurd rfl y
 |19,h=>exact h
 |n+20,h=>trivial
structure GQ(W:World)(base gC:Nat)(A:Option Addr)(j c:Nat)(es:List mJ)(ni:Nat)(pq:Option Addr)(o4 pT:Nat)(ah:List Int)(bg ac:Int):Prop where
 jC:W.cell? ⟨gC,2,none⟩=some (.slice A j c)
 M0:gC<W.heap.size
 M1:some gC≠(y_ A j c).ownBlock
 bH:W.cell? ⟨ni,0,none⟩=some (.slice pq o4 pT)
 c2:W.cell? ⟨ni,2,none⟩=some (.int .i64 bg)
 c3:W.cell? ⟨ni,3,none⟩=some (.int .i64 ac)
 DQ:ni<W.heap.size
 DR:some ni≠(y_ A j c).ownBlock
 wX:aS W pq o4 pT ah
 k5:∀b,pq.map (·.block)=some b->b<W.heap.size/\some b≠(y_ A j c).ownBlock
 row:∀g,(y_ A j c).ownBlock=some g->g<W.heap.size
 bK:base<=W.heap.size
 M3:j<=1000000
theorem M4(W:World)(base s:Nat)(A:Option Addr)(j c:Nat)(es:List mJ)(p:Nat)(z:Option Addr)(B D:Nat)(o:List Int)(bg ac:Int)(C:GQ W base s A j c es p z B D o bg ac):
  uj v_ [some 48,some 49,some 50,some 51,some 52,some 53,some 54,some 55,some 56,some 57,some 58,some 59,some 60,some 61,some 62,some 63,some 64,some 65,some 66,some 67,none] [[],[0],[],[2],[3],[4],[5],[],[7],[8],[9],[],[11],[12],[13],[14],[6,10,15],[16],[1,17,6],[0,1,2,3,4,5,6,7,8,9,10,11,12,13,14,15,16,17,18],[19,18,18,0,1,2,3,4,5,6,7,8,9,10,11,12,13,14,15,16,17,18]] [(3,.pointer (some ⟨s,0,none⟩)),(8,.pointer (some ⟨p,0,none⟩))] (λ w=>W.grownBy w (y_ A j c).ownBlock) (GE W base s A j c es p z B D o bg ac) (λ _=>none) (λ w=>w.ownsRow base 74 3 (.slice A j c) j (pS es)) 18 0 ((rj Tryz.f100 12).take 20):=by
 have ag:=GE.mono W base s A j c es p z B D o bg ac;have ah:∀w w':World,Below w.heap.size w w'->w.ownsRow base 74 3 (.slice A j c) j (pS es)->w'.ownsRow base 74 3 (.slice A j c) j (pS es):=λ w w' q h=>nc h q
 have ai:∀w w':World,W.grownBy w (y_ A j c).ownBlock->Below w.heap.size w w'->W.grownBy w' (y_ A j c).ownBlock:=λ w w' f q=>xg f ⟨q.os,q.tape,q.output,q.size,λ k hk _=>q.block k hk⟩
 refine⟨?_,?_,?_,?_,?_,?_,?_,?_,?_,?_,?_,?_,?_,?_,?_,?_,?_,?_,?_,?_,trivial⟩
 ·intro vals w i f m d l hp;have Y:i (.tmp 3)=_:=l.1 rfl;simp only[bq,execOp,Y];simp[cF,go_sem];exact .same f rfl
 ·intro vals w i f m d l hp;obtain⟨⟨f0,G⟩,-⟩:=(⟨d.1 rfl,d.2⟩:_/\_)
  have G:i (.tmp 48)=vals 0:=G _ rfl;have f0:vals 0=_:=f0 (z_ rfl);rw[f0] at G;have t:=(x_ (a:=⟨s,2,none⟩) (f.block s C.M0 C.M1)).trans C.jC;simp only[bq,execOp,G];simp[cF,go_sem,t];exact .same f rfl
 ·intro vals w i f m d l hp;have E:i (.tmp 8)=_:=l.2.1 rfl;simp only[bq,execOp,E];simp[cF,go_sem];exact .same f rfl
 ·intro vals w i f m d l hp;obtain⟨⟨f2,r⟩,-⟩:=(⟨d.1 rfl,d.2⟩:_/\_)
  have r:i (.tmp 50)=vals 2:=r _ rfl;have f2:vals 2=_:=f2 (z_ rfl);rw[f2] at r;simp only[bq,execOp,r];simp[cF,go_sem];exact .same f rfl
 ·intro vals w i f m d l hp;obtain⟨⟨f3,H⟩,-⟩:=(⟨d.1 rfl,d.2⟩:_/\_)
  have H:i (.tmp 51)=vals 3:=H _ rfl;have f3:vals 3=_:=f3 (z_ rfl);rw[f3] at H;simp only[bq,execOp,H];simp[cF,go_sem];exact .same f rfl
 ·intro vals w i f m d l hp;obtain⟨⟨f4,I⟩,-⟩:=(⟨d.1 rfl,d.2⟩:_/\_)
  have I:i (.tmp 52)=vals 4:=I _ rfl;have f4:vals 4=_:=f4 (z_ rfl);rw[f4] at I;have t:=(x_ (a:=⟨p,0,none⟩) (f.block p C.DQ C.DR)).trans C.bH;simp only[bq,execOp,I];simp[cF,go_sem,t];exact .same f rfl
 ·intro vals w i f m d l hp;obtain⟨⟨f5,J⟩,-⟩:=(⟨d.1 rfl,d.2⟩:_/\_)
  have J:i (.tmp 53)=vals 5:=J _ rfl;have f5:vals 5=_:=f5 (z_ rfl);rw[f5] at J;have Z:aS w z B D o:=C.wX.x9 f.size (λ b e=>f.block b (C.k5 b e).1 (C.k5 b e).2);refine r4 81 #[.tmp 53] #[25] rfl BQ hp ?_;simp only[s_,r_,q_,J];refine(vm z B D o w Z).mono ?_;rintro e w' ⟨n,c2,rfl,aj,q⟩;have hl:=Z.len;have au:=Z.mG;refine⟨_,rfl,.more ag ah q (ai w w' f q) ⟨n,c2,rfl,aS.lG aj (by omega),λ b e=>?_⟩⟩;have h1:=aj.lt b (by show(ax.v ⟨n,o.length,c2⟩).ownBlock=_;rw[ax.own];exact e);exact⟨Nat.le_trans f.size h1.1,h1.2⟩
 ·intro vals w i f m d l hp;have E:i (.tmp 8)=_:=l.2.1 rfl;simp only[bq,execOp,E];simp[cF,go_sem];exact .same f rfl
 ·intro vals w i f m d l hp;obtain⟨⟨f7,K⟩,-⟩:=(⟨d.1 rfl,d.2⟩:_/\_)
  have K:i (.tmp 55)=vals 7:=K _ rfl;have f7:vals 7=_:=f7 (z_ rfl);rw[f7] at K;simp only[bq,execOp,K];simp[cF,go_sem];exact .same f rfl
 ·intro vals w i f m d l hp;obtain⟨⟨f8,L⟩,-⟩:=(⟨d.1 rfl,d.2⟩:_/\_)
  have L:i (.tmp 56)=vals 8:=L _ rfl;have f8:vals 8=_:=f8 (z_ rfl);rw[f8] at L;simp only[bq,execOp,L];simp[cF,go_sem];exact .same f rfl
 ·intro vals w i f m d l hp;obtain⟨⟨f9,M⟩,-⟩:=(⟨d.1 rfl,d.2⟩:_/\_)
  have M:i (.tmp 57)=vals 9:=M _ rfl;have f9:vals 9=_:=f9 (z_ rfl);rw[f9] at M;have t:=(x_ (a:=⟨p,2,none⟩) (f.block p C.DQ C.DR)).trans C.c2;simp only[bq,execOp,M];simp[cF,go_sem,t];exact .same f rfl
 ·intro vals w i f m d l hp;have E:i (.tmp 8)=_:=l.2.1 rfl;simp only[bq,execOp,E];simp[cF,go_sem];exact .same f rfl
 ·intro vals w i f m d l hp;obtain⟨⟨f11,N⟩,-⟩:=(⟨d.1 rfl,d.2⟩:_/\_)
  have N:i (.tmp 59)=vals 11:=N _ rfl;have f11:vals 11=_:=f11 (z_ rfl);rw[f11] at N;simp only[bq,execOp,N];simp[cF,go_sem];exact .same f rfl
 ·intro vals w i f m d l hp;obtain⟨⟨f12,O⟩,-⟩:=(⟨d.1 rfl,d.2⟩:_/\_)
  have O:i (.tmp 60)=vals 12:=O _ rfl;have f12:vals 12=_:=f12 (z_ rfl);rw[f12] at O;simp only[bq,execOp,O];simp[cF,go_sem];exact .same f rfl
 ·intro vals w i f m d l hp;obtain⟨⟨f13,P⟩,-⟩:=(⟨d.1 rfl,d.2⟩:_/\_)
  have P:i (.tmp 61)=vals 13:=P _ rfl;have f13:vals 13=_:=f13 (z_ rfl);rw[f13] at P;have t:=(x_ (a:=⟨p,3,none⟩) (f.block p C.DQ C.DR)).trans C.c3;simp only[bq,execOp,P];simp[cF,go_sem,t];exact .same f rfl
 ·intro vals w i f m d l hp;obtain⟨⟨f14,Q⟩,-⟩:=(⟨d.1 rfl,d.2⟩:_/\_)
  have Q:i (.tmp 62)=vals 14:=Q _ rfl;have f14:vals 14=_:=f14 (z_ rfl);rw[f14] at Q;simp only[bq,execOp,resolve,invoke,builtin,Sem.run_bind,Sem.run_pure,Result.andThen_ok,s_,r_,q_,Q,hp.1];simp[cF,go_sem];exact .same f rfl
 ·intro vals w i f m d l hp;obtain⟨⟨f6,R⟩,⟨f10,S⟩,⟨f15,T⟩,-⟩:=(⟨d.1 rfl,d.2.1 rfl,d.2.2.1 rfl,d.2.2.2⟩:_/\_/\_/\_)
  have R:i (.tmp 54)=vals 6:=R _ rfl;have S:i (.tmp 58)=vals 10:=S _ rfl;have T:i (.tmp 63)=vals 15:=T _ rfl;obtain⟨n,c2,f6,aa⟩:∃n c2,vals 6=.slice n o.length c2/\s8 W w n c2 o:=f6 (z_ rfl);have f10:vals 10=_:=f10 (z_ rfl);have f15:vals 15=_:=f15 (z_ rfl);rw[f6] at R;rw[f10] at S;rw[f15] at T;simp only[bq,execOp,s_,r_,q_,R,S,T];simp[cF,go_sem];exact .same f ⟨n,c2,rfl,aa⟩
 ·intro vals w i f m d l hp;obtain⟨⟨f16,U⟩,-⟩:=(⟨d.1 rfl,d.2⟩:_/\_)
  have U:i (.tmp 64)=vals 16:=U _ rfl;obtain⟨n,c2,f16,al⟩:∃n c2,vals 16=.agg #[.slice n o.length c2,.int .i64 bg,.int .i64 (min ac 1099511627776)]/\s8 W w n c2 o:=f16 (z_ rfl);rw[f16] at U;simp only[bq,execOp,s_,r_,q_,U];simp[cF,go_sem];exact .more ag ah (bB w _) (ai w _ f (bB w _)) ⟨n,c2,w.heap.size,rfl,al.below (bB w _),f.size,by simp,by go_simp,by go_simp,by go_simp⟩
 ·intro vals w i f m d l hp;obtain⟨⟨f1,V⟩,⟨f17,X⟩,-⟩:=(⟨d.1 rfl,d.2.1 rfl,d.2.2⟩:_/\_/\_)
  have V:i (.tmp 49)=vals 1:=V _ rfl;have X:i (.tmp 65)=vals 17:=X _ rfl;have f1:vals 1=_:=f1 (z_ rfl);obtain⟨n,c2,b,f17,ak,av,aw,an,ao,aa⟩:∃n c2 b,vals 17=.slice (some ⟨b,0,none⟩) 1 1/\s8 W w n c2 o/\W.heap.size<=b/\b<w.heap.size/\w.cell? ⟨b,0,none⟩=some (.slice n o.length c2)/\w.cell? ⟨b,1,none⟩=some (.int .i64 bg)/\w.cell? ⟨b,2,none⟩=some (.int .i64 (min ac 1099511627776)):=f17 (z_ rfl);rw[f1] at V;rw[f17] at X;obtain⟨v',w',g1,g2⟩:=MZ w 42 base (.slice A j c) j es (m (Or.inr rfl)) b 1 (B2 n c2 o bg ac) an ao aa C.M3 (Nat.le_trans C.bK f.size);simp only[bq,execOp,resolve,invoke,builtin,Sem.run_bind,Sem.run_pure,Result.andThen_ok,s_,r_,q_,V,X,g1,cF];obtain⟨⟨ab,j3,ad⟩,ae,af⟩:=ax.lG g2.1;have af:j3=j+1:=af;subst af;have ae:v'=.slice ab (j+1) ad:=ae;subst ae;refine⟨xg f g2.2.1,⟨n,c2,ab,ad,rfl,ak.grown g2.2.1 C.row,g2.1,?_⟩,λ k u hk _ _ _ aq=>GE.grown W base s A j c es p z B D o bg ac C.row k hk u w w' g2.2.1 aq,λ h=>absurd rfl h⟩;have ar:∀F,n.map (·.block)=some F->(y_ ab (j+1) ad).ownBlock≠some F:=λ F e r=>by
   have ay:=ak.2 F e;rcases g2.2.2 with y|y
   ·rw[y] at r;have:=C.row F r;omega
   ·rw[y] at r;injection r with r;omega
  refine⟨?_,ar⟩;rcases g2.2.2 with y|y
  ·exact .inl y
  ·exact .inr (λ g e=>by rw[y] at e;injection e with e;have:=f.size;omega)
 ·intro vals w i f m d l hp;have Y:i (.tmp 3)=_:=l.1 rfl;simp only[bq,execOp,Y];simp[cF,go_sem];exact .same f rfl
def yc(W:World)(G aH b t:Nat)(j k l u y z A m:Value)(c:Option Addr)(n6 d:Nat)(e:Option Addr)(n7 f:Nat)(g:Int)(n:Option Addr)(j3 o:Nat)(p:Option Addr)(q r:Nat)(i:Nat)(v:Value)(w:World):Prop:=
 match i with
 |0=>v=.agg #[.slice c n6 d,.slice e n7 f,.int .i64 g]
 |1=>v=.pointer (some ⟨G,0,none⟩)
 |2=>v=.pointer (some ⟨G,0,none⟩)
 |3=>v=.pointer (some ⟨G,12,none⟩)
 |4=>v=.slice n j3 o
 |5=>v=.pointer (some ⟨G,0,none⟩)
 |6=>v=.pointer (some ⟨G,0,none⟩)
 |7=>v=.pointer (some ⟨G,14,none⟩)
 |8=>v=.slice p q r
 |9=>v=.pointer (some ⟨b,3,none⟩)
 |10=>∃s,aN w b 47 [j,k,l,.slice c n6 d,.slice e n7 f,.int .i64 g,s,m]
 |11=>v=.pointer (some ⟨b,6,none⟩)
 |12=>aN w b 47 [j,k,l,.slice c n6 d,.slice e n7 f,.int .i64 g,.slice n j3 o,m]
 |13=>v=.pointer (some ⟨b,7,none⟩)
 |_=>True
theorem yc.const(W:World)(G aH b c:Nat)(d e f g j k l m:Value)(o:Option Addr)(n6 p:Nat)(q:Option Addr)(n7 r:Nat)(s:Int)(t:Option Addr)(j3 v:Nat)(y:Option Addr)(z A:Nat)(i:Nat)(B:i≠10)(C:i≠12)(u:Value)(w w':World)(h:yc W G aH b c d e f g j k l m o n6 p q n7 r s t j3 v y z A i u w):yc W G aH b c d e f g j k l m o n6 p q n7 r s t j3 v y z A i u w':=by
 match i,h with
 |0,h=>exact h
 |1,h=>exact h
 |2,h=>exact h
 |3,h=>exact h
 |4,h=>exact h
 |5,h=>exact h
 |6,h=>exact h
 |7,h=>exact h
 |8,h=>exact h
 |9,h=>exact h
 |10,h=>exact absurd rfl B
 |11,h=>exact h
 |12,h=>exact absurd rfl C
 |13,h=>exact h
 |n+14,h=>trivial
structure GR(W:World)(G aH gC qV:Nat)(pe kq mM mN pz oZ qW nR:Value)(jx:Option Addr)(n6 jL:Nat)(iy:Option Addr)(n7 hM:Nat)(qF:Int)(jo:Option Addr)(j3 iQ:Nat)(aQ:Option Addr)(bw aU:Nat):Prop where
 au:W.cell? ⟨qV,0,none⟩=some (.slice jx n6 jL)
 h1:W.cell? ⟨qV,1,none⟩=some (.slice iy n7 hM)
 af:W.cell? ⟨qV,2,none⟩=some (.int .i64 qF)
 DS:qV<W.heap.size/\qV≠gC
 g0:W.cell? ⟨aH,0,none⟩=some (.pointer (some ⟨G,0,none⟩))
 p5:aH<W.heap.size/\aH≠gC
 oq:W.cell? ⟨G,12,none⟩=some (.slice jo j3 iQ)
 vo:W.cell? ⟨G,14,none⟩=some (.slice aQ bw aU)
 GS:G<W.heap.size/\G≠gC
def GU(j:Nat):Option Nat:=if j=10 then some 12 else none
theorem M5(W:World)(G aH j o:Nat)(r s n m y p F t:Value)(z:Option Addr)(n6 A:Nat)(B:Option Addr)(n7 D:Nat)(E:Int)(H:Option Addr)(j3 I:Nat)(J:Option Addr)(K L:Nat)(C:GR W G aH j o r s n m y p F t z n6 A B n7 D E H j3 I J K L):
  uj v_ [some 69,some 70,some 71,some 72,some 73,some 74,some 75,some 76,some 77,some 78,none,some 79,none,some 80,none] [[],[],[1],[2],[3],[],[5],[6],[7],[0],[9,0,0],[0,1,2,3,4,9,10],[11,4,10,0,1,2,3,4,9,10],[0,1,2,3,4,5,6,7,8,9,10,11,12],[13,8,12,0,1,2,3,4,5,6,7,8,9,10,11,12]] [(5,.pointer (some ⟨o,0,none⟩)),(2,.pointer (some ⟨aH,0,none⟩)),(3,.pointer (some ⟨j,0,none⟩))] (λ w=>W.grownBy w (some j)) (yc W G aH j o r s n m y p F t z n6 A B n7 D E H j3 I J K L) GU (λ w=>∃q,aN w j 47 [r,s,n,m,y,p,q,t]) 10 0 ((rj Tryz.f100 14).take 14):=by
 have v:∀w b k,W.grownBy w (some j)->b<W.heap.size/\b≠j->w.cell? ⟨b,k,none⟩=W.cell? ⟨b,k,none⟩:=λ w b k c l=>x_ (a:=⟨b,k,none⟩) (c.block b l.1 (λ e=>by injection e with e;exact l.2 e))
 refine⟨?_,?_,?_,?_,?_,?_,?_,?_,?_,?_,?_,?_,?_,?_,trivial⟩
 ·intro vals w f c i d g hp;have p:f (.tmp 5)=_:=g.1 rfl;have ag:=(v w o 0 c C.DS).trans C.au;have c1:=(v w o 1 c C.DS).trans C.h1;have c2:=(v w o 2 c C.DS).trans C.af;simp only[bq,execOp,p];simp[cF,go_sem,ag,c1,c2];exact .same c rfl
 ·intro vals w f c i d g hp;have n:f (.tmp 2)=_:=g.2.1 rfl;have aF:=(v w aH 0 c C.p5).trans C.g0;simp only[bq,execOp,n];simp[cF,go_sem,aF];exact .same c rfl
 ·intro vals w f c i d g hp;obtain⟨⟨f1,M⟩,-⟩:=(⟨d.1 rfl,d.2⟩:_/\_)
  have M:f (.tmp 70)=vals 1:=M _ rfl;have f1:vals 1=_:=f1 (z_ rfl);rw[f1] at M;simp only[bq,execOp,M];simp[cF,go_sem];exact .same c rfl
 ·intro vals w f c i d g hp;obtain⟨⟨f2,N⟩,-⟩:=(⟨d.1 rfl,d.2⟩:_/\_)
  have N:f (.tmp 71)=vals 2:=N _ rfl;have f2:vals 2=_:=f2 (z_ rfl);rw[f2] at N;simp only[bq,execOp,N];simp[cF,go_sem];exact .same c rfl
 ·intro vals w f c i d g hp;obtain⟨⟨f3,O⟩,-⟩:=(⟨d.1 rfl,d.2⟩:_/\_)
  have O:f (.tmp 72)=vals 3:=O _ rfl;have f3:vals 3=_:=f3 (z_ rfl);rw[f3] at O;have aF:=(v w G 12 c C.GS).trans C.oq;simp only[bq,execOp,O];simp[cF,go_sem,aF];exact .same c rfl
 ·intro vals w f c i d g hp;have n:f (.tmp 2)=_:=g.2.1 rfl;have aF:=(v w aH 0 c C.p5).trans C.g0;simp only[bq,execOp,n];simp[cF,go_sem,aF];exact .same c rfl
 ·intro vals w f c i d g hp;obtain⟨⟨f5,P⟩,-⟩:=(⟨d.1 rfl,d.2⟩:_/\_)
  have P:f (.tmp 74)=vals 5:=P _ rfl;have f5:vals 5=_:=f5 (z_ rfl);rw[f5] at P;simp only[bq,execOp,P];simp[cF,go_sem];exact .same c rfl
 ·intro vals w f c i d g hp;obtain⟨⟨f6,Q⟩,-⟩:=(⟨d.1 rfl,d.2⟩:_/\_)
  have Q:f (.tmp 75)=vals 6:=Q _ rfl;have f6:vals 6=_:=f6 (z_ rfl);rw[f6] at Q;simp only[bq,execOp,Q];simp[cF,go_sem];exact .same c rfl
 ·intro vals w f c i d g hp;obtain⟨⟨f7,R⟩,-⟩:=(⟨d.1 rfl,d.2⟩:_/\_)
  have R:f (.tmp 76)=vals 7:=R _ rfl;have f7:vals 7=_:=f7 (z_ rfl);rw[f7] at R;have aF:=(v w G 14 c C.GS).trans C.vo;simp only[bq,execOp,R];simp[cF,go_sem,aF];exact .same c rfl
 ·intro vals w f c i d g hp;have m:f (.tmp 3)=_:=g.2.2.1 rfl;simp only[bq,execOp,m];simp[cF,go_sem];exact .same c rfl
 ·intro vals w f c i d g hp;obtain⟨⟨f9,S⟩,⟨f0,T⟩,-⟩:=(⟨d.1 rfl,d.2.1 rfl,d.2.2⟩:_/\_/\_)
  have S:f (.tmp 78)=vals 9:=S _ rfl;have f9:vals 9=_:=f9 (z_ rfl);rw[f9] at S;have T:f (.tmp 69)=vals 0:=T _ rfl;have f0:vals 0=_:=f0 (z_ rfl);rw[f0] at T;obtain⟨q,l⟩:∃q,aN w j 47 [r,s,n,m,y,p,q,t]:=i (Or.inr rfl);have Y:=l.cell 3;have Z:=l.cell 4;have aa:=l.cell 5;have ah:=l.free 3;have ai:=l.free 4;have aj:=l.free 5;simp only[w_,t_] at Y Z aa;simp only[bq,execOp,S,T];simp[cF,go_sem,Y,Z,aa,ah,ai,aj];have ak:=xg (xg (kZ w j 3 (.slice z n6 A)) (kZ _ j 4 (.slice B n7 D))) (kZ _ j 5 (.int .i64 E));exact⟨xg c ak,⟨q,((l.set 3 _).set 4 _).set 5 _⟩,λ k u hk ab ad _ X=>yc.const W G aH j o r s n m y p F t z n6 A B n7 D E H j3 I J K L k hk (λ e=>by subst e;exact absurd ad (by decide)) u _ _ X,λ h=>absurd rfl h⟩
 ·intro vals w f c i d g hp;have m:f (.tmp 3)=_:=g.2.2.1 rfl;simp only[bq,execOp,m];simp[cF,go_sem];exact .same c rfl
 ·intro vals w f c i d g hp;obtain⟨⟨f11,U⟩,⟨f4,V⟩,⟨f10,ao⟩,-⟩:=(⟨d.1 rfl,d.2.1 rfl,d.2.2.1 rfl,d.2.2.2⟩:_/\_/\_/\_)
  have U:f (.tmp 79)=vals 11:=U _ rfl;have f11:vals 11=_:=f11 (z_ rfl);rw[f11] at U;have V:f (.tmp 73)=vals 4:=V _ rfl;have f4:vals 4=_:=f4 (z_ rfl);rw[f4] at V;obtain⟨q,l⟩:∃q,aN w j 47 [r,s,n,.slice z n6 A,.slice B n7 D,.int .i64 E,q,t]:=f10 (Or.inr rfl);have ae:=l.cell 6;have al:=l.free 6;simp only[w_,t_] at ae;simp only[bq,execOp,U,V];simp[cF,go_sem,ae,al];exact⟨xg c (kZ w j 6 _),l.set 6 _,λ k u hk ab ad _ X=>yc.const W G aH j o r s n m y p F t z n6 A B n7 D E H j3 I J K L k (λ e=>by subst e;exact absurd rfl ab) hk u _ _ X,λ h _ i=>by obtain⟨aq,an⟩:=i;exact⟨_,an.set 6 _⟩⟩
 ·intro vals w f c i d g hp;have m:f (.tmp 3)=_:=g.2.2.1 rfl;simp only[bq,execOp,m];simp[cF,go_sem];exact .same c rfl
end
end Go.Proofs.YtogdlkfacflmaaaGreat
