/- Parts of the walk of the solver and its core; no condition. -/
import Derived.Test.YtogdlkfacflmaaaGreatZY12
import Derived.Laws.Rows
import Derived.Test.YtogdlkfacflmaaaGreatZY6
import Derived.Test.YtogdlkfacflmaaaGreatZY1
namespace Go.Proofs.YtogdlkfacflmaaaGreat
set_option linter.unusedVariables false
set_option linter.unusedSimpArgs false
set_option maxRecDepth 1000000
set_option maxHeartbeats 8000000
open _root_.And renaming intro→z_
open _root_.List renaming getElem?_cons_zero→y_,getElem?_cons_succ→u_,map_toArray→q_,map_cons→p_,map_nil→n_,length_append→m_,range→j_
open _root_.Go.Value renaming slice→x_,bool→r_
open _root_.Go.Proofs.Tryz renaming prog→w_
open _root_.Nat renaming lt_of_lt_of_le→v_,le_refl→o_,le_trans→i_
open _root_.Go.World renaming cell?_of_block→t_
open _root_.Or renaming inl→s_
open _root_.Option.some renaming injEq→l_
open _root_.Go.Handed renaming intro→k_
open _root_.Go.Value.slice renaming injEq→h_
variable{A B W w0 w:World}{row:Option Nat}{K bg gZ:Nat->Prop}{base G bN gO bn bH aB ji n g m fR jI c:Nat}{hs:Nat->ay}{cb:Nat->Nat}{s aI:au}{gN:Option Addr}{left next:Int}{a:Act}{F:List (List Int)}{ah act:List Int}{bk jV jF gY gJ gu gL gW u16 gv gw gx gI gy gz gA gB gC gD gE gF fS fT fU u32 fV fW fZ ga gb gd gh gi gj gl gm gG gH iz iq ir bT bU bV bW bX bY bZ b5 b6 b7 b8 b9 cc cg ck u64 cm cn cp cr ct cu cv cw cz cA cB cC cD cE cF cG cH cI cK cL cM di dm dn dr dw dx dy dz cN cO cQ cR cS cT cU cV cW cZ c4 c5 c6 c7 c8 c9 dc dA dB dD dF dG dH dI dJ dK dL dM dN dO dP dQ dR dS dU dV dW dX dY dZ ec ee ef ei ej ek en fL fM fN eo ep er eu ew ey ez eA eB eC eD eE fO fP fQ eF eG eH eL eM eN eO eP eR eS eT eU eV eW eX eY eZ e3 e4 e5 e6 e7 e8 e9 fc fe ff fh fk fm fo fq fu fA fB fC gn gp fD fE fF fG fH fI fJ iJ iK iL iM iN iO iP iQ iR iS iT iU jq jr js jt jv jw jx jy jX jY jZ j0 j3 j4:Value}{Q:Exit->Act->World->Prop}
section
open Go.RowKit Go.Shelf
theorem xG{C:World}(h:A.grownBy B row)(k:B.grownBy C row):A.grownBy C row:=
 ⟨k.os.trans h.os,k.tape.trans h.tape,k.output.trans h.output,i_ h.size k.size,λ i b c=>(k.block i (v_ b h.size) c).trans (h.block i b c)⟩
theorem D7(h:A.grownBy B row):A.grownBy B.drew row:=⟨h.os,h.tape,h.output,h.size,h.block⟩
structure vH(K:Nat->Prop)(base:Nat)(W:World)(G:Nat)(hs:Nat->ay)(cb:Nat->Nat)(s:au)(bn aB n g:Nat)(gX:List Bool):Prop where
 gK:bf (qJ K g) base W G hs cb s
 j5:aR W bn 30 [.int .i64 1,.slice (some ⟨g,0,none⟩) (n+1) (n+1),nk,.int .i64 (aB:Int)]
 row:W.ownsRow g 4 1 (.slice (some ⟨g,0,none⟩) (n+1) (n+1)) (n+1) (pR gX)
 ne:g≠bn
theorem vH.set{K:Nat->Prop}{base:Nat}{W:World}{G:Nat}{hs:Nat->ay}{cb:Nat->Nat}{s:au}{bn aB n g:Nat}{gX:List Bool}(h:vH K base W G hs cb s bn aB n g gX)(k:Nat)(b:Bool):vH K base (W.setCell ⟨g,k,none⟩ (.bool b)) G hs cb s bn aB n g (gX.set k b):=
 ⟨h.gK.vb (.inr rfl) k _,h.j5.kept (lq W g k _) (λ e=>h.ne (by injection e with e;exact e.symm)),by unfold pR;rw[List.map_set];exact Fq h.row _,h.ne⟩
theorem vH.drew{K:Nat->Prop}{base:Nat}{W:World}{G:Nat}{hs:Nat->ay}{cb:Nat->Nat}{s:au}{bn aB n g:Nat}{gX:List Bool}(h:vH K base W G hs cb s bn aB n g gX):vH K base W.drew G hs cb s bn aB n g gX:=
 ⟨h.gK.drew,h.j5,mh h.row ((Below.refl _ W).drew),h.ne⟩
structure HA(K:Nat->Prop)(base:Nat)(V W:World)(G:Nat)(hs:Nat->ay)(cb:Nat->Nat)(s:au)(bn aB n g k:Nat):Prop where
 st:∃gX:List Bool,vH K base W G hs cb s bn aB n g gX/\gX.length=n+1/\∀j,j<k->iY gX j=decide (0<ak s.c.val j)
 nj:V.grownBy W (some g)
 vR:k<=n+1
inductive zq(K:Nat->Prop)(base:Nat)(V:World)(G:Nat)(hs:Nat->ay)(cb:Nat->Nat)(s:au)(gN:Option Addr)(bN gO bn bH aB ji:Nat)(left:Int)(n g:Nat):Nat->Act->World->Prop
 |mk {k:Nat} {bk jV jF gY gJ gu iF gL gW u16 gv gw gx gI gy gz gA gB gC gD gE gF fS fT fU u32 fV fW fZ ga gb gd gh gi gj gl gm gG gH iz iq ir bT bU bV bW bX bY bZ b5 b6 b7 b8 b9 cc cg ck u64 cm cn cp cr ct cu cv cw cz cA cB cC cD cE cF cG cH cI cK cL cM di dm dn dr dw dx dy dz cN cO cQ cR cS cT cU cV cW cZ c4 c5 c6 c7 c8 c9 dc dA dB dD dF dG dH dI dJ dK dL dM dN dO dP dQ dR dS dU dV dW dX dY dZ ec ee ef ei ej ek en fL fM fN eo ep er eu ew ey ez eA eB eC eD eE fO fP fQ eF eG eH eL eM eN eO eP eR eS eT eU eV eW eX eY eZ e3 e4 e5 e6 e7 e8 e9 fc fe ff fh fk fm fo fq fu fA fB fC fD fE fF fG fH fI fJ iJ iK iL iM iN iO iP iQ iR iS iT iU jq jr js jt jv jw jx jy jX jY jZ j0 j3 j4:Value} {W:World} (h:HA K base V W G hs cb s bn aB n g k):zq K base V G hs cb s gN bN gO bn bH aB ji left n g (n+1-k) {tmps:= #[.pointer (some ⟨G,0,none⟩),.slice gN bN gO,.int .i64 (bH:Int),bk,jV,jF,.pointer (some ⟨bn,0,none⟩),.int .i64 (ji:Int),.int .i64 left,.int .i64 2000,gY,gJ,gu,iF,gL,gW,u16,gv,gw,gx,gI,gy,gz,gA,gB,gC,gD,gE,gF,fS,fT,fU,u32,fV,fW,fZ,ga,gb,gd,gh,gi,gj,gl,gm,gG,gH,iz,iq,ir,bT,bU,bV,bW,bX,bY,bZ,b5,b6,b7,b8,b9,cc,cg,ck,u64,cm,cn,cp,cr,ct,cu,cv,cw,cz,cA,cB,cC,cD,cE,cF,cG,cH,cI,cK,cL,cM,di,dm,dn,dr,dw,dx,dy,dz,cN,cO,cQ,cR,cS,cT,cU,cV,cW,cZ,c4,c5,c6,c7,c8,c9,dc,dA,dB,dD,dF,dG,dH,dI,dJ,dK,dL,dM,dN,dO,dP,dQ,dR,dS,dU,dV,dW,dX,dY,dZ,ec,ee,ef,ei,ej,ek,en,fL,fM,fN,eo,ep,er,eu,ew,ey,ez,eA,eB,eC,eD,eE,fO,fP,fQ,eF,eG,eH,eL,eM,eN,eO,eP,eR,eS,eT,eU,eV,eW,eX,eY,eZ,e3,e4,e5,e6,e7,e8,e9,fc,fe,ff,fh,fk,fm,fo,fq,fu,fA,fB,fC,.int .i64 ((n:Int)+1),.int .i64 (k:Int),fD,fE,fF,fG,fH,fI,fJ,iJ,iK,iL,iM,iN,iO,iP,iQ,iR,iS,iT,iU,jq,jr,js,jt,jv,jw,jx,jy,jX,jY,jZ,j0,j3,j4],defers:=[]} W
theorem zq.elim{V:World}(b:zq K base V G hs cb s gN bN gO bn bH aB ji left n g m a W){P:Prop}
  (k:∀{k:Nat}{c d e f i j l o p u16 q r t u v w y z A B C D E F H u32 I J L M N O Q R S T U X Y Z aa ab ad ae af ag ah ai aj ak al an ao aq ar av aw u64 ax az aA aC aD aE aF aG aH aI aJ aK aL aM aN aO aP aQ aR aS aT aU aV aW aX aY aZ a6 a7 a8 a' ba bb bc bd bf bg bh bj bk bl bo bp bq br bs bt bu bw bx bz bA bB bC bD bE bF bG bI bJ bK bL bM bO bP bQ bR bS bT bU bV bW bX bY bZ b0 b1 b2 b3 b4 b5 b6 b7 b8 b9 b' ca cc cd cf cg ch cj ck cm cn cp cq cr ct cu cv cw cx cy cz cA cB cC cD cE cF cG cH cI cJ cK cL cM cN cO cP cQ cR cS cT cU cV cW cX cY cZ c0 c4 c5 c6 c7 c8 c9 da db dc dd de df dh di dj dk dm dn dp dq dr dt du dv dw dx dy dz dA dB:Value},a={tmps:= #[.pointer (some ⟨G,0,none⟩),.slice gN bN gO,.int .i64 (bH:Int),c,d,e,.pointer (some ⟨bn,0,none⟩),.int .i64 (ji:Int),.int .i64 left,.int .i64 2000,f,i,j,l,o,p,u16,q,r,t,u,v,w,y,z,A,B,C,D,E,F,H,u32,I,J,L,M,N,O,Q,R,S,T,U,X,Y,Z,aa,ab,ad,ae,af,ag,ah,ai,aj,ak,al,an,ao,aq,ar,av,aw,u64,ax,az,aA,aC,aD,aE,aF,aG,aH,aI,aJ,aK,aL,aM,aN,aO,aP,aQ,aR,aS,aT,aU,aV,aW,aX,aY,aZ,a6,a7,a8,a',ba,bb,bc,bd,bf,bg,bh,bj,bk,bl,bo,bp,bq,br,bs,bt,bu,bw,bx,bz,bA,bB,bC,bD,bE,bF,bG,bI,bJ,bK,bL,bM,bO,bP,bQ,bR,bS,bT,bU,bV,bW,bX,bY,bZ,b0,b1,b2,b3,b4,b5,b6,b7,b8,b9,b',ca,cc,cd,cf,cg,ch,cj,ck,cm,cn,cp,cq,cr,ct,cu,cv,cw,cx,cy,cz,cA,cB,cC,cD,cE,cF,cG,cH,cI,cJ,cK,cL,cM,cN,cO,cP,cQ,cR,cS,cT,cU,cV,cW,cX,.int .i64 ((n:Int)+1),.int .i64 (k:Int),cY,cZ,c0,c4,c5,c6,c7,c8,c9,da,db,dc,dd,de,df,dh,di,dj,dk,dm,dn,dp,dq,dr,dt,du,dv,dw,dx,dy,dz,dA,dB],defers:=[]}->m=n+1-k->HA K base V W G hs cb s bn aB n g k->P):P:=by
 cases b with
 |mk h=>exact k rfl rfl h
noncomputable def HB:Code:=DL (ng (ng (ng (ng (ng Cf)))))
noncomputable def No:Code:=ng (BV (ng HB))
theorem Np{K:Nat->Prop}{base:Nat}{V:World}{G:Nat}{hs:Nat->ay}{cb:Nat->Nat}{s:au}{gN:Option Addr}{bN gO bn bH aB ji:Nat}{left:Int}{n g:Nat}{Ci:List Bool}{bk jV jF gY gJ gu iF gL gW u16 gv gw gx gI gy gz gA gB gC gD gE gF fS fT fU u32 fV fW fZ ga gb gd gh gi gj gl gm gG gH iz iq ir bT bU bV bW bX bY bZ b5 b6 b7 b8 b9 cc cg ck u64 cm cn cp cr ct cu cv cw cz cA cB cC cD cE cF cG cH cI cK cL cM di dm dn dr dw dx dy dz cN cO cQ cR cS cT cU cV cW cZ c4 c5 c6 c7 c8 c9 dc dA dB dD dF dG dH dI dJ dK dL dM dN dO dP dQ dR dS dU dV dW dX dY dZ ec ee ef ei ej ek en fL fM fN eo ep er eu ew ey ez eA eB eC eD eE fO fP fQ eF eG eH eL eM eN eO eP eR eS eT eU eV eW eX eY eZ e3 e4 e5 e6 e7 e8 e9 fc fe ff fh fk fm fo fq fu fA fB fC gn gp fD fE fF fG fH fI fJ iJ iK iL iM iN iO iP iQ iR iS iT iU jq jr js jt jv jw jx jy jX jY jZ j0 j3 j4:Value}{Q:Exit->Act->World->Prop}
  (p:vH K base V G hs cb s bn aB n g Ci) (v:Ci.length=n+1) (aj:n<=10) (al:s.c.val.length=n+1)
  (w:∀(d:List Bool)(bk jV jF gY gJ gu iF gL gW u16 gv gw gx gI gy gz gA gB gC gD gE gF fS fT fU u32 fV fW fZ ga gb gd gh gi gj gl gm gG gH iz iq ir bT bU bV bW bX bY bZ b5 b6 b7 b8 b9 cc cg ck u64 cm cn cp cr ct cu cv cw cz cA cB cC cD cE cF cG cH cI cK cL cM di dm dn dr dw dx dy dz cN cO cQ cR cS cT cU cV cW cZ c4 c5 c6 c7 c8 c9 dc dA dB dD dF dG dH dI dJ dK dL dM dN dO dP dQ dR dS dU dV dW dX dY dZ ec ee ef ei ej ek en fL fM fN eo ep er eu ew ey ez eA eB eC eD eE fO fP fQ eF eG eH eL eM eN eO eP eR eS eT eU eV eW eX eY eZ e3 e4 e5 e6 e7 e8 e9 fc fe ff fh fk fm fo fq fu fA fB fC gn gp fD fE fF fG fH fI fJ iJ iK iL iM iN iO iP iQ iR iS iT iU jq jr js jt jv jw jx jy jX jY jZ j0 j3 j4:Value)(W':World),vH K base W' G hs cb s bn aB n g d->d.length=n+1->(∀j,j<n+1->iY d j=decide (0<ak s.c.val j))->V.grownBy W' (some g)->Q .ret {tmps:= #[.pointer (some ⟨G,0,none⟩),.slice gN bN gO,.int .i64 (bH:Int),bk,jV,jF,.pointer (some ⟨bn,0,none⟩),.int .i64 (ji:Int),.int .i64 left,.int .i64 2000,gY,gJ,gu,iF,gL,gW,u16,gv,gw,gx,gI,gy,gz,gA,gB,gC,gD,gE,gF,fS,fT,fU,u32,fV,fW,fZ,ga,gb,gd,gh,gi,gj,gl,gm,gG,gH,iz,iq,ir,bT,bU,bV,bW,bX,bY,bZ,b5,b6,b7,b8,b9,cc,cg,ck,u64,cm,cn,cp,cr,ct,cu,cv,cw,cz,cA,cB,cC,cD,cE,cF,cG,cH,cI,cK,cL,cM,di,dm,dn,dr,dw,dx,dy,dz,cN,cO,cQ,cR,cS,cT,cU,cV,cW,cZ,c4,c5,c6,c7,c8,c9,dc,dA,dB,dD,dF,dG,dH,dI,dJ,dK,dL,dM,dN,dO,dP,dQ,dR,dS,dU,dV,dW,dX,dY,dZ,ec,ee,ef,ei,ej,ek,en,fL,fM,fN,eo,ep,er,eu,ew,ey,ez,eA,eB,eC,eD,eE,fO,fP,fQ,eF,eG,eH,eL,eM,eN,eO,eP,eR,eS,eT,eU,eV,eW,eX,eY,eZ,e3,e4,e5,e6,e7,e8,e9,fc,fe,ff,fh,fk,fm,fo,fq,fu,fA,fB,fC,gn,gp,fD,fE,fF,fG,fH,fI,fJ,iJ,iK,iL,iM,iN,iO,iP,iQ,iR,iS,iT,iU,jq,jr,js,jt,jv,jw,jx,jy,jX,jY,jZ,j0,j3,j4],defers:=[]} (((((W'.setCell ⟨bn,0,none⟩ (.int .i64 1)).setCell ⟨bn,1,none⟩ (.slice (some ⟨g,0,none⟩) (n+1) (n+1)))).setCell ⟨bn,2,none⟩ (.slice none 0 0)).setCell ⟨bn,3,none⟩ (.int .i64 (aB:Int)))):
  Code.wp w_ No Q {tmps:= #[.pointer (some ⟨G,0,none⟩),.slice gN bN gO,.int .i64 (bH:Int),bk,jV,jF,.pointer (some ⟨bn,0,none⟩),.int .i64 (ji:Int),.int .i64 left,.int .i64 2000,gY,gJ,gu,iF,gL,gW,u16,gv,gw,gx,gI,gy,gz,gA,gB,gC,gD,gE,gF,fS,fT,fU,u32,fV,fW,fZ,ga,gb,gd,gh,gi,gj,gl,gm,gG,gH,iz,iq,ir,bT,bU,bV,bW,bX,bY,bZ,b5,b6,b7,b8,b9,cc,cg,ck,u64,cm,cn,cp,cr,ct,cu,cv,cw,cz,cA,cB,cC,cD,cE,cF,cG,cH,cI,cK,cL,cM,di,dm,dn,dr,dw,dx,dy,dz,cN,cO,cQ,cR,cS,cT,cU,cV,cW,cZ,c4,c5,c6,c7,c8,c9,dc,dA,dB,dD,dF,dG,dH,dI,dJ,dK,dL,dM,dN,dO,dP,dQ,dR,dS,dU,dV,dW,dX,dY,dZ,ec,ee,ef,ei,ej,ek,en,fL,fM,fN,eo,ep,er,eu,ew,ey,ez,eA,eB,eC,eD,eE,fO,fP,fQ,eF,eG,eH,eL,eM,eN,eO,eP,eR,eS,eT,eU,eV,eW,eX,eY,eZ,e3,e4,e5,e6,e7,e8,e9,fc,fe,ff,fh,fk,fm,fo,fq,fu,fA,fB,fC,gn,gp,fD,fE,fF,fG,fH,fI,fJ,iJ,iK,iL,iM,iN,iO,iP,iQ,iR,iS,iT,iU,jq,jr,js,jt,jv,jw,jx,jy,jX,jY,jZ,j0,j3,j4],defers:=[]} V:=by
 have N:=U w;have b:=p.j5.cell 1;simp only[nk,y_,u_] at b;have z:=U p;clear w p
 conv=>arg 2;whnf
 dsimp only
 go_upto_region 44 with fail
 clear b;refine wp_loop_ghost_k (zq K base V G hs cb s gN bN gO bn bH aB ji left n g) (n+1-0) ?start ?round
 case start=>exact zq.mk ⟨⟨Ci,z.o,v,λ j O=>by omega⟩,⟨rfl,rfl,rfl,o_ _,λ _ _ _=>rfl⟩,Nat.zero_le _⟩
 case round=>
  clear z v Ci;intro m a W A an ao B C;refine A.elim ?_;intro k bk jV jF gY gJ gu iF gL gW u16 gv gw gx gI gy gz gA gB gC gD gE gF fS fT fU u32 fV fW fZ ga gb gd gh gi gj gl gm gG gH iz iq ir bT bU bV bW bX bY bZ b5 b6 b7 b8 b9 cc cg ck u64 cm cn cp cr ct cu cv cw cz cA cB cC cD cE cF cG cH cI cK cL cM di dm dn dr dw dx dy dz cN cO cQ cR cS cT cU cV cW cZ c4 c5 c6 c7 c8 c9 dc dA dB dD dF dG dH dI dJ dK dL dM dN dO dP dQ dR dS dU dV dW dX dY dZ ec ee ef ei ej ek en fL fM fN eo ep er eu ew ey ez eA eB eC eD eE fO fP fQ eF eG eH eL eM eN eO eP eR eS eT eU eV eW eX eY eZ e3 e4 e5 e6 e7 e8 e9 fc fe ff fh fk fm fo fq fu fA fB fC fD fE fF fG fH fI fJ iJ iK iL iM iN iO iP iQ iR iS iT iU jq jr js jt jv jw jx jy jX jY jZ j0 j3 j4 P hm H;clear A;subst P;subst hm;obtain⟨⟨d,D,E,F⟩,I,f⟩:=H;have Y:=U D;have X:=U (z_ E (z_ F (z_ I f)));have R:=U B;have S:=U C;clear D E F I f B C
  by_cases q:k<n+1
  ·have r:(k:Int)<(n:Int)+1:=by omega
   have T:decide ((k:Int)<(n:Int)+1)=true:=decide_eq_true r;have b:=Y.o.j5.cell 1;simp only[nk,y_,u_] at b;have J:k<s.c.val.length:=by omega
   obtain⟨i,t,Z,aa⟩:=Y.o.gK.e.l7 2 1 rfl Y.o.gK.e.jE (by omega);have L:=Y.o.gK.e.Ab t (k:=k) J;obtain⟨y,u⟩:∃y,ak s.c.val k=y:=⟨_,rfl⟩
   rw[u] at L;have aq:(k:Int)<(s.c.val.length:Int):=by omega
   have M:=Y.o.row.cellAt k (by omega);have ar:=Y.o.row.frozenAt k;have ab:=(Y.o.row.lt g rfl).2;have av:W.cell? ⟨g,k,none⟩=some (.bool (iY d k)):=by
    rw[M];unfold pR;rw[List.getElem?_map,List.getElem?_eq_getElem (by have:=X.o.1;omega),Bp (by have:=X.o.1;omega)];rfl
   have jE:g≠G:=λ e=>Y.o.gK.s.g (by rw[<-e];exact .inr rfl)
   have aw:g≠bn:=Y.o.ne;have ax:g≠i:=λ e=>Y.o.gK.s.row 1 i t (by rw[<-e];exact .inr rfl)
   have l:=U (z_ q u);have az:IntKind.i64.wrap ((k:Int)+1)=(k:Int)+1:=by rw[IntKind.wrap_i64];omega
   clear q u t aa M J ab
   go_upto_region 46 with fail
   go_region_held3 (λ w'=>w'.cell? ⟨bn,1,none⟩=some (.slice (some ⟨g,0,none⟩) (n+1) (n+1))/\w'.cell? ⟨G,2,none⟩=some (.slice (some ⟨i,0,none⟩) s.c.val.length (hs 1).c)/\w'.cell? ⟨i,k,none⟩=some (.int .i8 y)) (first|exact⟨b,Z,L⟩|go_keep) (fail)
   have ad:=(Y.o.set k (decide (0<y))).drew;have ae:=D7 (xG X.o.2.2.1 (lq W g k (.bool (decide (0<y)))))
   go_wp2_with fail
   refine S.o _ _ (k_ (n+1-(k+1)) (by have:=l.o.1;omega) (R.o _ _ _ (zq.mk (k:=k+1) ⟨⟨_,ad,by rw[List.length_set];exact X.o.1,λ j O=>?_⟩,ae,by have:=l.o.1;omega⟩)));rw[zS]
   by_cases e:k=j
   ·subst e;rw[if_pos ⟨rfl,by have:=X.o.1;have:=l.o.1;omega⟩,l.o.2]
   ·rw[if_neg (λ h=>e h.1)];exact X.o.2.1 j (by omega)
  ·have r:¬(k:Int)<(n:Int)+1:=by omega
   have T:decide ((k:Int)<(n:Int)+1)=false:=decide_eq_false r;have f:k=n+1:=by have:=X.o.2.2.2;omega
   have af:=U f;have ag:=Y.o.j5.cell 0;have b:=Y.o.j5.cell 1;have ah:=Y.o.j5.cell 2;have ai:=Y.o.j5.cell 3;have aA:=Y.o.j5.free 0;have aC:=Y.o.j5.free 1;have aD:=Y.o.j5.free 2;have aE:=Y.o.j5.free 3;simp only[nk,y_,u_] at ag b ah ai;clear q f
   go_wp2_with fail
   apply N.o d
   ·exact Y.o
   ·exact X.o.1
   ·rw[<-af.o];exact X.o.2.1
   ·exact X.o.2.2.1
theorem AF:(w_.info? 4).map (λ i=>(i.zero,i.size,i.bytes))=some (some (.bool false),1,1):=by kernel_rfl
theorem Nq{gN:Option Addr}{bN gO:Nat}{h:Nat}(S:mS bg gZ base w0 G F ah n fR jI aI bn bH K W hs cb s aB h)(p:n<=10):
  vH K base ((((W.setCell ⟨bn,0,none⟩ (.int .i64 1)).setCell ⟨bn,1,none⟩ (.slice (some ⟨W.heap.size,0,none⟩) (n+1) (n+1))).alloc (.cells (madeCells (r_ false).cells (n+1)) 4)).drew) G hs cb s bn aB n W.heap.size (List.replicate (n+1) false)/\
  aG (λ b=>K b/\b≠bn) W ((((W.setCell ⟨bn,0,none⟩ (.int .i64 1)).setCell ⟨bn,1,none⟩ (.slice (some ⟨W.heap.size,0,none⟩) (n+1) (n+1))).alloc (.cells (madeCells (r_ false).cells (n+1)) 4)).drew):=by
 have g:=(S.gK.vb S.sF 0 (.int .i64 1)).vb S.sF 1 (.slice (some ⟨W.heap.size,0,none⟩) (n+1) (n+1));have j:=(aG.D0 S 0 (.int .i64 1)).trans (aG.set (K:=λ b=>K b/\b≠bn) bn 1 (.slice (some ⟨W.heap.size,0,none⟩) (n+1) (n+1)) (λ c=>c.2 rfl));have k:=(S.j5.set 0 (.int .i64 1)).set 1 (.slice (some ⟨W.heap.size,0,none⟩) (n+1) (n+1));have l:((W.setCell ⟨bn,0,none⟩ (.int .i64 1)).setCell ⟨bn,1,none⟩ (.slice (some ⟨W.heap.size,0,none⟩) (n+1) (n+1))).heap.size=W.heap.size:=by simp
 have q:=S.j5.lt;generalize (W.setCell ⟨bn,0,none⟩ (.int .i64 1)).setCell ⟨bn,1,none⟩ (.slice (some ⟨W.heap.size,0,none⟩) (n+1) (n+1))=f at*;have c:=(bC f (.cells (madeCells (r_ false).cells (n+1)) 4)).drew;have m:((f.alloc (.cells (madeCells (r_ false).cells (n+1)) 4)).drew).ownsRow W.heap.size 4 1 (.slice (some ⟨W.heap.size,0,none⟩) (n+1) (n+1)) (n+1) ((List.replicate (n+1) false).map r_):=by
  rw[<-l];refine⟨by simp,Or.inr ⟨f.heap.size,n+1,_,rfl,o_ _,heap_alloc_new f _,o_ _,by unfold maxLen;omega,by rw[size_madeCells];omega,?_⟩⟩;show(madeCells #[r_ false] (n+1)).toList.take ((n+1)*1)=_;rw[toList_madeCells_one];simp
 have i:=(g.below c)
 refine⟨⟨i.1.qJ (by show _<(f.alloc _).heap.size;simp;omega) (by have:=g.e.box.lt;omega) (λ r e=>by have:=(g.e.rows.lt e).2;omega) (λ d o e=>by have:=(g.e.cls d o).lt;omega),k.below c,m,by omega⟩,j.trans (i.2.mono λ b c=>c.1)⟩
theorem Nr
  (C:se bg gZ w0 F ah n fR jI aI gN bN gO bH) (S:next=0->mS bg gZ base w0 G F ah n fR jI aI bn bH K W hs cb s aB s.c.ag/\s.c.ag=s.c.ax.length/\s.c.mm=false/\ah.length<=s.c.st.length/\s.ord.length=0)
  (p:∀(bk jV jF gY gJ gu gL gW u16 gv gw gx gI gy gz gA gB gC gD gE gF fS fT fU u32 fV fW fZ ga gb gd gh gi gj gl gm gG gH iz iq ir bT bU bV bW bX bY bZ b5 b6 b7 b8 b9 cc cg ck u64 cm cn cp cr ct cu cv cw cz cA cB cC cD cE cF cG cH cI cK cL cM di dm dn dr dw dx dy dz cN cO cQ cR cS cT cU cV cW cZ c4 c5 c6 c7 c8 c9 dc dA dB dD dF dG dH dI dJ dK dL dM dN dO dP dQ dR dS dU dV dW dX dY dZ ec ee ef ei ej ek en fL fM fN eo ep er eu ew ey ez eA eB eC eD eE fO fP fQ eF eG eH eL eM eN eO eP eR eS eT eU eV eW eX eY eZ e3 e4 e5 e6 e7 e8 e9 fc fe ff fh fk fm fo fq fu fA fB fC gn gp fD fE fF fG fH fI fJ iJ iK iL iM iN iO iP iQ iR iS iT iU jq jr js jt jv jw jx jy jX jY jZ j0 j3 j4:Value),next≠0->Q .normal {tmps:= #[.pointer (some ⟨G,0,none⟩),.slice gN bN gO,.int .i64 (bH:Int),bk,jV,jF,.pointer (some ⟨bn,0,none⟩),.int .i64 (ji:Int),.int .i64 left,.int .i64 2000,gY,gJ,gu,.int .i64 next,gL,gW,u16,gv,gw,gx,gI,gy,gz,gA,gB,gC,gD,gE,gF,fS,fT,fU,u32,fV,fW,fZ,ga,gb,gd,gh,gi,gj,gl,gm,gG,gH,iz,iq,ir,bT,bU,bV,bW,bX,bY,bZ,b5,b6,b7,b8,b9,cc,cg,ck,u64,cm,cn,cp,cr,ct,cu,cv,cw,cz,cA,cB,cC,cD,cE,cF,cG,cH,cI,cK,cL,cM,di,dm,dn,dr,dw,dx,dy,dz,cN,cO,cQ,cR,cS,cT,cU,cV,cW,cZ,c4,c5,c6,c7,c8,c9,dc,dA,dB,dD,dF,dG,dH,dI,dJ,dK,dL,dM,dN,dO,dP,dQ,dR,dS,dU,dV,dW,dX,dY,dZ,ec,ee,ef,ei,ej,ek,en,fL,fM,fN,eo,ep,er,eu,ew,ey,ez,eA,eB,eC,eD,eE,fO,fP,fQ,eF,eG,eH,eL,eM,eN,eO,eP,eR,eS,eT,eU,eV,eW,eX,eY,eZ,e3,e4,e5,e6,e7,e8,e9,fc,fe,ff,fh,fk,fm,fo,fq,fu,fA,fB,fC,gn,gp,fD,fE,fF,fG,fH,fI,fJ,iJ,iK,iL,iM,iN,iO,iP,iQ,iR,iS,iT,iU,jq,jr,js,jt,jv,jw,jx,jy,jX,jY,jZ,j0,j3,j4],defers:=[]} W)
  (r:∀(K:Nat->Prop)(hs:Nat->ay)(cb:Nat->Nat)(s':au)(h':Nat)(t:Option Addr)(u w:Nat)(bk jV jF gY gJ gu y gL gW u16 gv gw gx gI gy gz gA gB gC gD gE gF fS fT fU u32 fV fW fZ ga gb gd gh gi gj gl gm gG gH iz iq ir bT bU bV bW bX bY bZ b5 b6 b7 b8 b9 cc cg ck u64 cm cn cp cr ct cu cv cw cz cA cB cC cD cE cF cG cH cI cK cL cM di dm dn dr dw dx dy dz cN cO cQ cR cS cT cU cV cW cZ c4 c5 c6 c7 c8 c9 dc dA dB dD dF dG dH dI dJ dK dL dM dN dO dP dQ dR dS dU dV dW dX dY dZ ec ee ef ei ej ek en fL fM fN eo ep er eu ew ey ez eA eB eC eD eE fO fP fQ eF eG eH eL eM eN eO eP eR eS eT eU eV eW eX eY eZ e3 e4 e5 e6 e7 e8 e9 fc fe ff fh fk fm fo fq fu fA fB fC gn gp fD fE fF fG fH fI fJ iJ iK iL iM iN iO iP iQ iR iS iT iU jq jr js jt jv jw jx jy jX jY jZ j0 j3 j4:Value)(W':World),sg bg gZ base w0 G F ah n fR aI bn bH K W' hs cb s' aB h' 1 t u w none 0 0->aR W' bn 30 [.int .i64 1,.slice t u w,nk,.int .i64 (aB:Int)]->Q .ret {tmps:= #[.pointer (some ⟨G,0,none⟩),.slice gN bN gO,.int .i64 (bH:Int),bk,jV,jF,.pointer (some ⟨bn,0,none⟩),.int .i64 (ji:Int),.int .i64 left,.int .i64 2000,gY,gJ,gu,y,gL,gW,u16,gv,gw,gx,gI,gy,gz,gA,gB,gC,gD,gE,gF,fS,fT,fU,u32,fV,fW,fZ,ga,gb,gd,gh,gi,gj,gl,gm,gG,gH,iz,iq,ir,bT,bU,bV,bW,bX,bY,bZ,b5,b6,b7,b8,b9,cc,cg,ck,u64,cm,cn,cp,cr,ct,cu,cv,cw,cz,cA,cB,cC,cD,cE,cF,cG,cH,cI,cK,cL,cM,di,dm,dn,dr,dw,dx,dy,dz,cN,cO,cQ,cR,cS,cT,cU,cV,cW,cZ,c4,c5,c6,c7,c8,c9,dc,dA,dB,dD,dF,dG,dH,dI,dJ,dK,dL,dM,dN,dO,dP,dQ,dR,dS,dU,dV,dW,dX,dY,dZ,ec,ee,ef,ei,ej,ek,en,fL,fM,fN,eo,ep,er,eu,ew,ey,ez,eA,eB,eC,eD,eE,fO,fP,fQ,eF,eG,eH,eL,eM,eN,eO,eP,eR,eS,eT,eU,eV,eW,eX,eY,eZ,e3,e4,e5,e6,e7,e8,e9,fc,fe,ff,fh,fk,fm,fo,fq,fu,fA,fB,fC,gn,gp,fD,fE,fF,fG,fH,fI,fJ,iJ,iK,iL,iM,iN,iO,iP,iQ,iR,iS,iT,iU,jq,jr,js,jt,jv,jw,jx,jy,jX,jY,jZ,j0,j3,j4],defers:=[]} W'):
  Code.wp w_ HB Q {tmps:= #[.pointer (some ⟨G,0,none⟩),.slice gN bN gO,.int .i64 (bH:Int),bk,jV,jF,.pointer (some ⟨bn,0,none⟩),.int .i64 (ji:Int),.int .i64 left,.int .i64 2000,gY,gJ,gu,.int .i64 next,gL,gW,u16,gv,gw,gx,gI,gy,gz,gA,gB,gC,gD,gE,gF,fS,fT,fU,u32,fV,fW,fZ,ga,gb,gd,gh,gi,gj,gl,gm,gG,gH,iz,iq,ir,bT,bU,bV,bW,bX,bY,bZ,b5,b6,b7,b8,b9,cc,cg,ck,u64,cm,cn,cp,cr,ct,cu,cv,cw,cz,cA,cB,cC,cD,cE,cF,cG,cH,cI,cK,cL,cM,di,dm,dn,dr,dw,dx,dy,dz,cN,cO,cQ,cR,cS,cT,cU,cV,cW,cZ,c4,c5,c6,c7,c8,c9,dc,dA,dB,dD,dF,dG,dH,dI,dJ,dK,dL,dM,dN,dO,dP,dQ,dR,dS,dU,dV,dW,dX,dY,dZ,ec,ee,ef,ei,ej,ek,en,fL,fM,fN,eo,ep,er,eu,ew,ey,ez,eA,eB,eC,eD,eE,fO,fP,fQ,eF,eG,eH,eL,eM,eN,eO,eP,eR,eS,eT,eU,eV,eW,eX,eY,eZ,e3,e4,e5,e6,e7,e8,e9,fc,fe,ff,fh,fk,fm,fo,fq,fu,fA,fB,fC,gn,gp,fD,fE,fF,fG,fH,fI,fJ,iJ,iK,iL,iM,iN,iO,iP,iQ,iR,iS,iT,iU,jq,jr,js,jt,jv,jw,jx,jy,jX,jY,jZ,j0,j3,j4],defers:=[]} W:=by
 have R:=U p;have T:=U r;have i:=U C;have l:=U S;clear p r C S
 conv=>arg 2;whnf
 dsimp only
 by_cases m:next=0
 ·subst m;have d:=U (l.o rfl);clear l;have V:W.cell? ⟨G,0,none⟩=some (.int .i64 (n:Int)):=by have:=d.o.1.gK.e.kP (k:=0) (v:=.int .i64 (s.c.n:Int)) rfl;rw[d.o.1.ko.rg.jH] at this;exact this
  have X:=d.o.1.j5.cell 0;have Z:=d.o.1.j5.cell 1;have aa:=d.o.1.j5.cell 2;have ab:=d.o.1.j5.cell 3;have az:=d.o.1.j5.free 0;have aA:=d.o.1.j5.free 1;have aC:=d.o.1.j5.free 2;have aD:=d.o.1.j5.free 3;simp only[nk,y_,u_] at X Z aa ab;obtain⟨i0,z,A,B,D⟩:=info_parts AF;have aE:=i.o.n10;have ad:∀W:World,(Instr.makeSlice 28 (.int .i64 ((n:Int)+1)) (.int .i64 ((n:Int)+1))).run w_ W=.ok (.slice (some ⟨W.heap.size,0,none⟩) (n+1) (n+1)) (W.alloc (.cells (madeCells (r_ false).cells (n+1)) 4)):=λ W=>by
   have:=run_make (P:=w_) W 28 4 i0 (.bool false) Tryz.underlying28 z A .i64 .i64 ((n:Int)+1) ((n:Int)+1) (by omega) (by omega) (by rw[D];omega) (by omega);rw[B,show((n:Int)+1).toNat=n+1 by omega,Nat.mul_one] at this;exact this
  have wn:IntKind.i64.wrap ((n:Int)+1)=(n:Int)+1:=by rw[IntKind.wrap_i64];omega
  have aF:=d.o.1.j5.lt;have aH:=d.o.1.gK.e.box.lt;have ae:G≠bn:=λ e=>d.o.1.gK.s.g (by rw[e];exact d.o.1.sF)
  have aJ:bn≠G:=λ e=>ae e.symm
  clear z A B D;generalize E:madeCells (r_ false).cells (n+1)=cs at ad;have af:=U E;clear E
  go_upto_region 42 with fail
  rename_i ai H;have aj:=U H;clear H
  go_region_held3 (λ w'=>w'.cell? ⟨G,0,none⟩=some (.int .i64 (n:Int))) (first|exact V|go_keep) (fail)
  all_goals
   show ai _ _;apply aj.o;rw[<-af.o];obtain⟨ak,I⟩:=Nq (gN:=gN) (bN:=bN) (gO:=gO) d.o.1 i.o.n10;refine Np ak (by simp) i.o.n10 (by rw[d.o.1.ko.gV.aN.rE,d.o.1.ko.rg.jH]) ?_;intro J bk jV jF gY gJ gu y gL gW u16 gv gw gx gI gy gz gA gB gC gD gE gF fS fT fU u32 fV fW fZ ga gb gd gh gi gj gl gm gG gH iz iq ir bT bU bV bW bX bY bZ b5 b6 b7 b8 b9 cc cg ck u64 cm cn cp cr ct cu cv cw cz cA cB cC cD cE cF cG cH cI cK cL cM di dm dn dr dw dx dy dz cN cO cQ cR cS cT cU cV cW cZ c4 c5 c6 c7 c8 c9 dc dA dB dD dF dG dH dI dJ dK dL dM dN dO dP dQ dR dS dU dV dW dX dY dZ ec ee ef ei ej ek en fL fM fN eo ep er eu ew ey ez eA eB eC eD eE fO fP fQ eF eG eH eL eM eN eO eP eR eS eT eU eV eW eX eY eZ e3 e4 e5 e6 e7 e8 e9 fc fe ff fh fk fm fo fq fu fA fB fC gn gp fD fE fF fG fH fI fJ iJ iK iL iM iN iO iP iQ iR iS iT iU jq jr js jt jv jw jx jy jX jY jZ j0 j3 j4 W' Y L al an;have M:=d.o.1.ko.rg.jH;have hm:J=wj s:=by
    refine List.ext_getElem (by rw[KI,L,M]) (λ j h1 ao=>?_);have N:=al j (by omega);rw[Bp h1] at N;rw[<-Bp ao,Dr s (by rw[M];omega),N]
   have O:aG (λ b=>K b/\b≠bn) W W':=I.trans (aG.grown an (λ b f=>v_ (d.o.1.gK.s.lt b f.1) I.size) (λ b e f=>by injection e with e;have:=d.o.1.gK.s.lt b f.1;omega));have f0:aG gZ W W':=O.mono λ b f=>⟨d.o.1.ru b f,λ e=>d.o.1.tU (e▸f)⟩
   obtain⟨hF,aq⟩:=d.o.1.ko.yes d.o.2.1 d.o.2.2.1 d.o.2.2.2.2 i.o.lit d.o.2.2.2.1;have ar:sg bg gZ base w0 G F ah n fR aI bn bH (qJ K W.heap.size) W' hs cb s aB s.c.ag 1 (some ⟨W.heap.size,0,none⟩) (n+1) (n+1) none 0 0:=by
    refine⟨λ b f=>.inl (d.o.1.ru b f),Y.gK,d.o.1.jB.trans f0,d.o.1.ko,.inl d.o.1.sF,d.o.1.tU,d.o.1.xy.kept (f0.mono λ b f=>f.1) rfl rfl,λ q av=>((d.o.1.xz q av).jB (O.mono λ b f=>f.1)).mono λ b f=>⟨⟨.inl f.1.1,f.1.2⟩,f.2⟩,d.o.1.xA,d.o.1.vc,d.o.1.mW,.inl ⟨rfl,rfl,J,kN.kZ Y.row (by have:=i.o.n10;omega),λ b e=>?_,L,by rw[hm];exact d.o.1.ko.KJ,by rw[hm];exact hF,by rw[hm];exact aq⟩⟩;injection e with e
    have e:W.heap.size=b:=e;subst e;exact⟨⟨.inr rfl,Y.ne⟩,i.o.DY (d.o.1.jB.size)⟩
   apply T.o
   ·exact((((ar.set 0 _).set 1 _).set 2 _).set 3 _)
   ·exact(((Y.j5.set 0 _).set 1 _).set 2 _).set 3 _
 ·have aK:decide (next=0)=false:=decide_eq_false m;have aw:=U m;clear l
  go_wp2_with fail
  apply R.o;exact aw.o
noncomputable def Ns:Code:=ng (ng (ng (ng (ng (ng Cf)))))
theorem Nt{k8:Nat}{oH:List Int}
  (C:se bg gZ w0 F ah n fR jI aI gN bN gO bH) (D:D6 bg gZ base w0 G F ah n fR jI aI bn bH K cb aB k8 oH hs s next W)
  (E:∀(hs':Nat->ay)(s':au)(bk jV jF gY gJ gu Z gL gW u16 gv gw gx gI gy gz gA gB gC gD gE gF fS fT fU u32 fV fW fZ ga gb gd gh gi gj gl gm gG gH iz iq ir bT bU bV bW bX bY bZ b5 b6 b7 b8 b9 cc cg ck u64 cm cn cp cr ct cu cv cw cz cA cB cC cD cE cF cG cH cI cK cL cM di dm dn dr dw dx dy dz cN cO cQ cR cS cT cU cV cW cZ c4 c5 c6 c7 c8 c9 dc dA dB dD dF dG dH dI dJ dK dL dM dN dO dP dQ dR dS dU dV dW dX dY dZ ec ee ef ei ej ek en fL fM fN eo ep er eu ew ey ez eA eB eC eD eE fO fP fQ eF eG eH eL eM eN eO eP eR eS eT eU eV eW eX eY eZ e3 e4 e5 e6 e7 e8 e9 fc fe ff fh fk fm fo fq fu fA fB fC gn gp fD fE fF fG fH fI fJ iJ iK iL iM iN iO iP iQ iR iS iT iU jq jr js jt jv jw jx jy jX jY jZ j0 j3 j4:Value)(W':World),mS bg gZ base w0 G F ah n fR jI aI bn bH K W' hs' cb s' aB s'.c.ag->s'.aO.length=k8->s'.c.ax.length=oH.length+1->Q .normal {tmps:= #[.pointer (some ⟨G,0,none⟩),.slice gN bN gO,.int .i64 (bH:Int),bk,jV,jF,.pointer (some ⟨bn,0,none⟩),.int .i64 (ji:Int),.int .i64 left,.int .i64 2000,gY,gJ,gu,Z,gL,gW,u16,gv,gw,gx,gI,gy,gz,gA,gB,gC,gD,gE,gF,fS,fT,fU,u32,fV,fW,fZ,ga,gb,gd,gh,gi,gj,gl,gm,gG,gH,iz,iq,ir,bT,bU,bV,bW,bX,bY,bZ,b5,b6,b7,b8,b9,cc,cg,ck,u64,cm,cn,cp,cr,ct,cu,cv,cw,cz,cA,cB,cC,cD,cE,cF,cG,cH,cI,cK,cL,cM,di,dm,dn,dr,dw,dx,dy,dz,cN,cO,cQ,cR,cS,cT,cU,cV,cW,cZ,c4,c5,c6,c7,c8,c9,dc,dA,dB,dD,dF,dG,dH,dI,dJ,dK,dL,dM,dN,dO,dP,dQ,dR,dS,dU,dV,dW,dX,dY,dZ,ec,ee,ef,ei,ej,ek,en,fL,fM,fN,eo,ep,er,eu,ew,ey,ez,eA,eB,eC,eD,eE,fO,fP,fQ,eF,eG,eH,eL,eM,eN,eO,eP,eR,eS,eT,eU,eV,eW,eX,eY,eZ,e3,e4,e5,e6,e7,e8,e9,fc,fe,ff,fh,fk,fm,fo,fq,fu,fA,fB,fC,gn,gp,fD,fE,fF,fG,fH,fI,fJ,iJ,iK,iL,iM,iN,iO,iP,iQ,iR,iS,iT,iU,jq,jr,js,jt,jv,jw,jx,jy,jX,jY,jZ,j0,j3,j4],defers:=[]} W'):
  Code.wp w_ Ns Q {tmps:= #[.pointer (some ⟨G,0,none⟩),.slice gN bN gO,.int .i64 (bH:Int),bk,jV,jF,.pointer (some ⟨bn,0,none⟩),.int .i64 (ji:Int),.int .i64 left,.int .i64 2000,gY,gJ,gu,.int .i64 next,gL,gW,u16,gv,gw,gx,gI,gy,gz,gA,gB,gC,gD,gE,gF,fS,fT,fU,u32,fV,fW,fZ,ga,gb,gd,gh,gi,gj,gl,gm,gG,gH,iz,iq,ir,bT,bU,bV,bW,bX,bY,bZ,b5,b6,b7,b8,b9,cc,cg,ck,u64,cm,cn,cp,cr,ct,cu,cv,cw,cz,cA,cB,cC,cD,cE,cF,cG,cH,cI,cK,cL,cM,di,dm,dn,dr,dw,dx,dy,dz,cN,cO,cQ,cR,cS,cT,cU,cV,cW,cZ,c4,c5,c6,c7,c8,c9,dc,dA,dB,dD,dF,dG,dH,dI,dJ,dK,dL,dM,dN,dO,dP,dQ,dR,dS,dU,dV,dW,dX,dY,dZ,ec,ee,ef,ei,ej,ek,en,fL,fM,fN,eo,ep,er,eu,ew,ey,ez,eA,eB,eC,eD,eE,fO,fP,fQ,eF,eG,eH,eL,eM,eN,eO,eP,eR,eS,eT,eU,eV,eW,eX,eY,eZ,e3,e4,e5,e6,e7,e8,e9,fc,fe,ff,fh,fk,fm,fo,fq,fu,fA,fB,fC,gn,gp,fD,fE,fF,fG,fH,fI,fJ,iJ,iK,iL,iM,iN,iO,iP,iQ,iR,iS,iT,iU,jq,jr,js,jt,jv,jw,jx,jy,jX,jY,jZ,j0,j3,j4],defers:=[]} W:=by
 have aa:=U E;have ab:=U C;have d:=U D;obtain⟨aC,aD,s',w,H,he⟩:=D.old;have f:=U (z_ w (z_ H he));have I:=U (w.nA C);clear E C D w H he
 conv=>arg 2;whnf
 dsimp only;have J:s.c=s'.c:=by rw[f.o.2.2]
 obtain⟨j,kj,l,p⟩:∃A n c,hs 5=⟨A,n,c⟩:=⟨_,_,_,rfl⟩
 have ad:W.cell? ⟨G,6,none⟩=some (.slice j kj l):=by have:=d.o.gK.e.kP (k:=6) (v:=(hs 5).v) rfl;rw[p] at this;exact this
 have L:kj=s.c.st.length:=by have:=d.o.gK.e.kj;rw[p] at this;exact this
 obtain⟨M,kD,N,q⟩:∃A n c,hs 4=⟨A,n,c⟩:=⟨_,_,_,rfl⟩
 have ae:W.cell? ⟨G,5,none⟩=some (.slice M kD N):=by have:=d.o.gK.e.kP (k:=5) (v:=(hs 4).v) rfl;rw[q] at this;exact this
 have O:kD=s.c.ax.length:=by have:=d.o.gK.e.kD;rw[q] at this;exact this
 have b:=U (z_ J (z_ p (z_ L (z_ q O))));clear J p L q O
 go_upto_region 49 with fail
 have g:=U (d.o.gK.below ((bC W (.cells #[.int .i64 (kD:Int)] 3)).drew));have af:bF (((W.alloc (.cells #[.int .i64 (kD:Int)] 3)).drew).ownsRow base 3 1 (.slice j kj l) kj ((s.c.st.map λ k:Nat=>(k:Int)).map (Value.int .i64))):=U (by
  have h1:=g.o.1.e.rows.row 5;rw[b.o.2.1] at h1;rw[Ch];exact h1)
 have ai:=U (Nat.le_of_lt g.o.1.e.lt);have aj:bF (kj<=1100):=U (by have h1:=I.o;have ak:=b.o.2.2.1;rw[b.o.1] at ak;omega);have al:bF (∀v9 bE,mY ((W.alloc (.cells #[.int .i64 (kD:Int)] 3)).drew) base 3 (.slice j kj l) (kj+1) (((s.c.st.map λ k:Nat=>(k:Int))++[(kD:Int)]).map (Value.int .i64)) v9 bE->mY ((W.alloc (.cells #[.int .i64 (kD:Int)] 3)).drew) base 3 (hs 5).v (s.c.st.length+1) (qo (s.c.st++[kD])) v9 bE):=U (λ v9 bE r=>by
  rw[b.o.2.1,<-b.o.2.2.1,<-Ch,List.map_append];exact r)
 have t:=g.o.1.e.kP (k:=6) (v:=(hs 5).v) rfl;have u:=g.o.1.e.kP (k:=5) (v:=(hs 4).v) rfl;rw[b.o.2.1] at t;rw[b.o.2.2.2.1] at u;replace t:((W.alloc (.cells #[.int .i64 (kD:Int)] 3)).drew).cell? ⟨G,6,none⟩=some (.slice j kj l):=t;replace u:((W.alloc (.cells #[.int .i64 (kD:Int)] 3)).drew).cell? ⟨G,5,none⟩=some (.slice M kD N):=u;rename_i an P;have ao:=U P;clear P;refine wp_region_noPanic ?_
 go_region_law (refine Fk rfl (.tmp 217) (.tmp 223) rfl base (.slice j kj l) kj (s.c.st.map λ k:Nat=>(k:Int)) rfl af.o (some ⟨W.heap.size,0,none⟩) 1 1 [(kD:Int)] rfl ((aP.lit W [(kD:Int)] 1 _ rfl rfl (by omega)).drew) (by have:=aj.o;omega) ai.o ?_;intro v9 bE r;obtain⟨⟨A',m,c'⟩,aq,aE,ar,f9,i,R⟩:=bf.Gi (x:=kD) g.o.1 (al.o v9 bE r);obtain rfl:v9=.slice A' m c':=aq;clear r)
 all_goals
  show an _ _;apply ao.o;rw[b.o.2.2.2.2] at i;have i:bf K base (bE.setCell ⟨G,6,none⟩ (.slice A' m c')) G (iV hs 5 ⟨A',m,c'⟩) cb {s with c:=nx s.c}:=i;have i:=U i;have av:=U (f.o.2.1.trans (g.o.2.trans R));clear R ar f9 t u ad ae;generalize bE.setCell ⟨G,6,none⟩ (.slice A' m c')=V at*;have y:s'.c.ag=s'.c.ax.length:=by rw[<-b.o.1];exact d.o.fix
  have z:s'.c.mm=false:=by rw[<-b.o.1];exact d.o.mm
  have S:kG F F s'.c s'.c.ax.length []:=by rw[<-y];exact f.o.1.ko.gV
  have T:j9 (nx s.c):=by rw[b.o.1];exact(S.level z).aN
  have B:s.c.n=n:=by rw[b.o.1];exact f.o.1.ko.rg.jH
  have aw:=U (BR i.o next none T (by show gP s.c.n next;rw[B];exact d.o.nl) (by show s.c.n<=60000;have:=ab.o.n10;omega) (by show(s.c.st++[s.c.ax.length]).length<=1000000;rw[m_,b.o.1];have:=I.o;simp;omega));have X:=U (z_ y (z_ z B));clear y z S T B
  go_wp2_with (go_at_call 156;refine aw.o.mono ?_;rintro e aF ⟨rfl,h',az,aA⟩;dsimp only)
  have k5:=d.o.k5;rw[b.o.1] at k5;have Y:=f.o.1.ko.decide (aI:=s) X.o.1 X.o.2.1 d.o.nl (by rw[<-b.o.1];exact d.o.qw) (by rw[<-b.o.1];exact d.o.AD) f.o.2.2 d.o.lW k5;rw[<-b.o.1] at Y;apply aa.o (iV (iV hs 5 ⟨A',m,c'⟩) 4 h') {s with c:=lC (nx s.c) next none}
  ·refine f.o.1.move az (av.o.trans aA) ?_ (by rw[f.o.2.2]) (by rw[f.o.2.2]) (by show s.c.cl.length=_;rw[b.o.1]);exact Y
  ·exact d.o.aO
  ·show(s.c.ax++[next]).length=_;rw[m_,d.o.ax];rfl
theorem Nu{aL:Ending->World->Prop}{v0 v1 v2 v3:Value}(b:a.defers=[])(c:a.tmps.getD 6 undef=.pointer (some ⟨bn,0,none⟩))(d:aR W bn 30 [v0,v1,v2,v3])(h:aL (.returned (.agg #[v0,v1,v2,v3])) W):bodyPost w_ Tryz.f99 aL .ret a W:=
 bodyPost_ret (results_cell_row (p:=6) (ty:=30) rfl a.tmps W bn 30 #[v0,v1,v2,v3] (0,0) _ c d Tryz.underlying30 rfl (by kernel_rfl)) b h
structure Cj(bg gZ:Nat->Prop)(base:Nat)(w0:World)(G:Nat)(F:List (List Int))(ah:List Int)(n fR jI:Nat)(aI:au)(bn bH:Nat)(K:Nat->Prop)(hs:Nat->ay)(cb:Nat->Nat)(s:au)(aB ji:Nat)(left:Int)(W:World)(g:Nat):Prop where
 S:mS bg gZ base w0 G F ah n fR jI aI bn bH K W hs cb s aB s.c.ag
 t1:1<=ji
 t2:ji<=aB+1
 t3:left<=0->ji<=aB
 ja: -(aB:Int)<=left
 kB:left<=3000000
 g:g=(59050-aB)*1000+(if left<=0 then 100 else 0)+(20-s.c.ax.length)
inductive xH(bg gZ:Nat->Prop)(base:Nat)(w0:World)(G:Nat)(F:List (List Int))(ah:List Int)(n fR jI:Nat)(aI:au)(gN:Option Addr)(bN gO bn bH:Nat):Nat->Act->World->Prop
 |mk {K:Nat->Prop} {hs:Nat->ay} {cb:Nat->Nat} {s:au} {aB ji:Nat} {left:Int} {g:Nat} {bk jV jF gY gJ gu iF gL gW u16 gv gw gx gI gy gz gA gB gC gD gE gF fS fT fU u32 fV fW fZ ga gb gd gh gi gj gl gm gG gH iz iq ir bT bU bV bW bX bY bZ b5 b6 b7 b8 b9 cc cg ck u64 cm cn cp cr ct cu cv cw cz cA cB cC cD cE cF cG cH cI cK cL cM di dm dn dr dw dx dy dz cN cO cQ cR cS cT cU cV cW cZ c4 c5 c6 c7 c8 c9 dc dA dB dD dF dG dH dI dJ dK dL dM dN dO dP dQ dR dS dU dV dW dX dY dZ ec ee ef ei ej ek en fL fM fN eo ep er eu ew ey ez eA eB eC eD eE fO fP fQ eF eG eH eL eM eN eO eP eR eS eT eU eV eW eX eY eZ e3 e4 e5 e6 e7 e8 e9 fc fe ff fh fk fm fo fq fu fA fB fC gn gp fD fE fF fG fH fI fJ iJ iK iL iM iN iO iP iQ iR iS iT iU jq jr js jt jv jw jx jy jX jY jZ j0 j3 j4:Value} {W:World} (h:Cj bg gZ base w0 G F ah n fR jI aI bn bH K hs cb s aB ji left W g):xH bg gZ base w0 G F ah n fR jI aI gN bN gO bn bH g {tmps:= #[.pointer (some ⟨G,0,none⟩),.slice gN bN gO,.int .i64 (bH:Int),bk,jV,jF,.pointer (some ⟨bn,0,none⟩),.int .i64 (ji:Int),.int .i64 left,.int .i64 2000,gY,gJ,gu,iF,gL,gW,u16,gv,gw,gx,gI,gy,gz,gA,gB,gC,gD,gE,gF,fS,fT,fU,u32,fV,fW,fZ,ga,gb,gd,gh,gi,gj,gl,gm,gG,gH,iz,iq,ir,bT,bU,bV,bW,bX,bY,bZ,b5,b6,b7,b8,b9,cc,cg,ck,u64,cm,cn,cp,cr,ct,cu,cv,cw,cz,cA,cB,cC,cD,cE,cF,cG,cH,cI,cK,cL,cM,di,dm,dn,dr,dw,dx,dy,dz,cN,cO,cQ,cR,cS,cT,cU,cV,cW,cZ,c4,c5,c6,c7,c8,c9,dc,dA,dB,dD,dF,dG,dH,dI,dJ,dK,dL,dM,dN,dO,dP,dQ,dR,dS,dU,dV,dW,dX,dY,dZ,ec,ee,ef,ei,ej,ek,en,fL,fM,fN,eo,ep,er,eu,ew,ey,ez,eA,eB,eC,eD,eE,fO,fP,fQ,eF,eG,eH,eL,eM,eN,eO,eP,eR,eS,eT,eU,eV,eW,eX,eY,eZ,e3,e4,e5,e6,e7,e8,e9,fc,fe,ff,fh,fk,fm,fo,fq,fu,fA,fB,fC,gn,gp,fD,fE,fF,fG,fH,fI,fJ,iJ,iK,iL,iM,iN,iO,iP,iQ,iR,iS,iT,iU,jq,jr,js,jt,jv,jw,jx,jy,jX,jY,jZ,j0,j3,j4],defers:=[]} W
theorem xH.elim(b:xH bg gZ base w0 G F ah n fR jI aI gN bN gO bn bH g a W){P:Prop}
  (k:∀{K:Nat->Prop}{hs:Nat->ay}{cb:Nat->Nat}{s:au}{c ji:Nat}{left:Int}{d e f i j l m o p u16 q r t u v w y z A B C D E H I u32 J L M N O Q R S T U V X Y Z aa ab ad ae af ag ai aj ak al an ao aq ar av aw ax u64 az aA aB aC aD aE aF aG aH aJ aK aL aM aN aO aP aQ aR aS aT aU aV aW aX aY aZ a6 a7 a8 a' ba bb bc bd bf bh bj bk bl bo bp bq br bs bt bu bw bx bz bA bB bC bD bE bF bG bI bJ bK bL bM bO bP bQ bR bS bT bU bV bW bX bY bZ b0 b1 b2 b3 b4 b5 b6 b7 b8 b9 b' ca cc cd cf cg ch cj ck cm cn cp cq cr ct cu cv cw cx cy cz cA cB cC cD cE cF cG cH cI cJ cK cL cM cN cO cP cQ cR cS cT cU cV cW cX cY cZ c0 c4 c5 c6 c7 c8 c9 da db dc dd de df dh di dj dk dm dn dp dq dr dt du dv dw dx dy dz dA dB dC dD dE dF:Value},a={tmps:= #[.pointer (some ⟨G,0,none⟩),.slice gN bN gO,.int .i64 (bH:Int),d,e,f,.pointer (some ⟨bn,0,none⟩),.int .i64 (ji:Int),.int .i64 left,.int .i64 2000,i,j,l,m,o,p,u16,q,r,t,u,v,w,y,z,A,B,C,D,E,H,I,u32,J,L,M,N,O,Q,R,S,T,U,V,X,Y,Z,aa,ab,ad,ae,af,ag,ai,aj,ak,al,an,ao,aq,ar,av,aw,ax,u64,az,aA,aB,aC,aD,aE,aF,aG,aH,aJ,aK,aL,aM,aN,aO,aP,aQ,aR,aS,aT,aU,aV,aW,aX,aY,aZ,a6,a7,a8,a',ba,bb,bc,bd,bf,bh,bj,bk,bl,bo,bp,bq,br,bs,bt,bu,bw,bx,bz,bA,bB,bC,bD,bE,bF,bG,bI,bJ,bK,bL,bM,bO,bP,bQ,bR,bS,bT,bU,bV,bW,bX,bY,bZ,b0,b1,b2,b3,b4,b5,b6,b7,b8,b9,b',ca,cc,cd,cf,cg,ch,cj,ck,cm,cn,cp,cq,cr,ct,cu,cv,cw,cx,cy,cz,cA,cB,cC,cD,cE,cF,cG,cH,cI,cJ,cK,cL,cM,cN,cO,cP,cQ,cR,cS,cT,cU,cV,cW,cX,cY,cZ,c0,c4,c5,c6,c7,c8,c9,da,db,dc,dd,de,df,dh,di,dj,dk,dm,dn,dp,dq,dr,dt,du,dv,dw,dx,dy,dz,dA,dB,dC,dD,dE,dF],defers:=[]}->Cj bg gZ base w0 G F ah n fR jI aI bn bH K hs cb s c ji left W g->P):P:=by
 cases b with
 |mk h=>exact k rfl h
noncomputable def Nv:Code:=(Tryz.f99.body.bind λ c=>qv c 0).getD .skip
theorem Nw{bg gZ:Nat->Prop}{base:Nat}{w0:World}{G:Nat}{F:List (List Int)}{ah:List Int}{n fR jI:Nat}{aI:au}{gN:Option Addr}{bN gO bn bH:Nat}{K:Nat->Prop}{W:World}{hs:Nat->ay}{cb:Nat->Nat}{s:au}{aB ji g:Nat}{left:Int}{bk jV jF gY gJ gu iF gL gW u16 gv gw gx gI gy gz gA gB gC gD gE gF fS fT fU u32 fV fW fZ ga gb gd gh gi gj gl gm gG gH iz iq ir bT bU bV bW bX bY bZ b5 b6 b7 b8 b9 cc cg ck u64 cm cn cp cr ct cu cv cw cz cA cB cC cD cE cF cG cH cI cK cL cM di dm dn dr dw dx dy dz cN cO cQ cR cS cT cU cV cW cZ c4 c5 c6 c7 c8 c9 dc dA dB dD dF dG dH dI dJ dK dL dM dN dO dP dQ dR dS dU dV dW dX dY dZ ec ee ef ei ej ek en fL fM fN eo ep er eu ew ey ez eA eB eC eD eE fO fP fQ eF eG eH eL eM eN eO eP eR eS eT eU eV eW eX eY eZ e3 e4 e5 e6 e7 e8 e9 fc fe ff fh fk fm fo fq fu fA fB fC gn gp fD fE fF fG fH fI fJ iJ iK iL iM iN iO iP iQ iR iS iT iU jq jr js jt jv jw jx jy jX jY jZ j0 j3 j4:Value}{Q:Exit->Act->World->Prop}
  (C:se bg gZ w0 F ah n fR jI aI gN bN gO bH) (D:Cj bg gZ base w0 G F ah n fR jI aI bn bH K hs cb s aB ji left W g)
  (E:∀(ji:Nat)(left:Int)(v0 v1 v2 v3:Value)(bk jV jF gY gJ gu iF gL gW u16 gv gw gx gI gy gz gA gB gC gD gE gF fS fT fU u32 fV fW fZ ga gb gd gh gi gj gl gm gG gH iz iq ir bT bU bV bW bX bY bZ b5 b6 b7 b8 b9 cc cg ck u64 cm cn cp cr ct cu cv cw cz cA cB cC cD cE cF cG cH cI cK cL cM di dm dn dr dw dx dy dz cN cO cQ cR cS cT cU cV cW cZ c4 c5 c6 c7 c8 c9 dc dA dB dD dF dG dH dI dJ dK dL dM dN dO dP dQ dR dS dU dV dW dX dY dZ ec ee ef ei ej ek en fL fM fN eo ep er eu ew ey ez eA eB eC eD eE fO fP fQ eF eG eH eL eM eN eO eP eR eS eT eU eV eW eX eY eZ e3 e4 e5 e6 e7 e8 e9 fc fe ff fh fk fm fo fq fu fA fB fC gn gp fD fE fF fG fH fI fJ iJ iK iL iM iN iO iP iQ iR iS iT iU jq jr js jt jv jw jx jy jX jY jZ j0 j3 j4:Value)(W':World),aR W' bn 30 [v0,v1,v2,v3]->DZ bg gZ base w0 G F ah n fR aI bH (.returned (.agg #[v0,v1,v2,v3])) W'->Q .ret {tmps:= #[.pointer (some ⟨G,0,none⟩),.slice gN bN gO,.int .i64 (bH:Int),bk,jV,jF,.pointer (some ⟨bn,0,none⟩),.int .i64 (ji:Int),.int .i64 left,.int .i64 2000,gY,gJ,gu,iF,gL,gW,u16,gv,gw,gx,gI,gy,gz,gA,gB,gC,gD,gE,gF,fS,fT,fU,u32,fV,fW,fZ,ga,gb,gd,gh,gi,gj,gl,gm,gG,gH,iz,iq,ir,bT,bU,bV,bW,bX,bY,bZ,b5,b6,b7,b8,b9,cc,cg,ck,u64,cm,cn,cp,cr,ct,cu,cv,cw,cz,cA,cB,cC,cD,cE,cF,cG,cH,cI,cK,cL,cM,di,dm,dn,dr,dw,dx,dy,dz,cN,cO,cQ,cR,cS,cT,cU,cV,cW,cZ,c4,c5,c6,c7,c8,c9,dc,dA,dB,dD,dF,dG,dH,dI,dJ,dK,dL,dM,dN,dO,dP,dQ,dR,dS,dU,dV,dW,dX,dY,dZ,ec,ee,ef,ei,ej,ek,en,fL,fM,fN,eo,ep,er,eu,ew,ey,ez,eA,eB,eC,eD,eE,fO,fP,fQ,eF,eG,eH,eL,eM,eN,eO,eP,eR,eS,eT,eU,eV,eW,eX,eY,eZ,e3,e4,e5,e6,e7,e8,e9,fc,fe,ff,fh,fk,fm,fo,fq,fu,fA,fB,fC,gn,gp,fD,fE,fF,fG,fH,fI,fJ,iJ,iK,iL,iM,iN,iO,iP,iQ,iR,iS,iT,iU,jq,jr,js,jt,jv,jw,jx,jy,jX,jY,jZ,j0,j3,j4],defers:=[]} W'):
  Code.wp w_ Nv Q {tmps:= #[.pointer (some ⟨G,0,none⟩),.slice gN bN gO,.int .i64 (bH:Int),bk,jV,jF,.pointer (some ⟨bn,0,none⟩),.int .i64 (ji:Int),.int .i64 left,.int .i64 2000,gY,gJ,gu,iF,gL,gW,u16,gv,gw,gx,gI,gy,gz,gA,gB,gC,gD,gE,gF,fS,fT,fU,u32,fV,fW,fZ,ga,gb,gd,gh,gi,gj,gl,gm,gG,gH,iz,iq,ir,bT,bU,bV,bW,bX,bY,bZ,b5,b6,b7,b8,b9,cc,cg,ck,u64,cm,cn,cp,cr,ct,cu,cv,cw,cz,cA,cB,cC,cD,cE,cF,cG,cH,cI,cK,cL,cM,di,dm,dn,dr,dw,dx,dy,dz,cN,cO,cQ,cR,cS,cT,cU,cV,cW,cZ,c4,c5,c6,c7,c8,c9,dc,dA,dB,dD,dF,dG,dH,dI,dJ,dK,dL,dM,dN,dO,dP,dQ,dR,dS,dU,dV,dW,dX,dY,dZ,ec,ee,ef,ei,ej,ek,en,fL,fM,fN,eo,ep,er,eu,ew,ey,ez,eA,eB,eC,eD,eE,fO,fP,fQ,eF,eG,eH,eL,eM,eN,eO,eP,eR,eS,eT,eU,eV,eW,eX,eY,eZ,e3,e4,e5,e6,e7,e8,e9,fc,fe,ff,fh,fk,fm,fo,fq,fu,fA,fB,fC,gn,gp,fD,fE,fF,fG,fH,fI,fJ,iJ,iK,iL,iM,iN,iO,iP,iQ,iR,iS,iT,iU,jq,jr,js,jt,jv,jw,jx,jy,jX,jY,jZ,j0,j3,j4],defers:=[]} W:=by
 have r:=U E;have d:=U C;clear E C
 conv=>arg 2;whnf
 dsimp only;refine wp_loop_ghost_k (xH bg gZ base w0 G F ah n fR jI aI gN bN gO bn bH) g ?start ?round
 case start=>exact xH.mk D
 case round=>
  clear D K W hs cb s aB ji g left;intro g a W I a6 t J L;refine I.elim ?_;intro K hs cb s aB ji left bk jV jF gY gJ gu iF gL gW u16 gv gw gx gI gy gz gA gB gC gD gE gF fS fT fU u32 fV fW fZ ga gb gd gh gi gj gl gm gG gH iz iq ir bT bU bV bW bX bY bZ b5 b6 b7 b8 b9 cc cg ck u64 cm cn cp cr ct cu cv cw cz cA cB cC cD cE cF cG cH cI cK cL cM di dm dn dr dw dx dy dz cN cO cQ cR cS cT cU cV cW cZ c4 c5 c6 c7 c8 c9 dc dA dB dD dF dG dH dI dJ dK dL dM dN dO dP dQ dR dS dU dV dW dX dY dZ ec ee ef ei ej ek en fL fM fN eo ep er eu ew ey ez eA eB eC eD eE fO fP fQ eF eG eH eL eM eN eO eP eR eS eT eU eV eW eX eY eZ e3 e4 e5 e6 e7 e8 e9 fc fe ff fh fk fm fo fq fu fA fB fC gn gp fD fE fF fG fH fI fJ iJ iK iL iM iN iO iP iQ iR iS iT iU jq jr js jt jv jw jx jy jX jY jZ j0 j3 j4 aA H;clear I;subst aA;have b:=U H;have u:=U J;have w:=U L;have i:=U (H.S.nA d.o);clear H J L;refine wp_block ?_;refine wp_seq_k ?_;intro aC M;have aD:=U M;clear M;refine MU d.o b.o.S (by have:=b.o.ja;have:=b.o.kB;have:=i.o;omega) ?_ ?_ ?_
  ·intro a7 s1 bk jV jF gY gJ gu iF gL gW u16 gv gw gx gI gy gz gA gB gC gD gE gF fS fT fU u32 fV fW fZ ga gb gd gh gi gj gl gm gG gH iz iq ir bT bU bV bW bX bY bZ b5 b6 b7 b8 b9 cc cg ck u64 cm cn cp cr ct cu cv cw cz cA cB cC cD cE cF cG cH cI cK cL cM di dm dn dr dw dx dy dz cN cO cQ cR cS cT cU cV cW cZ c4 c5 c6 c7 c8 c9 dc dA dB dD dF dG dH dI dJ dK dL dM dN dO dP dQ dR dS dU dV dW dX dY dZ ec ee ef ei ej ek en fL fM fN eo ep er eu ew ey ez eA eB eC eD eE fO fP fQ eF eG eH eL eM eN eO eP eR eS eT eU eV eW eX eY eZ e3 e4 e5 e6 e7 e8 e9 fc fe ff fh fk fm fo fq fu fA fB fC gn gp fD fE fF fG fH fI fJ iJ iK iL iM iN iO iP iQ iR iS iT iU jq jr js jt jv jw jx jy jX jY jZ j0 j3 j4 a8 N O P R T;have j:=U (z_ N (z_ O (z_ P (z_ R T))));clear N O P R T;show aC _ _;apply aD.o;refine wp_seq_k ?_;intro tf V;have aE:=U V;clear V;refine M7 d.o j.o.1 ⟨b.o.t1,by have:=b.o.t2;have:=i.o;omega⟩ ?_ ?_
   ·intro bk jV jF gY gJ gu iF gL gW u16 gv gw gx gI gy gz gA gB gC gD gE gF fS fT fU u32 fV fW fZ ga gb gd gh gi gj gl gm gG gH iz iq ir bT bU bV bW bX bY bZ b5 b6 b7 b8 b9 cc cg ck u64 cm cn cp cr ct cu cv cw cz cA cB cC cD cE cF cG cH cI cK cL cM di dm dn dr dw dx dy dz cN cO cQ cR cS cT cU cV cW cZ c4 c5 c6 c7 c8 c9 dc dA dB dD dF dG dH dI dJ dK dL dM dN dO dP dQ dR dS dU dV dW dX dY dZ ec ee ef ei ej ek en fL fM fN eo ep er eu ew ey ez eA eB eC eD eE fO fP fQ eF eG eH eL eM eN eO eP eR eS eT eU eV eW eX eY eZ e3 e4 e5 e6 e7 e8 e9 fc fe ff fh fk fm fo fq fu fA fB fC gn gp fD fE fF fG fH fI fJ iJ iK iL iM iN iO iP iQ iR iS iT iU jq jr js jt jv jw jx jy jX jY jZ j0 j3 j4 hl;show tf _ _;apply aE.o;refine wp_seq_k ?_;intro a' X;have aF:=U X;clear X
    go_wp2_with fail
    apply aF.o;refine wp_seq_k ?_;intro aH aa;have aJ:=U aa;clear aa;refine wp_block ?_;refine Nk d.o j.o.1 j.o.2.1 j.o.2.2.1 ?_ ?_
    ·intro m s2 next bk jV jF gY gJ gu gL gW u16 gv gw gx gI gy gz gA gB gC gD gE gF fS fT fU u32 fV fW fZ ga gb gd gh gi gj gl gm gG gH iz iq ir bT bU bV bW bX bY bZ b5 b6 b7 b8 b9 cc cg ck u64 cm cn cp cr ct cu cv cw cz cA cB cC cD cE cF cG cH cI cK cL cM di dm dn dr dw dx dy dz cN cO cQ cR cS cT cU cV cW cZ c4 c5 c6 c7 c8 c9 dc dA dB dD dF dG dH dI dJ dK dL dM dN dO dP dQ dR dS dU dV dW dX dY dZ ec ee ef ei ej ek en fL fM fN eo ep er eu ew ey ez eA eB eC eD eE fO fP fQ eF eG eH eL eM eN eO eP eR eS eT eU eV eW eX eY eZ e3 e4 e5 e6 e7 e8 e9 fc fe ff fh fk fm fo fq fu fA fB fC gn gp fD fE fF fG fH fI fJ iJ iK iL iM iN iO iP iQ iR iS iT iU jq jr js jt jv jw jx jy jX jY jZ j0 j3 j4 p f y z A ab B
     show aH _ _;apply aJ.o;refine wp_seq_k ?_;intro aK ad;have aL:=U ad;clear ad;refine wp_block ?_;have ae:AE bg gZ base w0 G F ah n fR jI aI bn bH K cb aB s2.aO.length s2.c.ax m s2 next p (s2.ord.length+(if next=0 then 1 else 0)):=by
      refine⟨λ e=>⟨f,y,z,rfl,rfl,?_⟩,λ e=>?_,f.gK,rfl⟩
      ·rcases B with h|h
       ·rw[d.o.yq];exact h.2
       ·exact absurd e h.1
      ·rcases B with h|h
       ·exact absurd h.1 e
       ·exact⟨⟨p,m,s2,f,aG.refl,rfl⟩,f.gK,y,z,rfl,rfl,f.ko.rg.lW,λ v h1 q af _=>f.ko.un v h1 q af,h.1,h.2.1,h.2.2.1,λ _=>h.2.2.2.2.symm⟩
     refine Nn (g0:=0) d.o ae ?_;intro ba s3 bb g3 bk jV jF gY gJ gu gL gW u16 gv gw gx gI gy gz gA gB gC gD gE gF fS fT fU u32 fV fW fZ ga gb gd gh gi gj gl gm gG gH iz iq ir bT bU bV bW bX bY bZ b5 b6 b7 b8 b9 cc cg ck u64 cm cn cp cr ct cu cv cw cz cA cB cC cD cE cF cG cH cI cK cL cM di dm dn dr dw dx dy dz cN cO cQ cR cS cT cU cV cW cZ c4 c5 c6 c7 c8 c9 dc dA dB dD dF dG dH dI dJ dK dL dM dN dO dP dQ dR dS dU dV dW dX dY dZ ec ee ef ei ej ek en fL fM fN eo ep er eu ew ey ez eA eB eC eD eE fO fP fQ eF eG eH eL eM eN eO eP eR eS eT eU eV eW eX eY eZ e3 e4 e5 e6 e7 e8 e9 fc fe ff fh fk fm fo fq fu fA fB fC gn gp fD fE fF fG fH fI fJ iJ iK iL iM iN iO iP iQ iR iS iT iU jq jr js jt jv jw jx jy jX jY jZ j0 j3 j4 bc ag ai;have Y:=U (z_ ag ai);have Z:=U (z_ A ab);clear ag ai ae B f y z A ab;show aK _ _;apply aL.o;refine wp_seq_k ?_;intro aM aj;have aN:=U aj;clear aj;refine Nr d.o (λ e=>⟨(Y.o.1.no e).1,(Y.o.1.no e).2.1,(Y.o.1.no e).2.2.1,(Y.o.1.no e).2.2.2.2.2,Y.o.2 e⟩) ?_ ?_
     ·intro bk jV jF gY gJ gu gL gW u16 gv gw gx gI gy gz gA gB gC gD gE gF fS fT fU u32 fV fW fZ ga gb gd gh gi gj gl gm gG gH iz iq ir bT bU bV bW bX bY bZ b5 b6 b7 b8 b9 cc cg ck u64 cm cn cp cr ct cu cv cw cz cA cB cC cD cE cF cG cH cI cK cL cM di dm dn dr dw dx dy dz cN cO cQ cR cS cT cU cV cW cZ c4 c5 c6 c7 c8 c9 dc dA dB dD dF dG dH dI dJ dK dL dM dN dO dP dQ dR dS dU dV dW dX dY dZ ec ee ef ei ej ek en fL fM fN eo ep er eu ew ey ez eA eB eC eD eE fO fP fQ eF eG eH eL eM eN eO eP eR eS eT eU eV eW eX eY eZ e3 e4 e5 e6 e7 e8 e9 fc fe ff fh fk fm fo fq fu fA fB fC gn gp fD fE fF fG fH fI fJ iJ iK iL iM iN iO iP iQ iR iS iT iU jq jr js jt jv jw jx jy jX jY jZ j0 j3 j4 aP;show aM _ _;apply aN.o;refine Nt d.o (Y.o.1.yes aP) ?_;intro bd jf bk jV jF gY gJ gu iF gL gW u16 gv gw gx gI gy gz gA gB gC gD gE gF fS fT fU u32 fV fW fZ ga gb gd gh gi gj gl gm gG gH iz iq ir bT bU bV bW bX bY bZ b5 b6 b7 b8 b9 cc cg ck u64 cm cn cp cr ct cu cv cw cz cA cB cC cD cE cF cG cH cI cK cL cM di dm dn dr dw dx dy dz cN cO cQ cR cS cT cU cV cW cZ c4 c5 c6 c7 c8 c9 dc dA dB dD dF dG dH dI dJ dK dL dM dN dO dP dQ dR dS dU dV dW dX dY dZ ec ee ef ei ej ek en fL fM fN eo ep er eu ew ey ez eA eB eC eD eE fO fP fQ eF eG eH eL eM eN eO eP eR eS eT eU eV eW eX eY eZ e3 e4 e5 e6 e7 e8 e9 fc fe ff fh fk fm fo fq fu fA fB fC gn gp fD fE fF fG fH fI fJ iJ iK iL iM iN iO iP iQ iR iS iT iU jq jr js jt jv jw jx jy jX jY jZ j0 j3 j4 bf ak bh aQ;show t _ _;refine w.o _ _ (k_ ((59050-aB)*1000+(if left<=0 then 100 else 0)+(20-jf.c.ax.length)) ?_ (u.o _ _ _ (xH.mk ⟨ak,b.o.t1,b.o.t2,b.o.t3,b.o.ja,b.o.kB,rfl⟩)));have h1:=b.o.g;have q:=Z.o.2;have af:=j.o.2.2.2.2;have aS:=(ak.nA d.o).2.2.2.2.2.2;have al:=d.o.n10;rw[q] at aQ;omega
     ·intro an ao aq ar av aT aU aV bk jV jF gY gJ gu iF gL gW u16 gv gw gx gI gy gz gA gB gC gD gE gF fS fT fU u32 fV fW fZ ga gb gd gh gi gj gl gm gG gH iz iq ir bT bU bV bW bX bY bZ b5 b6 b7 b8 b9 cc cg ck u64 cm cn cp cr ct cu cv cw cz cA cB cC cD cE cF cG cH cI cK cL cM di dm dn dr dw dx dy dz cN cO cQ cR cS cT cU cV cW cZ c4 c5 c6 c7 c8 c9 dc dA dB dD dF dG dH dI dJ dK dL dM dN dO dP dQ dR dS dU dV dW dX dY dZ ec ee ef ei ej ek en fL fM fN eo ep er eu ew ey ez eA eB eC eD eE fO fP fQ eF eG eH eL eM eN eO eP eR eS eT eU eV eW eX eY eZ e3 e4 e5 e6 e7 e8 e9 fc fe ff fh fk fm fo fq fu fA fB fC gn gp fD fE fF fG fH fI fJ iJ iK iL iM iN iO iP iQ iR iS iT iU jq jr js jt jv jw jx jy jX jY jZ j0 j3 j4 aw k l;have h:=r.o ji left (.int .i64 1) (.slice aT aU aV) nk (.int .i64 (aB:Int));show Q .ret _ _;apply h
      ·exact l
      ·exact k.done
    ·intro an ao aq ar av aW aX aY bk jV jF gY gJ gu iF gL gW u16 gv gw gx gI gy gz gA gB gC gD gE gF fS fT fU u32 fV fW fZ ga gb gd gh gi gj gl gm gG gH iz iq ir bT bU bV bW bX bY bZ b5 b6 b7 b8 b9 cc cg ck u64 cm cn cp cr ct cu cv cw cz cA cB cC cD cE cF cG cH cI cK cL cM di dm dn dr dw dx dy dz cN cO cQ cR cS cT cU cV cW cZ c4 c5 c6 c7 c8 c9 dc dA dB dD dF dG dH dI dJ dK dL dM dN dO dP dQ dR dS dU dV dW dX dY dZ ec ee ef ei ej ek en fL fM fN eo ep er eu ew ey ez eA eB eC eD eE fO fP fQ eF eG eH eL eM eN eO eP eR eS eT eU eV eW eX eY eZ e3 e4 e5 e6 e7 e8 e9 fc fe ff fh fk fm fo fq fu fA fB fC gn gp fD fE fF fG fH fI fJ iJ iK iL iM iN iO iP iQ iR iS iT iU jq jr js jt jv jw jx jy jX jY jZ j0 j3 j4 aw k l;have h:=r.o ji left (.int .i64 2) nk (.slice aW aX aY) (.int .i64 (aB:Int));show Q .ret _ _;apply h
     ·exact l
     ·exact k.done
   ·intro m s2 aZ bk jV jF gY gJ gu iF gL gW u16 gv gw gx gI gy gz gA gB gC gD gE gF fS fT fU u32 fV fW fZ ga gb gd gh gi gj gl gm gG gH iz iq ir bT bU bV bW bX bY bZ b5 b6 b7 b8 b9 cc cg ck u64 cm cn cp cr ct cu cv cw cz cA cB cC cD cE cF cG cH cI cK cL cM di dm dn dr dw dx dy dz cN cO cQ cR cS cT cU cV cW cZ c4 c5 c6 c7 c8 c9 dc dA dB dD dF dG dH dI dJ dK dL dM dN dO dP dQ dR dS dU dV dW dX dY dZ ec ee ef ei ej ek en fL fM fN eo ep er eu ew ey ez eA eB eC eD eE fO fP fQ eF eG eH eL eM eN eO eP eR eS eT eU eV eW eX eY eZ e3 e4 e5 e6 e7 e8 e9 fc fe ff fh fk fm fo fq fu fA fB fC gn gp fD fE fF fG fH fI fJ iJ iK iL iM iN iO iP iQ iR iS iT iU jq jr js jt jv jw jx jy jX jY jZ j0 j3 j4 p f A az bj bl;show t _ _;refine w.o _ _ (k_ ((59050-aB)*1000+(if aZ<=0 then 100 else 0)+(20-s2.c.ax.length)) ?_ (u.o _ _ _ (xH.mk (ji:=ji+1) ⟨f,by omega,by have:=b.o.t3 az;omega,λ h=>by omega,by omega,by have:=b.o.t2;have:=i.o;omega,rfl⟩)));have h1:=b.o.g;rw[if_pos az] at h1;rw[if_neg (by omega)];have aS:=i.o.2.2.2.2.2.2;have al:=d.o.n10;omega
  ·intro tf m bo s2 bk jV jF gY gJ gu iF gL gW u16 gv gw gx gI gy gz gA gB gC gD gE gF fS fT fU u32 fV fW fZ ga gb gd gh gi gj gl gm gG gH iz iq ir bT bU bV bW bX bY bZ b5 b6 b7 b8 b9 cc cg ck u64 cm cn cp cr ct cu cv cw cz cA cB cC cD cE cF cG cH cI cK cL cM di dm dn dr dw dx dy dz cN cO cQ cR cS cT cU cV cW cZ c4 c5 c6 c7 c8 c9 dc dA dB dD dF dG dH dI dJ dK dL dM dN dO dP dQ dR dS dU dV dW dX dY dZ ec ee ef ei ej ek en fL fM fN eo ep er eu ew ey ez eA eB eC eD eE fO fP fQ eF eG eH eL eM eN eO eP eR eS eT eU eV eW eX eY eZ e3 e4 e5 e6 e7 e8 e9 fc fe ff fh fk fm fo fq fu fA fB fC gn gp fD fE fF fG fH fI fJ iJ iK iL iM iN iO iP iQ iR iS iT iU jq jr js jt jv jw jx jy jX jY jZ j0 j3 j4 p f;show t _ _;refine w.o _ _ (k_ ((59050-(aB+1))*1000+(if left-1<=0 then 100 else 0)+(20-s2.c.ax.length)) ?_ (u.o _ _ _ (xH.mk (left:=left-1) ⟨f,b.o.t1,by have:=b.o.t2;omega,λ h=>by have:=b.o.t2;omega,by have:=b.o.ja;omega,by have:=b.o.kB;omega,rfl⟩)));have h1:=b.o.g;have q:=i.o;have al:=d.o.n10;split<;>omega
  ·intro an ao aq ar av kind bk jV jF gY gJ gu iF gL gW u16 gv gw gx gI gy gz gA gB gC gD gE gF fS fT fU u32 fV fW fZ ga gb gd gh gi gj gl gm gG gH iz iq ir bT bU bV bW bX bY bZ b5 b6 b7 b8 b9 cc cg ck u64 cm cn cp cr ct cu cv cw cz cA cB cC cD cE cF cG cH cI cK cL cM di dm dn dr dw dx dy dz cN cO cQ cR cS cT cU cV cW cZ c4 c5 c6 c7 c8 c9 dc dA dB dD dF dG dH dI dJ dK dL dM dN dO dP dQ dR dS dU dV dW dX dY dZ ec ee ef ei ej ek en fL fM fN eo ep er eu ew ey ez eA eB eC eD eE fO fP fQ eF eG eH eL eM eN eO eP eR eS eT eU eV eW eX eY eZ e3 e4 e5 e6 e7 e8 e9 fc fe ff fh fk fm fo fq fu fA fB fC gn gp fD fE fF fG fH fI fJ iJ iK iL iM iN iO iP iQ iR iS iT iU jq jr js jt jv jw jx jy jX jY jZ j0 j3 j4 aw k l;have h:=r.o ji left (.int .i64 kind) nk nk (.int .i64 (aB:Int));show Q .ret _ _;apply h
   ·exact l
   ·exact k.done
theorem Nx{bn:Nat}(C:se bg gZ w0 F ah n fR jI aI gN bN gO bH)(E:bf gZ base w0 G hs cb aI)(S:mF F ah n fR aI 0 aI.c.ag)(P:pn (λ b=>gZ b/\¬bg b) w0 aI)(L:∀p∈aI.aF,qx (λ b=>gZ b/\¬bg b) w0 n p)(m:aI.c.cl.length=jI):
  Calls w_ 99 #[.pointer (some ⟨G,0,none⟩),.slice gN bN gO,.int .i64 (bH:Int)] w0 (DZ bg gZ base w0 G F ah n fR aI bH):=by
 have f:=bC w0 (.cells #[.int .i64 0,.slice none 0 0,.slice none 0 0,.int .i64 0] 30);have i:aR (w0.alloc (.cells #[.int .i64 0,.slice none 0 0,.slice none 0 0,.int .i64 0] 30)) w0.heap.size 30 [.int .i64 0,nk,nk,.int .i64 ((0:Nat):Int)]:=aR.new w0 30 _;have g:=E.below f;have j:∀b,gZ b->b<w0.heap.size:=E.s.lt;have l:mS bg gZ base w0 G F ah n fR jI aI w0.heap.size bH (qJ gZ w0.heap.size) (w0.alloc (.cells #[.int .i64 0,.slice none 0 0,.slice none 0 0,.int .i64 0] 30)) hs cb aI 0 aI.c.ag:=by
  refine⟨λ b f=>.inl f,g.1.qJ (by simp) (by have:=E.e.box.lt;omega) (λ r e=>by have:=(E.e.rows.lt e).2;omega) (λ d ag e=>by have:=(E.e.cls d ag).lt;omega),g.2,S,i,.inr rfl,λ h=>by have:=j _ h;omega,P.kept (g.2.mono λ b f=>f.1) rfl rfl,λ p hp=>((L p hp).jB (g.2.mono λ b f=>f.1)).mono λ b f=>⟨⟨.inl f.1,by have:=j b f.1;omega⟩,f.2⟩,List.prefix_refl _,rfl,by omega,Nat.zero_le _⟩
 have k:Cj bg gZ base w0 G F ah n fR jI aI w0.heap.size bH (qJ gZ w0.heap.size) hs cb aI 0 1 32 (w0.alloc (.cells #[.int .i64 0,.slice none 0 0,.slice none 0 0,.int .i64 0] 30)) ((59050-0)*1000+(if (32:Int)<=0 then 100 else 0)+(20-aI.c.ax.length)):=
  ⟨l,o_ _,by omega,λ h=>by omega,by omega,by omega,rfl⟩
 have k:=U k;have q:=U C;clear C E S P L f i g j l m;go_enter Tryz.func99,Tryz.ntmps99
 go_wp2_with fail
 refine Nw q.o k.o ?_;intro ji left v0 v1 v2 v3 u v w y z A B D H u16 I J K M N O Q R T V W X Y Z aa u32 ab ad ae af ai aj ak al an ao aq ar av aw az aA aB aC aD aE aG aH aJ aK aL aM aN aO aP aQ aS u64 aT aU aV aW aX aY aZ a6 a7 a8 a' ba bb bc bd bh bj bk bl bo bp bq br bs bt bu bw bx bz bA bB bD bE bF bG bI bJ bK bL bM bO bP bQ bR bS bT bU bV bW bX bY bZ b0 b1 b2 b3 b4 b5 b6 b7 b8 b9 b' ca cc cd cf cg ch cj ck cm cn cp cq cr ct cu cv cw cx cy cz cA cB cC cD cE cF cG cH cI cJ cK cL cM cN cO cP cQ cR cS cT cU cV cW cX cY cZ c0 c4 c5 c6 c7 c8 c9 da db dc dd de df dh di dj dk dm dn dp dq dr dt du dv dw dx dy dz dA dB dC dD dE dF dG dH dI dJ dK dL dM dN dO dP dQ dR dS dT dU dV dW dX dY dZ d' W' i t;refine Nu rfl rfl i ?_;exact t
end
section
open Go.RowKit Go.Shelf Go.Sort Go.Lib
theorem Ny:∀args w,(callFunc 158 args).run w_ w=.ok (.enter 158 args) w:=enters_of Tryz.func158 (by kernel_rfl) rfl
theorem Nz{aH:Nat}(v u:Nat)(x y:Int)(b:w.cell? ⟨aH,0,none⟩=some (.pointer (some ⟨G,0,none⟩)))(q:w.cell? ⟨G,8,none⟩=some (.slice (some ⟨g,0,none⟩) n c))(d:(v:Int)<(n:Int))(hu:(u:Int)<(n:Int))(f:v<=65536)(i:u<=65536)
  (j:w.cell? ⟨g,v,none⟩=some (.int .i64 x)) (k:w.cell? ⟨g,u,none⟩=some (.int .i64 y)):
  Calls w_ 158 #[.int .i64 v,.int .i64 u,.pointer (some ⟨aH,0,none⟩)] w λ e w'=>e=.returned (.int .i64 (rW (ox y x) ((v:Int)-(u:Int))))/\w'=(w.drew.alloc (.cells #[.int .i64 (ox y x),.int .i64 ((v:Int)-(u:Int))] 3)):=by
 have l:wrap64 ((v:Int)-(u:Int))=(v:Int)-(u:Int):=by unfold wrap64;omega
 go_enter Tryz.func158,Tryz.ntmps158
 go_wp2;refine wp_region_still_tail 18 (by kernel_rfl) (by kernel_rfl) ?_;simp only[List.take_succ_cons,List.take_zero,List.drop_succ_cons,List.drop_zero]
 iterate 14 still_step
 still_call ((zM _ _ _).mono (λ e w' h=>⟨h.1,h.2.symm⟩))
 iterate 3 still_step
 refine wpStill_nil ?_;change wpList _ _ _ _ _ w.drew
 go_wp2_with fail
 refine(Bd w.heap.size (ox y x) ((v:Int)-(u:Int)) _ (by go_simp) (by go_simp)).mono ?_;rintro e w' ⟨rfl,rfl⟩;go_wp2;go_ret;exact⟨rfl,rfl⟩
abbrev ve(n:Nat):={x:Int//1<=x/\x<=n}
def yu{n:Nat}(x:ve n):Value:=.int .i64 x.1
def Ck(act:List Int)(x y:Int):Int:=rW (ox (ak act y.toNat) (ak act x.toNat)) (x-y)
def uJ(act:List Int){n:Nat}(x y:ve n):Int:=Ck act x.1 y.1
theorem D8(a b:Int):(a<b/\ox a b= -1)\/(a=b/\ox a b=0)\/(b<a/\ox a b=1):=by
 unfold ox;rcases Int.lt_trichotomy a b with h|h|h
 ·left;exact⟨h,by simp[h]⟩
 ·right;left;subst h;exact⟨rfl,by simp⟩
 ·right;right;refine⟨h,?_⟩;rw[if_neg (by omega),if_pos (by omega)]
theorem AG{x y:Int}:Ck act x y<0↔ak act y.toNat<ak act x.toNat\/(ak act y.toNat=ak act x.toNat/\x<y):=by
 unfold Ck rW;rcases D8 (ak act y.toNat) (ak act x.toNat) with⟨h,e⟩|⟨h,e⟩|⟨h,e⟩<;>rw[e]
 ·simp;omega
 ·simp;omega
 ·simp;omega
theorem AH(x y:ve n):ltOf (uJ act) x y=decide (Ck act x.1 y.1<0):=rfl
theorem Cl(act:List Int)(n:Nat):SWO (ltOf (uJ act (n:=n))) where
 irrefl x:=by rw[AH,decide_eq_false_iff_not,AG];omega
 trans x y z h1 b:=by rw[AH,decide_eq_true_eq,AG] at*;omega
 ntrans x y z h1 b:=by rw[AH,decide_eq_false_iff_not,AG] at*;omega
theorem NA(act:List Int)(n:Nat)(x y:ve n)(h1:ltOf (uJ act) x y=false)(b:ltOf (uJ act) y x=false):x=y:=by
 rw[AH,decide_eq_false_iff_not,AG] at*;apply Subtype.ext;omega
theorem HC{α:Type}[Inhabited α](enc:α->Value)(w:World)(g m:Nat)(c:Array α)(os:Array Obj){b:Nat}(d:b<w.heap.size)(f:b≠g):(sortWorld enc w g 0 m c os).heap[b]? =w.heap[b]? :=by
 unfold sortWorld;rw[Sort.heap_grow_old _ _ (by rw[Sort.size_putRow];exact d)];unfold Sort.putRow Sort.mapBlock;rw[Array.getElem?_modify,if_neg (λ e=>f e.symm)];rfl
theorem HD(l:List (ve n)):l.map yu=(l.map (·.1)).map (Value.int .i64):=by rw[List.map_map];rfl
def qy(act:List Int){n:Nat}(ls:List (ve n)):List (ve n):=ls.mergeSort λ x y=> !(ltOf (uJ act)) y x
theorem NB{cap:Nat}{ls:List (ve n)}(h:Own w base g m cap (ls.map (·.1)))(t:base<=g)(hm:m<=1000)(H:1<=n)(I:n<=60000){aH G sH x9:Nat}(z:w.cell? ⟨aH,0,none⟩=some (.pointer (some ⟨G,0,none⟩)))(q:w.cell? ⟨G,8,none⟩=some (.slice (some ⟨sH,0,none⟩) (n+1) x9))
  (f:∀v,v<=n->w.cell? ⟨sH,v,none⟩=some (.int .i64 (ak act v))) (A:aH<w.heap.size/\aH≠g) (B:G<w.heap.size/\G≠g) (i:sH<w.heap.size/\sH≠g):
  Calls w_ 157 #[.slice (some ⟨g,0,none⟩) m cap,.func (.func 158) #[] #[.pointer (some ⟨aH,0,none⟩)]] w λ e w'=>
   e=.returned (.tuple #[])/\Own w' base g m cap ((qy act ls).map (·.1))/\Below base w w':=by
 haveI:Inhabited (ve n):=⟨⟨1,by omega⟩⟩
 have h':w.ownsRow base 3 1 (.slice (some ⟨g,0,none⟩) m cap) m (ls.map yu):=by rw[HD];exact h
 obtain⟨J,K,he,h1,C,L,M,c,D⟩:=holds_of_ownsRow h' (by intro e;cases e)
 cases he
 have E:CmpLays1 w_ 158 #[.pointer (some ⟨aH,0,none⟩)] (yu (n:=n)) (uJ act) g 0 ls.toArray.size w:=by
  intro k os l hs x y;obtain⟨x,N⟩:=x;obtain⟨y,O⟩:=y;obtain⟨v,rfl⟩:∃v:Nat,x=v:=⟨x.toNat,by omega⟩
  obtain⟨u,rfl⟩:∃u:Nat,y=u:=⟨y.toNat,by omega⟩
  have hw:∀b j,b<w.heap.size/\b≠g->(sortWorld yu w g 0 k l os).cell? ⟨b,j,none⟩=w.cell? ⟨b,j,none⟩:=λ b j o=>t_ (a:=⟨b,j,none⟩) (HC yu w g k l os o.1 o.2)
  refine(Nz v u (ak act v) (ak act u) ((hw aH 0 A).trans z) ((hw G 8 B).trans q) (by omega) (by omega) (by omega) (by omega) ((hw sH v i).trans (f v (by omega))) ((hw sH u i).trans (f u (by omega)))).mono ?_;rintro e w' ⟨rfl,rfl⟩;exact⟨rfl,1, #[_],by rw[alloc_eq_grow];rfl⟩
 have p:=Tryz.slices_SortFunc_total yu (λ _=>rfl) (uJ act) (Cl act n) 158 #[.pointer (some ⟨aH,0,none⟩)] g 0 cap ls.toArray w Ny E D C (by simp[c];omega) (NA act n);have hs:ls.toArray.size=m:=by simp[c]
 rw[hs] at p;refine p.mono ?_;rintro e w' ⟨rfl,r,os,rfl⟩;have s:=ownsRow_putRow (q:=r) (k:=m) (ys:=ls.mergeSort λ x y=> !(ltOf (uJ act)) y x) h' (by simp[c]) (o_ _);rw[List.take_of_length_le (by simp[c]),HD] at s;refine⟨rfl,?_,?_⟩
 ·have:=ownsRow_grow s 0 os;exact this
 ·have F:=below_putRow (enc:=yu) (q:=r) (d:=(ls.mergeSort λ x y=> !(ltOf (uJ act)) y x).toArray) (Below.refl base w) t;exact below_grow F (by simp[putRow,mapBlock,Sort.ahead];omega) os
def oI(n:Nat):List (ve n):=(j_ n).attach.map λ k=>⟨(k.1:Int)+1,by have:=List.mem_range.1 k.2;omega⟩
theorem D9(n:Nat):(oI n).map (·.1)=(j_ n).map λ k:Nat=>(k:Int)+1:=by
 unfold oI;rw[List.map_map];show(j_ n).attach.map (λ k=>(k.1:Int)+1)=_;rw[List.attach_map_val (l:=j_ n) (f:=λ k:Nat=>(k:Int)+1)]
end
section
open Go.RowKit Go.Shelf
theorem NC:(w_.info? 74).map (λ i=>(i.zero,i.size,i.bytes))=some (some (.agg #[.slice none 0 0,.int .i64 0,.int .i64 0]),3,40):=by kernel_rfl
structure mT where
 r:Row
 bp:Int
 ac:Int
def sI(e:mT):List Value:=[k3 e.r,.int .i64 e.bp,.int .i64 e.ac]
def p0(es:List mT):List Value:=(es.map sI).flatten
theorem HE:∀es:List mT,(p0 es).length=es.length*3
 |[]=>rfl
 |e::es=>by
  have:=HE es;unfold p0 at this⊢;simp only[p_,List.flatten_cons,m_,this,sI,List.length_cons,List.length_nil];omega
theorem ND(a b:List mT):p0 (a++b)=p0 a++p0 b:=by simp[p0]
theorem Cm:∀(es:List mT)(j:Nat)(h:j<es.length)(k:Nat),k<3->(p0 es)[j*3+k]? =(sI es[j])[k]?
 |[],j,h,k,hk=>by simp at h
 |e::es,0,h,k,hk=>by
  show(sI e++p0 es)[0*3+k]? =_;rw[List.getElem?_append_left (by simp[sI];omega)];simp
 |e::es,j+1,h,k,hk=>by
  show(sI e++p0 es)[(j+1)*3+k]? =_;rw[List.getElem?_append_right (by simp[sI];omega)];have:=Cm es j (by simpa using h) k hk;rw[show(j+1)*3+k-(sI e).length=j*3+k by simp[sI];omega,this];rfl
structure sJ(w:World)(A:Option Addr)(n c:Nat)(es:List mT):Prop where
 len:es.length=n
 cap:n<=c
 mG:n*40<=140737488355328
 n9:c<=maxLen
 cells:0<n->∃b off,A=some ⟨b,off,none⟩/\b<w.heap.size/\∀k,k<n*3->w.cell? ⟨b,off+k,none⟩=(p0 es)[k]?
 rows:∀e∈es,aP w e.r.A e.r.n e.r.c e.r.ai
theorem sJ.below{w w':World}{A:Option Addr}{n c:Nat}{es:List mT}(h:sJ w A n c es)(d:Below w.heap.size w w'):sJ w' A n c es:=
 ⟨h.len,h.cap,h.mG,h.n9,λ g=>by
  obtain⟨b,off,rfl,f,i⟩:=h.cells g;exact⟨b,off,rfl,v_ f d.size,λ k hk=>(d.cell (p:=⟨b,_,none⟩) f).trans (i k hk)⟩,λ e he=>(h.rows e he).below d⟩
structure nH where
 lQ:Int
 r:Row
def rS(e:nH):List Value:=[.int .i64 e.lQ,k3 e.r]
def mX(es:List nH):List Value:=(es.map rS).flatten
structure oJ(w:World)(A:Option Addr)(n c:Nat)(es:List nH):Prop where
 len:es.length=n
 cap:n<=c
 mG:n*32<=140737488355328
 n9:c<=maxLen
 cells:0<n->∃b off,A=some ⟨b,off,none⟩/\b<w.heap.size/\∀k,k<n*2->w.cell? ⟨b,off+k,none⟩=(mX es)[k]?
 rows:∀e∈es,aP w e.r.A e.r.n e.r.c e.r.ai
theorem oJ.below{w w':World}{A:Option Addr}{n c:Nat}{es:List nH}(h:oJ w A n c es)(d:Below w.heap.size w w'):oJ w' A n c es:=
 ⟨h.len,h.cap,h.mG,h.n9,λ g=>by
  obtain⟨b,off,rfl,f,i⟩:=h.cells g;exact⟨b,off,rfl,v_ f d.size,λ k hk=>(d.cell (p:=⟨b,_,none⟩) f).trans (i k hk)⟩,λ e he=>(h.rows e he).below d⟩
def NF(w:World)(base:Nat)(v:Value)(k:Nat)(es:List mT)(v':Value)(w':World):Prop:=
 w'.ownsRow base 74 3 v' k (p0 es)/\w.grownBy w' v.ownBlock/\(v'.ownBlock=v.ownBlock\/v'.ownBlock=some w.heap.size)
theorem NG(w:World)(ty:TypeId)(base:Nat)(v:Value)(n:Nat)(es:List mT)(d:w.ownsRow base 74 3 v n (p0 es))(c c1:Nat)(e:mT)(f:w.cell? ⟨c,0,none⟩=some (k3 e.r))(h1:w.cell? ⟨c,1,none⟩=some (.int .i64 e.bp))(g:w.cell? ⟨c,2,none⟩=some (.int .i64 e.ac))(t:n<=1000000)(i:base<=w.heap.size):
  ∃v' w',(Builtin.append_ #[42,42] ty #[v,.slice (some ⟨c,0,none⟩) 1 c1]).run w_ w=.ok v' w'/\NF w base v (n+1) (es++[e]) v' w':=by
 obtain⟨i0,k,l,m,o⟩:=info_parts NC;have p:∀j u,(sI e)[j]? =some u->w.cell? ((⟨c,0,none⟩:Addr).add j)=some u:=by
  intro j u b;have y:j<3:=(List.getElem?_eq_some_iff.1 b).1;rw[Addr.add_lit,Nat.zero_add];unfold sI at b;rcases(show j=0\/j=1\/j=2 by omega) with rfl|rfl|rfl
  ·simp only[y_,l_] at b;subst b;exact f
  ·simp only[u_,y_,l_] at b;subst b;exact h1
  ·simp only[u_,y_,l_] at b;subst b;exact g
 have q:∀u∈sI e,u.oneCell'=true:=by
  intro u hu;unfold sI at hu;simp only[List.mem_cons,List.not_mem_nil,or_false] at hu;rcases hu with rfl|rfl|rfl<;>rfl
 have s:p0 (es++[e])=p0 es++sI e:=by rw[ND];simp[p0]
 obtain⟨v',w',g1,g2,g3,_,g5⟩:=run_append_own_at (P:=w_) w base 42 ty 74 i0 (.agg #[.slice none 0 0,.int .i64 0,.int .i64 0]) 3 40 Tryz.underlying42 k l m o rfl (by decide) v n (p0 es) d ⟨c,0,none⟩ 1 c1 (sI e) rfl p q (by unfold maxLen;omega) (by omega) i;rw[<-s] at g2;exact⟨v',w',g1,g2,g3,g5⟩
theorem sJ.kZ{A:Option Addr}{es:List mT}(h:w.ownsRow base 74 3 (.slice A n c) n (p0 es))(d:n*40<=140737488355328)(f:∀e∈es,aP w e.r.A e.r.n e.r.c e.r.ai):sJ w A n c es:=by
 have hl:es.length=n:=by have:=h.1;rw[HE] at this;omega
 rcases h.2 with⟨b,i⟩|⟨g,cap,cur,b,m,o,j,l,p,q⟩
 ·simp only[h_] at b;obtain⟨rfl,_,rfl⟩:=b;subst i;exact⟨hl,o_ _,d,Nat.zero_le _,λ h=>absurd h (by omega),f⟩
 ·simp only[h_] at b;obtain⟨rfl,_,rfl⟩:=b;refine⟨hl,j,d,l,λ i=>⟨g,0,rfl,(h.lt g rfl).2,λ k hk=>?_⟩,f⟩;rw[Nat.zero_add];exact h.cellAt k hk
theorem bf.still(h:bf K base w G hs cb s){P:Nat->Prop}(f:aG (λ b=>b<w.heap.size/\¬P b) w W)(c:∀b,P b->K b):bf K base W G hs cb s:=by
 have k:¬P G:=λ e=>h.s.g (c _ e)
 refine⟨⟨f.blk h.e.box ⟨h.e.box.lt,k⟩,⟨λ r=>o6 (h.e.rows.row r) (λ b i=>?_),h.e.rows.apart⟩,λ d j=>f.blk (h.e.cls d j) ⟨(h.e.cls d j).lt,λ e=>h.s.cl d j (c _ e)⟩,h.e.inj,h.e.q6,h.e.rL⟩,h.s.more f.size⟩;rw[ay.own] at i;exact f.keep b ⟨(h.e.rows.lt i).2,λ e=>h.s.row r b i (c _ e)⟩
def tj(W w:World)(c:Option Addr)(c2:Nat)(d:List Int):Prop:=aP w c d.length c2 d/\∀b,c.map (·.block)=some b->W.heap.size<=b/\b<w.heap.size
theorem tj.below{W w w':World}{bl:Option Addr}{c2:Nat}{ai:List Int}(h:tj W w bl c2 ai)(c:Below w.heap.size w w'):tj W w' bl c2 ai:=⟨h.1.below c,λ b e=>⟨(h.2 b e).1,v_ (h.2 b e).2 c.size⟩⟩
theorem tj.grown{w':World}{bl:Option Addr}{c2:Nat}{ai:List Int}(h:tj W w bl c2 ai)(c:w.grownBy w' row)(d:∀g,row=some g->g<W.heap.size):tj W w' bl c2 ai:=
 ⟨h.1.xC c.size (λ b e=>c.block b (h.2 b e).2 (λ f=>by have:=d b f.symm;have:=(h.2 b e).1;omega)),λ b e=>⟨(h.2 b e).1,v_ (h.2 b e).2 c.size⟩⟩
def Cn(c:Option Addr)(c2:Nat)(b:List Int)(bp ac:Int):mT:=⟨⟨c,b.length,c2,b⟩,bp,min ac 1099511627776⟩
def GE(W:World)(base m:Nat)(A:Option Addr)(j c:Nat)(es:List mT)(e:Nat)(n:Option Addr)(o p:Nat)(f:List Int)(bp ac:Int)(i:Nat)(v:Value)(w:World):Prop:=
 match i with
 |0=>v=.pointer (some ⟨m,2,none⟩)
 |1=>v=.slice A j c
 |2=>v=.pointer (some ⟨e,0,none⟩)
 |3=>v=.pointer (some ⟨e,0,none⟩)
 |4=>v=.pointer (some ⟨e,0,none⟩)
 |5=>v=.slice n o p
 |6=>∃d c2,v=.slice d f.length c2/\tj W w d c2 f
 |7=>v=.pointer (some ⟨e,0,none⟩)
 |8=>v=.pointer (some ⟨e,0,none⟩)
 |9=>v=.pointer (some ⟨e,2,none⟩)
 |10=>v=.int .i64 bp
 |11=>v=.pointer (some ⟨e,0,none⟩)
 |12=>v=.pointer (some ⟨e,0,none⟩)
 |13=>v=.pointer (some ⟨e,3,none⟩)
 |14=>v=.int .i64 ac
 |15=>v=.int .i64 (min ac 1099511627776)
 |16=>∃d c2,v=.agg #[.slice d f.length c2,.int .i64 bp,.int .i64 (min ac 1099511627776)]/\tj W w d c2 f
 |17=>∃d c2 b,v=.slice (some ⟨b,0,none⟩) 1 1/\tj W w d c2 f/\W.heap.size<=b/\b<w.heap.size/\w.cell? ⟨b,0,none⟩=some (.slice d f.length c2)/\w.cell? ⟨b,1,none⟩=some (.int .i64 bp)/\w.cell? ⟨b,2,none⟩=some (.int .i64 (min ac 1099511627776))
 |18=>∃d c2 k l,v=.slice k (j+1) l/\tj W w d c2 f/\w.ownsRow base 74 3 (.slice k (j+1) l) (j+1) (p0 (es++[Cn d c2 f bp ac]))/\((x_ k (j+1) l).ownBlock=(x_ A j c).ownBlock\/∀g,(x_ k (j+1) l).ownBlock=some g->W.heap.size<=g)/\∀b,d.map (·.block)=some b->(x_ k (j+1) l).ownBlock≠some b
 |19=>v=.pointer (some ⟨m,2,none⟩)
 |_=>True
theorem GE.mono(W:World)(base l:Nat)(A:Option Addr)(j c:Nat)(es:List mT)(m:Nat)(o:Option Addr)(q r:Nat)(s:List Int)(bp ac:Int)(i:Nat)(u:Value)(w w':World)(d:Below w.heap.size w w')(h:GE W base l A j c es m o q r s bp ac i u w):GE W base l A j c es m o q r s bp ac i u w':=by
 match i,h with
 |0,h=>exact h
 |1,h=>exact h
 |2,h=>exact h
 |3,h=>exact h
 |4,h=>exact h
 |5,h=>exact h
 |6,h=>obtain⟨e,c2,h1,f⟩:=h;exact⟨e,c2,h1,f.below d⟩
 |7,h=>exact h
 |8,h=>exact h
 |9,h=>exact h
 |10,h=>exact h
 |11,h=>exact h
 |12,h=>exact h
 |13,h=>exact h
 |14,h=>exact h
 |15,h=>exact h
 |16,h=>obtain⟨e,c2,h1,f⟩:=h;exact⟨e,c2,h1,f.below d⟩
 |17,h=>obtain⟨e,c2,b,h1,f,k,g,t,v,y⟩:=h;exact⟨e,c2,b,h1,f.below d,k,v_ g d.size,(d.cell (p:=⟨b,0,none⟩) g).trans t,(d.cell (p:=⟨b,1,none⟩) g).trans v,(d.cell (p:=⟨b,2,none⟩) g).trans y⟩
 |18,h=>obtain⟨e,c2,z,B,h1,f,k,g⟩:=h;exact⟨e,c2,z,B,h1,f.below d,mh k d,g⟩
 |19,h=>exact h
 |n+20,h=>trivial
theorem GE.grown(W:World)(base o:Nat)(A:Option Addr)(j c:Nat)(es:List mT)(p:Nat)(q:Option Addr)(r s:Nat)(t:List Int)(bp ac:Int)(m:∀g,(x_ A j c).ownBlock=some g->g<W.heap.size)(i:Nat)(y:i≠18)(u:Value)(w w':World)(d:w.grownBy w' (x_ A j c).ownBlock)(h:GE W base o A j c es p q r s t bp ac i u w):GE W base o A j c es p q r s t bp ac i u w':=by
 match i,h with
 |0,h=>exact h
 |1,h=>exact h
 |2,h=>exact h
 |3,h=>exact h
 |4,h=>exact h
 |5,h=>exact h
 |6,h=>obtain⟨f,c2,h1,l⟩:=h;exact⟨f,c2,h1,l.grown d m⟩
 |7,h=>exact h
 |8,h=>exact h
 |9,h=>exact h
 |10,h=>exact h
 |11,h=>exact h
 |12,h=>exact h
 |13,h=>exact h
 |14,h=>exact h
 |15,h=>exact h
 |16,h=>obtain⟨f,c2,h1,l⟩:=h;exact⟨f,c2,h1,l.grown d m⟩
 |17,h=>obtain⟨f,c2,b,h1,l,z,v,B,C,D⟩:=h;have hk:∀k,w'.cell? ⟨b,k,none⟩=w.cell? ⟨b,k,none⟩:=(λ k=>t_ (a:=⟨b,k,none⟩) (d.block b v (λ e=>by have:=m b e.symm;omega)));exact⟨f,c2,b,h1,l.grown d m,z,v_ v d.size,(hk 0).trans B,(hk 1).trans C,(hk 2).trans D⟩
 |18,h=>exact absurd rfl y
 |19,h=>exact h
 |n+20,h=>trivial
structure HF(W:World)(base iG:Nat)(A:Option Addr)(j c:Nat)(es:List mT)(nv:Nat)(pK:Option Addr)(pg p4:Nat)(ai:List Int)(bp ac:Int):Prop where
 gX:W.cell? ⟨iG,2,none⟩=some (.slice A j c)
 NH:iG<W.heap.size
 NI:some iG≠(x_ A j c).ownBlock
 aY:W.cell? ⟨nv,0,none⟩=some (.slice pK pg p4)
 c2:W.cell? ⟨nv,2,none⟩=some (.int .i64 bp)
 c3:W.cell? ⟨nv,3,none⟩=some (.int .i64 ac)
 Ea:nv<W.heap.size
 Eb:some nv≠(x_ A j c).ownBlock
 xw:aP W pK pg p4 ai
 lB:∀b,pK.map (·.block)=some b->b<W.heap.size/\some b≠(x_ A j c).ownBlock
 row:∀g,(x_ A j c).ownBlock=some g->g<W.heap.size
 de:base<=W.heap.size
 NJ:j<=1000000
theorem NK(W:World)(base s:Nat)(A:Option Addr)(j c:Nat)(es:List mT)(p:Nat)(z:Option Addr)(B D:Nat)(o:List Int)(bp ac:Int)(C:HF W base s A j c es p z B D o bp ac):
  s8 w_ [some 48,some 49,some 50,some 51,some 52,some 53,some 54,some 55,some 56,some 57,some 58,some 59,some 60,some 61,some 62,some 63,some 64,some 65,some 66,some 67,none] [[],[0],[],[2],[3],[4],[5],[],[7],[8],[9],[],[11],[12],[13],[14],[6,10,15],[16],[1,17,6],[0,1,2,3,4,5,6,7,8,9,10,11,12,13,14,15,16,17,18],[19,18,18,0,1,2,3,4,5,6,7,8,9,10,11,12,13,14,15,16,17,18]] [(3,.pointer (some ⟨s,0,none⟩)),(8,.pointer (some ⟨p,0,none⟩))] (λ w=>W.grownBy w (x_ A j c).ownBlock) (GE W base s A j c es p z B D o bp ac) (λ _=>none) (λ w=>w.ownsRow base 74 3 (.slice A j c) j (p0 es)) 18 0 ((qb Tryz.f100 12).take 20):=by
 have ag:=GE.mono W base s A j c es p z B D o bp ac;have ah:∀w w':World,Below w.heap.size w w'->w.ownsRow base 74 3 (.slice A j c) j (p0 es)->w'.ownsRow base 74 3 (.slice A j c) j (p0 es):=λ w w' q h=>mh h q
 have ai:∀w w':World,W.grownBy w (x_ A j c).ownBlock->Below w.heap.size w w'->W.grownBy w' (x_ A j c).ownBlock:=λ w w' f q=>xG f ⟨q.os,q.tape,q.output,q.size,λ k hk _=>q.block k hk⟩
 refine⟨?_,?_,?_,?_,?_,?_,?_,?_,?_,?_,?_,?_,?_,?_,?_,?_,?_,?_,?_,?_,trivial⟩
 ·intro vals w i f m d l hp;have Y:i (.tmp 3)=_:=l.1 rfl;simp only[bh,execOp,Y];simp[bQ,go_sem];exact .same f rfl
 ·intro vals w i f m d l hp;obtain⟨⟨f0,G⟩,-⟩:=(⟨d.1 rfl,d.2⟩:_/\_)
  have G:i (.tmp 48)=vals 0:=G _ rfl;have f0:vals 0=_:=f0 (s_ rfl);rw[f0] at G;have t:=(t_ (a:=⟨s,2,none⟩) (f.block s C.NH C.NI)).trans C.gX;simp only[bh,execOp,G];simp[bQ,go_sem,t];exact .same f rfl
 ·intro vals w i f m d l hp;have E:i (.tmp 8)=_:=l.2.1 rfl;simp only[bh,execOp,E];simp[bQ,go_sem];exact .same f rfl
 ·intro vals w i f m d l hp;obtain⟨⟨f2,r⟩,-⟩:=(⟨d.1 rfl,d.2⟩:_/\_)
  have r:i (.tmp 50)=vals 2:=r _ rfl;have f2:vals 2=_:=f2 (s_ rfl);rw[f2] at r;simp only[bh,execOp,r];simp[bQ,go_sem];exact .same f rfl
 ·intro vals w i f m d l hp;obtain⟨⟨f3,H⟩,-⟩:=(⟨d.1 rfl,d.2⟩:_/\_)
  have H:i (.tmp 51)=vals 3:=H _ rfl;have f3:vals 3=_:=f3 (s_ rfl);rw[f3] at H;simp only[bh,execOp,H];simp[bQ,go_sem];exact .same f rfl
 ·intro vals w i f m d l hp;obtain⟨⟨f4,I⟩,-⟩:=(⟨d.1 rfl,d.2⟩:_/\_)
  have I:i (.tmp 52)=vals 4:=I _ rfl;have f4:vals 4=_:=f4 (s_ rfl);rw[f4] at I;have t:=(t_ (a:=⟨p,0,none⟩) (f.block p C.Ea C.Eb)).trans C.aY;simp only[bh,execOp,I];simp[bQ,go_sem,t];exact .same f rfl
 ·intro vals w i f m d l hp;obtain⟨⟨f5,J⟩,-⟩:=(⟨d.1 rfl,d.2⟩:_/\_)
  have J:i (.tmp 53)=vals 5:=J _ rfl;have f5:vals 5=_:=f5 (s_ rfl);rw[f5] at J;have Z:aP w z B D o:=C.xw.xC f.size (λ b e=>f.block b (C.lB b e).1 (C.lB b e).2);refine rP 81 #[.tmp 53] #[25] rfl Cd hp ?_;simp only[q_,p_,n_,J];refine(vD z B D o w Z).mono ?_;rintro e w' ⟨n,c2,rfl,aj,q⟩;have hl:=Z.len;have au:=Z.mG;refine⟨_,rfl,.more ag ah q (ai w w' f q) ⟨n,c2,rfl,aP.kZ aj (by omega),λ b e=>?_⟩⟩;have h1:=aj.lt b (by show(ay.v ⟨n,o.length,c2⟩).ownBlock=_;rw[ay.own];exact e);exact⟨i_ f.size h1.1,h1.2⟩
 ·intro vals w i f m d l hp;have E:i (.tmp 8)=_:=l.2.1 rfl;simp only[bh,execOp,E];simp[bQ,go_sem];exact .same f rfl
 ·intro vals w i f m d l hp;obtain⟨⟨f7,K⟩,-⟩:=(⟨d.1 rfl,d.2⟩:_/\_)
  have K:i (.tmp 55)=vals 7:=K _ rfl;have f7:vals 7=_:=f7 (s_ rfl);rw[f7] at K;simp only[bh,execOp,K];simp[bQ,go_sem];exact .same f rfl
 ·intro vals w i f m d l hp;obtain⟨⟨f8,L⟩,-⟩:=(⟨d.1 rfl,d.2⟩:_/\_)
  have L:i (.tmp 56)=vals 8:=L _ rfl;have f8:vals 8=_:=f8 (s_ rfl);rw[f8] at L;simp only[bh,execOp,L];simp[bQ,go_sem];exact .same f rfl
 ·intro vals w i f m d l hp;obtain⟨⟨f9,M⟩,-⟩:=(⟨d.1 rfl,d.2⟩:_/\_)
  have M:i (.tmp 57)=vals 9:=M _ rfl;have f9:vals 9=_:=f9 (s_ rfl);rw[f9] at M;have t:=(t_ (a:=⟨p,2,none⟩) (f.block p C.Ea C.Eb)).trans C.c2;simp only[bh,execOp,M];simp[bQ,go_sem,t];exact .same f rfl
 ·intro vals w i f m d l hp;have E:i (.tmp 8)=_:=l.2.1 rfl;simp only[bh,execOp,E];simp[bQ,go_sem];exact .same f rfl
 ·intro vals w i f m d l hp;obtain⟨⟨f11,N⟩,-⟩:=(⟨d.1 rfl,d.2⟩:_/\_)
  have N:i (.tmp 59)=vals 11:=N _ rfl;have f11:vals 11=_:=f11 (s_ rfl);rw[f11] at N;simp only[bh,execOp,N];simp[bQ,go_sem];exact .same f rfl
 ·intro vals w i f m d l hp;obtain⟨⟨f12,O⟩,-⟩:=(⟨d.1 rfl,d.2⟩:_/\_)
  have O:i (.tmp 60)=vals 12:=O _ rfl;have f12:vals 12=_:=f12 (s_ rfl);rw[f12] at O;simp only[bh,execOp,O];simp[bQ,go_sem];exact .same f rfl
 ·intro vals w i f m d l hp;obtain⟨⟨f13,P⟩,-⟩:=(⟨d.1 rfl,d.2⟩:_/\_)
  have P:i (.tmp 61)=vals 13:=P _ rfl;have f13:vals 13=_:=f13 (s_ rfl);rw[f13] at P;have t:=(t_ (a:=⟨p,3,none⟩) (f.block p C.Ea C.Eb)).trans C.c3;simp only[bh,execOp,P];simp[bQ,go_sem,t];exact .same f rfl
 ·intro vals w i f m d l hp;obtain⟨⟨f14,Q⟩,-⟩:=(⟨d.1 rfl,d.2⟩:_/\_)
  have Q:i (.tmp 62)=vals 14:=Q _ rfl;have f14:vals 14=_:=f14 (s_ rfl);rw[f14] at Q;simp only[bh,execOp,resolve,invoke,builtin,Sem.run_bind,Sem.run_pure,Result.andThen_ok,q_,p_,n_,Q,hp.1];simp[bQ,go_sem];exact .same f rfl
 ·intro vals w i f m d l hp;obtain⟨⟨f6,R⟩,⟨f10,S⟩,⟨f15,T⟩,-⟩:=(⟨d.1 rfl,d.2.1 rfl,d.2.2.1 rfl,d.2.2.2⟩:_/\_/\_/\_)
  have R:i (.tmp 54)=vals 6:=R _ rfl;have S:i (.tmp 58)=vals 10:=S _ rfl;have T:i (.tmp 63)=vals 15:=T _ rfl;obtain⟨n,c2,f6,aa⟩:∃n c2,vals 6=.slice n o.length c2/\tj W w n c2 o:=f6 (s_ rfl);have f10:vals 10=_:=f10 (s_ rfl);have f15:vals 15=_:=f15 (s_ rfl);rw[f6] at R;rw[f10] at S;rw[f15] at T;simp only[bh,execOp,q_,p_,n_,R,S,T];simp[bQ,go_sem];exact .same f ⟨n,c2,rfl,aa⟩
 ·intro vals w i f m d l hp;obtain⟨⟨f16,U⟩,-⟩:=(⟨d.1 rfl,d.2⟩:_/\_)
  have U:i (.tmp 64)=vals 16:=U _ rfl;obtain⟨n,c2,f16,al⟩:∃n c2,vals 16=.agg #[.slice n o.length c2,.int .i64 bp,.int .i64 (min ac 1099511627776)]/\tj W w n c2 o:=f16 (s_ rfl);rw[f16] at U;simp only[bh,execOp,q_,p_,n_,U];simp[bQ,go_sem];exact .more ag ah (bC w _) (ai w _ f (bC w _)) ⟨n,c2,w.heap.size,rfl,al.below (bC w _),f.size,by simp,by go_simp,by go_simp,by go_simp⟩
 ·intro vals w i f m d l hp;obtain⟨⟨f1,V⟩,⟨f17,X⟩,-⟩:=(⟨d.1 rfl,d.2.1 rfl,d.2.2⟩:_/\_/\_)
  have V:i (.tmp 49)=vals 1:=V _ rfl;have X:i (.tmp 65)=vals 17:=X _ rfl;have f1:vals 1=_:=f1 (s_ rfl);obtain⟨n,c2,b,f17,ak,av,aw,an,ao,aa⟩:∃n c2 b,vals 17=.slice (some ⟨b,0,none⟩) 1 1/\tj W w n c2 o/\W.heap.size<=b/\b<w.heap.size/\w.cell? ⟨b,0,none⟩=some (.slice n o.length c2)/\w.cell? ⟨b,1,none⟩=some (.int .i64 bp)/\w.cell? ⟨b,2,none⟩=some (.int .i64 (min ac 1099511627776)):=f17 (s_ rfl);rw[f1] at V;rw[f17] at X;obtain⟨v',w',g1,g2⟩:=NG w 42 base (.slice A j c) j es (m (Or.inr rfl)) b 1 (Cn n c2 o bp ac) an ao aa C.NJ (i_ C.de f.size);simp only[bh,execOp,resolve,invoke,builtin,Sem.run_bind,Sem.run_pure,Result.andThen_ok,q_,p_,n_,V,X,g1,bQ];obtain⟨⟨ab,kf,ad⟩,ae,af⟩:=ay.kZ g2.1;have af:kf=j+1:=af;subst af;have ae:v'=.slice ab (j+1) ad:=ae;subst ae;refine⟨xG f g2.2.1,⟨n,c2,ab,ad,rfl,ak.grown g2.2.1 C.row,g2.1,?_⟩,λ k u hk _ _ _ aq=>GE.grown W base s A j c es p z B D o bp ac C.row k hk u w w' g2.2.1 aq,λ h=>absurd rfl h⟩;have ar:∀F,n.map (·.block)=some F->(x_ ab (j+1) ad).ownBlock≠some F:=λ F e r=>by
   have ax:=ak.2 F e;rcases g2.2.2 with y|y
   ·rw[y] at r;have:=C.row F r;omega
   ·rw[y] at r;injection r with r;omega
  refine⟨?_,ar⟩;rcases g2.2.2 with y|y
  ·exact .inl y
  ·exact .inr (λ g e=>by rw[y] at e;injection e with e;have:=f.size;omega)
 ·intro vals w i f m d l hp;have Y:i (.tmp 3)=_:=l.1 rfl;simp only[bh,execOp,Y];simp[bQ,go_sem];exact .same f rfl
end
end Go.Proofs.YtogdlkfacflmaaaGreat
