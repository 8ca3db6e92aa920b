/- Parts of the walk of the solver and its core; no condition. -/
import Derived.Test.YtogdlkfacflmaaaGreatZZ12
import Derived.Laws.Rows
import Derived.Test.YtogdlkfacflmaaaGreatZZ6
import Derived.Test.YtogdlkfacflmaaaGreatZZ1
namespace Go.Proofs.YtogdlkfacflmaaaGreat
set_option linter.unusedVariables false
set_option linter.unusedSimpArgs false
set_option maxRecDepth 1000000
set_option maxHeartbeats 8000000
open _root_.And renaming intro→z_
open _root_.List renaming getElem?_cons_zero→y_,getElem?_cons_succ→u_,map_toArray→q_,map_cons→p_,map_nil→n_,length_append→m_,range→j_
open _root_.Go.Value renaming slice→x_,bool→r_
open _root_.Go.Proofs.Tryz renaming prog→w_
open _root_.Nat renaming lt_of_lt_of_le→v_,le_refl→o_,le_trans→i_
open _root_.Go.World renaming cell?_of_block→t_
open _root_.Or renaming inl→s_
open _root_.Option.some renaming injEq→l_
open _root_.Go.Handed renaming intro→k_
open _root_.Go.Value.slice renaming injEq→h_
variable{A B W w0 w:World}{row:Option Nat}{K aZ gX:Nat->Prop}{base G bK gN bg bC aB ja n g m fM jD c:Nat}{hs:Nat->ax}{cb:Nat->Nat}{s aI:aq}{gM:Option Addr}{left next:Int}{a:Act}{F:List (List Int)}{ah act:List Int}{bl jP jA gV gH gn gI gT u16 gp gq gr gG gu gv gw gx gy gz gA gB fO fP fQ u32 fR fS fT fU fV fW fZ ga gb gd gh gC gD ij hU ia bP bQ bR bS bT bU bV bW bX bY bZ b5 b6 b7 b8 u64 b9 cc cg ck cm cn cp cr ct cu cv cw cz cA cB cC cD cE cF cG cH c9 dc de dh di dm dn dr cK cL cM cN cO cQ cR cS cT cU cV cW cZ c4 c5 c6 c7 dw dx dy dz dA dB dD dF dG dH dI dJ dK dL dM dN dO dP dQ dR dS dU dV dW dX dY dZ ec ee ef fG fH fI ei ej ek en eo ep er eu ew ey ez eA fJ fK fL eB eC eD eE eF eG eH eL eM eN eO eP eR eS eT eU eV eW eX eY eZ e3 e4 e5 e6 e7 e8 e9 fc fe ff fh fk fm fo fq gi gj fu fA fB fC fD fE fF iH iI iJ iK iL iM iN iO iP iQ iR iS jg jh ji jj jk jl jm jo jW jX jY jZ j0 j3:Value}{Q:Exit->Act->World->Prop}
section
open Go.RowKit Go.Shelf
theorem wZ{C:World}(h:A.grownBy B row)(k:B.grownBy C row):A.grownBy C row:=
 ⟨k.os.trans h.os,k.tape.trans h.tape,k.output.trans h.output,i_ h.size k.size,λ i a b=>(k.block i (v_ a h.size) b).trans (h.block i a b)⟩
theorem DS(h:A.grownBy B row):A.grownBy B.drew row:=⟨h.os,h.tape,h.output,h.size,h.block⟩
structure vn(K:Nat->Prop)(base:Nat)(W:World)(G:Nat)(hs:Nat->ax)(cb:Nat->Nat)(s:aq)(bg aB n g:Nat)(gU:List Bool):Prop where
 fN:aY (qD K g) base W G hs cb s
 j5:aT W bg 30 [.int .i64 1,.slice (some ⟨g,0,none⟩) (n+1) (n+1),mY,.int .i64 (aB:Int)]
 row:W.ownsRow g 4 1 (.slice (some ⟨g,0,none⟩) (n+1) (n+1)) (n+1) (pL gU)
 ne:g≠bg
theorem vn.set{K:Nat->Prop}{base:Nat}{W:World}{G:Nat}{hs:Nat->ax}{cb:Nat->Nat}{s:aq}{bg aB n g:Nat}{gU:List Bool}(h:vn K base W G hs cb s bg aB n g gU)(k:Nat)(b:Bool):vn K base (W.setCell ⟨g,k,none⟩ (.bool b)) G hs cb s bg aB n g (gU.set k b):=
 ⟨h.fN.uR (.inr rfl) k _,h.j5.kept (k8 W g k _) (λ e=>h.ne (by injection e with e;exact e.symm)),by unfold pL;rw[List.map_set];exact E5 h.row _,h.ne⟩
theorem vn.drew{K:Nat->Prop}{base:Nat}{W:World}{G:Nat}{hs:Nat->ax}{cb:Nat->Nat}{s:aq}{bg aB n g:Nat}{gU:List Bool}(h:vn K base W G hs cb s bg aB n g gU):vn K base W.drew G hs cb s bg aB n g gU:=
 ⟨h.fN.drew,h.j5,mw h.row ((Below.refl _ W).drew),h.ne⟩
structure Hf(K:Nat->Prop)(base:Nat)(V W:World)(G:Nat)(hs:Nat->ax)(cb:Nat->Nat)(s:aq)(bg aB n g k:Nat):Prop where
 st:∃gU:List Bool,vn K base W G hs cb s bg aB n g gU/\gU.length=n+1/\∀j,j<k->iE gU j=decide (0<aj s.c.val j)
 mX:V.grownBy W (some g)
 vv:k<=n+1
inductive yZ(K:Nat->Prop)(base:Nat)(V:World)(G:Nat)(hs:Nat->ax)(cb:Nat->Nat)(s:aq)(gM:Option Addr)(bK gN bg bC aB ja:Nat)(left:Int)(n g:Nat):Nat->Act->World->Prop
 |mk {k:Nat} {bl jP jA gV gH gn iy gI gT u16 gp gq gr gG gu gv gw gx gy gz gA gB fO fP fQ u32 fR fS fT fU fV fW fZ ga gb gd gh gC gD ij hU ia bP bQ bR bS bT bU bV bW bX bY bZ b5 b6 b7 b8 u64 b9 cc cg ck cm cn cp cr ct cu cv cw cz cA cB cC cD cE cF cG cH c9 dc de dh di dm dn dr cK cL cM cN cO cQ cR cS cT cU cV cW cZ c4 c5 c6 c7 dw dx dy dz dA dB dD dF dG dH dI dJ dK dL dM dN dO dP dQ dR dS dU dV dW dX dY dZ ec ee ef fG fH fI ei ej ek en eo ep er eu ew ey ez eA fJ fK fL eB eC eD eE eF eG eH eL eM eN eO eP eR eS eT eU eV eW eX eY eZ e3 e4 e5 e6 e7 e8 e9 fc fe ff fh fk fm fo fq fu fA fB fC fD fE fF iH iI iJ iK iL iM iN iO iP iQ iR iS jg jh ji jj jk jl jm jo jW jX jY jZ j0 j3:Value} {W:World} (h:Hf K base V W G hs cb s bg aB n g k):yZ K base V G hs cb s gM bK gN bg bC aB ja left n g (n+1-k) {tmps:= #[.pointer (some ⟨G,0,none⟩),.slice gM bK gN,.int .i64 (bC:Int),bl,jP,jA,.pointer (some ⟨bg,0,none⟩),.int .i64 (ja:Int),.int .i64 left,.int .i64 2000,gV,gH,gn,iy,gI,gT,u16,gp,gq,gr,gG,gu,gv,gw,gx,gy,gz,gA,gB,fO,fP,fQ,u32,fR,fS,fT,fU,fV,fW,fZ,ga,gb,gd,gh,gC,gD,ij,hU,ia,bP,bQ,bR,bS,bT,bU,bV,bW,bX,bY,bZ,b5,b6,b7,b8,u64,b9,cc,cg,ck,cm,cn,cp,cr,ct,cu,cv,cw,cz,cA,cB,cC,cD,cE,cF,cG,cH,c9,dc,de,dh,di,dm,dn,dr,cK,cL,cM,cN,cO,cQ,cR,cS,cT,cU,cV,cW,cZ,c4,c5,c6,c7,dw,dx,dy,dz,dA,dB,dD,dF,dG,dH,dI,dJ,dK,dL,dM,dN,dO,dP,dQ,dR,dS,dU,dV,dW,dX,dY,dZ,ec,ee,ef,fG,fH,fI,ei,ej,ek,en,eo,ep,er,eu,ew,ey,ez,eA,fJ,fK,fL,eB,eC,eD,eE,eF,eG,eH,eL,eM,eN,eO,eP,eR,eS,eT,eU,eV,eW,eX,eY,eZ,e3,e4,e5,e6,e7,e8,e9,fc,fe,ff,fh,fk,fm,fo,fq,.int .i64 ((n:Int)+1),.int .i64 (k:Int),fu,fA,fB,fC,fD,fE,fF,iH,iI,iJ,iK,iL,iM,iN,iO,iP,iQ,iR,iS,jg,jh,ji,jj,jk,jl,jm,jo,jW,jX,jY,jZ,j0,j3],defers:=[]} W
theorem yZ.elim{V:World}(b:yZ K base V G hs cb s gM bK gN bg bC aB ja left n g m a W){P:Prop}
  (k:∀{k:Nat}{c d e f i j l o p u16 q r t u v w x y z A B C D E F u32 H I J L M N O Q R S T U X Y Z aa ab ad ae af ag ah ai aj ak al an ao ar au av u64 aw ay az aA aC aD aE aF aG aH aI aJ aK aL aM aN aO aP aQ aR aS aT aU aV aW aX aY aZ a6 a7 a8 a' ba bb bc bd bf bh bj bk bl bn bo bp bq br bs bt bu bw bx bz bA bB bD bE bF bG bH bI bJ bL bM bN bO bP bQ bR bS bT bU bV bW bX bY bZ b0 b1 b2 b3 b4 b5 b6 b7 b8 b9 b' ca cc cd cf cg ch cj ck cm cn cp cq cr ct cu cv cw cx cy cz cA cB cC cD cE cF cG cH cI cJ cK cL cM cN cO cP cQ cR cS cT cU cV cW cX cY cZ c0 c4 c5 c6 c7 c8 c9 da db dc dd de df dh di dj dk dm dn dp dq dr dt du dv dw dx dy dz dA:Value},a={tmps:= #[.pointer (some ⟨G,0,none⟩),.slice gM bK gN,.int .i64 (bC:Int),c,d,e,.pointer (some ⟨bg,0,none⟩),.int .i64 (ja:Int),.int .i64 left,.int .i64 2000,f,i,j,l,o,p,u16,q,r,t,u,v,w,x,y,z,A,B,C,D,E,F,u32,H,I,J,L,M,N,O,Q,R,S,T,U,X,Y,Z,aa,ab,ad,ae,af,ag,ah,ai,aj,ak,al,an,ao,ar,au,av,u64,aw,ay,az,aA,aC,aD,aE,aF,aG,aH,aI,aJ,aK,aL,aM,aN,aO,aP,aQ,aR,aS,aT,aU,aV,aW,aX,aY,aZ,a6,a7,a8,a',ba,bb,bc,bd,bf,bh,bj,bk,bl,bn,bo,bp,bq,br,bs,bt,bu,bw,bx,bz,bA,bB,bD,bE,bF,bG,bH,bI,bJ,bL,bM,bN,bO,bP,bQ,bR,bS,bT,bU,bV,bW,bX,bY,bZ,b0,b1,b2,b3,b4,b5,b6,b7,b8,b9,b',ca,cc,cd,cf,cg,ch,cj,ck,cm,cn,cp,cq,cr,ct,cu,cv,cw,cx,cy,cz,cA,cB,cC,cD,cE,cF,cG,cH,cI,cJ,cK,cL,cM,cN,cO,cP,cQ,cR,cS,cT,cU,cV,cW,.int .i64 ((n:Int)+1),.int .i64 (k:Int),cX,cY,cZ,c0,c4,c5,c6,c7,c8,c9,da,db,dc,dd,de,df,dh,di,dj,dk,dm,dn,dp,dq,dr,dt,du,dv,dw,dx,dy,dz,dA],defers:=[]}->m=n+1-k->Hf K base V W G hs cb s bg aB n g k->P):P:=by
 cases b with
 |mk h=>exact k rfl rfl h
noncomputable def Hg:Code:=Dw (mU (mU (mU (mU (mU BS)))))
noncomputable def M1:Code:=mU (By (mU Hg))
theorem M3{K:Nat->Prop}{base:Nat}{V:World}{G:Nat}{hs:Nat->ax}{cb:Nat->Nat}{s:aq}{gM:Option Addr}{bK gN bg bC aB ja:Nat}{left:Int}{n g:Nat}{BW:List Bool}{bl jP jA gV gH gn iy gI gT u16 gp gq gr gG gu gv gw gx gy gz gA gB fO fP fQ u32 fR fS fT fU fV fW fZ ga gb gd gh gC gD ij hU ia bP bQ bR bS bT bU bV bW bX bY bZ b5 b6 b7 b8 u64 b9 cc cg ck cm cn cp cr ct cu cv cw cz cA cB cC cD cE cF cG cH c9 dc de dh di dm dn dr cK cL cM cN cO cQ cR cS cT cU cV cW cZ c4 c5 c6 c7 dw dx dy dz dA dB dD dF dG dH dI dJ dK dL dM dN dO dP dQ dR dS dU dV dW dX dY dZ ec ee ef fG fH fI ei ej ek en eo ep er eu ew ey ez eA fJ fK fL eB eC eD eE eF eG eH eL eM eN eO eP eR eS eT eU eV eW eX eY eZ e3 e4 e5 e6 e7 e8 e9 fc fe ff fh fk fm fo fq gi gj fu fA fB fC fD fE fF iH iI iJ iK iL iM iN iO iP iQ iR iS jg jh ji jj jk jl jm jo jW jX jY jZ j0 j3:Value}{Q:Exit->Act->World->Prop}
  (p:vn K base V G hs cb s bg aB n g BW) (v:BW.length=n+1) (ai:n<=10) (ak:s.c.val.length=n+1)
  (w:∀(d:List Bool)(bl jP jA gV gH gn iy gI gT u16 gp gq gr gG gu gv gw gx gy gz gA gB fO fP fQ u32 fR fS fT fU fV fW fZ ga gb gd gh gC gD ij hU ia bP bQ bR bS bT bU bV bW bX bY bZ b5 b6 b7 b8 u64 b9 cc cg ck cm cn cp cr ct cu cv cw cz cA cB cC cD cE cF cG cH c9 dc de dh di dm dn dr cK cL cM cN cO cQ cR cS cT cU cV cW cZ c4 c5 c6 c7 dw dx dy dz dA dB dD dF dG dH dI dJ dK dL dM dN dO dP dQ dR dS dU dV dW dX dY dZ ec ee ef fG fH fI ei ej ek en eo ep er eu ew ey ez eA fJ fK fL eB eC eD eE eF eG eH eL eM eN eO eP eR eS eT eU eV eW eX eY eZ e3 e4 e5 e6 e7 e8 e9 fc fe ff fh fk fm fo fq gi gj fu fA fB fC fD fE fF iH iI iJ iK iL iM iN iO iP iQ iR iS jg jh ji jj jk jl jm jo jW jX jY jZ j0 j3:Value)(W':World),vn K base W' G hs cb s bg aB n g d->d.length=n+1->(∀j,j<n+1->iE d j=decide (0<aj s.c.val j))->V.grownBy W' (some g)->Q .ret {tmps:= #[.pointer (some ⟨G,0,none⟩),.slice gM bK gN,.int .i64 (bC:Int),bl,jP,jA,.pointer (some ⟨bg,0,none⟩),.int .i64 (ja:Int),.int .i64 left,.int .i64 2000,gV,gH,gn,iy,gI,gT,u16,gp,gq,gr,gG,gu,gv,gw,gx,gy,gz,gA,gB,fO,fP,fQ,u32,fR,fS,fT,fU,fV,fW,fZ,ga,gb,gd,gh,gC,gD,ij,hU,ia,bP,bQ,bR,bS,bT,bU,bV,bW,bX,bY,bZ,b5,b6,b7,b8,u64,b9,cc,cg,ck,cm,cn,cp,cr,ct,cu,cv,cw,cz,cA,cB,cC,cD,cE,cF,cG,cH,c9,dc,de,dh,di,dm,dn,dr,cK,cL,cM,cN,cO,cQ,cR,cS,cT,cU,cV,cW,cZ,c4,c5,c6,c7,dw,dx,dy,dz,dA,dB,dD,dF,dG,dH,dI,dJ,dK,dL,dM,dN,dO,dP,dQ,dR,dS,dU,dV,dW,dX,dY,dZ,ec,ee,ef,fG,fH,fI,ei,ej,ek,en,eo,ep,er,eu,ew,ey,ez,eA,fJ,fK,fL,eB,eC,eD,eE,eF,eG,eH,eL,eM,eN,eO,eP,eR,eS,eT,eU,eV,eW,eX,eY,eZ,e3,e4,e5,e6,e7,e8,e9,fc,fe,ff,fh,fk,fm,fo,fq,gi,gj,fu,fA,fB,fC,fD,fE,fF,iH,iI,iJ,iK,iL,iM,iN,iO,iP,iQ,iR,iS,jg,jh,ji,jj,jk,jl,jm,jo,jW,jX,jY,jZ,j0,j3],defers:=[]} (((((W'.setCell ⟨bg,0,none⟩ (.int .i64 1)).setCell ⟨bg,1,none⟩ (.slice (some ⟨g,0,none⟩) (n+1) (n+1)))).setCell ⟨bg,2,none⟩ (.slice none 0 0)).setCell ⟨bg,3,none⟩ (.int .i64 (aB:Int)))):
  Code.wp w_ M1 Q {tmps:= #[.pointer (some ⟨G,0,none⟩),.slice gM bK gN,.int .i64 (bC:Int),bl,jP,jA,.pointer (some ⟨bg,0,none⟩),.int .i64 (ja:Int),.int .i64 left,.int .i64 2000,gV,gH,gn,iy,gI,gT,u16,gp,gq,gr,gG,gu,gv,gw,gx,gy,gz,gA,gB,fO,fP,fQ,u32,fR,fS,fT,fU,fV,fW,fZ,ga,gb,gd,gh,gC,gD,ij,hU,ia,bP,bQ,bR,bS,bT,bU,bV,bW,bX,bY,bZ,b5,b6,b7,b8,u64,b9,cc,cg,ck,cm,cn,cp,cr,ct,cu,cv,cw,cz,cA,cB,cC,cD,cE,cF,cG,cH,c9,dc,de,dh,di,dm,dn,dr,cK,cL,cM,cN,cO,cQ,cR,cS,cT,cU,cV,cW,cZ,c4,c5,c6,c7,dw,dx,dy,dz,dA,dB,dD,dF,dG,dH,dI,dJ,dK,dL,dM,dN,dO,dP,dQ,dR,dS,dU,dV,dW,dX,dY,dZ,ec,ee,ef,fG,fH,fI,ei,ej,ek,en,eo,ep,er,eu,ew,ey,ez,eA,fJ,fK,fL,eB,eC,eD,eE,eF,eG,eH,eL,eM,eN,eO,eP,eR,eS,eT,eU,eV,eW,eX,eY,eZ,e3,e4,e5,e6,e7,e8,e9,fc,fe,ff,fh,fk,fm,fo,fq,gi,gj,fu,fA,fB,fC,fD,fE,fF,iH,iI,iJ,iK,iL,iM,iN,iO,iP,iQ,iR,iS,jg,jh,ji,jj,jk,jl,jm,jo,jW,jX,jY,jZ,j0,j3],defers:=[]} V:=by
 have M:=U w;have b:=p.j5.cell 1;simp only[mY,y_,u_] at b;have x:=U p;clear w p
 conv=>arg 2;whnf
 dsimp only
 go_upto_region 44 with fail
 clear b;refine wp_loop_ghost_k (yZ K base V G hs cb s gM bK gN bg bC aB ja left n g) (n+1-0) ?start ?round
 case start=>exact yZ.mk ⟨⟨BW,x.o,v,λ j N=>by omega⟩,⟨rfl,rfl,rfl,o_ _,λ _ _ _=>rfl⟩,Nat.zero_le _⟩
 case round=>
  clear x v BW;intro m a W z al an A B;refine z.elim ?_;intro k bl jP jA gV gH gn iy gI gT u16 gp gq gr gG gu gv gw gx gy gz gA gB fO fP fQ u32 fR fS fT fU fV fW fZ ga gb gd gh gC gD ij hU ia bP bQ bR bS bT bU bV bW bX bY bZ b5 b6 b7 b8 u64 b9 cc cg ck cm cn cp cr ct cu cv cw cz cA cB cC cD cE cF cG cH c9 dc de dh di dm dn dr cK cL cM cN cO cQ cR cS cT cU cV cW cZ c4 c5 c6 c7 dw dx dy dz dA dB dD dF dG dH dI dJ dK dL dM dN dO dP dQ dR dS dU dV dW dX dY dZ ec ee ef fG fH fI ei ej ek en eo ep er eu ew ey ez eA fJ fK fL eB eC eD eE eF eG eH eL eM eN eO eP eR eS eT eU eV eW eX eY eZ e3 e4 e5 e6 e7 e8 e9 fc fe ff fh fk fm fo fq fu fA fB fC fD fE fF iH iI iJ iK iL iM iN iO iP iQ iR iS jg jh ji jj jk jl jm jo jW jX jY jZ j0 j3 O hm H;clear z;subst O;subst hm;obtain⟨⟨d,C,D,E⟩,F,f⟩:=H;have Y:=U C;have X:=U (z_ D (z_ E (z_ F f)));have P:=U A;have R:=U B;clear C D E F f A B
  by_cases q:k<n+1
  ·have r:(k:Int)<(n:Int)+1:=by omega
   have S:decide ((k:Int)<(n:Int)+1)=true:=decide_eq_true r;have b:=Y.o.j5.cell 1;simp only[mY,y_,u_] at b;have I:k<s.c.val.length:=by omega
   obtain⟨i,t,T,Z⟩:=Y.o.fN.e.lV 2 1 rfl Y.o.fN.e.js (by omega);have J:=Y.o.fN.e.zK t (k:=k) I;obtain⟨y,u⟩:∃y,aj s.c.val k=y:=⟨_,rfl⟩
   rw[u] at J;have ao:(k:Int)<(s.c.val.length:Int):=by omega
   have L:=Y.o.row.cellAt k (by omega);have ar:=Y.o.row.frozenAt k;have aa:=(Y.o.row.lt g rfl).2;have au:W.cell? ⟨g,k,none⟩=some (.bool (iE d k)):=by
    rw[L];unfold pL;rw[List.getElem?_map,List.getElem?_eq_getElem (by have:=X.o.1;omega),A2 (by have:=X.o.1;omega)];rfl
   have js:g≠G:=λ e=>Y.o.fN.s.g (by rw[<-e];exact .inr rfl)
   have av:g≠bg:=Y.o.ne;have aw:g≠i:=λ e=>Y.o.fN.s.row 1 i t (by rw[<-e];exact .inr rfl)
   have l:=U (z_ q u);have ay:IntKind.i64.wrap ((k:Int)+1)=(k:Int)+1:=by rw[IntKind.wrap_i64];omega
   clear q u t Z L I aa
   go_upto_region 46 with fail
   go_region_held3 (λ w'=>w'.cell? ⟨bg,1,none⟩=some (.slice (some ⟨g,0,none⟩) (n+1) (n+1))/\w'.cell? ⟨G,2,none⟩=some (.slice (some ⟨i,0,none⟩) s.c.val.length (hs 1).c)/\w'.cell? ⟨i,k,none⟩=some (.int .i8 y)) (first|exact⟨b,T,J⟩|go_keep) (fail)
   have ab:=(Y.o.set k (decide (0<y))).drew;have ad:=DS (wZ X.o.2.2.1 (k8 W g k (.bool (decide (0<y)))))
   go_wp2_with fail
   refine R.o _ _ (k_ (n+1-(k+1)) (by have:=l.o.1;omega) (P.o _ _ _ (yZ.mk (k:=k+1) ⟨⟨_,ab,by rw[List.length_set];exact X.o.1,λ j N=>?_⟩,ad,by have:=l.o.1;omega⟩)));rw[zw]
   by_cases e:k=j
   ·subst e;rw[if_pos ⟨rfl,by have:=X.o.1;have:=l.o.1;omega⟩,l.o.2]
   ·rw[if_neg (λ h=>e h.1)];exact X.o.2.1 j (by omega)
  ·have r:¬(k:Int)<(n:Int)+1:=by omega
   have S:decide ((k:Int)<(n:Int)+1)=false:=decide_eq_false r;have f:k=n+1:=by have:=X.o.2.2.2;omega
   have ae:=U f;have af:=Y.o.j5.cell 0;have b:=Y.o.j5.cell 1;have ag:=Y.o.j5.cell 2;have ah:=Y.o.j5.cell 3;have az:=Y.o.j5.free 0;have aA:=Y.o.j5.free 1;have aC:=Y.o.j5.free 2;have aD:=Y.o.j5.free 3;simp only[mY,y_,u_] at af b ag ah;clear q f
   go_wp2_with fail
   apply M.o d
   ·exact Y.o
   ·exact X.o.1
   ·rw[<-ae.o];exact X.o.2.1
   ·exact X.o.2.2.1
theorem Ak:(w_.info? 4).map (λ i=>(i.zero,i.size,i.bytes))=some (some (.bool false),1,1):=by kernel_rfl
theorem M4{gM:Option Addr}{bK gN:Nat}{h:Nat}(S:mL aZ gX base w0 G F ah n fM jD aI bg bC K W hs cb s aB h)(o:n<=10):
  vn K base ((((W.setCell ⟨bg,0,none⟩ (.int .i64 1)).setCell ⟨bg,1,none⟩ (.slice (some ⟨W.heap.size,0,none⟩) (n+1) (n+1))).alloc (.cells (madeCells (r_ false).cells (n+1)) 4)).drew) G hs cb s bg aB n W.heap.size (List.replicate (n+1) false)/\
  aG (λ b=>K b/\b≠bg) W ((((W.setCell ⟨bg,0,none⟩ (.int .i64 1)).setCell ⟨bg,1,none⟩ (.slice (some ⟨W.heap.size,0,none⟩) (n+1) (n+1))).alloc (.cells (madeCells (r_ false).cells (n+1)) 4)).drew):=by
 have f:=(S.fN.uR S.sB 0 (.int .i64 1)).uR S.sB 1 (.slice (some ⟨W.heap.size,0,none⟩) (n+1) (n+1));have i:=(aG.DL S 0 (.int .i64 1)).trans (aG.set (K:=λ b=>K b/\b≠bg) bg 1 (.slice (some ⟨W.heap.size,0,none⟩) (n+1) (n+1)) (λ a=>a.2 rfl));have j:=(S.j5.set 0 (.int .i64 1)).set 1 (.slice (some ⟨W.heap.size,0,none⟩) (n+1) (n+1));have k:((W.setCell ⟨bg,0,none⟩ (.int .i64 1)).setCell ⟨bg,1,none⟩ (.slice (some ⟨W.heap.size,0,none⟩) (n+1) (n+1))).heap.size=W.heap.size:=by simp
 have p:=S.j5.lt;generalize (W.setCell ⟨bg,0,none⟩ (.int .i64 1)).setCell ⟨bg,1,none⟩ (.slice (some ⟨W.heap.size,0,none⟩) (n+1) (n+1))=c at*;have a:=(bz c (.cells (madeCells (r_ false).cells (n+1)) 4)).drew;have l:((c.alloc (.cells (madeCells (r_ false).cells (n+1)) 4)).drew).ownsRow W.heap.size 4 1 (.slice (some ⟨W.heap.size,0,none⟩) (n+1) (n+1)) (n+1) ((List.replicate (n+1) false).map r_):=by
  rw[<-k];refine⟨by simp,Or.inr ⟨c.heap.size,n+1,_,rfl,o_ _,heap_alloc_new c _,o_ _,by unfold maxLen;omega,by rw[size_madeCells];omega,?_⟩⟩;show(madeCells #[r_ false] (n+1)).toList.take ((n+1)*1)=_;rw[toList_madeCells_one];simp
 have g:=(f.below a)
 refine⟨⟨g.1.qD (by show _<(c.alloc _).heap.size;simp;omega) (by have:=f.e.box.lt;omega) (λ r e=>by have:=(f.e.rows.lt e).2;omega) (λ d m e=>by have:=(f.e.cls d m).lt;omega),j.below a,l,by omega⟩,i.trans (g.2.mono λ b a=>a.1)⟩
theorem M5
  (C:r5 aZ gX w0 F ah n fM jD aI gM bK gN bC) (S:next=0->mL aZ gX base w0 G F ah n fM jD aI bg bC K W hs cb s aB s.c.ag/\s.c.ag=s.c.av.length/\s.c.l9=false/\ah.length<=s.c.st.length/\s.ord.length=0)
  (l:∀(bl jP jA gV gH gn gI gT u16 gp gq gr gG gu gv gw gx gy gz gA gB fO fP fQ u32 fR fS fT fU fV fW fZ ga gb gd gh gC gD ij hU ia bP bQ bR bS bT bU bV bW bX bY bZ b5 b6 b7 b8 u64 b9 cc cg ck cm cn cp cr ct cu cv cw cz cA cB cC cD cE cF cG cH c9 dc de dh di dm dn dr cK cL cM cN cO cQ cR cS cT cU cV cW cZ c4 c5 c6 c7 dw dx dy dz dA dB dD dF dG dH dI dJ dK dL dM dN dO dP dQ dR dS dU dV dW dX dY dZ ec ee ef fG fH fI ei ej ek en eo ep er eu ew ey ez eA fJ fK fL eB eC eD eE eF eG eH eL eM eN eO eP eR eS eT eU eV eW eX eY eZ e3 e4 e5 e6 e7 e8 e9 fc fe ff fh fk fm fo fq gi gj fu fA fB fC fD fE fF iH iI iJ iK iL iM iN iO iP iQ iR iS jg jh ji jj jk jl jm jo jW jX jY jZ j0 j3:Value),next≠0->Q .normal {tmps:= #[.pointer (some ⟨G,0,none⟩),.slice gM bK gN,.int .i64 (bC:Int),bl,jP,jA,.pointer (some ⟨bg,0,none⟩),.int .i64 (ja:Int),.int .i64 left,.int .i64 2000,gV,gH,gn,.int .i64 next,gI,gT,u16,gp,gq,gr,gG,gu,gv,gw,gx,gy,gz,gA,gB,fO,fP,fQ,u32,fR,fS,fT,fU,fV,fW,fZ,ga,gb,gd,gh,gC,gD,ij,hU,ia,bP,bQ,bR,bS,bT,bU,bV,bW,bX,bY,bZ,b5,b6,b7,b8,u64,b9,cc,cg,ck,cm,cn,cp,cr,ct,cu,cv,cw,cz,cA,cB,cC,cD,cE,cF,cG,cH,c9,dc,de,dh,di,dm,dn,dr,cK,cL,cM,cN,cO,cQ,cR,cS,cT,cU,cV,cW,cZ,c4,c5,c6,c7,dw,dx,dy,dz,dA,dB,dD,dF,dG,dH,dI,dJ,dK,dL,dM,dN,dO,dP,dQ,dR,dS,dU,dV,dW,dX,dY,dZ,ec,ee,ef,fG,fH,fI,ei,ej,ek,en,eo,ep,er,eu,ew,ey,ez,eA,fJ,fK,fL,eB,eC,eD,eE,eF,eG,eH,eL,eM,eN,eO,eP,eR,eS,eT,eU,eV,eW,eX,eY,eZ,e3,e4,e5,e6,e7,e8,e9,fc,fe,ff,fh,fk,fm,fo,fq,gi,gj,fu,fA,fB,fC,fD,fE,fF,iH,iI,iJ,iK,iL,iM,iN,iO,iP,iQ,iR,iS,jg,jh,ji,jj,jk,jl,jm,jo,jW,jX,jY,jZ,j0,j3],defers:=[]} W)
  (m:∀(K:Nat->Prop)(hs:Nat->ax)(cb:Nat->Nat)(s':aq)(h':Nat)(p:Option Addr)(r t:Nat)(bl jP jA gV gH gn u gI gT u16 gp gq gr gG gu gv gw gx gy gz gA gB fO fP fQ u32 fR fS fT fU fV fW fZ ga gb gd gh gC gD ij hU ia bP bQ bR bS bT bU bV bW bX bY bZ b5 b6 b7 b8 u64 b9 cc cg ck cm cn cp cr ct cu cv cw cz cA cB cC cD cE cF cG cH c9 dc de dh di dm dn dr cK cL cM cN cO cQ cR cS cT cU cV cW cZ c4 c5 c6 c7 dw dx dy dz dA dB dD dF dG dH dI dJ dK dL dM dN dO dP dQ dR dS dU dV dW dX dY dZ ec ee ef fG fH fI ei ej ek en eo ep er eu ew ey ez eA fJ fK fL eB eC eD eE eF eG eH eL eM eN eO eP eR eS eT eU eV eW eX eY eZ e3 e4 e5 e6 e7 e8 e9 fc fe ff fh fk fm fo fq gi gj fu fA fB fC fD fE fF iH iI iJ iK iL iM iN iO iP iQ iR iS jg jh ji jj jk jl jm jo jW jX jY jZ j0 j3:Value)(W':World),r6 aZ gX base w0 G F ah n fM aI bg bC K W' hs cb s' aB h' 1 p r t none 0 0->aT W' bg 30 [.int .i64 1,.slice p r t,mY,.int .i64 (aB:Int)]->Q .ret {tmps:= #[.pointer (some ⟨G,0,none⟩),.slice gM bK gN,.int .i64 (bC:Int),bl,jP,jA,.pointer (some ⟨bg,0,none⟩),.int .i64 (ja:Int),.int .i64 left,.int .i64 2000,gV,gH,gn,u,gI,gT,u16,gp,gq,gr,gG,gu,gv,gw,gx,gy,gz,gA,gB,fO,fP,fQ,u32,fR,fS,fT,fU,fV,fW,fZ,ga,gb,gd,gh,gC,gD,ij,hU,ia,bP,bQ,bR,bS,bT,bU,bV,bW,bX,bY,bZ,b5,b6,b7,b8,u64,b9,cc,cg,ck,cm,cn,cp,cr,ct,cu,cv,cw,cz,cA,cB,cC,cD,cE,cF,cG,cH,c9,dc,de,dh,di,dm,dn,dr,cK,cL,cM,cN,cO,cQ,cR,cS,cT,cU,cV,cW,cZ,c4,c5,c6,c7,dw,dx,dy,dz,dA,dB,dD,dF,dG,dH,dI,dJ,dK,dL,dM,dN,dO,dP,dQ,dR,dS,dU,dV,dW,dX,dY,dZ,ec,ee,ef,fG,fH,fI,ei,ej,ek,en,eo,ep,er,eu,ew,ey,ez,eA,fJ,fK,fL,eB,eC,eD,eE,eF,eG,eH,eL,eM,eN,eO,eP,eR,eS,eT,eU,eV,eW,eX,eY,eZ,e3,e4,e5,e6,e7,e8,e9,fc,fe,ff,fh,fk,fm,fo,fq,gi,gj,fu,fA,fB,fC,fD,fE,fF,iH,iI,iJ,iK,iL,iM,iN,iO,iP,iQ,iR,iS,jg,jh,ji,jj,jk,jl,jm,jo,jW,jX,jY,jZ,j0,j3],defers:=[]} W'):
  Code.wp w_ Hg Q {tmps:= #[.pointer (some ⟨G,0,none⟩),.slice gM bK gN,.int .i64 (bC:Int),bl,jP,jA,.pointer (some ⟨bg,0,none⟩),.int .i64 (ja:Int),.int .i64 left,.int .i64 2000,gV,gH,gn,.int .i64 next,gI,gT,u16,gp,gq,gr,gG,gu,gv,gw,gx,gy,gz,gA,gB,fO,fP,fQ,u32,fR,fS,fT,fU,fV,fW,fZ,ga,gb,gd,gh,gC,gD,ij,hU,ia,bP,bQ,bR,bS,bT,bU,bV,bW,bX,bY,bZ,b5,b6,b7,b8,u64,b9,cc,cg,ck,cm,cn,cp,cr,ct,cu,cv,cw,cz,cA,cB,cC,cD,cE,cF,cG,cH,c9,dc,de,dh,di,dm,dn,dr,cK,cL,cM,cN,cO,cQ,cR,cS,cT,cU,cV,cW,cZ,c4,c5,c6,c7,dw,dx,dy,dz,dA,dB,dD,dF,dG,dH,dI,dJ,dK,dL,dM,dN,dO,dP,dQ,dR,dS,dU,dV,dW,dX,dY,dZ,ec,ee,ef,fG,fH,fI,ei,ej,ek,en,eo,ep,er,eu,ew,ey,ez,eA,fJ,fK,fL,eB,eC,eD,eE,eF,eG,eH,eL,eM,eN,eO,eP,eR,eS,eT,eU,eV,eW,eX,eY,eZ,e3,e4,e5,e6,e7,e8,e9,fc,fe,ff,fh,fk,fm,fo,fq,gi,gj,fu,fA,fB,fC,fD,fE,fF,iH,iI,iJ,iK,iL,iM,iN,iO,iP,iQ,iR,iS,jg,jh,ji,jj,jk,jl,jm,jo,jW,jX,jY,jZ,j0,j3],defers:=[]} W:=by
 have M:=U l;have N:=U m;have f:=U C;have h:=U S;clear l m C S
 conv=>arg 2;whnf
 dsimp only
 by_cases i:next=0
 ·subst i;have a:=U (h.o rfl);clear h;have O:W.cell? ⟨G,0,none⟩=some (.int .i64 (n:Int)):=by have:=a.o.1.fN.e.kJ (k:=0) (v:=.int .i64 (s.c.n:Int)) rfl;rw[a.o.1.kg.rg.iX] at this;exact this
  have R:=a.o.1.j5.cell 0;have T:=a.o.1.j5.cell 1;have V:=a.o.1.j5.cell 2;have X:=a.o.1.j5.cell 3;have au:=a.o.1.j5.free 0;have aw:=a.o.1.j5.free 1;have ay:=a.o.1.j5.free 2;have az:=a.o.1.j5.free 3;simp only[mY,y_,u_] at R T V X;obtain⟨i0,w,x,y,z⟩:=info_parts Ak;have aA:=f.o.n10;have Z:∀W:World,(Instr.makeSlice 28 (.int .i64 ((n:Int)+1)) (.int .i64 ((n:Int)+1))).run w_ W=.ok (.slice (some ⟨W.heap.size,0,none⟩) (n+1) (n+1)) (W.alloc (.cells (madeCells (r_ false).cells (n+1)) 4)):=λ W=>by
   have:=run_make (P:=w_) W 28 4 i0 (.bool false) Tryz.underlying28 w x .i64 .i64 ((n:Int)+1) ((n:Int)+1) (by omega) (by omega) (by rw[z];omega) (by omega);rw[y,show((n:Int)+1).toNat=n+1 by omega,Nat.mul_one] at this;exact this
  have wn:IntKind.i64.wrap ((n:Int)+1)=(n:Int)+1:=by rw[IntKind.wrap_i64];omega
  have aC:=a.o.1.j5.lt;have aD:=a.o.1.fN.e.box.lt;have aa:G≠bg:=λ e=>a.o.1.fN.s.g (by rw[e];exact a.o.1.sB)
  have aE:bg≠G:=λ e=>aa e.symm
  clear w x y z;generalize A:madeCells (r_ false).cells (n+1)=cs at Z;have ab:=U A;clear A
  go_upto_region 42 with fail
  rename_i ad B;have ae:=U B;clear B
  go_region_held3 (λ w'=>w'.cell? ⟨G,0,none⟩=some (.int .i64 (n:Int))) (first|exact O|go_keep) (fail)
  all_goals
   show ad _ _;apply ae.o;rw[<-ab.o];obtain⟨af,D⟩:=M4 (gM:=gM) (bK:=bK) (gN:=gN) a.o.1 f.o.n10;refine M3 af (by simp) f.o.n10 (by rw[a.o.1.kg.gR.aK.ru,a.o.1.kg.rg.iX]) ?_;intro E bl jP jA gV gH gn u gI gT u16 gp gq gr gG gu gv gw gx gy gz gA gB fO fP fQ u32 fR fS fT fU fV fW fZ ga gb gd gh gC gD ij hU ia bP bQ bR bS bT bU bV bW bX bY bZ b5 b6 b7 b8 u64 b9 cc cg ck cm cn cp cr ct cu cv cw cz cA cB cC cD cE cF cG cH c9 dc de dh di dm dn dr cK cL cM cN cO cQ cR cS cT cU cV cW cZ c4 c5 c6 c7 dw dx dy dz dA dB dD dF dG dH dI dJ dK dL dM dN dO dP dQ dR dS dU dV dW dX dY dZ ec ee ef fG fH fI ei ej ek en eo ep er eu ew ey ez eA fJ fK fL eB eC eD eE eF eG eH eL eM eN eO eP eR eS eT eU eV eW eX eY eZ e3 e4 e5 e6 e7 e8 e9 fc fe ff fh fk fm fo fq gi gj fu fA fB fC fD fE fF iH iI iJ iK iL iM iN iO iP iQ iR iS jg jh ji jj jk jl jm jo jW jX jY jZ j0 j3 W' Y H ai aj;have I:=a.o.1.kg.rg.iX;have hm:E=vK s:=by
    refine List.ext_getElem (by rw[Kn,H,I]) (λ j h1 ak=>?_);have J:=ai j (by omega);rw[A2 h1] at J;rw[<-A2 ak,Db s (by rw[I];omega),J]
   have L:aG (λ b=>K b/\b≠bg) W W':=D.trans (aG.grown aj (λ b d=>v_ (a.o.1.fN.s.lt b d.1) D.size) (λ b e d=>by injection e with e;have:=a.o.1.fN.s.lt b d.1;omega));have f0:aG gX W W':=L.mono λ b d=>⟨a.o.1.q9 b d,λ e=>a.o.1.tG (e▸d)⟩
   obtain⟨hF,al⟩:=a.o.1.kg.yes a.o.2.1 a.o.2.2.1 a.o.2.2.2.2 f.o.lit a.o.2.2.2.1;have an:r6 aZ gX base w0 G F ah n fM aI bg bC (qD K W.heap.size) W' hs cb s aB s.c.ag 1 (some ⟨W.heap.size,0,none⟩) (n+1) (n+1) none 0 0:=by
    refine⟨λ b d=>.inl (a.o.1.q9 b d),Y.fN,a.o.1.jr.trans f0,a.o.1.kg,.inl a.o.1.sB,a.o.1.tG,a.o.1.wS.kept (f0.mono λ b d=>d.1) rfl rfl,λ q ao=>((a.o.1.wT q ao).jr (L.mono λ b d=>d.1)).mono λ b d=>⟨⟨.inl d.1.1,d.1.2⟩,d.2⟩,a.o.1.wU,a.o.1.uS,a.o.1.mQ,.inl ⟨rfl,rfl,E,kE.kW Y.row (by have:=f.o.n10;omega),λ b e=>?_,H,by rw[hm];exact a.o.1.kg.Ko,by rw[hm];exact hF,by rw[hm];exact al⟩⟩;injection e with e
    have e:W.heap.size=b:=e;subst e;exact⟨⟨.inr rfl,Y.ne⟩,f.o.DJ (a.o.1.jr.size)⟩
   apply N.o
   ·exact((((an.set 0 _).set 1 _).set 2 _).set 3 _)
   ·exact(((Y.j5.set 0 _).set 1 _).set 2 _).set 3 _
 ·have aF:decide (next=0)=false:=decide_eq_false i;have ar:=U i;clear h
  go_wp2_with fail
  apply M.o;exact ar.o
noncomputable def M6:Code:=mU (mU (mU (mU (mU (mU BS)))))
theorem M7{k4:Nat}{ox:List Int}
  (C:r5 aZ gX w0 F ah n fM jD aI gM bK gN bC) (D:DR aZ gX base w0 G F ah n fM jD aI bg bC K cb aB k4 ox hs s next W)
  (z:∀(hs':Nat->ax)(s':aq)(bl jP jA gV gH gn X gI gT u16 gp gq gr gG gu gv gw gx gy gz gA gB fO fP fQ u32 fR fS fT fU fV fW fZ ga gb gd gh gC gD ij hU ia bP bQ bR bS bT bU bV bW bX bY bZ b5 b6 b7 b8 u64 b9 cc cg ck cm cn cp cr ct cu cv cw cz cA cB cC cD cE cF cG cH c9 dc de dh di dm dn dr cK cL cM cN cO cQ cR cS cT cU cV cW cZ c4 c5 c6 c7 dw dx dy dz dA dB dD dF dG dH dI dJ dK dL dM dN dO dP dQ dR dS dU dV dW dX dY dZ ec ee ef fG fH fI ei ej ek en eo ep er eu ew ey ez eA fJ fK fL eB eC eD eE eF eG eH eL eM eN eO eP eR eS eT eU eV eW eX eY eZ e3 e4 e5 e6 e7 e8 e9 fc fe ff fh fk fm fo fq gi gj fu fA fB fC fD fE fF iH iI iJ iK iL iM iN iO iP iQ iR iS jg jh ji jj jk jl jm jo jW jX jY jZ j0 j3:Value)(W':World),mL aZ gX base w0 G F ah n fM jD aI bg bC K W' hs' cb s' aB s'.c.ag->s'.aM.length=k4->s'.c.av.length=ox.length+1->Q .normal {tmps:= #[.pointer (some ⟨G,0,none⟩),.slice gM bK gN,.int .i64 (bC:Int),bl,jP,jA,.pointer (some ⟨bg,0,none⟩),.int .i64 (ja:Int),.int .i64 left,.int .i64 2000,gV,gH,gn,X,gI,gT,u16,gp,gq,gr,gG,gu,gv,gw,gx,gy,gz,gA,gB,fO,fP,fQ,u32,fR,fS,fT,fU,fV,fW,fZ,ga,gb,gd,gh,gC,gD,ij,hU,ia,bP,bQ,bR,bS,bT,bU,bV,bW,bX,bY,bZ,b5,b6,b7,b8,u64,b9,cc,cg,ck,cm,cn,cp,cr,ct,cu,cv,cw,cz,cA,cB,cC,cD,cE,cF,cG,cH,c9,dc,de,dh,di,dm,dn,dr,cK,cL,cM,cN,cO,cQ,cR,cS,cT,cU,cV,cW,cZ,c4,c5,c6,c7,dw,dx,dy,dz,dA,dB,dD,dF,dG,dH,dI,dJ,dK,dL,dM,dN,dO,dP,dQ,dR,dS,dU,dV,dW,dX,dY,dZ,ec,ee,ef,fG,fH,fI,ei,ej,ek,en,eo,ep,er,eu,ew,ey,ez,eA,fJ,fK,fL,eB,eC,eD,eE,eF,eG,eH,eL,eM,eN,eO,eP,eR,eS,eT,eU,eV,eW,eX,eY,eZ,e3,e4,e5,e6,e7,e8,e9,fc,fe,ff,fh,fk,fm,fo,fq,gi,gj,fu,fA,fB,fC,fD,fE,fF,iH,iI,iJ,iK,iL,iM,iN,iO,iP,iQ,iR,iS,jg,jh,ji,jj,jk,jl,jm,jo,jW,jX,jY,jZ,j0,j3],defers:=[]} W'):
  Code.wp w_ M6 Q {tmps:= #[.pointer (some ⟨G,0,none⟩),.slice gM bK gN,.int .i64 (bC:Int),bl,jP,jA,.pointer (some ⟨bg,0,none⟩),.int .i64 (ja:Int),.int .i64 left,.int .i64 2000,gV,gH,gn,.int .i64 next,gI,gT,u16,gp,gq,gr,gG,gu,gv,gw,gx,gy,gz,gA,gB,fO,fP,fQ,u32,fR,fS,fT,fU,fV,fW,fZ,ga,gb,gd,gh,gC,gD,ij,hU,ia,bP,bQ,bR,bS,bT,bU,bV,bW,bX,bY,bZ,b5,b6,b7,b8,u64,b9,cc,cg,ck,cm,cn,cp,cr,ct,cu,cv,cw,cz,cA,cB,cC,cD,cE,cF,cG,cH,c9,dc,de,dh,di,dm,dn,dr,cK,cL,cM,cN,cO,cQ,cR,cS,cT,cU,cV,cW,cZ,c4,c5,c6,c7,dw,dx,dy,dz,dA,dB,dD,dF,dG,dH,dI,dJ,dK,dL,dM,dN,dO,dP,dQ,dR,dS,dU,dV,dW,dX,dY,dZ,ec,ee,ef,fG,fH,fI,ei,ej,ek,en,eo,ep,er,eu,ew,ey,ez,eA,fJ,fK,fL,eB,eC,eD,eE,eF,eG,eH,eL,eM,eN,eO,eP,eR,eS,eT,eU,eV,eW,eX,eY,eZ,e3,e4,e5,e6,e7,e8,e9,fc,fe,ff,fh,fk,fm,fo,fq,gi,gj,fu,fA,fB,fC,fD,fE,fF,iH,iI,iJ,iK,iL,iM,iN,iO,iP,iQ,iR,iS,jg,jh,ji,jj,jk,jl,jm,jo,jW,jX,jY,jZ,j0,j3],defers:=[]} W:=by
 have Y:=U z;have Z:=U C;have b:=U D;obtain⟨az,aA,s',t,B,he⟩:=D.old;have d:=U (z_ t (z_ B he));have E:=U (t.nt C);clear z C D t B he
 conv=>arg 2;whnf
 dsimp only;have H:s.c=s'.c:=by rw[d.o.2.2]
 obtain⟨h,kf,i,l⟩:∃A n c,hs 5=⟨A,n,c⟩:=⟨_,_,_,rfl⟩
 have aa:W.cell? ⟨G,6,none⟩=some (.slice h kf i):=by have:=b.o.fN.e.kJ (k:=6) (v:=(hs 5).v) rfl;rw[l] at this;exact this
 have I:kf=s.c.st.length:=by have:=b.o.fN.e.kf;rw[l] at this;exact this
 obtain⟨J,kA,L,m⟩:∃A n c,hs 4=⟨A,n,c⟩:=⟨_,_,_,rfl⟩
 have ab:W.cell? ⟨G,5,none⟩=some (.slice J kA L):=by have:=b.o.fN.e.kJ (k:=5) (v:=(hs 4).v) rfl;rw[m] at this;exact this
 have M:kA=s.c.av.length:=by have:=b.o.fN.e.kA;rw[m] at this;exact this
 have a:=U (z_ H (z_ l (z_ I (z_ m M))));clear H l I m M
 go_upto_region 49 with fail
 have f:=U (b.o.fN.below ((bz W (.cells #[.int .i64 (kA:Int)] 3)).drew));have ad:bJ (((W.alloc (.cells #[.int .i64 (kA:Int)] 3)).drew).ownsRow base 3 1 (.slice h kf i) kf ((s.c.st.map λ k:Nat=>(k:Int)).map (Value.int .i64))):=U (by
  have h1:=f.o.1.e.rows.row 5;rw[a.o.2.1] at h1;rw[BV];exact h1)
 have ae:=U (Nat.le_of_lt f.o.1.e.lt);have af:bJ (kf<=1100):=U (by have h1:=E.o;have ai:=a.o.2.2.1;rw[a.o.1] at ai;omega);have aj:bJ (∀v9 bM,nj ((W.alloc (.cells #[.int .i64 (kA:Int)] 3)).drew) base 3 (.slice h kf i) (kf+1) (((s.c.st.map λ k:Nat=>(k:Int))++[(kA:Int)]).map (Value.int .i64)) v9 bM->nj ((W.alloc (.cells #[.int .i64 (kA:Int)] 3)).drew) base 3 (hs 5).v (s.c.st.length+1) (qg (s.c.st++[kA])) v9 bM):=U (λ v9 bM p=>by
  rw[a.o.2.1,<-a.o.2.2.1,<-BV,List.map_append];exact p)
 have q:=f.o.1.e.kJ (k:=6) (v:=(hs 5).v) rfl;have r:=f.o.1.e.kJ (k:=5) (v:=(hs 4).v) rfl;rw[a.o.2.1] at q;rw[a.o.2.2.2.1] at r;replace q:((W.alloc (.cells #[.int .i64 (kA:Int)] 3)).drew).cell? ⟨G,6,none⟩=some (.slice h kf i):=q;replace r:((W.alloc (.cells #[.int .i64 (kA:Int)] 3)).drew).cell? ⟨G,5,none⟩=some (.slice J kA L):=r;rename_i ak N;have al:=U N;clear N;refine wp_region_noPanic ?_
 go_region_law (refine E0 rfl (.tmp 217) (.tmp 223) rfl base (.slice h kf i) kf (s.c.st.map λ k:Nat=>(k:Int)) rfl ad.o (some ⟨W.heap.size,0,none⟩) 1 1 [(kA:Int)] rfl ((aL.lit W [(kA:Int)] 1 _ rfl rfl (by omega)).drew) (by have:=af.o;omega) ae.o ?_;intro v9 bM p;obtain⟨⟨A',j,c'⟩,an,aC,ao,f9,g,O⟩:=aY.FZ (x:=kA) f.o.1 (aj.o v9 bM p);obtain rfl:v9=.slice A' j c':=an;clear p)
 all_goals
  show ak _ _;apply al.o;rw[a.o.2.2.2.2] at g;have g:aY K base (bM.setCell ⟨G,6,none⟩ (.slice A' j c')) G (iT hs 5 ⟨A',j,c'⟩) cb {s with c:=nk s.c}:=g;have g:=U g;have ar:=U (d.o.2.1.trans (f.o.2.trans O));clear O ao f9 q r aa ab;generalize bM.setCell ⟨G,6,none⟩ (.slice A' j c')=V at*;have u:s'.c.ag=s'.c.av.length:=by rw[<-a.o.1];exact b.o.fix
  have w:s'.c.l9=false:=by rw[<-a.o.1];exact b.o.l9
  have P:kC F F s'.c s'.c.av.length []:=by rw[<-u];exact d.o.1.kg.gR
  have R:j6 (nk s.c):=by rw[a.o.1];exact(P.level w).aK
  have y:s.c.n=n:=by rw[a.o.1];exact d.o.1.kg.rg.iX
  have au:=U (Bv g.o next none R (by show gK s.c.n next;rw[y];exact b.o.nl) (by show s.c.n<=60000;have:=Z.o.n10;omega) (by show(s.c.st++[s.c.av.length]).length<=1000000;rw[m_,a.o.1];have:=E.o;simp;omega));have S:=U (z_ u (z_ w y));clear u w P R y
  go_wp2_with (go_at_call 156;refine au.o.mono ?_;rintro e aD ⟨rfl,h',aw,ay⟩;dsimp only)
  have l5:=b.o.l5;rw[a.o.1] at l5;have T:=d.o.1.kg.decide (aI:=s) S.o.1 S.o.2.1 b.o.nl (by rw[<-a.o.1];exact b.o.qp) (by rw[<-a.o.1];exact b.o.Ai) d.o.2.2 b.o.lP l5;rw[<-a.o.1] at T;apply Y.o (iT (iT hs 5 ⟨A',j,c'⟩) 4 h') {s with c:=lp (nk s.c) next none}
  ·refine d.o.1.move aw (ar.o.trans ay) ?_ (by rw[d.o.2.2]) (by rw[d.o.2.2]) (by show s.c.cl.length=_;rw[a.o.1]);exact T
  ·exact b.o.aM
  ·show(s.c.av++[next]).length=_;rw[m_,b.o.av];rfl
theorem M8{aN:Ending->World->Prop}{v0 v1 v2 v3:Value}(b:a.defers=[])(c:a.tmps.getD 6 undef=.pointer (some ⟨bg,0,none⟩))(d:aT W bg 30 [v0,v1,v2,v3])(h:aN (.returned (.agg #[v0,v1,v2,v3])) W):bodyPost w_ Tryz.f99 aN .ret a W:=
 bodyPost_ret (results_cell_row (p:=6) (ty:=30) rfl a.tmps W bg 30 #[v0,v1,v2,v3] (0,0) _ c d Tryz.underlying30 rfl (by kernel_rfl)) b h
structure BX(aZ gX:Nat->Prop)(base:Nat)(w0:World)(G:Nat)(F:List (List Int))(ah:List Int)(n fM jD:Nat)(aI:aq)(bg bC:Nat)(K:Nat->Prop)(hs:Nat->ax)(cb:Nat->Nat)(s:aq)(aB ja:Nat)(left:Int)(W:World)(g:Nat):Prop where
 S:mL aZ gX base w0 G F ah n fM jD aI bg bC K W hs cb s aB s.c.ag
 t1:1<=ja
 t2:ja<=aB+1
 t3:left<=0->ja<=aB
 iu: -(aB:Int)<=left
 j7:left<=3000000
 g:g=(59050-aB)*1000+(if left<=0 then 100 else 0)+(20-s.c.av.length)
inductive w5(aZ gX:Nat->Prop)(base:Nat)(w0:World)(G:Nat)(F:List (List Int))(ah:List Int)(n fM jD:Nat)(aI:aq)(gM:Option Addr)(bK gN bg bC:Nat):Nat->Act->World->Prop
 |mk {K:Nat->Prop} {hs:Nat->ax} {cb:Nat->Nat} {s:aq} {aB ja:Nat} {left:Int} {g:Nat} {bl jP jA gV gH gn iy gI gT u16 gp gq gr gG gu gv gw gx gy gz gA gB fO fP fQ u32 fR fS fT fU fV fW fZ ga gb gd gh gC gD ij hU ia bP bQ bR bS bT bU bV bW bX bY bZ b5 b6 b7 b8 u64 b9 cc cg ck cm cn cp cr ct cu cv cw cz cA cB cC cD cE cF cG cH c9 dc de dh di dm dn dr cK cL cM cN cO cQ cR cS cT cU cV cW cZ c4 c5 c6 c7 dw dx dy dz dA dB dD dF dG dH dI dJ dK dL dM dN dO dP dQ dR dS dU dV dW dX dY dZ ec ee ef fG fH fI ei ej ek en eo ep er eu ew ey ez eA fJ fK fL eB eC eD eE eF eG eH eL eM eN eO eP eR eS eT eU eV eW eX eY eZ e3 e4 e5 e6 e7 e8 e9 fc fe ff fh fk fm fo fq gi gj fu fA fB fC fD fE fF iH iI iJ iK iL iM iN iO iP iQ iR iS jg jh ji jj jk jl jm jo jW jX jY jZ j0 j3:Value} {W:World} (h:BX aZ gX base w0 G F ah n fM jD aI bg bC K hs cb s aB ja left W g):w5 aZ gX base w0 G F ah n fM jD aI gM bK gN bg bC g {tmps:= #[.pointer (some ⟨G,0,none⟩),.slice gM bK gN,.int .i64 (bC:Int),bl,jP,jA,.pointer (some ⟨bg,0,none⟩),.int .i64 (ja:Int),.int .i64 left,.int .i64 2000,gV,gH,gn,iy,gI,gT,u16,gp,gq,gr,gG,gu,gv,gw,gx,gy,gz,gA,gB,fO,fP,fQ,u32,fR,fS,fT,fU,fV,fW,fZ,ga,gb,gd,gh,gC,gD,ij,hU,ia,bP,bQ,bR,bS,bT,bU,bV,bW,bX,bY,bZ,b5,b6,b7,b8,u64,b9,cc,cg,ck,cm,cn,cp,cr,ct,cu,cv,cw,cz,cA,cB,cC,cD,cE,cF,cG,cH,c9,dc,de,dh,di,dm,dn,dr,cK,cL,cM,cN,cO,cQ,cR,cS,cT,cU,cV,cW,cZ,c4,c5,c6,c7,dw,dx,dy,dz,dA,dB,dD,dF,dG,dH,dI,dJ,dK,dL,dM,dN,dO,dP,dQ,dR,dS,dU,dV,dW,dX,dY,dZ,ec,ee,ef,fG,fH,fI,ei,ej,ek,en,eo,ep,er,eu,ew,ey,ez,eA,fJ,fK,fL,eB,eC,eD,eE,eF,eG,eH,eL,eM,eN,eO,eP,eR,eS,eT,eU,eV,eW,eX,eY,eZ,e3,e4,e5,e6,e7,e8,e9,fc,fe,ff,fh,fk,fm,fo,fq,gi,gj,fu,fA,fB,fC,fD,fE,fF,iH,iI,iJ,iK,iL,iM,iN,iO,iP,iQ,iR,iS,jg,jh,ji,jj,jk,jl,jm,jo,jW,jX,jY,jZ,j0,j3],defers:=[]} W
theorem w5.elim(b:w5 aZ gX base w0 G F ah n fM jD aI gM bK gN bg bC g a W){P:Prop}
  (k:∀{K:Nat->Prop}{hs:Nat->ax}{cb:Nat->Nat}{s:aq}{c ja:Nat}{left:Int}{d e f i j l m o p u16 q r t u v w x y z A B C D E H u32 I J L M N O Q R S T U V X Y Z aa ab ad ae af ag ai aj ak al an ao ar au av aw u64 ay az aA aB aC aD aE aF aG aH aJ aK aL aM aN aO aP aQ aR aS aT aU aV aW aX aY a6 a7 a8 a' ba bb bc bd bf bh bj bk bl bn bo bp bq br bs bt bu bw bx bz bA bB bD bE bF bG bH bI bJ bL bM bN bO bP bQ bR bS bT bU bV bW bX bY bZ b0 b1 b2 b3 b4 b5 b6 b7 b8 b9 b' ca cc cd cf cg ch cj ck cm cn cp cq cr ct cu cv cw cx cy cz cA cB cC cD cE cF cG cH cI cJ cK cL cM cN cO cP cQ cR cS cT cU cV cW cX cY cZ c0 c4 c5 c6 c7 c8 c9 da db dc dd de df dh di dj dk dm dn dp dq dr dt du dv dw dx dy dz dA dB dC dD dE:Value},a={tmps:= #[.pointer (some ⟨G,0,none⟩),.slice gM bK gN,.int .i64 (bC:Int),d,e,f,.pointer (some ⟨bg,0,none⟩),.int .i64 (ja:Int),.int .i64 left,.int .i64 2000,i,j,l,m,o,p,u16,q,r,t,u,v,w,x,y,z,A,B,C,D,E,H,u32,I,J,L,M,N,O,Q,R,S,T,U,V,X,Y,Z,aa,ab,ad,ae,af,ag,ai,aj,ak,al,an,ao,ar,au,av,aw,u64,ay,az,aA,aB,aC,aD,aE,aF,aG,aH,aJ,aK,aL,aM,aN,aO,aP,aQ,aR,aS,aT,aU,aV,aW,aX,aY,a6,a7,a8,a',ba,bb,bc,bd,bf,bh,bj,bk,bl,bn,bo,bp,bq,br,bs,bt,bu,bw,bx,bz,bA,bB,bD,bE,bF,bG,bH,bI,bJ,bL,bM,bN,bO,bP,bQ,bR,bS,bT,bU,bV,bW,bX,bY,bZ,b0,b1,b2,b3,b4,b5,b6,b7,b8,b9,b',ca,cc,cd,cf,cg,ch,cj,ck,cm,cn,cp,cq,cr,ct,cu,cv,cw,cx,cy,cz,cA,cB,cC,cD,cE,cF,cG,cH,cI,cJ,cK,cL,cM,cN,cO,cP,cQ,cR,cS,cT,cU,cV,cW,cX,cY,cZ,c0,c4,c5,c6,c7,c8,c9,da,db,dc,dd,de,df,dh,di,dj,dk,dm,dn,dp,dq,dr,dt,du,dv,dw,dx,dy,dz,dA,dB,dC,dD,dE],defers:=[]}->BX aZ gX base w0 G F ah n fM jD aI bg bC K hs cb s c ja left W g->P):P:=by
 cases b with
 |mk h=>exact k rfl h
noncomputable def M9:Code:=(Tryz.f99.body.bind λ c=>qo c 0).getD .skip
theorem Na{aZ gX:Nat->Prop}{base:Nat}{w0:World}{G:Nat}{F:List (List Int)}{ah:List Int}{n fM jD:Nat}{aI:aq}{gM:Option Addr}{bK gN bg bC:Nat}{K:Nat->Prop}{W:World}{hs:Nat->ax}{cb:Nat->Nat}{s:aq}{aB ja g:Nat}{left:Int}{bl jP jA gV gH gn iy gI gT u16 gp gq gr gG gu gv gw gx gy gz gA gB fO fP fQ u32 fR fS fT fU fV fW fZ ga gb gd gh gC gD ij hU ia bP bQ bR bS bT bU bV bW bX bY bZ b5 b6 b7 b8 u64 b9 cc cg ck cm cn cp cr ct cu cv cw cz cA cB cC cD cE cF cG cH c9 dc de dh di dm dn dr cK cL cM cN cO cQ cR cS cT cU cV cW cZ c4 c5 c6 c7 dw dx dy dz dA dB dD dF dG dH dI dJ dK dL dM dN dO dP dQ dR dS dU dV dW dX dY dZ ec ee ef fG fH fI ei ej ek en eo ep er eu ew ey ez eA fJ fK fL eB eC eD eE eF eG eH eL eM eN eO eP eR eS eT eU eV eW eX eY eZ e3 e4 e5 e6 e7 e8 e9 fc fe ff fh fk fm fo fq gi gj fu fA fB fC fD fE fF iH iI iJ iK iL iM iN iO iP iQ iR iS jg jh ji jj jk jl jm jo jW jX jY jZ j0 j3:Value}{Q:Exit->Act->World->Prop}
  (C:r5 aZ gX w0 F ah n fM jD aI gM bK gN bC) (B:BX aZ gX base w0 G F ah n fM jD aI bg bC K hs cb s aB ja left W g)
  (D:∀(ja:Nat)(left:Int)(v0 v1 v2 v3:Value)(bl jP jA gV gH gn iy gI gT u16 gp gq gr gG gu gv gw gx gy gz gA gB fO fP fQ u32 fR fS fT fU fV fW fZ ga gb gd gh gC gD ij hU ia bP bQ bR bS bT bU bV bW bX bY bZ b5 b6 b7 b8 u64 b9 cc cg ck cm cn cp cr ct cu cv cw cz cA cB cC cD cE cF cG cH c9 dc de dh di dm dn dr cK cL cM cN cO cQ cR cS cT cU cV cW cZ c4 c5 c6 c7 dw dx dy dz dA dB dD dF dG dH dI dJ dK dL dM dN dO dP dQ dR dS dU dV dW dX dY dZ ec ee ef fG fH fI ei ej ek en eo ep er eu ew ey ez eA fJ fK fL eB eC eD eE eF eG eH eL eM eN eO eP eR eS eT eU eV eW eX eY eZ e3 e4 e5 e6 e7 e8 e9 fc fe ff fh fk fm fo fq gi gj fu fA fB fC fD fE fF iH iI iJ iK iL iM iN iO iP iQ iR iS jg jh ji jj jk jl jm jo jW jX jY jZ j0 j3:Value)(W':World),aT W' bg 30 [v0,v1,v2,v3]->DK aZ gX base w0 G F ah n fM aI bC (.returned (.agg #[v0,v1,v2,v3])) W'->Q .ret {tmps:= #[.pointer (some ⟨G,0,none⟩),.slice gM bK gN,.int .i64 (bC:Int),bl,jP,jA,.pointer (some ⟨bg,0,none⟩),.int .i64 (ja:Int),.int .i64 left,.int .i64 2000,gV,gH,gn,iy,gI,gT,u16,gp,gq,gr,gG,gu,gv,gw,gx,gy,gz,gA,gB,fO,fP,fQ,u32,fR,fS,fT,fU,fV,fW,fZ,ga,gb,gd,gh,gC,gD,ij,hU,ia,bP,bQ,bR,bS,bT,bU,bV,bW,bX,bY,bZ,b5,b6,b7,b8,u64,b9,cc,cg,ck,cm,cn,cp,cr,ct,cu,cv,cw,cz,cA,cB,cC,cD,cE,cF,cG,cH,c9,dc,de,dh,di,dm,dn,dr,cK,cL,cM,cN,cO,cQ,cR,cS,cT,cU,cV,cW,cZ,c4,c5,c6,c7,dw,dx,dy,dz,dA,dB,dD,dF,dG,dH,dI,dJ,dK,dL,dM,dN,dO,dP,dQ,dR,dS,dU,dV,dW,dX,dY,dZ,ec,ee,ef,fG,fH,fI,ei,ej,ek,en,eo,ep,er,eu,ew,ey,ez,eA,fJ,fK,fL,eB,eC,eD,eE,eF,eG,eH,eL,eM,eN,eO,eP,eR,eS,eT,eU,eV,eW,eX,eY,eZ,e3,e4,e5,e6,e7,e8,e9,fc,fe,ff,fh,fk,fm,fo,fq,gi,gj,fu,fA,fB,fC,fD,fE,fF,iH,iI,iJ,iK,iL,iM,iN,iO,iP,iQ,iR,iS,jg,jh,ji,jj,jk,jl,jm,jo,jW,jX,jY,jZ,j0,j3],defers:=[]} W'):
  Code.wp w_ M9 Q {tmps:= #[.pointer (some ⟨G,0,none⟩),.slice gM bK gN,.int .i64 (bC:Int),bl,jP,jA,.pointer (some ⟨bg,0,none⟩),.int .i64 (ja:Int),.int .i64 left,.int .i64 2000,gV,gH,gn,iy,gI,gT,u16,gp,gq,gr,gG,gu,gv,gw,gx,gy,gz,gA,gB,fO,fP,fQ,u32,fR,fS,fT,fU,fV,fW,fZ,ga,gb,gd,gh,gC,gD,ij,hU,ia,bP,bQ,bR,bS,bT,bU,bV,bW,bX,bY,bZ,b5,b6,b7,b8,u64,b9,cc,cg,ck,cm,cn,cp,cr,ct,cu,cv,cw,cz,cA,cB,cC,cD,cE,cF,cG,cH,c9,dc,de,dh,di,dm,dn,dr,cK,cL,cM,cN,cO,cQ,cR,cS,cT,cU,cV,cW,cZ,c4,c5,c6,c7,dw,dx,dy,dz,dA,dB,dD,dF,dG,dH,dI,dJ,dK,dL,dM,dN,dO,dP,dQ,dR,dS,dU,dV,dW,dX,dY,dZ,ec,ee,ef,fG,fH,fI,ei,ej,ek,en,eo,ep,er,eu,ew,ey,ez,eA,fJ,fK,fL,eB,eC,eD,eE,eF,eG,eH,eL,eM,eN,eO,eP,eR,eS,eT,eU,eV,eW,eX,eY,eZ,e3,e4,e5,e6,e7,e8,e9,fc,fe,ff,fh,fk,fm,fo,fq,gi,gj,fu,fA,fB,fC,fD,fE,fF,iH,iI,iJ,iK,iL,iM,iN,iO,iP,iQ,iR,iS,jg,jh,ji,jj,jk,jl,jm,jo,jW,jX,jY,jZ,j0,j3],defers:=[]} W:=by
 have r:=U D;have d:=U C;clear D C
 conv=>arg 2;whnf
 dsimp only;refine wp_loop_ghost_k (w5 aZ gX base w0 G F ah n fM jD aI gM bK gN bg bC) g ?start ?round
 case start=>exact w5.mk B
 case round=>
  clear B K W hs cb s aB ja g left;intro g a W E a6 t I J;refine E.elim ?_;intro K hs cb s aB ja left bl jP jA gV gH gn iy gI gT u16 gp gq gr gG gu gv gw gx gy gz gA gB fO fP fQ u32 fR fS fT fU fV fW fZ ga gb gd gh gC gD ij hU ia bP bQ bR bS bT bU bV bW bX bY bZ b5 b6 b7 b8 u64 b9 cc cg ck cm cn cp cr ct cu cv cw cz cA cB cC cD cE cF cG cH c9 dc de dh di dm dn dr cK cL cM cN cO cQ cR cS cT cU cV cW cZ c4 c5 c6 c7 dw dx dy dz dA dB dD dF dG dH dI dJ dK dL dM dN dO dP dQ dR dS dU dV dW dX dY dZ ec ee ef fG fH fI ei ej ek en eo ep er eu ew ey ez eA fJ fK fL eB eC eD eE eF eG eH eL eM eN eO eP eR eS eT eU eV eW eX eY eZ e3 e4 e5 e6 e7 e8 e9 fc fe ff fh fk fm fo fq gi gj fu fA fB fC fD fE fF iH iI iJ iK iL iM iN iO iP iQ iR iS jg jh ji jj jk jl jm jo jW jX jY jZ j0 j3 az H;clear E;subst az;have b:=U H;have u:=U I;have w:=U J;have i:=U (H.S.nt d.o);clear H I J;refine wp_block ?_;refine wp_seq_k ?_;intro aA L;have aC:=U L;clear L;refine MA d.o b.o.S (by have:=b.o.iu;have:=b.o.j7;have:=i.o;omega) ?_ ?_ ?_
  ·intro a7 s1 bl jP jA gV gH gn iy gI gT u16 gp gq gr gG gu gv gw gx gy gz gA gB fO fP fQ u32 fR fS fT fU fV fW fZ ga gb gd gh gC gD ij hU ia bP bQ bR bS bT bU bV bW bX bY bZ b5 b6 b7 b8 u64 b9 cc cg ck cm cn cp cr ct cu cv cw cz cA cB cC cD cE cF cG cH c9 dc de dh di dm dn dr cK cL cM cN cO cQ cR cS cT cU cV cW cZ c4 c5 c6 c7 dw dx dy dz dA dB dD dF dG dH dI dJ dK dL dM dN dO dP dQ dR dS dU dV dW dX dY dZ ec ee ef fG fH fI ei ej ek en eo ep er eu ew ey ez eA fJ fK fL eB eC eD eE eF eG eH eL eM eN eO eP eR eS eT eU eV eW eX eY eZ e3 e4 e5 e6 e7 e8 e9 fc fe ff fh fk fm fo fq gi gj fu fA fB fC fD fE fF iH iI iJ iK iL iM iN iO iP iQ iR iS jg jh ji jj jk jl jm jo jW jX jY jZ j0 j3 a8 M N O P R;have j:=U (z_ M (z_ N (z_ O (z_ P R))));clear M N O P R;show aA _ _;apply aC.o;refine wp_seq_k ?_;intro sY T;have aD:=U T;clear T;refine MM d.o j.o.1 ⟨b.o.t1,by have:=b.o.t2;have:=i.o;omega⟩ ?_ ?_
   ·intro bl jP jA gV gH gn iy gI gT u16 gp gq gr gG gu gv gw gx gy gz gA gB fO fP fQ u32 fR fS fT fU fV fW fZ ga gb gd gh gC gD ij hU ia bP bQ bR bS bT bU bV bW bX bY bZ b5 b6 b7 b8 u64 b9 cc cg ck cm cn cp cr ct cu cv cw cz cA cB cC cD cE cF cG cH c9 dc de dh di dm dn dr cK cL cM cN cO cQ cR cS cT cU cV cW cZ c4 c5 c6 c7 dw dx dy dz dA dB dD dF dG dH dI dJ dK dL dM dN dO dP dQ dR dS dU dV dW dX dY dZ ec ee ef fG fH fI ei ej ek en eo ep er eu ew ey ez eA fJ fK fL eB eC eD eE eF eG eH eL eM eN eO eP eR eS eT eU eV eW eX eY eZ e3 e4 e5 e6 e7 e8 e9 fc fe ff fh fk fm fo fq gi gj fu fA fB fC fD fE fF iH iI iJ iK iL iM iN iO iP iQ iR iS jg jh ji jj jk jl jm jo jW jX jY jZ j0 j3 hl;show sY _ _;apply aD.o;refine wp_seq_k ?_;intro a' V;have aE:=U V;clear V
    go_wp2_with fail
    apply aE.o;refine wp_seq_k ?_;intro aF X;have aH:=U X;clear X;refine wp_block ?_;refine MY d.o j.o.1 j.o.2.1 j.o.2.2.1 ?_ ?_
    ·intro m s2 next bl jP jA gV gH gn gI gT u16 gp gq gr gG gu gv gw gx gy gz gA gB fO fP fQ u32 fR fS fT fU fV fW fZ ga gb gd gh gC gD ij hU ia bP bQ bR bS bT bU bV bW bX bY bZ b5 b6 b7 b8 u64 b9 cc cg ck cm cn cp cr ct cu cv cw cz cA cB cC cD cE cF cG cH c9 dc de dh di dm dn dr cK cL cM cN cO cQ cR cS cT cU cV cW cZ c4 c5 c6 c7 dw dx dy dz dA dB dD dF dG dH dI dJ dK dL dM dN dO dP dQ dR dS dU dV dW dX dY dZ ec ee ef fG fH fI ei ej ek en eo ep er eu ew ey ez eA fJ fK fL eB eC eD eE eF eG eH eL eM eN eO eP eR eS eT eU eV eW eX eY eZ e3 e4 e5 e6 e7 e8 e9 fc fe ff fh fk fm fo fq gi gj fu fA fB fC fD fE fF iH iI iJ iK iL iM iN iO iP iQ iR iS jg jh ji jj jk jl jm jo jW jX jY jZ j0 j3 p f x y z aa A
     show aF _ _;apply aH.o;refine wp_seq_k ?_;intro aJ ab;have aK:=U ab;clear ab;refine wp_block ?_;have ad:Aj aZ gX base w0 G F ah n fM jD aI bg bC K cb aB s2.aM.length s2.c.av m s2 next p (s2.ord.length+(if next=0 then 1 else 0)):=by
      refine⟨λ e=>⟨f,x,y,rfl,rfl,?_⟩,λ e=>?_,f.fN,rfl⟩
      ·rcases A with h|h
       ·rw[d.o.xY];exact h.2
       ·exact absurd e h.1
      ·rcases A with h|h
       ·exact absurd h.1 e
       ·exact⟨⟨p,m,s2,f,aG.refl,rfl⟩,f.fN,x,y,rfl,rfl,f.kg.rg.lP,λ v h1 q ae _=>f.kg.un v h1 q ae,h.1,h.2.1,h.2.2.1,λ _=>h.2.2.2.2.symm⟩
     refine M0 (g0:=0) d.o ad ?_;intro ba s3 bb g3 bl jP jA gV gH gn gI gT u16 gp gq gr gG gu gv gw gx gy gz gA gB fO fP fQ u32 fR fS fT fU fV fW fZ ga gb gd gh gC gD ij hU ia bP bQ bR bS bT bU bV bW bX bY bZ b5 b6 b7 b8 u64 b9 cc cg ck cm cn cp cr ct cu cv cw cz cA cB cC cD cE cF cG cH c9 dc de dh di dm dn dr cK cL cM cN cO cQ cR cS cT cU cV cW cZ c4 c5 c6 c7 dw dx dy dz dA dB dD dF dG dH dI dJ dK dL dM dN dO dP dQ dR dS dU dV dW dX dY dZ ec ee ef fG fH fI ei ej ek en eo ep er eu ew ey ez eA fJ fK fL eB eC eD eE eF eG eH eL eM eN eO eP eR eS eT eU eV eW eX eY eZ e3 e4 e5 e6 e7 e8 e9 fc fe ff fh fk fm fo fq gi gj fu fA fB fC fD fE fF iH iI iJ iK iL iM iN iO iP iQ iR iS jg jh ji jj jk jl jm jo jW jX jY jZ j0 j3 bc af ag;have Y:=U (z_ af ag);have Z:=U (z_ z aa);clear af ag ad A f x y z aa;show aJ _ _;apply aK.o;refine wp_seq_k ?_;intro aL ai;have aN:=U ai;clear ai;refine M5 d.o (λ e=>⟨(Y.o.1.no e).1,(Y.o.1.no e).2.1,(Y.o.1.no e).2.2.1,(Y.o.1.no e).2.2.2.2.2,Y.o.2 e⟩) ?_ ?_
     ·intro bl jP jA gV gH gn gI gT u16 gp gq gr gG gu gv gw gx gy gz gA gB fO fP fQ u32 fR fS fT fU fV fW fZ ga gb gd gh gC gD ij hU ia bP bQ bR bS bT bU bV bW bX bY bZ b5 b6 b7 b8 u64 b9 cc cg ck cm cn cp cr ct cu cv cw cz cA cB cC cD cE cF cG cH c9 dc de dh di dm dn dr cK cL cM cN cO cQ cR cS cT cU cV cW cZ c4 c5 c6 c7 dw dx dy dz dA dB dD dF dG dH dI dJ dK dL dM dN dO dP dQ dR dS dU dV dW dX dY dZ ec ee ef fG fH fI ei ej ek en eo ep er eu ew ey ez eA fJ fK fL eB eC eD eE eF eG eH eL eM eN eO eP eR eS eT eU eV eW eX eY eZ e3 e4 e5 e6 e7 e8 e9 fc fe ff fh fk fm fo fq gi gj fu fA fB fC fD fE fF iH iI iJ iK iL iM iN iO iP iQ iR iS jg jh ji jj jk jl jm jo jW jX jY jZ j0 j3 aO;show aL _ _;apply aN.o;refine M7 d.o (Y.o.1.yes aO) ?_;intro bd iY bl jP jA gV gH gn iy gI gT u16 gp gq gr gG gu gv gw gx gy gz gA gB fO fP fQ u32 fR fS fT fU fV fW fZ ga gb gd gh gC gD ij hU ia bP bQ bR bS bT bU bV bW bX bY bZ b5 b6 b7 b8 u64 b9 cc cg ck cm cn cp cr ct cu cv cw cz cA cB cC cD cE cF cG cH c9 dc de dh di dm dn dr cK cL cM cN cO cQ cR cS cT cU cV cW cZ c4 c5 c6 c7 dw dx dy dz dA dB dD dF dG dH dI dJ dK dL dM dN dO dP dQ dR dS dU dV dW dX dY dZ ec ee ef fG fH fI ei ej ek en eo ep er eu ew ey ez eA fJ fK fL eB eC eD eE eF eG eH eL eM eN eO eP eR eS eT eU eV eW eX eY eZ e3 e4 e5 e6 e7 e8 e9 fc fe ff fh fk fm fo fq gi gj fu fA fB fC fD fE fF iH iI iJ iK iL iM iN iO iP iQ iR iS jg jh ji jj jk jl jm jo jW jX jY jZ j0 j3 bf aj bh aP;show t _ _;refine w.o _ _ (k_ ((59050-aB)*1000+(if left<=0 then 100 else 0)+(20-iY.c.av.length)) ?_ (u.o _ _ _ (w5.mk ⟨aj,b.o.t1,b.o.t2,b.o.t3,b.o.iu,b.o.j7,rfl⟩)));have h1:=b.o.g;have q:=Z.o.2;have ae:=j.o.2.2.2.2;have aQ:=(aj.nt d.o).2.2.2.2.2.2;have ak:=d.o.n10;rw[q] at aP;omega
     ·intro al an ao ar au aR aS aU bl jP jA gV gH gn iy gI gT u16 gp gq gr gG gu gv gw gx gy gz gA gB fO fP fQ u32 fR fS fT fU fV fW fZ ga gb gd gh gC gD ij hU ia bP bQ bR bS bT bU bV bW bX bY bZ b5 b6 b7 b8 u64 b9 cc cg ck cm cn cp cr ct cu cv cw cz cA cB cC cD cE cF cG cH c9 dc de dh di dm dn dr cK cL cM cN cO cQ cR cS cT cU cV cW cZ c4 c5 c6 c7 dw dx dy dz dA dB dD dF dG dH dI dJ dK dL dM dN dO dP dQ dR dS dU dV dW dX dY dZ ec ee ef fG fH fI ei ej ek en eo ep er eu ew ey ez eA fJ fK fL eB eC eD eE eF eG eH eL eM eN eO eP eR eS eT eU eV eW eX eY eZ e3 e4 e5 e6 e7 e8 e9 fc fe ff fh fk fm fo fq gi gj fu fA fB fC fD fE fF iH iI iJ iK iL iM iN iO iP iQ iR iS jg jh ji jj jk jl jm jo jW jX jY jZ j0 j3 aw k l;have h:=r.o ja left (.int .i64 1) (.slice aR aS aU) mY (.int .i64 (aB:Int));show Q .ret _ _;apply h
      ·exact l
      ·exact k.done
    ·intro al an ao ar au aV aW aX bl jP jA gV gH gn iy gI gT u16 gp gq gr gG gu gv gw gx gy gz gA gB fO fP fQ u32 fR fS fT fU fV fW fZ ga gb gd gh gC gD ij hU ia bP bQ bR bS bT bU bV bW bX bY bZ b5 b6 b7 b8 u64 b9 cc cg ck cm cn cp cr ct cu cv cw cz cA cB cC cD cE cF cG cH c9 dc de dh di dm dn dr cK cL cM cN cO cQ cR cS cT cU cV cW cZ c4 c5 c6 c7 dw dx dy dz dA dB dD dF dG dH dI dJ dK dL dM dN dO dP dQ dR dS dU dV dW dX dY dZ ec ee ef fG fH fI ei ej ek en eo ep er eu ew ey ez eA fJ fK fL eB eC eD eE eF eG eH eL eM eN eO eP eR eS eT eU eV eW eX eY eZ e3 e4 e5 e6 e7 e8 e9 fc fe ff fh fk fm fo fq gi gj fu fA fB fC fD fE fF iH iI iJ iK iL iM iN iO iP iQ iR iS jg jh ji jj jk jl jm jo jW jX jY jZ j0 j3 aw k l;have h:=r.o ja left (.int .i64 2) mY (.slice aV aW aX) (.int .i64 (aB:Int));show Q .ret _ _;apply h
     ·exact l
     ·exact k.done
   ·intro m s2 aY bl jP jA gV gH gn iy gI gT u16 gp gq gr gG gu gv gw gx gy gz gA gB fO fP fQ u32 fR fS fT fU fV fW fZ ga gb gd gh gC gD ij hU ia bP bQ bR bS bT bU bV bW bX bY bZ b5 b6 b7 b8 u64 b9 cc cg ck cm cn cp cr ct cu cv cw cz cA cB cC cD cE cF cG cH c9 dc de dh di dm dn dr cK cL cM cN cO cQ cR cS cT cU cV cW cZ c4 c5 c6 c7 dw dx dy dz dA dB dD dF dG dH dI dJ dK dL dM dN dO dP dQ dR dS dU dV dW dX dY dZ ec ee ef fG fH fI ei ej ek en eo ep er eu ew ey ez eA fJ fK fL eB eC eD eE eF eG eH eL eM eN eO eP eR eS eT eU eV eW eX eY eZ e3 e4 e5 e6 e7 e8 e9 fc fe ff fh fk fm fo fq gi gj fu fA fB fC fD fE fF iH iI iJ iK iL iM iN iO iP iQ iR iS jg jh ji jj jk jl jm jo jW jX jY jZ j0 j3 p f z ay bj bk;show t _ _;refine w.o _ _ (k_ ((59050-aB)*1000+(if aY<=0 then 100 else 0)+(20-s2.c.av.length)) ?_ (u.o _ _ _ (w5.mk (ja:=ja+1) ⟨f,by omega,by have:=b.o.t3 ay;omega,λ h=>by omega,by omega,by have:=b.o.t2;have:=i.o;omega,rfl⟩)));have h1:=b.o.g;rw[if_pos ay] at h1;rw[if_neg (by omega)];have aQ:=i.o.2.2.2.2.2.2;have ak:=d.o.n10;omega
  ·intro sY m bn s2 bl jP jA gV gH gn iy gI gT u16 gp gq gr gG gu gv gw gx gy gz gA gB fO fP fQ u32 fR fS fT fU fV fW fZ ga gb gd gh gC gD ij hU ia bP bQ bR bS bT bU bV bW bX bY bZ b5 b6 b7 b8 u64 b9 cc cg ck cm cn cp cr ct cu cv cw cz cA cB cC cD cE cF cG cH c9 dc de dh di dm dn dr cK cL cM cN cO cQ cR cS cT cU cV cW cZ c4 c5 c6 c7 dw dx dy dz dA dB dD dF dG dH dI dJ dK dL dM dN dO dP dQ dR dS dU dV dW dX dY dZ ec ee ef fG fH fI ei ej ek en eo ep er eu ew ey ez eA fJ fK fL eB eC eD eE eF eG eH eL eM eN eO eP eR eS eT eU eV eW eX eY eZ e3 e4 e5 e6 e7 e8 e9 fc fe ff fh fk fm fo fq gi gj fu fA fB fC fD fE fF iH iI iJ iK iL iM iN iO iP iQ iR iS jg jh ji jj jk jl jm jo jW jX jY jZ j0 j3 p f;show t _ _;refine w.o _ _ (k_ ((59050-(aB+1))*1000+(if left-1<=0 then 100 else 0)+(20-s2.c.av.length)) ?_ (u.o _ _ _ (w5.mk (left:=left-1) ⟨f,b.o.t1,by have:=b.o.t2;omega,λ h=>by have:=b.o.t2;omega,by have:=b.o.iu;omega,by have:=b.o.j7;omega,rfl⟩)));have h1:=b.o.g;have q:=i.o;have ak:=d.o.n10;split<;>omega
  ·intro al an ao ar au kind bl jP jA gV gH gn iy gI gT u16 gp gq gr gG gu gv gw gx gy gz gA gB fO fP fQ u32 fR fS fT fU fV fW fZ ga gb gd gh gC gD ij hU ia bP bQ bR bS bT bU bV bW bX bY bZ b5 b6 b7 b8 u64 b9 cc cg ck cm cn cp cr ct cu cv cw cz cA cB cC cD cE cF cG cH c9 dc de dh di dm dn dr cK cL cM cN cO cQ cR cS cT cU cV cW cZ c4 c5 c6 c7 dw dx dy dz dA dB dD dF dG dH dI dJ dK dL dM dN dO dP dQ dR dS dU dV dW dX dY dZ ec ee ef fG fH fI ei ej ek en eo ep er eu ew ey ez eA fJ fK fL eB eC eD eE eF eG eH eL eM eN eO eP eR eS eT eU eV eW eX eY eZ e3 e4 e5 e6 e7 e8 e9 fc fe ff fh fk fm fo fq gi gj fu fA fB fC fD fE fF iH iI iJ iK iL iM iN iO iP iQ iR iS jg jh ji jj jk jl jm jo jW jX jY jZ j0 j3 aw k l;have h:=r.o ja left (.int .i64 kind) mY mY (.int .i64 (aB:Int));show Q .ret _ _;apply h
   ·exact l
   ·exact k.done
theorem Nb{bg:Nat}(C:r5 aZ gX w0 F ah n fM jD aI gM bK gN bC)(E:aY gX base w0 G hs cb aI)(S:mq F ah n fM aI 0 aI.c.ag)(P:o5 (λ b=>gX b/\¬aZ b) w0 aI)(L:∀p∈aI.aF,qq (λ b=>gX b/\¬aZ b) w0 n p)(l:aI.c.cl.length=jD):
  Calls w_ 99 #[.pointer (some ⟨G,0,none⟩),.slice gM bK gN,.int .i64 (bC:Int)] w0 (DK aZ gX base w0 G F ah n fM aI bC):=by
 have a:=bz w0 (.cells #[.int .i64 0,.slice none 0 0,.slice none 0 0,.int .i64 0] 30);have g:aT (w0.alloc (.cells #[.int .i64 0,.slice none 0 0,.slice none 0 0,.int .i64 0] 30)) w0.heap.size 30 [.int .i64 0,mY,mY,.int .i64 ((0:Nat):Int)]:=aT.new w0 30 _;have f:=E.below a;have i:∀b,gX b->b<w0.heap.size:=E.s.lt;have k:mL aZ gX base w0 G F ah n fM jD aI w0.heap.size bC (qD gX w0.heap.size) (w0.alloc (.cells #[.int .i64 0,.slice none 0 0,.slice none 0 0,.int .i64 0] 30)) hs cb aI 0 aI.c.ag:=by
  refine⟨λ b a=>.inl a,f.1.qD (by simp) (by have:=E.e.box.lt;omega) (λ r e=>by have:=(E.e.rows.lt e).2;omega) (λ d ag e=>by have:=(E.e.cls d ag).lt;omega),f.2,S,g,.inr rfl,λ h=>by have:=i _ h;omega,P.kept (f.2.mono λ b a=>a.1) rfl rfl,λ p hp=>((L p hp).jr (f.2.mono λ b a=>a.1)).mono λ b a=>⟨⟨.inl a.1,by have:=i b a.1;omega⟩,a.2⟩,List.prefix_refl _,rfl,by omega,Nat.zero_le _⟩
 have j:BX aZ gX base w0 G F ah n fM jD aI w0.heap.size bC (qD gX w0.heap.size) hs cb aI 0 1 32 (w0.alloc (.cells #[.int .i64 0,.slice none 0 0,.slice none 0 0,.int .i64 0] 30)) ((59050-0)*1000+(if (32:Int)<=0 then 100 else 0)+(20-aI.c.av.length)):=
  ⟨k,o_ _,by omega,λ h=>by omega,by omega,by omega,rfl⟩
 have j:=U j;have m:=U C;clear C E S P L a g f i k l;go_enter Tryz.func99,Tryz.ntmps99
 go_wp2_with fail
 refine Na m.o j.o ?_;intro ja left v0 v1 v2 v3 t u v w x y z A B u16 D H I J K M N O Q R T V W X Y u32 Z aa ab ad ae af ai aj ak al an ao ar au aw ay az aA aB aC aD aE aG aH aJ aK aL aM aN aO aP u64 aQ aR aS aU aV aW aX a6 a7 a8 a' ba bb bc bd bf bh bj bk bl bn bo bp bq br bs bt bu bw bx bA bB bD bE bF bG bH bI bJ bL bM bN bO bP bQ bR bS bT bU bV bW bX bY bZ b0 b1 b2 b3 b4 b5 b6 b7 b8 b9 b' ca cc cd cf cg ch cj ck cm cn cp cq cr ct cu cv cw cx cy cz cA cB cC cD cE cF cG cH cI cJ cK cL cM cN cO cP cQ cR cS cT cU cV cW cX cY cZ c0 c4 c5 c6 c7 c8 c9 da db dc dd de df dh di dj dk dm dn dp dq dr dt du dv dw dx dy dz dA dB dC dD dE dF dG dH dI dJ dK dL dM dN dO dP dQ dR dS dT dU dV dW dX dY W' g q;refine M8 rfl rfl g ?_;exact q
end
section
open Go.RowKit Go.Shelf Go.Sort Go.Lib
theorem Nc:∀args w,(callFunc 158 args).run w_ w=.ok (.enter 158 args) w:=enters_of Tryz.func158 (by kernel_rfl) rfl
theorem Nd{aH:Nat}(v u:Nat)(x y:Int)(a:w.cell? ⟨aH,0,none⟩=some (.pointer (some ⟨G,0,none⟩)))(q:w.cell? ⟨G,8,none⟩=some (.slice (some ⟨g,0,none⟩) n c))(b:(v:Int)<(n:Int))(hu:(u:Int)<(n:Int))(d:v<=65536)(f:u<=65536)
  (i:w.cell? ⟨g,v,none⟩=some (.int .i64 x)) (j:w.cell? ⟨g,u,none⟩=some (.int .i64 y)):
  Calls w_ 158 #[.int .i64 v,.int .i64 u,.pointer (some ⟨aH,0,none⟩)] w λ e w'=>e=.returned (.int .i64 (rN (og y x) ((v:Int)-(u:Int))))/\w'=(w.drew.alloc (.cells #[.int .i64 (og y x),.int .i64 ((v:Int)-(u:Int))] 3)):=by
 have k:wrap64 ((v:Int)-(u:Int))=(v:Int)-(u:Int):=by unfold wrap64;omega
 go_enter Tryz.func158,Tryz.ntmps158
 go_wp2;refine wp_region_still_tail 18 (by kernel_rfl) (by kernel_rfl) ?_;simp only[List.take_succ_cons,List.take_zero,List.drop_succ_cons,List.drop_zero]
 iterate 14 still_step
 still_call ((zn _ _ _).mono (λ e w' h=>⟨h.1,h.2.symm⟩))
 iterate 3 still_step
 refine wpStill_nil ?_;change wpList _ _ _ _ _ w.drew
 go_wp2_with fail
 refine(AQ w.heap.size (og y x) ((v:Int)-(u:Int)) _ (by go_simp) (by go_simp)).mono ?_;rintro e w' ⟨rfl,rfl⟩;go_wp2;go_ret;exact⟨rfl,rfl⟩
abbrev uT(n:Nat):={x:Int//1<=x/\x<=n}
def x2{n:Nat}(x:uT n):Value:=.int .i64 x.1
def BY(act:List Int)(x y:Int):Int:=rN (og (aj act y.toNat) (aj act x.toNat)) (x-y)
def uu(act:List Int){n:Nat}(x y:uT n):Int:=BY act x.1 y.1
theorem DT(a b:Int):(a<b/\og a b= -1)\/(a=b/\og a b=0)\/(b<a/\og a b=1):=by
 unfold og;rcases Int.lt_trichotomy a b with h|h|h
 ·left;exact⟨h,by simp[h]⟩
 ·right;left;subst h;exact⟨rfl,by simp⟩
 ·right;right;refine⟨h,?_⟩;rw[if_neg (by omega),if_pos (by omega)]
theorem Al{x y:Int}:BY act x y<0↔aj act y.toNat<aj act x.toNat\/(aj act y.toNat=aj act x.toNat/\x<y):=by
 unfold BY rN;rcases DT (aj act y.toNat) (aj act x.toNat) with⟨h,e⟩|⟨h,e⟩|⟨h,e⟩<;>rw[e]
 ·simp;omega
 ·simp;omega
 ·simp;omega
theorem Am(x y:uT n):ltOf (uu act) x y=decide (BY act x.1 y.1<0):=rfl
theorem BZ(act:List Int)(n:Nat):SWO (ltOf (uu act (n:=n))) where
 irrefl x:=by rw[Am,decide_eq_false_iff_not,Al];omega
 trans x y z h1 a:=by rw[Am,decide_eq_true_eq,Al] at*;omega
 ntrans x y z h1 a:=by rw[Am,decide_eq_false_iff_not,Al] at*;omega
theorem Nf(act:List Int)(n:Nat)(x y:uT n)(h1:ltOf (uu act) x y=false)(a:ltOf (uu act) y x=false):x=y:=by
 rw[Am,decide_eq_false_iff_not,Al] at*;apply Subtype.ext;omega
theorem Hh{α:Type}[Inhabited α](enc:α->Value)(w:World)(g m:Nat)(a:Array α)(os:Array Obj){b:Nat}(c:b<w.heap.size)(d:b≠g):(sortWorld enc w g 0 m a os).heap[b]? =w.heap[b]? :=by
 unfold sortWorld;rw[Sort.heap_grow_old _ _ (by rw[Sort.size_putRow];exact c)];unfold Sort.putRow Sort.mapBlock;rw[Array.getElem?_modify,if_neg (λ e=>d e.symm)];rfl
theorem Hi(l:List (uT n)):l.map x2=(l.map (·.1)).map (Value.int .i64):=by rw[List.map_map];rfl
def qs(act:List Int){n:Nat}(ls:List (uT n)):List (uT n):=ls.mergeSort λ x y=> !(ltOf (uu act)) y x
theorem Ng{cap:Nat}{ls:List (uT n)}(h:Own w base g m cap (ls.map (·.1)))(t:base<=g)(hm:m<=1000)(H:1<=n)(I:n<=60000){aH G sD xL:Nat}(z:w.cell? ⟨aH,0,none⟩=some (.pointer (some ⟨G,0,none⟩)))(q:w.cell? ⟨G,8,none⟩=some (.slice (some ⟨sD,0,none⟩) (n+1) xL))
  (f:∀v,v<=n->w.cell? ⟨sD,v,none⟩=some (.int .i64 (aj act v))) (A:aH<w.heap.size/\aH≠g) (B:G<w.heap.size/\G≠g) (i:sD<w.heap.size/\sD≠g):
  Calls w_ 157 #[.slice (some ⟨g,0,none⟩) m cap,.func (.func 158) #[] #[.pointer (some ⟨aH,0,none⟩)]] w λ e w'=>
   e=.returned (.tuple #[])/\Own w' base g m cap ((qs act ls).map (·.1))/\Below base w w':=by
 haveI:Inhabited (uT n):=⟨⟨1,by omega⟩⟩
 have h':w.ownsRow base 3 1 (.slice (some ⟨g,0,none⟩) m cap) m (ls.map x2):=by rw[Hi];exact h
 obtain⟨J,K,he,h1,C,L,M,c,D⟩:=holds_of_ownsRow h' (by intro e;cases e)
 cases he
 have E:CmpLays1 w_ 158 #[.pointer (some ⟨aH,0,none⟩)] (x2 (n:=n)) (uu act) g 0 ls.toArray.size w:=by
  intro k os l hs x y;obtain⟨x,N⟩:=x;obtain⟨y,O⟩:=y;obtain⟨v,rfl⟩:∃v:Nat,x=v:=⟨x.toNat,by omega⟩
  obtain⟨u,rfl⟩:∃u:Nat,y=u:=⟨y.toNat,by omega⟩
  have hw:∀b j,b<w.heap.size/\b≠g->(sortWorld x2 w g 0 k l os).cell? ⟨b,j,none⟩=w.cell? ⟨b,j,none⟩:=λ b j o=>t_ (a:=⟨b,j,none⟩) (Hh x2 w g k l os o.1 o.2)
  refine(Nd v u (aj act v) (aj act u) ((hw aH 0 A).trans z) ((hw G 8 B).trans q) (by omega) (by omega) (by omega) (by omega) ((hw sD v i).trans (f v (by omega))) ((hw sD u i).trans (f u (by omega)))).mono ?_;rintro e w' ⟨rfl,rfl⟩;exact⟨rfl,1, #[_],by rw[alloc_eq_grow];rfl⟩
 have p:=Tryz.slices_SortFunc_total x2 (λ _=>rfl) (uu act) (BZ act n) 158 #[.pointer (some ⟨aH,0,none⟩)] g 0 cap ls.toArray w Nc E D C (by simp[c];omega) (Nf act n);have hs:ls.toArray.size=m:=by simp[c]
 rw[hs] at p;refine p.mono ?_;rintro e w' ⟨rfl,r,os,rfl⟩;have s:=ownsRow_putRow (q:=r) (k:=m) (ys:=ls.mergeSort λ x y=> !(ltOf (uu act)) y x) h' (by simp[c]) (o_ _);rw[List.take_of_length_le (by simp[c]),Hi] at s;refine⟨rfl,?_,?_⟩
 ·have:=ownsRow_grow s 0 os;exact this
 ·have F:=below_putRow (enc:=x2) (q:=r) (d:=(ls.mergeSort λ x y=> !(ltOf (uu act)) y x).toArray) (Below.refl base w) t;exact below_grow F (by simp[putRow,mapBlock,Sort.ahead];omega) os
def oy(n:Nat):List (uT n):=(j_ n).attach.map λ k=>⟨(k.1:Int)+1,by have:=List.mem_range.1 k.2;omega⟩
theorem DU(n:Nat):(oy n).map (·.1)=(j_ n).map λ k:Nat=>(k:Int)+1:=by
 unfold oy;rw[List.map_map];show(j_ n).attach.map (λ k=>(k.1:Int)+1)=_;rw[List.attach_map_val (l:=j_ n) (f:=λ k:Nat=>(k:Int)+1)]
end
section
open Go.RowKit Go.Shelf
theorem Nh:(w_.info? 74).map (λ i=>(i.zero,i.size,i.bytes))=some (some (.agg #[.slice none 0 0,.int .i64 0,.int .i64 0]),3,40):=by kernel_rfl
structure mM where
 r:Row
 bh:Int
 ac:Int
def sE(e:mM):List Value:=[kS e.r,.int .i64 e.bh,.int .i64 e.ac]
def pT(es:List mM):List Value:=(es.map sE).flatten
theorem Hj:∀es:List mM,(pT es).length=es.length*3
 |[]=>rfl
 |e::es=>by
  have:=Hj es;unfold pT at this⊢;simp only[p_,List.flatten_cons,m_,this,sE,List.length_cons,List.length_nil];omega
theorem Ni(a b:List mM):pT (a++b)=pT a++pT b:=by simp[pT]
theorem B0:∀(es:List mM)(j:Nat)(h:j<es.length)(k:Nat),k<3->(pT es)[j*3+k]? =(sE es[j])[k]?
 |[],j,h,k,hk=>by simp at h
 |e::es,0,h,k,hk=>by
  show(sE e++pT es)[0*3+k]? =_;rw[List.getElem?_append_left (by simp[sE];omega)];simp
 |e::es,j+1,h,k,hk=>by
  show(sE e++pT es)[(j+1)*3+k]? =_;rw[List.getElem?_append_right (by simp[sE];omega)];have:=B0 es j (by simpa using h) k hk;rw[show(j+1)*3+k-(sE e).length=j*3+k by simp[sE];omega,this];rfl
structure sF(w:World)(A:Option Addr)(n c:Nat)(es:List mM):Prop where
 len:es.length=n
 cap:n<=c
 mu:n*40<=140737488355328
 nT:c<=maxLen
 cells:0<n->∃b off,A=some ⟨b,off,none⟩/\b<w.heap.size/\∀k,k<n*3->w.cell? ⟨b,off+k,none⟩=(pT es)[k]?
 rows:∀e∈es,aL w e.r.A e.r.n e.r.c e.r.ai
theorem sF.below{w w':World}{A:Option Addr}{n c:Nat}{es:List mM}(h:sF w A n c es)(a:Below w.heap.size w w'):sF w' A n c es:=
 ⟨h.len,h.cap,h.mu,h.nT,λ f=>by
  obtain⟨b,off,rfl,d,g⟩:=h.cells f;exact⟨b,off,rfl,v_ d a.size,λ k hk=>(a.cell (p:=⟨b,_,none⟩) d).trans (g k hk)⟩,λ e he=>(h.rows e he).below a⟩
structure nx where
 lH:Int
 r:Row
def rK(e:nx):List Value:=[.int .i64 e.lH,kS e.r]
def mR(es:List nx):List Value:=(es.map rK).flatten
structure oz(w:World)(A:Option Addr)(n c:Nat)(es:List nx):Prop where
 len:es.length=n
 cap:n<=c
 mu:n*32<=140737488355328
 nT:c<=maxLen
 cells:0<n->∃b off,A=some ⟨b,off,none⟩/\b<w.heap.size/\∀k,k<n*2->w.cell? ⟨b,off+k,none⟩=(mR es)[k]?
 rows:∀e∈es,aL w e.r.A e.r.n e.r.c e.r.ai
theorem oz.below{w w':World}{A:Option Addr}{n c:Nat}{es:List nx}(h:oz w A n c es)(a:Below w.heap.size w w'):oz w' A n c es:=
 ⟨h.len,h.cap,h.mu,h.nT,λ f=>by
  obtain⟨b,off,rfl,d,g⟩:=h.cells f;exact⟨b,off,rfl,v_ d a.size,λ k hk=>(a.cell (p:=⟨b,_,none⟩) d).trans (g k hk)⟩,λ e he=>(h.rows e he).below a⟩
def Nj(w:World)(base:Nat)(v:Value)(k:Nat)(es:List mM)(v':Value)(w':World):Prop:=
 w'.ownsRow base 74 3 v' k (pT es)/\w.grownBy w' v.ownBlock/\(v'.ownBlock=v.ownBlock\/v'.ownBlock=some w.heap.size)
theorem Nk(w:World)(ty:TypeId)(base:Nat)(v:Value)(n:Nat)(es:List mM)(c:w.ownsRow base 74 3 v n (pT es))(b c1:Nat)(e:mM)(d:w.cell? ⟨b,0,none⟩=some (kS e.r))(h1:w.cell? ⟨b,1,none⟩=some (.int .i64 e.bh))(f:w.cell? ⟨b,2,none⟩=some (.int .i64 e.ac))(q:n<=1000000)(g:base<=w.heap.size):
  ∃v' w',(Builtin.append_ #[42,42] ty #[v,.slice (some ⟨b,0,none⟩) 1 c1]).run w_ w=.ok v' w'/\Nj w base v (n+1) (es++[e]) v' w':=by
 obtain⟨i0,h,i,k,l⟩:=info_parts Nh;have m:∀j u,(sE e)[j]? =some u->w.cell? ((⟨b,0,none⟩:Addr).add j)=some u:=by
  intro j u a;have s:j<3:=(List.getElem?_eq_some_iff.1 a).1;rw[Addr.add_lit,Nat.zero_add];unfold sE at a;rcases(show j=0\/j=1\/j=2 by omega) with rfl|rfl|rfl
  ·simp only[y_,l_] at a;subst a;exact d
  ·simp only[u_,y_,l_] at a;subst a;exact h1
  ·simp only[u_,y_,l_] at a;subst a;exact f
 have o:∀u∈sE e,u.oneCell'=true:=by
  intro u hu;unfold sE at hu;simp only[List.mem_cons,List.not_mem_nil,or_false] at hu;rcases hu with rfl|rfl|rfl<;>rfl
 have p:pT (es++[e])=pT es++sE e:=by rw[Ni];simp[pT]
 obtain⟨v',w',g1,g2,g3,_,g5⟩:=run_append_own_at (P:=w_) w base 42 ty 74 i0 (.agg #[.slice none 0 0,.int .i64 0,.int .i64 0]) 3 40 Tryz.underlying42 h i k l rfl (by decide) v n (pT es) c ⟨b,0,none⟩ 1 c1 (sE e) rfl m o (by unfold maxLen;omega) (by omega) g;rw[<-p] at g2;exact⟨v',w',g1,g2,g3,g5⟩
theorem sF.kW{A:Option Addr}{es:List mM}(h:w.ownsRow base 74 3 (.slice A n c) n (pT es))(b:n*40<=140737488355328)(d:∀e∈es,aL w e.r.A e.r.n e.r.c e.r.ai):sF w A n c es:=by
 have hl:es.length=n:=by have:=h.1;rw[Hj] at this;omega
 rcases h.2 with⟨a,f⟩|⟨g,cap,cur,a,l,m,i,j,o,p⟩
 ·simp only[h_] at a;obtain⟨rfl,_,rfl⟩:=a;subst f;exact⟨hl,o_ _,b,Nat.zero_le _,λ h=>absurd h (by omega),d⟩
 ·simp only[h_] at a;obtain⟨rfl,_,rfl⟩:=a;refine⟨hl,i,b,j,λ f=>⟨g,0,rfl,(h.lt g rfl).2,λ k hk=>?_⟩,d⟩;rw[Nat.zero_add];exact h.cellAt k hk
theorem aY.still(h:aY K base w G hs cb s){P:Nat->Prop}(f:aG (λ b=>b<w.heap.size/\¬P b) w W)(a:∀b,P b->K b):aY K base W G hs cb s:=by
 have j:¬P G:=λ e=>h.s.g (a _ e)
 refine⟨⟨f.blk h.e.box ⟨h.e.box.lt,j⟩,⟨λ r=>oS (h.e.rows.row r) (λ b c=>?_),h.e.rows.apart⟩,λ d i=>f.blk (h.e.cls d i) ⟨(h.e.cls d i).lt,λ e=>h.s.cl d i (a _ e)⟩,h.e.inj,h.e.qX,h.e.rE⟩,h.s.more f.size⟩;rw[ax.own] at c;exact f.keep b ⟨(h.e.rows.lt c).2,λ e=>h.s.row r b c (a _ e)⟩
def s4(W w:World)(a:Option Addr)(c2:Nat)(c:List Int):Prop:=aL w a c.length c2 c/\∀b,a.map (·.block)=some b->W.heap.size<=b/\b<w.heap.size
theorem s4.below{W w w':World}{aX:Option Addr}{c2:Nat}{ai:List Int}(h:s4 W w aX c2 ai)(a:Below w.heap.size w w'):s4 W w' aX c2 ai:=⟨h.1.below a,λ b e=>⟨(h.2 b e).1,v_ (h.2 b e).2 a.size⟩⟩
theorem s4.grown{w':World}{aX:Option Addr}{c2:Nat}{ai:List Int}(h:s4 W w aX c2 ai)(a:w.grownBy w' row)(c:∀g,row=some g->g<W.heap.size):s4 W w' aX c2 ai:=
 ⟨h.1.yY a.size (λ b e=>a.block b (h.2 b e).2 (λ d=>by have:=c b d.symm;have:=(h.2 b e).1;omega)),λ b e=>⟨(h.2 b e).1,v_ (h.2 b e).2 a.size⟩⟩
def B1(b:Option Addr)(c2:Nat)(a:List Int)(bh ac:Int):mM:=⟨⟨b,a.length,c2,a⟩,bh,min ac 1099511627776⟩
def GE(W:World)(base k:Nat)(A:Option Addr)(j c:Nat)(es:List mM)(d:Nat)(l:Option Addr)(m n:Nat)(e:List Int)(bh ac:Int)(i:Nat)(v:Value)(w:World):Prop:=
 match i with
 |0=>v=.pointer (some ⟨k,2,none⟩)
 |1=>v=.slice A j c
 |2=>v=.pointer (some ⟨d,0,none⟩)
 |3=>v=.pointer (some ⟨d,0,none⟩)
 |4=>v=.pointer (some ⟨d,0,none⟩)
 |5=>v=.slice l m n
 |6=>∃a c2,v=.slice a e.length c2/\s4 W w a c2 e
 |7=>v=.pointer (some ⟨d,0,none⟩)
 |8=>v=.pointer (some ⟨d,0,none⟩)
 |9=>v=.pointer (some ⟨d,2,none⟩)
 |10=>v=.int .i64 bh
 |11=>v=.pointer (some ⟨d,0,none⟩)
 |12=>v=.pointer (some ⟨d,0,none⟩)
 |13=>v=.pointer (some ⟨d,3,none⟩)
 |14=>v=.int .i64 ac
 |15=>v=.int .i64 (min ac 1099511627776)
 |16=>∃a c2,v=.agg #[.slice a e.length c2,.int .i64 bh,.int .i64 (min ac 1099511627776)]/\s4 W w a c2 e
 |17=>∃a c2 b,v=.slice (some ⟨b,0,none⟩) 1 1/\s4 W w a c2 e/\W.heap.size<=b/\b<w.heap.size/\w.cell? ⟨b,0,none⟩=some (.slice a e.length c2)/\w.cell? ⟨b,1,none⟩=some (.int .i64 bh)/\w.cell? ⟨b,2,none⟩=some (.int .i64 (min ac 1099511627776))
 |18=>∃a c2 f h,v=.slice f (j+1) h/\s4 W w a c2 e/\w.ownsRow base 74 3 (.slice f (j+1) h) (j+1) (pT (es++[B1 a c2 e bh ac]))/\((x_ f (j+1) h).ownBlock=(x_ A j c).ownBlock\/∀g,(x_ f (j+1) h).ownBlock=some g->W.heap.size<=g)/\∀b,a.map (·.block)=some b->(x_ f (j+1) h).ownBlock≠some b
 |19=>v=.pointer (some ⟨k,2,none⟩)
 |_=>True
theorem GE.mono(W:World)(base k:Nat)(A:Option Addr)(j c:Nat)(es:List mM)(l:Nat)(m:Option Addr)(o q:Nat)(r:List Int)(bh ac:Int)(i:Nat)(u:Value)(w w':World)(a:Below w.heap.size w w')(h:GE W base k A j c es l m o q r bh ac i u w):GE W base k A j c es l m o q r bh ac i u w':=by
 match i,h with
 |0,h=>exact h
 |1,h=>exact h
 |2,h=>exact h
 |3,h=>exact h
 |4,h=>exact h
 |5,h=>exact h
 |6,h=>obtain⟨d,c2,h1,e⟩:=h;exact⟨d,c2,h1,e.below a⟩
 |7,h=>exact h
 |8,h=>exact h
 |9,h=>exact h
 |10,h=>exact h
 |11,h=>exact h
 |12,h=>exact h
 |13,h=>exact h
 |14,h=>exact h
 |15,h=>exact h
 |16,h=>obtain⟨d,c2,h1,e⟩:=h;exact⟨d,c2,h1,e.below a⟩
 |17,h=>obtain⟨d,c2,b,h1,e,g,f,s,t,v⟩:=h;exact⟨d,c2,b,h1,e.below a,g,v_ f a.size,(a.cell (p:=⟨b,0,none⟩) f).trans s,(a.cell (p:=⟨b,1,none⟩) f).trans t,(a.cell (p:=⟨b,2,none⟩) f).trans v⟩
 |18,h=>obtain⟨d,c2,x,y,h1,e,g,f⟩:=h;exact⟨d,c2,x,y,h1,e.below a,mw g a,f⟩
 |19,h=>exact h
 |n+20,h=>trivial
theorem GE.grown(W:World)(base o:Nat)(A:Option Addr)(j c:Nat)(es:List mM)(p:Nat)(q:Option Addr)(r s:Nat)(t:List Int)(bh ac:Int)(m:∀g,(x_ A j c).ownBlock=some g->g<W.heap.size)(i:Nat)(x:i≠18)(u:Value)(w w':World)(d:w.grownBy w' (x_ A j c).ownBlock)(h:GE W base o A j c es p q r s t bh ac i u w):GE W base o A j c es p q r s t bh ac i u w':=by
 match i,h with
 |0,h=>exact h
 |1,h=>exact h
 |2,h=>exact h
 |3,h=>exact h
 |4,h=>exact h
 |5,h=>exact h
 |6,h=>obtain⟨f,c2,h1,l⟩:=h;exact⟨f,c2,h1,l.grown d m⟩
 |7,h=>exact h
 |8,h=>exact h
 |9,h=>exact h
 |10,h=>exact h
 |11,h=>exact h
 |12,h=>exact h
 |13,h=>exact h
 |14,h=>exact h
 |15,h=>exact h
 |16,h=>obtain⟨f,c2,h1,l⟩:=h;exact⟨f,c2,h1,l.grown d m⟩
 |17,h=>obtain⟨f,c2,b,h1,l,y,v,z,B,C⟩:=h;have hk:∀k,w'.cell? ⟨b,k,none⟩=w.cell? ⟨b,k,none⟩:=(λ k=>t_ (a:=⟨b,k,none⟩) (d.block b v (λ e=>by have:=m b e.symm;omega)));exact⟨f,c2,b,h1,l.grown d m,y,v_ v d.size,(hk 0).trans z,(hk 1).trans B,(hk 2).trans C⟩
 |18,h=>exact absurd rfl x
 |19,h=>exact h
 |n+20,h=>trivial
structure Hl(W:World)(base iC:Nat)(A:Option Addr)(j c:Nat)(es:List mM)(nh:Nat)(pz:Option Addr)(o4 pU:Nat)(ai:List Int)(bh ac:Int):Prop where
 gU:W.cell? ⟨iC,2,none⟩=some (.slice A j c)
 Nl:iC<W.heap.size
 Nn:some iC≠(x_ A j c).ownBlock
 bf:W.cell? ⟨nh,0,none⟩=some (.slice pz o4 pU)
 c2:W.cell? ⟨nh,2,none⟩=some (.int .i64 bh)
 c3:W.cell? ⟨nh,3,none⟩=some (.int .i64 ac)
 DV:nh<W.heap.size
 DW:some nh≠(x_ A j c).ownBlock
 wQ:aL W pz o4 pU ai
 lg:∀b,pz.map (·.block)=some b->b<W.heap.size/\some b≠(x_ A j c).ownBlock
 row:∀g,(x_ A j c).ownBlock=some g->g<W.heap.size
 cI:base<=W.heap.size
 No:j<=1000000
theorem Np(W:World)(base s:Nat)(A:Option Addr)(j c:Nat)(es:List mM)(p:Nat)(y:Option Addr)(z B:Nat)(o:List Int)(bh ac:Int)(C:Hl W base s A j c es p y z B o bh ac):
  ug w_ [some 48,some 49,some 50,some 51,some 52,some 53,some 54,some 55,some 56,some 57,some 58,some 59,some 60,some 61,some 62,some 63,some 64,some 65,some 66,some 67,none] [[],[0],[],[2],[3],[4],[5],[],[7],[8],[9],[],[11],[12],[13],[14],[6,10,15],[16],[1,17,6],[0,1,2,3,4,5,6,7,8,9,10,11,12,13,14,15,16,17,18],[19,18,18,0,1,2,3,4,5,6,7,8,9,10,11,12,13,14,15,16,17,18]] [(3,.pointer (some ⟨s,0,none⟩)),(8,.pointer (some ⟨p,0,none⟩))] (λ w=>W.grownBy w (x_ A j c).ownBlock) (GE W base s A j c es p y z B o bh ac) (λ _=>none) (λ w=>w.ownsRow base 74 3 (.slice A j c) j (pT es)) 18 0 ((rV Tryz.f100 12).take 20):=by
 have af:=GE.mono W base s A j c es p y z B o bh ac;have ag:∀w w':World,Below w.heap.size w w'->w.ownsRow base 74 3 (.slice A j c) j (pT es)->w'.ownsRow base 74 3 (.slice A j c) j (pT es):=λ w w' q h=>mw h q
 have ah:∀w w':World,W.grownBy w (x_ A j c).ownBlock->Below w.heap.size w w'->W.grownBy w' (x_ A j c).ownBlock:=λ w w' f q=>wZ f ⟨q.os,q.tape,q.output,q.size,λ k hk _=>q.block k hk⟩
 refine⟨?_,?_,?_,?_,?_,?_,?_,?_,?_,?_,?_,?_,?_,?_,?_,?_,?_,?_,?_,?_,trivial⟩
 ·intro vals w i f m d l hp;have X:i (.tmp 3)=_:=l.1 rfl;simp only[bD,execOp,X];simp[gL,go_sem];exact .same f rfl
 ·intro vals w i f m d l hp;obtain⟨⟨f0,F⟩,-⟩:=(⟨d.1 rfl,d.2⟩:_/\_)
  have F:i (.tmp 48)=vals 0:=F _ rfl;have f0:vals 0=_:=f0 (s_ rfl);rw[f0] at F;have t:=(t_ (a:=⟨s,2,none⟩) (f.block s C.Nl C.Nn)).trans C.gU;simp only[bD,execOp,F];simp[gL,go_sem,t];exact .same f rfl
 ·intro vals w i f m d l hp;have D:i (.tmp 8)=_:=l.2.1 rfl;simp only[bD,execOp,D];simp[gL,go_sem];exact .same f rfl
 ·intro vals w i f m d l hp;obtain⟨⟨f2,r⟩,-⟩:=(⟨d.1 rfl,d.2⟩:_/\_)
  have r:i (.tmp 50)=vals 2:=r _ rfl;have f2:vals 2=_:=f2 (s_ rfl);rw[f2] at r;simp only[bD,execOp,r];simp[gL,go_sem];exact .same f rfl
 ·intro vals w i f m d l hp;obtain⟨⟨f3,G⟩,-⟩:=(⟨d.1 rfl,d.2⟩:_/\_)
  have G:i (.tmp 51)=vals 3:=G _ rfl;have f3:vals 3=_:=f3 (s_ rfl);rw[f3] at G;simp only[bD,execOp,G];simp[gL,go_sem];exact .same f rfl
 ·intro vals w i f m d l hp;obtain⟨⟨f4,H⟩,-⟩:=(⟨d.1 rfl,d.2⟩:_/\_)
  have H:i (.tmp 52)=vals 4:=H _ rfl;have f4:vals 4=_:=f4 (s_ rfl);rw[f4] at H;have t:=(t_ (a:=⟨p,0,none⟩) (f.block p C.DV C.DW)).trans C.bf;simp only[bD,execOp,H];simp[gL,go_sem,t];exact .same f rfl
 ·intro vals w i f m d l hp;obtain⟨⟨f5,I⟩,-⟩:=(⟨d.1 rfl,d.2⟩:_/\_)
  have I:i (.tmp 53)=vals 5:=I _ rfl;have f5:vals 5=_:=f5 (s_ rfl);rw[f5] at I;have Y:aL w y z B o:=C.wQ.yY f.size (λ b e=>f.block b (C.lg b e).1 (C.lg b e).2);refine tD 81 #[.tmp 53] #[25] rfl BQ hp ?_;simp only[q_,p_,n_,I];refine(vj y z B o w Y).mono ?_;rintro e w' ⟨n,c2,rfl,ai,q⟩;have hl:=Y.len;have ar:=Y.mu;refine⟨_,rfl,.more af ag q (ah w w' f q) ⟨n,c2,rfl,aL.kW ai (by omega),λ b e=>?_⟩⟩;have h1:=ai.lt b (by show(ax.v ⟨n,o.length,c2⟩).ownBlock=_;rw[ax.own];exact e);exact⟨i_ f.size h1.1,h1.2⟩
 ·intro vals w i f m d l hp;have D:i (.tmp 8)=_:=l.2.1 rfl;simp only[bD,execOp,D];simp[gL,go_sem];exact .same f rfl
 ·intro vals w i f m d l hp;obtain⟨⟨f7,J⟩,-⟩:=(⟨d.1 rfl,d.2⟩:_/\_)
  have J:i (.tmp 55)=vals 7:=J _ rfl;have f7:vals 7=_:=f7 (s_ rfl);rw[f7] at J;simp only[bD,execOp,J];simp[gL,go_sem];exact .same f rfl
 ·intro vals w i f m d l hp;obtain⟨⟨f8,K⟩,-⟩:=(⟨d.1 rfl,d.2⟩:_/\_)
  have K:i (.tmp 56)=vals 8:=K _ rfl;have f8:vals 8=_:=f8 (s_ rfl);rw[f8] at K;simp only[bD,execOp,K];simp[gL,go_sem];exact .same f rfl
 ·intro vals w i f m d l hp;obtain⟨⟨f9,L⟩,-⟩:=(⟨d.1 rfl,d.2⟩:_/\_)
  have L:i (.tmp 57)=vals 9:=L _ rfl;have f9:vals 9=_:=f9 (s_ rfl);rw[f9] at L;have t:=(t_ (a:=⟨p,2,none⟩) (f.block p C.DV C.DW)).trans C.c2;simp only[bD,execOp,L];simp[gL,go_sem,t];exact .same f rfl
 ·intro vals w i f m d l hp;have D:i (.tmp 8)=_:=l.2.1 rfl;simp only[bD,execOp,D];simp[gL,go_sem];exact .same f rfl
 ·intro vals w i f m d l hp;obtain⟨⟨f11,M⟩,-⟩:=(⟨d.1 rfl,d.2⟩:_/\_)
  have M:i (.tmp 59)=vals 11:=M _ rfl;have f11:vals 11=_:=f11 (s_ rfl);rw[f11] at M;simp only[bD,execOp,M];simp[gL,go_sem];exact .same f rfl
 ·intro vals w i f m d l hp;obtain⟨⟨f12,N⟩,-⟩:=(⟨d.1 rfl,d.2⟩:_/\_)
  have N:i (.tmp 60)=vals 12:=N _ rfl;have f12:vals 12=_:=f12 (s_ rfl);rw[f12] at N;simp only[bD,execOp,N];simp[gL,go_sem];exact .same f rfl
 ·intro vals w i f m d l hp;obtain⟨⟨f13,O⟩,-⟩:=(⟨d.1 rfl,d.2⟩:_/\_)
  have O:i (.tmp 61)=vals 13:=O _ rfl;have f13:vals 13=_:=f13 (s_ rfl);rw[f13] at O;have t:=(t_ (a:=⟨p,3,none⟩) (f.block p C.DV C.DW)).trans C.c3;simp only[bD,execOp,O];simp[gL,go_sem,t];exact .same f rfl
 ·intro vals w i f m d l hp;obtain⟨⟨f14,P⟩,-⟩:=(⟨d.1 rfl,d.2⟩:_/\_)
  have P:i (.tmp 62)=vals 14:=P _ rfl;have f14:vals 14=_:=f14 (s_ rfl);rw[f14] at P;simp only[bD,execOp,resolve,invoke,builtin,Sem.run_bind,Sem.run_pure,Result.andThen_ok,q_,p_,n_,P,hp.1];simp[gL,go_sem];exact .same f rfl
 ·intro vals w i f m d l hp;obtain⟨⟨f6,Q⟩,⟨f10,R⟩,⟨f15,S⟩,-⟩:=(⟨d.1 rfl,d.2.1 rfl,d.2.2.1 rfl,d.2.2.2⟩:_/\_/\_/\_)
  have Q:i (.tmp 54)=vals 6:=Q _ rfl;have R:i (.tmp 58)=vals 10:=R _ rfl;have S:i (.tmp 63)=vals 15:=S _ rfl;obtain⟨n,c2,f6,Z⟩:∃n c2,vals 6=.slice n o.length c2/\s4 W w n c2 o:=f6 (s_ rfl);have f10:vals 10=_:=f10 (s_ rfl);have f15:vals 15=_:=f15 (s_ rfl);rw[f6] at Q;rw[f10] at R;rw[f15] at S;simp only[bD,execOp,q_,p_,n_,Q,R,S];simp[gL,go_sem];exact .same f ⟨n,c2,rfl,Z⟩
 ·intro vals w i f m d l hp;obtain⟨⟨f16,T⟩,-⟩:=(⟨d.1 rfl,d.2⟩:_/\_)
  have T:i (.tmp 64)=vals 16:=T _ rfl;obtain⟨n,c2,f16,ak⟩:∃n c2,vals 16=.agg #[.slice n o.length c2,.int .i64 bh,.int .i64 (min ac 1099511627776)]/\s4 W w n c2 o:=f16 (s_ rfl);rw[f16] at T;simp only[bD,execOp,q_,p_,n_,T];simp[gL,go_sem];exact .more af ag (bz w _) (ah w _ f (bz w _)) ⟨n,c2,w.heap.size,rfl,ak.below (bz w _),f.size,by simp,by go_simp,by go_simp,by go_simp⟩
 ·intro vals w i f m d l hp;obtain⟨⟨f1,U⟩,⟨f17,V⟩,-⟩:=(⟨d.1 rfl,d.2.1 rfl,d.2.2⟩:_/\_/\_)
  have U:i (.tmp 49)=vals 1:=U _ rfl;have V:i (.tmp 65)=vals 17:=V _ rfl;have f1:vals 1=_:=f1 (s_ rfl);obtain⟨n,c2,b,f17,aj,au,av,al,an,Z⟩:∃n c2 b,vals 17=.slice (some ⟨b,0,none⟩) 1 1/\s4 W w n c2 o/\W.heap.size<=b/\b<w.heap.size/\w.cell? ⟨b,0,none⟩=some (.slice n o.length c2)/\w.cell? ⟨b,1,none⟩=some (.int .i64 bh)/\w.cell? ⟨b,2,none⟩=some (.int .i64 (min ac 1099511627776)):=f17 (s_ rfl);rw[f1] at U;rw[f17] at V;obtain⟨v',w',g1,g2⟩:=Nk w 42 base (.slice A j c) j es (m (Or.inr rfl)) b 1 (B1 n c2 o bh ac) al an Z C.No (i_ C.cI f.size);simp only[bD,execOp,resolve,invoke,builtin,Sem.run_bind,Sem.run_pure,Result.andThen_ok,q_,p_,n_,U,V,g1,gL];obtain⟨⟨aa,jU,ab⟩,ad,ae⟩:=ax.kW g2.1;have ae:jU=j+1:=ae;subst ae;have ad:v'=.slice aa (j+1) ab:=ad;subst ad;refine⟨wZ f g2.2.1,⟨n,c2,aa,ab,rfl,aj.grown g2.2.1 C.row,g2.1,?_⟩,λ k u hk _ _ _ ao=>GE.grown W base s A j c es p y z B o bh ac C.row k hk u w w' g2.2.1 ao,λ h=>absurd rfl h⟩;have aq:∀E,n.map (·.block)=some E->(x_ aa (j+1) ab).ownBlock≠some E:=λ E e r=>by
   have aw:=aj.2 E e;rcases g2.2.2 with x|x
   ·rw[x] at r;have:=C.row E r;omega
   ·rw[x] at r;injection r with r;omega
  refine⟨?_,aq⟩;rcases g2.2.2 with x|x
  ·exact .inl x
  ·exact .inr (λ g e=>by rw[x] at e;injection e with e;have:=f.size;omega)
 ·intro vals w i f m d l hp;have X:i (.tmp 3)=_:=l.1 rfl;simp only[bD,execOp,X];simp[gL,go_sem];exact .same f rfl
end
end Go.Proofs.YtogdlkfacflmaaaGreat
