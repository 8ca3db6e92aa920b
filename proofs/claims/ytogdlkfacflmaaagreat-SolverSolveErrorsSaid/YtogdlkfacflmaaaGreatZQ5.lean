/- Parts of the walk of the solver and its core; no condition. -/
import Derived.Test.YtogdlkfacflmaaaGreatZQ4
import Derived.Laws.ResultCell
import Derived.Test.YtogdlkfacflmaaaGreatZQ1
import Derived.Test.YtogdlkfacflmaaaGreatZQ2
import Derived.Test.YtogdlkfacflmaaaGreatZQ3
import Derived.Deep.LoopGhost
import Derived.Laws.Rows
namespace Go.Proofs.YtogdlkfacflmaaaGreat
set_option linter.unusedVariables false
set_option linter.unusedSimpArgs false
set_option maxRecDepth 1000000
set_option maxHeartbeats 8000000
open _root_.And renaming intro→z_
open _root_.Go.Proofs.Tryz renaming prog→y_
open _root_.Go.World renaming cell?_of_block→x_,putObj_heap_other→Zp
open _root_.List renaming getElem?_cons_zero→w_,getElem?_cons_succ→v_,take_succ_cons→r_,drop_succ_cons→q_,length_append→p_,take_zero→j_,drop_zero→i_,length_filter_le→g_,map_toArray→e_,map_cons→d_,map_nil→Zv,length_pos_of_mem→Zn,replicate→Zl,length_singleton→Zk,range→Zj,map_map→Zi
open _root_.Nat renaming lt_of_lt_of_le→u_,le_refl→n_,le_trans→Zw,one_le_two_pow→Zu,pow_succ→Zr,zero_le→Zo
open _root_.Or renaming inl→t_
open _root_.Go.Value renaming slice→s_,bool→f_,int→a_
open _root_.Go.Handed renaming intro→o_
open _root_.Go.RowKit.Below renaming refl→m_
open _root_.Go renaming wp_region_still_tail→l_,wpStill_nil→h_,wp_loop_ghost_k→b_
open _root_.Go.IntKind renaming wrap_i64→k_,i64→c_
open _root_.Go.Code renaming wp→Zx
open _root_.Option.some renaming injEq→Zt
open _root_.Go.Sort renaming size_putRow→Zq
open _root_.Array renaming getElem?_modify→Zm
open _root_.Go.Value.slice renaming injEq→Zh
open _root_.Go.KeepsOthers renaming drew→Zg
variable{bw gP K:Nat->Prop}{base G n gx jr ia jA aW aZ aV i h g kX:Nat}{F:List (List Int)}{aC ah oM:List Int}{aF s:aj}{jy A:Option Addr}{W w' B:World}{hs:Nat->aq}{cb:Nat->Nat}{left p:Int}{gA iT hM gG gq dn gT gr gE u16 dr dw dx gh dy dz dA dB dD dF dG dH cu cv cw u32 cz cA cB cC cD cE cF cG cH cI cK dI dJ gO gM gN bx bz bA bB bC bD bE bF bG bL bM bN bO bP bQ u64 bR bS bT bU bV bW bX bY bZ b5 b6 b7 b8 b9 cc cg ck cm cn cp cr dK dL dM dN dO dP dQ dR cL cM cN cO cQ cR cS cT cU cV cW cZ c7 c8 dc de dh dS dU dV dW dX dY dZ ec ee ef ei ej ek en eo ep er eu ew ey ez eA eB eC eD eE eF eG eH eL gi gj gl eM eN eO eP eR eS eT eU eV eW eX eY gm gn gp eZ e3 e4 e5 e6 e7 e8 e9 fc fe ff fh fk fm fo fq fu fA fB fC fD fE fF fG fH fI fJ fK fL fM fN fO fP fQ fR fS gu gv fT fU fV fW fZ ga gb ir iu iw iy iz iA iB iC iD iE iF iG iY iZ ja jb jc jd je jf jN jO jP jQ jR jS:Value}{Q:Exit->Act->World->Prop}{a:Act}{row:Option Nat}
section
open Go.RowKit Go.Shelf
theorem Mi{w0:World}{iS:Nat}
  (C:sB bw gP w0 F aC n gx jr aF jy ia jA aZ) (S:mR bw gP base w0 G F aC n gx jr aF aW aZ K W hs cb s aV s.c.ag) (B: -70000<=left/\left<=4398046511104)
  (D:∀(hs:Nat->aq)(s':aj)(gA iT hM gG gq dn gT gr gE u16 dr dw dx gh dy dz dA dB dD dF dG dH cu cv cw u32 cz cA cB cC cD cE cF cG cH cI cK dI dJ gO gM gN bx bz bA bB bC bD bE bF bG bL bM bN bO bP bQ u64 bR bS bT bU bV bW bX bY bZ b5 b6 b7 b8 b9 cc cg ck cm cn cp cr dK dL dM dN dO dP dQ dR cL cM cN cO cQ cR cS cT cU cV cW cZ c7 c8 dc de dh dS dU dV dW dX dY dZ ec ee ef ei ej ek en eo ep er eu ew ey ez eA eB eC eD eE eF eG eH eL gi gj gl eM eN eO eP eR eS eT eU eV eW eX eY gm gn gp eZ e3 e4 e5 e6 e7 e8 e9 fc fe ff fh fk fm fo fq fu fA fB fC fD fE fF fG fH fI fJ fK fL fM fN fO fP fQ fR fS gu gv fT fU fV fW fZ ga gb ir iu iw iy iz iA iB iC iD iE iF iG iY iZ ja jb jc jd je jf jN jO jP jQ jR jS:Value)(W':World),mR bw gP base w0 G F aC n gx jr aF aW aZ K W' hs cb s' aV s'.c.ag->s'.c.ag=s'.c.au.length->s'.c.l9=false->s'.aI.length=s.aI.length->s.c.au.length<=s'.c.au.length->Q .normal {tmps:= #[.pointer (some ⟨G,0,none⟩),.slice jy ia jA,.int .i64 (aZ:Int),gA,iT,hM,.pointer (some ⟨aW,0,none⟩),.int .i64 (iS:Int),.int .i64 left,.int .i64 2000,gG,gq,dn,gT,gr,gE,u16,dr,dw,dx,gh,dy,dz,dA,dB,dD,dF,dG,dH,cu,cv,cw,u32,cz,cA,cB,cC,cD,cE,cF,cG,cH,cI,cK,dI,dJ,gO,gM,gN,bx,bz,bA,bB,bC,bD,bE,bF,bG,bL,bM,bN,bO,bP,bQ,u64,bR,bS,bT,bU,bV,bW,bX,bY,bZ,b5,b6,b7,b8,b9,cc,cg,ck,cm,cn,cp,cr,dK,dL,dM,dN,dO,dP,dQ,dR,cL,cM,cN,cO,cQ,cR,cS,cT,cU,cV,cW,cZ,c7,c8,dc,de,dh,dS,dU,dV,dW,dX,dY,dZ,ec,ee,ef,ei,ej,ek,en,eo,ep,er,eu,ew,ey,ez,eA,eB,eC,eD,eE,eF,eG,eH,eL,gi,gj,gl,eM,eN,eO,eP,eR,eS,eT,eU,eV,eW,eX,eY,gm,gn,gp,eZ,e3,e4,e5,e6,e7,e8,e9,fc,fe,ff,fh,fk,fm,fo,fq,fu,fA,fB,fC,fD,fE,fF,fG,fH,fI,fJ,fK,fL,fM,fN,fO,fP,fQ,fR,fS,gu,gv,fT,fU,fV,fW,fZ,ga,gb,ir,iu,iw,iy,iz,iA,iB,iC,iD,iE,iF,iG,iY,iZ,ja,jb,jc,jd,je,jf,jN,jO,jP,jQ,jR,jS],defers:=[]} W')
  (E:∀(K:Nat->Prop)(hs:Nat->aq)(cb:Nat->Nat)(s':aj)(gA iT hM gG gq dn gT gr gE u16 dr dw dx gh dy dz dA dB dD dF dG dH cu cv cw u32 cz cA cB cC cD cE cF cG cH cI cK dI dJ gO gM gN bx bz bA bB bC bD bE bF bG bL bM bN bO bP bQ u64 bR bS bT bU bV bW bX bY bZ b5 b6 b7 b8 b9 cc cg ck cm cn cp cr dK dL dM dN dO dP dQ dR cL cM cN cO cQ cR cS cT cU cV cW cZ c7 c8 dc de dh dS dU dV dW dX dY dZ ec ee ef ei ej ek en eo ep er eu ew ey ez eA eB eC eD eE eF eG eH eL gi gj gl eM eN eO eP eR eS eT eU eV eW eX eY gm gn gp eZ e3 e4 e5 e6 e7 e8 e9 fc fe ff fh fk fm fo fq fu fA fB fC fD fE fF fG fH fI fJ fK fL fM fN fO fP fQ fR fS gu gv fT fU fV fW fZ ga gb ir iu iw iy iz iA iB iC iD iE iF iG iY iZ ja jb jc jd je jf jN jO jP jQ jR jS:Value)(W':World),mR bw gP base w0 G F aC n gx jr aF aW aZ K W' hs cb s' (aV+1) s'.c.ag->Q (.exit 1) {tmps:= #[.pointer (some ⟨G,0,none⟩),.slice jy ia jA,.int .i64 (aZ:Int),gA,iT,hM,.pointer (some ⟨aW,0,none⟩),.int .i64 (iS:Int),.int .i64 (left-1),.int .i64 2000,gG,gq,dn,gT,gr,gE,u16,dr,dw,dx,gh,dy,dz,dA,dB,dD,dF,dG,dH,cu,cv,cw,u32,cz,cA,cB,cC,cD,cE,cF,cG,cH,cI,cK,dI,dJ,gO,gM,gN,bx,bz,bA,bB,bC,bD,bE,bF,bG,bL,bM,bN,bO,bP,bQ,u64,bR,bS,bT,bU,bV,bW,bX,bY,bZ,b5,b6,b7,b8,b9,cc,cg,ck,cm,cn,cp,cr,dK,dL,dM,dN,dO,dP,dQ,dR,cL,cM,cN,cO,cQ,cR,cS,cT,cU,cV,cW,cZ,c7,c8,dc,de,dh,dS,dU,dV,dW,dX,dY,dZ,ec,ee,ef,ei,ej,ek,en,eo,ep,er,eu,ew,ey,ez,eA,eB,eC,eD,eE,eF,eG,eH,eL,gi,gj,gl,eM,eN,eO,eP,eR,eS,eT,eU,eV,eW,eX,eY,gm,gn,gp,eZ,e3,e4,e5,e6,e7,e8,e9,fc,fe,ff,fh,fk,fm,fo,fq,fu,fA,fB,fC,fD,fE,fF,fG,fH,fI,fJ,fK,fL,fM,fN,fO,fP,fQ,fR,fS,gu,gv,fT,fU,fV,fW,fZ,ga,gb,ir,iu,iw,iy,iz,iA,iB,iC,iD,iE,iF,iG,iY,iZ,ja,jb,jc,jd,je,jf,jN,jO,jP,jQ,jR,jS],defers:=[]} W')
  (H:∀(K:Nat->Prop)(hs:Nat->aq)(cb:Nat->Nat)(s':aj)(h':Nat)(kind:Int)(gA iT hM gG gq dn gT gr gE u16 dr dw dx gh dy dz dA dB dD dF dG dH cu cv cw u32 cz cA cB cC cD cE cF cG cH cI cK dI dJ gO gM gN bx bz bA bB bC bD bE bF bG bL bM bN bO bP bQ u64 bR bS bT bU bV bW bX bY bZ b5 b6 b7 b8 b9 cc cg ck cm cn cp cr dK dL dM dN dO dP dQ dR cL cM cN cO cQ cR cS cT cU cV cW cZ c7 c8 dc de dh dS dU dV dW dX dY dZ ec ee ef ei ej ek en eo ep er eu ew ey ez eA eB eC eD eE eF eG eH eL gi gj gl eM eN eO eP eR eS eT eU eV eW eX eY gm gn gp eZ e3 e4 e5 e6 e7 e8 e9 fc fe ff fh fk fm fo fq fu fA fB fC fD fE fF fG fH fI fJ fK fL fM fN fO fP fQ fR fS gu gv fT fU fV fW fZ ga gb ir iu iw iy iz iA iB iC iD iE iF iG iY iZ ja jb jc jd je jf jN jO jP jQ jR jS:Value)(W':World),sC bw gP base w0 G F aC n gx aF aW aZ K W' hs cb s' aV h' kind none 0 0 none 0 0->aO W' aW 30 [.int .i64 kind,mX,mX,.int .i64 (aV:Int)]->Q .ret {tmps:= #[.pointer (some ⟨G,0,none⟩),.slice jy ia jA,.int .i64 (aZ:Int),gA,iT,hM,.pointer (some ⟨aW,0,none⟩),.int .i64 (iS:Int),.int .i64 left,.int .i64 2000,gG,gq,dn,gT,gr,gE,u16,dr,dw,dx,gh,dy,dz,dA,dB,dD,dF,dG,dH,cu,cv,cw,u32,cz,cA,cB,cC,cD,cE,cF,cG,cH,cI,cK,dI,dJ,gO,gM,gN,bx,bz,bA,bB,bC,bD,bE,bF,bG,bL,bM,bN,bO,bP,bQ,u64,bR,bS,bT,bU,bV,bW,bX,bY,bZ,b5,b6,b7,b8,b9,cc,cg,ck,cm,cn,cp,cr,dK,dL,dM,dN,dO,dP,dQ,dR,cL,cM,cN,cO,cQ,cR,cS,cT,cU,cV,cW,cZ,c7,c8,dc,de,dh,dS,dU,dV,dW,dX,dY,dZ,ec,ee,ef,ei,ej,ek,en,eo,ep,er,eu,ew,ey,ez,eA,eB,eC,eD,eE,eF,eG,eH,eL,gi,gj,gl,eM,eN,eO,eP,eR,eS,eT,eU,eV,eW,eX,eY,gm,gn,gp,eZ,e3,e4,e5,e6,e7,e8,e9,fc,fe,ff,fh,fk,fm,fo,fq,fu,fA,fB,fC,fD,fE,fF,fG,fH,fI,fJ,fK,fL,fM,fN,fO,fP,fQ,fR,fS,gu,gv,fT,fU,fV,fW,fZ,ga,gb,ir,iu,iw,iy,iz,iA,iB,iC,iD,iE,iF,iG,iY,iZ,ja,jb,jc,jd,je,jf,jN,jO,jP,jQ,jR,jS],defers:=[]} W'):
  Zx y_ GP Q {tmps:= #[.pointer (some ⟨G,0,none⟩),.slice jy ia jA,.int .i64 (aZ:Int),gA,iT,hM,.pointer (some ⟨aW,0,none⟩),.int .i64 (iS:Int),.int .i64 left,.int .i64 2000,gG,gq,dn,gT,gr,gE,u16,dr,dw,dx,gh,dy,dz,dA,dB,dD,dF,dG,dH,cu,cv,cw,u32,cz,cA,cB,cC,cD,cE,cF,cG,cH,cI,cK,dI,dJ,gO,gM,gN,bx,bz,bA,bB,bC,bD,bE,bF,bG,bL,bM,bN,bO,bP,bQ,u64,bR,bS,bT,bU,bV,bW,bX,bY,bZ,b5,b6,b7,b8,b9,cc,cg,ck,cm,cn,cp,cr,dK,dL,dM,dN,dO,dP,dQ,dR,cL,cM,cN,cO,cQ,cR,cS,cT,cU,cV,cW,cZ,c7,c8,dc,de,dh,dS,dU,dV,dW,dX,dY,dZ,ec,ee,ef,ei,ej,ek,en,eo,ep,er,eu,ew,ey,ez,eA,eB,eC,eD,eE,eF,eG,eH,eL,gi,gj,gl,eM,eN,eO,eP,eR,eS,eT,eU,eV,eW,eX,eY,gm,gn,gp,eZ,e3,e4,e5,e6,e7,e8,e9,fc,fe,ff,fh,fk,fm,fo,fq,fu,fA,fB,fC,fD,fE,fF,fG,fH,fI,fJ,fK,fL,fM,fN,fO,fP,fQ,fR,fS,gu,gv,fT,fU,fV,fW,fZ,ga,gb,ir,iu,iw,iy,iz,iA,iB,iC,iD,iE,iF,iG,iY,iZ,ja,jb,jc,jd,je,jf,jN,jO,jP,jQ,jR,jS],defers:=[]} W:=by
 have ab:=U D;have ad:=U E;have m:=U H;have I:=U C;have i:=U S;have ae:=U B;clear D E H C S B
 conv=>arg 2;whnf
 dsimp only;obtain⟨af,ah,J,L,ai,ak,al⟩:=i.o.nW I.o;have M:=U (Ls i.o.gz i.o.jX.gK i.o.jX.vZ L (by omega) J);clear af ah J L ai ak al
 go_upto_region 3 with(go_at_call 145;refine M.o.mono ?_;rintro e w1 ⟨p,c',hs',h',rfl,j,N,O,hp⟩;dsimp only)
 have b:mR bw gP base w0 G F aC n gx jr aF aW aZ K w1 hs' cb {s with c:=c'} aV h':=i.o.move N O (i.o.jX.run j.sm j.gK j.jL) rfl rfl j.sm.len;have b:=U b;have an:bI (s.c.au.length<=c'.au.length):=U (by obtain⟨e,he⟩:=j.sm.au;rw[he,p_];omega);have z:=U hp;clear j N O hp M;have P:w1.cell? ⟨G,15,none⟩=some (.bool c'.l9):=b.o.gz.e.kA (k:=15) rfl;obtain⟨ao,j0,c5,q⟩:∃A n c,hs' 5=⟨A,n,c⟩:=⟨_,_,_,rfl⟩
 have aG:w1.cell? ⟨G,6,none⟩=some (.slice ao j0 c5):=by have:=b.o.gz.e.kA (k:=6) (v:=(hs' 5).v) rfl;rw[q] at this;exact this
 have r:j0=c'.st.length:=by have:=b.o.gz.e.j0;rw[q] at this;exact this
 have R:=U (z_ q r);clear q r;have T:=b.o.lQ.cell 0;have V:=b.o.lQ.cell 1;have X:=b.o.lQ.cell 2;have ar:=b.o.lQ.cell 3;have l:=b.o.lQ.free;have av:=l 0;have aw:=l 1;have ax:=l 2;have ay:=l 3;simp only[mX,w_,v_] at T V X ar
 cases t:c'.l9 with
 |true=>
  rw[t] at P;have u:bI (Unsat F):=U (b.o.jX.gK.jK.tM t)
  cases p with
  |none=>
   have g:qZ cb none=.pointer none:=rfl;rw[g]
   go_wp2_with fail
   have f:=b.o.B5 (kind:=2) (oG.no u.o);apply m.o
   ·exact f.1
   ·exact f.2
  |some d=>
   have g:qZ cb (some d)=.pointer (some ⟨cb d,0,none⟩):=rfl;rw[g]
   go_wp2_with fail
   have f:=b.o.B5 (kind:=2) (oG.no u.o);apply m.o
   ·exact f.1
   ·exact f.2
 |false=>
  rw[t] at P
  cases p with
  |none=>
   have g:qZ cb none=.pointer none:=rfl;rw[g];have hp:=z.o;dsimp only at hp
   go_wp2_with fail
   have Y:=b.o;rw[<-hp.2] at Y;apply ab.o hs' {s with c:=c'}
   ·exact Y
   ·exact hp.2.trans hp.1
   ·exact t
   ·rfl
   ·exact an.o
  |some d=>
   have g:qZ cb (some d)=.pointer (some ⟨cb d,0,none⟩):=rfl;rw[g];have hp:=z.o;dsimp only at hp;have w:=U hp;clear hp z
   by_cases y:c'.st.length=0
   ·have u:bI (Unsat F):=U (Jw b.o.jX.gK.aL b.o.jX.gK.jK y w.o.1 w.o.2);obtain rfl:j0=0:=by rw[R.o.2];exact y
    go_wp2_with fail
    have f:=b.o.B5 (kind:=2) (oG.no u.o);apply m.o
    ·exact f.1
    ·exact f.2
   ·have Z:0<c'.st.length:=Nat.pos_of_ne_zero y;have r:¬(j0:Int)=0:=by rw[R.o.2];omega
    have aH:decide ((j0:Int)=0)=false:=decide_eq_false r;have az:=U Z;clear Z y
    by_cases aA:aV=aZ
    ·subst aA
     go_wp2_with fail
     have f:=b.o.B5 (kind:=3) oG.o;apply m.o
     ·exact f.1
     ·exact f.2
    ·have aB:¬(aV:Int)=(aZ:Int):=by omega
     have aJ:decide ((aV:Int)=(aZ:Int))=false:=decide_eq_false aB;have aD:bI (aV<aZ):=U (by have:=b.o.rZ;omega);clear T V X av aw ax l ay
     go_upto_region 7 with fail
     rename_i aK aa aM aN;have aE:=U aa;clear aa
     go_wp2_with fail
     apply aE.o;refine Mh I.o b.o aD.o w.o.1 w.o.2 az.o ae.o ?_;exact ad.o
end
section
open Go.RowKit
def qg(i:Nat):Nat:=2^Nat.log2 i
theorem D0(h:1<=i):qg i<=i:=Nat.log2_self_le (by omega)
theorem Mj(i:Nat):i<2*qg i:=by
 have:i<2^(Nat.log2 i+1):=Nat.lt_log2_self;rw[Zr] at this;unfold qg;omega
theorem D1(i:Nat):1<=qg i:=Zu
theorem Mk{m:Nat}(h1:2^m<=i)(c:i<2*2^m):qg i=2^m:=by
 have b:i≠0:=by have:1<=2^m:=Zu;omega
 unfold qg;rw[(Nat.log2_eq_iff b).2 ⟨h1,by rw[Zr];omega⟩]
def uI:Nat->Nat->Nat
 |0,_=>0
 |f+1,i=>if i+1=2*qg i then qg i else uI f (i-qg i+1)
theorem B7(h:1<=i)(c:i+1≠2*qg i):1<=i-qg i+1/\i-qg i+1<i:=by
 have d:=D0 h;have e:=Mj i;have f:=D1 i;constructor
 ·omega
 ·rcases Nat.lt_or_ge 1 (qg i) with b|b
  ·omega
  ·have:qg i=1:=by omega
   omega
theorem GQ:∀(f b i:Nat),1<=i->i<=f->i<=b->uI f i=uI b i
 |0,_,i,h1,h,_=>absurd h (by omega)
 |_+1,0,i,h1,_,h=>absurd h (by omega)
 |f+1,b+1,i,h1,h,h'=>by
  by_cases e:i+1=2*qg i
  ·simp[uI,e]
  ·have:=B7 h1 e;simp only[uI,if_neg e];exact GQ f b _ this.1 (by omega) (by omega)
def vJ(i:Nat):Nat:=uI i i
theorem Ml(h:1<=i)(e:i+1=2*qg i):vJ i=qg i:=by
 obtain⟨j,rfl⟩:∃j,i=j+1:=⟨i-1,by omega⟩
 simp[vJ,uI,e]
theorem Mm(h:1<=i)(e:i+1≠2*qg i):vJ i=vJ (i-qg i+1):=by
 obtain⟨j,rfl⟩:∃j,i=j+1:=⟨i-1,by omega⟩
 have:=B7 h e;show uI (j+1) (j+1)=_;simp only[uI,if_neg e];exact GQ _ _ _ this.1 (by omega) (by omega)
theorem Mn{q k:Nat}(b:∃m,q=2^m)(h1:k<q)(c:q<=2*k):q=2*qg k:=by
 obtain⟨m,rfl⟩:=b
 cases m with
 |zero=>simp at h1;omega
 |succ m=>rw[Zr] at*;rw[Mk (m:=m) (by omega) (by omega)];omega
theorem Mo(i:Nat)(w:World)(h1:1<=i)(t:i<=1099511627776):
  Calls y_ 150 #[.int .i64 i] w λ e w'=>e=.returned (.int .i64 (vJ i))/\w=w':=by
 generalize j:vJ i=L;have u:=U j;clear j;have B:decide ((i:Int)<1)=false:=by simp;omega
 have C:decide (1099511627776<(i:Int))=false:=by simp;omega
 go_enter Tryz.func150,Tryz.ntmps150
 go_wp2
 go_loop [0,2,3] (λ i _ _=>∃k:Nat,1<=k/\k<=1099511627776/\i=.int .i64 k/\vJ k=L) (λ i _ _=>(intOf i).toNat)
 case atStart=>exact⟨i,h1,t,rfl,u.o⟩
 case round=>
  obtain⟨k,c,D,rfl,l⟩:=hrel;have n:=U l;clear l;go_wp2
  go_loop [3] (λ p=>∃q:Nat,p=.int .i64 q/\q<=2*k/\∃m,q=2^m) (λ p=>2*k-(intOf p).toNat)
  case atStart=>exact⟨1,rfl,by omega,0,rfl⟩
  case round=>
   obtain⟨q,rfl,v,r⟩:=hrel;have g:=U r;clear r
   by_cases E:q<=k
   ·have F:1<=q:=by obtain⟨m,hm⟩:=g.o;rw[hm];exact Zu
    go_wp2
    go_round
    case rel=>exact⟨q*2,by go_num,by omega,by obtain⟨m,hm⟩:=g.o;exact⟨m+1,by rw[hm,Zr]⟩⟩
    case measure=>simp[intOf];omega
   ·have d:=Mn g.o (by omega) v;have G:=D1 k;have b:=U d;clear d
    by_cases f:k+1=q
    ·have s:(k:Int)=(q:Int)-1:=by omega
     have y:((k:Int)==(q:Int)-1)=true:=by simpa using s
     have z:=U f;clear f s;go_wp2;go_ret;refine⟨nL ?_,rfl⟩;rw[<-n.o,Ml c (by rw[z.o];exact b.o),b.o];omega
    ·have y:((k:Int)==(q:Int)-1)=false:=beq_eq_false_iff_ne.2 (by omega);have H:=B7 c (by rw[<-b.o];exact f);have I:=D0 c;have A:=U (Mm c (by rw[<-b.o];exact f));go_wp2;have d:=b.o
     go_round
     case rel=>exact⟨k-qg k+1,by omega,by omega,by rw[d];exact congrArg (a_ .i64) (by omega),by rw[<-A.o];exact n.o⟩
     case measure=>simp[intOf];omega
theorem Mp:∀(f i:Nat),1<=i->i<=f->1<=uI f i/\uI f i<=i:=by
 intro f
 induction f with
 |zero=>intro i h1 b;omega
 |succ f c=>
  intro i h1 b;unfold uI;split
  ·exact⟨D1 i,D0 h1⟩
  ·rename_i d;have e:=B7 h1 d;have g:=c (i-qg i+1) e.1 (by omega);exact⟨g.1,by omega⟩
theorem Mq(h:1<=i):1<=vJ i/\vJ i<=i:=Mp i i h (n_ _)
end
section
open Go.RowKit Go.Shelf
theorem Mr{w:World}(h:aU K base w G hs cb s)(d:s.c.st.length=0):
  Calls y_ 147 #[.pointer (some ⟨G,0,none⟩),.int .i64 0] w λ e w'=>e=.returned (.tuple #[])/\w=w':=by
 obtain⟨f,j0,c5,b⟩:∃A n c,hs 5=⟨A,n,c⟩:=⟨_,_,_,rfl⟩
 have i:w.cell? ⟨G,6,none⟩=some (.slice f j0 c5):=by have:=h.e.kA (k:=6) (v:=(hs 5).v) rfl;rw[b] at this;exact this
 have g:j0=0:=by have:=h.e.j0;rw[b] at this;rw[<-d];exact this
 subst g;clear h d b;go_enter Tryz.func147,Tryz.ntmps147
 go_wp2_with fail
 refine bodyPost_ret (results_none rfl _ _ _) rfl ?_;exact⟨rfl,rfl⟩
def Ms(K:Nat->Prop)(base:Nat)(w:World)(G:Nat)(cb:Nat->Nat)(F:List (List Int))(b:List Int)(n d f h:Nat)(s:aj)(e:Ending)(w':World):Prop:=
 e=.returned (.tuple #[])/\∃(hs':Nat->aq)(s':aj)(h':Nat),aU K base w' G hs' cb s'/\aD K w w'/\mw F b n d s' f h'/\s'.c.st=[]/\s'.aA=s.aA/\s'.jl=s.jl/\s'.aI=s.aI/\s'.c.cl=s.c.cl/\(s.c.ag=h->s'.c.ag=h')
theorem GR{w:World}(E:aU K base w G hs cb s)(S:mw F aC n gx s aV h)(d:n<=60000)(f:s.c.st.length<=1000000):
  Calls y_ 147 #[.pointer (some ⟨G,0,none⟩),.int .i64 0] w (Ms K base w G cb F aC n gx aV h s):=by
 rcases Nat.eq_zero_or_pos s.c.st.length with b|b
 ·refine(Mr E b).mono ?_;rintro e w' ⟨rfl,rfl⟩;exact⟨rfl,hs,s,h,E,aD.refl,S,List.eq_nil_of_length_eq_zero b,rfl,rfl,rfl,rfl,id⟩
 ·refine(FN E S.rg S.gK.aL d 0 b f (mw.GM S b)).mono ?_;rintro e w' ⟨rfl,hs',s',k,r,g,M⟩;exact⟨rfl,hs',s',gQ s.c.st 0,g,M,S.back b k r,by rw[k.c];rfl,k.aA,k.jl,k.aI,by rw[k.c];rfl,λ _=>by rw[k.c];rfl⟩
noncomputable def Mt:Code:=DL (nu B6)
theorem Mu{w0:World}{iS:Nat}
  (C:sB bw gP w0 F aC n gx jr aF jy ia jA aZ) (S:mR bw gP base w0 G F aC n gx jr aF aW aZ K W hs cb s aV s.c.ag) (t:1<=iS/\iS<=1000000)
  (u:∀(gA iT hM gG gq dn gT gr gE u16 dr dw dx gh dy dz dA dB dD dF dG dH cu cv cw u32 cz cA cB cC cD cE cF cG cH cI cK dI dJ gO gM gN bx bz bA bB bC bD bE bF bG bL bM bN bO bP bQ u64 bR bS bT bU bV bW bX bY bZ b5 b6 b7 b8 b9 cc cg ck cm cn cp cr dK dL dM dN dO dP dQ dR cL cM cN cO cQ cR cS cT cU cV cW cZ c7 c8 dc de dh dS dU dV dW dX dY dZ ec ee ef ei ej ek en eo ep er eu ew ey ez eA eB eC eD eE eF eG eH eL gi gj gl eM eN eO eP eR eS eT eU eV eW eX eY gm gn gp eZ e3 e4 e5 e6 e7 e8 e9 fc fe ff fh fk fm fo fq fu fA fB fC fD fE fF fG fH fI fJ fK fL fM fN fO fP fQ fR fS gu gv fT fU fV fW fZ ga gb ir iu iw iy iz iA iB iC iD iE iF iG iY iZ ja jb jc jd je jf jN jO jP jQ jR jS:Value),0<left->Q .normal {tmps:= #[.pointer (some ⟨G,0,none⟩),.slice jy ia jA,.int .i64 (aZ:Int),gA,iT,hM,.pointer (some ⟨aW,0,none⟩),.int .i64 (iS:Int),.int .i64 left,.int .i64 2000,gG,gq,dn,gT,gr,gE,u16,dr,dw,dx,gh,dy,dz,dA,dB,dD,dF,dG,dH,cu,cv,cw,u32,cz,cA,cB,cC,cD,cE,cF,cG,cH,cI,cK,dI,dJ,gO,gM,gN,bx,bz,bA,bB,bC,bD,bE,bF,bG,bL,bM,bN,bO,bP,bQ,u64,bR,bS,bT,bU,bV,bW,bX,bY,bZ,b5,b6,b7,b8,b9,cc,cg,ck,cm,cn,cp,cr,dK,dL,dM,dN,dO,dP,dQ,dR,cL,cM,cN,cO,cQ,cR,cS,cT,cU,cV,cW,cZ,c7,c8,dc,de,dh,dS,dU,dV,dW,dX,dY,dZ,ec,ee,ef,ei,ej,ek,en,eo,ep,er,eu,ew,ey,ez,eA,eB,eC,eD,eE,eF,eG,eH,eL,gi,gj,gl,eM,eN,eO,eP,eR,eS,eT,eU,eV,eW,eX,eY,gm,gn,gp,eZ,e3,e4,e5,e6,e7,e8,e9,fc,fe,ff,fh,fk,fm,fo,fq,fu,fA,fB,fC,fD,fE,fF,fG,fH,fI,fJ,fK,fL,fM,fN,fO,fP,fQ,fR,fS,gu,gv,fT,fU,fV,fW,fZ,ga,gb,ir,iu,iw,iy,iz,iA,iB,iC,iD,iE,iF,iG,iY,iZ,ja,jb,jc,jd,je,jf,jN,jO,jP,jQ,jR,jS],defers:=[]} W)
  (w:∀(hs:Nat->aq)(s':aj)(d:Int)(gA iT hM gG gq dn gT gr gE u16 dr dw dx gh dy dz dA dB dD dF dG dH cu cv cw u32 cz cA cB cC cD cE cF cG cH cI cK dI dJ gO gM gN bx bz bA bB bC bD bE bF bG bL bM bN bO bP bQ u64 bR bS bT bU bV bW bX bY bZ b5 b6 b7 b8 b9 cc cg ck cm cn cp cr dK dL dM dN dO dP dQ dR cL cM cN cO cQ cR cS cT cU cV cW cZ c7 c8 dc de dh dS dU dV dW dX dY dZ ec ee ef ei ej ek en eo ep er eu ew ey ez eA eB eC eD eE eF eG eH eL gi gj gl eM eN eO eP eR eS eT eU eV eW eX eY gm gn gp eZ e3 e4 e5 e6 e7 e8 e9 fc fe ff fh fk fm fo fq fu fA fB fC fD fE fF fG fH fI fJ fK fL fM fN fO fP fQ fR fS gu gv fT fU fV fW fZ ga gb ir iu iw iy iz iA iB iC iD iE iF iG iY iZ ja jb jc jd je jf jN jO jP jQ jR jS:Value)(W':World),mR bw gP base w0 G F aC n gx jr aF aW aZ K W' hs cb s' aV s'.c.ag->s'.aI.length=s.aI.length->left<=0->0<d->d<=32*((iS+1:Nat):Int)->Q (.exit 1) {tmps:= #[.pointer (some ⟨G,0,none⟩),.slice jy ia jA,.int .i64 (aZ:Int),gA,iT,hM,.pointer (some ⟨aW,0,none⟩),.int .i64 ((iS+1:Nat):Int),.int .i64 d,.int .i64 2000,gG,gq,dn,gT,gr,gE,u16,dr,dw,dx,gh,dy,dz,dA,dB,dD,dF,dG,dH,cu,cv,cw,u32,cz,cA,cB,cC,cD,cE,cF,cG,cH,cI,cK,dI,dJ,gO,gM,gN,bx,bz,bA,bB,bC,bD,bE,bF,bG,bL,bM,bN,bO,bP,bQ,u64,bR,bS,bT,bU,bV,bW,bX,bY,bZ,b5,b6,b7,b8,b9,cc,cg,ck,cm,cn,cp,cr,dK,dL,dM,dN,dO,dP,dQ,dR,cL,cM,cN,cO,cQ,cR,cS,cT,cU,cV,cW,cZ,c7,c8,dc,de,dh,dS,dU,dV,dW,dX,dY,dZ,ec,ee,ef,ei,ej,ek,en,eo,ep,er,eu,ew,ey,ez,eA,eB,eC,eD,eE,eF,eG,eH,eL,gi,gj,gl,eM,eN,eO,eP,eR,eS,eT,eU,eV,eW,eX,eY,gm,gn,gp,eZ,e3,e4,e5,e6,e7,e8,e9,fc,fe,ff,fh,fk,fm,fo,fq,fu,fA,fB,fC,fD,fE,fF,fG,fH,fI,fJ,fK,fL,fM,fN,fO,fP,fQ,fR,fS,gu,gv,fT,fU,fV,fW,fZ,ga,gb,ir,iu,iw,iy,iz,iA,iB,iC,iD,iE,iF,iG,iY,iZ,ja,jb,jc,jd,je,jf,jN,jO,jP,jQ,jR,jS],defers:=[]} W'):
  Zx y_ Mt Q {tmps:= #[.pointer (some ⟨G,0,none⟩),.slice jy ia jA,.int .i64 (aZ:Int),gA,iT,hM,.pointer (some ⟨aW,0,none⟩),.int .i64 (iS:Int),.int .i64 left,.int .i64 2000,gG,gq,dn,gT,gr,gE,u16,dr,dw,dx,gh,dy,dz,dA,dB,dD,dF,dG,dH,cu,cv,cw,u32,cz,cA,cB,cC,cD,cE,cF,cG,cH,cI,cK,dI,dJ,gO,gM,gN,bx,bz,bA,bB,bC,bD,bE,bF,bG,bL,bM,bN,bO,bP,bQ,u64,bR,bS,bT,bU,bV,bW,bX,bY,bZ,b5,b6,b7,b8,b9,cc,cg,ck,cm,cn,cp,cr,dK,dL,dM,dN,dO,dP,dQ,dR,cL,cM,cN,cO,cQ,cR,cS,cT,cU,cV,cW,cZ,c7,c8,dc,de,dh,dS,dU,dV,dW,dX,dY,dZ,ec,ee,ef,ei,ej,ek,en,eo,ep,er,eu,ew,ey,ez,eA,eB,eC,eD,eE,eF,eG,eH,eL,gi,gj,gl,eM,eN,eO,eP,eR,eS,eT,eU,eV,eW,eX,eY,gm,gn,gp,eZ,e3,e4,e5,e6,e7,e8,e9,fc,fe,ff,fh,fk,fm,fo,fq,fu,fA,fB,fC,fD,fE,fF,fG,fH,fI,fJ,fK,fL,fM,fN,fO,fP,fQ,fR,fS,gu,gv,fT,fU,fV,fW,fZ,ga,gb,ir,iu,iw,iy,iz,iA,iB,iC,iD,iE,iF,iG,iY,iZ,ja,jb,jc,jd,je,jf,jN,jO,jP,jQ,jR,jS],defers:=[]} W:=by
 have J:=U u;have M:=U w;have y:=U C;have f:=U S;have g:=U t;have N:=U (S.nW C);clear u w C S t
 conv=>arg 2;whnf
 dsimp only
 by_cases hl:left<=0
 ·have dl:decide (left<=0)=true:=decide_eq_true hl;have wt:c_.wrap ((iS:Int)+1)=((iS+1:Nat):Int):=by rw[k_];have:=g.o;omega
  have j:=U (Mo (iS+1) W (by omega) (by have:=g.o;omega));obtain⟨l,m⟩:=Mq (i:=iS+1) (by omega);obtain⟨L,z⟩:∃L,vJ (iS+1)=L:=⟨_,rfl⟩
  rw[z] at j l m;have Y:c_.wrap (32*(L:Int))=32*(L:Int):=by rw[k_];have:=g.o;omega
  have A:=U (GR f.o.gz f.o.jX (by have:=y.o.n10;omega) (by have:=N.o;omega));have p:=U (z_ hl (z_ l m));clear hl l m z
  go_upto_region 19 with(go_at_call 150;refine j.o.mono ?_;rintro e w1 ⟨rfl,rfl⟩;dsimp only)
  go_upto_region 20 with(go_at_call 147;refine A.o.mono ?_;rintro e O ⟨rfl,P,s2,Z,q,M2,r,R,B,D,E,H,I⟩;dsimp only)
  have b:=f.o.move q M2 r B D (by rw[H]);rw[<-I rfl] at b;have c0:O.cell? ⟨G,0,none⟩=some (.int .i64 (n:Int)):=by have:=q.e.kA (k:=0) (v:=.int .i64 (s2.c.n:Int)) rfl;rw[r.rg.jh] at this;exact this
  have T:¬(10:Int)<(n:Int):=by have:=y.o.n10;omega
  have aa:decide ((10:Int)<(n:Int))=false:=decide_eq_false T;have b:=U b;have V:=U E;clear q M2 r R B D E H I A j
  go_wp2_with fail
  apply M.o P s2
  ·exact b.o
  ·rw[V.o]
  ·exact p.o.1
  ·have:=p.o;omega
  ·have:=p.o;omega
 ·have dl:decide (left<=0)=false:=decide_eq_false hl;have X:=U hl;clear hl
  go_wp2_with fail
  apply J.o;have:=X.o;omega
end
section
open Go.RowKit Go.Shelf
theorem Mv(A:Option Addr)(n c:Nat)(d:List Int)(x:Int)(w:World)(h:aQ w A n c d):
  Calls y_ 169 #[.slice A n c,.int .i64 x] w λ e w'=>(∃r:Int,e=.returned (.int .i64 r)/\decide (0<=r)=hasB d x)/\w=w':=by
 have q:=h.small;have H:=U h;clear h;go_enter Tryz.func169,Tryz.ntmps169
 go_wp2
 go_loop [8] (λ i=>∃k:Nat,k<=n/\i=.int .i64 k/\hasB (d.take k) x=false) (λ i=>n-(intOf i).toNat)
 case atStart=>exact⟨0,Zo _,rfl,rfl⟩
 case round=>
  obtain⟨k,hk,rfl,j⟩:=hrel;have l:=U j;clear j
  by_cases g:k<n
  ·obtain⟨b,off,rfl,s,m⟩:=H.o.cells (by omega);have t:=m k g;clear m
   by_cases f:x=iJ d k
   ·have p:(x==iJ d k)=true:=by simpa using f
    have E:bI (hasB d x=true):=U (Ey (k:=k) (by rw[H.o.len];exact g) (by simpa using f.symm));clear f;go_wp2;go_ret;exact⟨⟨k,rfl,by rw[E.o];simp⟩,rfl⟩
   ·have p:(x==iJ d k)=false:=by simpa using f
    have E:bI (hasB (d.take (k+1)) x=false):=U (Ez (by rw[H.o.len];exact g) (by simpa using Ne.symm f) l.o);clear f;go_wp2
    go_round
    case rel=>exact⟨k+1,by omega,by go_num,E.o⟩
    case measure=>simp[intOf];omega
  ·go_wp2;go_ret;exact⟨⟨-1,rfl,by rw[EA H.o.len g l.o];rfl⟩,rfl⟩
theorem D2(r:Bool)(A:Option Addr)(n c:Nat)(d:List Int)(x:Int)(w:World)(h:aQ w A n c d)(b:hasB d x=r):
  Calls y_ 124 #[.slice A n c,.int .i64 x] w λ e w'=>e=.returned (.bool r)/\w=w':=by
 have f:=Mv A n c d x w h;rw[b] at f;clear h b;go_enter Tryz.func124,Tryz.ntmps124
 go_wp2_with (go_at_call 169;refine f.mono ?_;rintro e w' ⟨⟨r,rfl,b⟩,rfl⟩)
 all_goals
  go_ret;exact⟨mo (by rw[<-b]),rfl⟩
open Go.RowKit Go.Shelf Go.Sort Go.Lib
theorem GS(enc:Int->Value)(w:World)(g m:Nat)(c:Array Int)(os:Array Obj){b:Nat}(d:b<w.heap.size)(f:b≠g):(sortWorld enc w g 0 m c os).heap[b]? =w.heap[b]? :=by
 unfold sortWorld;rw[Sort.heap_grow_old _ _ (by rw[Zq];exact d)];unfold Sort.putRow Sort.mapBlock;rw[Zm,if_neg (λ e=>f e.symm)];rfl
theorem aQ.xk{w:World}{c:Nat}(h:aQ w A n c ah)(hs:w.heap.size<=w'.heap.size)(d:∀b,A.map (·.block)=some b->w'.heap[b]? =w.heap[b]?):aQ w' A n c ah:=
 ⟨h.len,h.cap,h.mW,h.o6,λ f=>by
  obtain⟨b,off,e,h1,g⟩:=h.cells f;refine⟨b,off,e,u_ h1 hs,λ j i=>?_⟩;rw[x_ (a:=⟨b,off+j,none⟩) (d b (by rw[e];rfl))];exact g j i⟩
theorem Mw:∀args w,(callFunc 154 args).run y_ w=.ok (.enter 154 args) w:=enters_of Tryz.func154 (by kernel_rfl) rfl
theorem GU(d:Nat)(A:Option Addr)(n c:Nat)(core:List Int)(x:Int)(w:World)(g:w.cell? ⟨d,0,none⟩=some (.slice A n c))(h:aQ w A n c core):
  Calls y_ 154 #[.int .i64 x,.pointer (some ⟨d,0,none⟩)] w λ e w'=>e=.returned (.bool (!(hasB core x)))/\w=w':=by
 obtain⟨r,b⟩:∃r,hasB core x=r:=⟨_,rfl⟩
 have f:=U (D2 r A n c core x w h b);rw[b];clear h b;go_enter Tryz.func154,Tryz.ntmps154
 go_wp2_with (go_at_call 124;refine f.o.mono ?_;rintro e w1 ⟨rfl,rfl⟩;dsimp only)
 go_ret;exact⟨rfl,rfl⟩
theorem Mx(w:World)(base g n cap:Nat)(c:List Int)(h:Own w base g n cap c)(t:base<=g){kI:Nat}{A:Option Addr}{jC gL:Nat}{core:List Int}(i:w.cell? ⟨kI,0,none⟩=some (.slice A jC gL))(j:kI<w.heap.size)(u:kI≠g)(l:aQ w A jC gL core)(o:∀b,A.map (·.block)=some b->b<w.heap.size/\b≠g):
  Calls y_ 85 #[.slice (some ⟨g,0,none⟩) n cap,.func (.func 154) #[] #[.pointer (some ⟨kI,0,none⟩)]] w λ e w'=>
   ∃m,e=.returned (.slice (some ⟨g,0,none⟩) m cap)/\Own w' base g m cap (c.filter λ x=>hasB core x)/\Below base w w':=by
 have h':w.ownsRow base 3 1 (.slice (some ⟨g,0,none⟩) n cap) n (c.map r5):=h;obtain⟨G,H,he,h1,I,v,y,f,z⟩:=holds_of_ownsRow h' (by intro e;cases e)
 cases he
 have B:n<=9223372036854775807:=by unfold maxLen at y;omega
 have C:PredAt y_ 154 #[.pointer (some ⟨kI,0,none⟩)] r5 (λ x=> !(hasB core x)) w:=by
  intro W x r;unfold FnGives;refine(GU kI A jC gL core x W ((r.cell (p:=⟨kI,0,none⟩) j).trans i) (l.below r)).mono λ _ _ ⟨he,hw⟩=>⟨he,0,by rw[<-hw];rfl⟩
 have D:PredOver y_ 154 #[.pointer (some ⟨kI,0,none⟩)] r5 (λ x=> !(hasB core x)) g 0 c.toArray.size w:=by
  intro k os d x _;unfold FnGives;have E:w.heap.size<=(sortWorld r5 w g 0 k d os).heap.size:=by
   show w.heap.size<=((Sort.putRow r5 (Sort.ahead w k) g 0 d).heap++os).size;rw[Array.size_append,Zq];show w.heap.size<=w.heap.size+_;omega
  refine(GU kI A jC gL core x _ ((x_ (a:=⟨kI,0,none⟩) (GS r5 w g k d os j u)).trans i) (l.xk E (λ b e=>GS r5 w g k d os (o b e).1 (o b e).2))).mono λ _ _ ⟨he,hw⟩=>⟨he,0,by rw[<-hw];rfl⟩
 have s:=Tryz.slices_DeleteFunc r5 DU (λ x=> !(hasB core x)) 154 #[.pointer (some ⟨kI,0,none⟩)] Mw 0 Tryz.zeroValue3 g 0 cap c.toArray w C D z (by simpa[f] using B) (by simpa[f] using v);have hs:c.toArray.size=n:=by simp[f]
 rw[hs] at s;refine s.mono ?_;rintro e w' ⟨rfl,q,rfl⟩;have F:c.toArray.toList.filter (λ x=> !(!(hasB core x)))=c.filter λ x=>hasB core x:=by
  show c.filter _=_
  congr 1
  funext x;simp
 rw[F];have hle:=g_ (λ x=>hasB core x) c;refine⟨_,rfl,?_,below_putRow (m_ _ _) t⟩;have:=ownsRow_putRow (q:=q) (k:=(c.filter λ x=>hasB core x).length) (ys:=(c.filter λ x=>hasB core x)++Zl (n-(c.filter λ x=>hasB core x).length) 0) h' (by simp;omega) (by omega);rw[List.take_left' rfl] at this;exact this
end
section
open Go.RowKit Go.Shelf
attribute [local go_sem] Oper.semAt_some
theorem D3(x:Int)(b:0<=x)(h1:x<=1000000):(Lit.int .i64 x).wf=true:=by
 simp[Lit.wf,IntKind.min,IntKind.max,IntKind.bits,IntKind.signed];omega
structure sX(F:List (List Int))(w W:World)(G bf:Nat)(c0:Core)(p:Int)(aL j m:Nat)(S:List Int)(A:Option Addr)(n c:Nat)(out:List Int)(ds:List Nat):Prop where
 s:pY w W G w.heap.size bf (w.heap.size+1+1) m S A n c out ds
 ci:qH F c0 p j (hasB S) out
 As:j<=aL
 Au:m+200000*j<=1+200000*aL
 nl:n+j<=aL+1
 xm:p∈out
inductive xo(F:List (List Int))(w:World)(G bf:Nat)(c0:Core)(p:Int)(aL:Nat):Nat->Act->World->Prop
 |mk {j m n c:Nat} {A:Option Addr} {S out:List Int} {ds:List Nat} {gA u8 kP gG gq dn gT gr gE u16 dr dw dx gh dy dz dA dB dD dF dG dH cu cv cw u32 cz cA cB cC cD cE cF cG cH cI cK dI dJ gO gM gN bx bz bA bB bC bD bE bF bG bL bM bN bO bP bQ u64 bR bS bT bU bV bW bX bY bZ b5 b6 b7 b8 b9 cc cg ck cm cn cp cr:Value} {W:World} (h:sX F w W G bf c0 p aL j m S A n c out ds):xo F w G bf c0 p aL j {tmps:= #[.pointer (some ⟨G,0,none⟩),.int .i64 p,.pointer (some ⟨w.heap.size,0,none⟩),gA,.slice none 0 0,.slice A n c,.pointer (some ⟨bf,0,none⟩),.int .i64 ((j:Int)-1),u8,kP,gG,gq,dn,gT,gr,gE,u16,dr,dw,dx,gh,dy,dz,dA,dB,dD,dF,dG,dH,cu,cv,cw,u32,cz,cA,cB,cC,cD,cE,cF,cG,cH,cI,cK,dI,dJ,gO,gM,gN,bx,bz,bA,bB,bC,bD,bE,bF,bG,bL,bM,bN,bO,bP,bQ,u64,bR,bS,bT,bU,bV,bW,bX,bY,bZ,b5,b6,b7,b8,b9,cc,cg,ck,cm,cn,cp,cr],defers:=ds.map oO} W
theorem xo.elim{w:World}{bf:Nat}{c0:Core}{aL:Nat}(b:xo F w G bf c0 p aL g a W){P:Prop}(k:∀{j m n c:Nat}{A:Option Addr}{S out:List Int}{ds:List Nat}{d u8 e f i l o q r u16 s t u v y z B C D E H I J K L u32 M N O Q R T U V X Y Z aa ab ad ae af ag ah ai aj ak al an ao aq ar au av aw ax ay u64 az aA aB aC aD aE aF aG aH aI aJ aK aM aN aO aP aQ aR aS aT aU:Value},a={tmps:= #[.pointer (some ⟨G,0,none⟩),.int .i64 p,.pointer (some ⟨w.heap.size,0,none⟩),d,.slice none 0 0,.slice A n c,.pointer (some ⟨bf,0,none⟩),.int .i64 ((j:Int)-1),u8,e,f,i,l,o,q,r,u16,s,t,u,v,y,z,B,C,D,E,H,I,J,K,L,u32,M,N,O,Q,R,T,U,V,X,Y,Z,aa,ab,ad,ae,af,ag,ah,ai,aj,ak,al,an,ao,aq,ar,au,av,aw,ax,ay,u64,az,aA,aB,aC,aD,aE,aF,aG,aH,aI,aJ,aK,aM,aN,aO,aP,aQ,aR,aS,aT,aU],defers:=ds.map oO}->g=j->sX F w W G bf c0 p aL j m S A n c out ds->P):P:=by
 cases b with
 |mk h=>exact k rfl rfl h
section
variable {F Fd:List (List Int)}{w W W':World}{G bf:Nat}{c0:Core}{p:Int}{aL j m:Nat}{S:List Int}{A:Option Addr}{n c:Nat}{out:List Int}{ds:List Nat}
theorem sX.grow(b:sX F w W G bf c0 p aL j m S A n c out ds)(d:Below W.heap.size W W'):sX F w W' G bf c0 p aL j m S A n c out ds:=⟨b.s.grow d,b.ci,b.As,b.Au,b.nl,b.xm⟩
theorem sX.skip(b:sX F w W G bf c0 p aL (j+1) m S A n c out ds)(d:Below W.heap.size W W')(h:hasB S (aH (ai c0.au j))=false):sX F w W' G bf c0 p aL j m S A n c out ds:=
 ⟨b.s.grow d,b.ci.skip h,by have:=b.As;omega,by have:=b.Au;omega,by have:=b.nl;omega,b.xm⟩
theorem sX.dec(b:sX F w W G bf c0 p aL (j+1) m S A n c out ds){A':Option Addr}{c':Nat}(hs:pY w W' G w.heap.size bf (w.heap.size+1+1) m S A' (n+1) c' (out++[ai c0.au j]) ds)(h:mF c0.j9 (aH (ai c0.au j))=none):sX F w W' G bf c0 p aL j m S A' (n+1) c' (out++[ai c0.au j]) ds:=
 ⟨hs,b.ci.decision h,by have:=b.As;omega,by have:=b.Au;omega,by have:=b.nl;omega,by simp[b.xm]⟩
theorem sX.My(T:jV c0)(D:rO F Fd c0)(b:sX F w W G bf c0 p aL (j+1) m S A n c out ds){mz:Nat}{oA:List Int}{y9:List Nat}(hs:pY w W' G w.heap.size bf (w.heap.size+1+1) mz oA A n c out y9){d:Nat}(hw:mF c0.j9 (aH (ai c0.au j))=some d)(hm:∀v,hasB S v=true->hasB oA v=true)
  (e:∀y∈ax c0.cl d,y≠ai c0.au j->0<aR c0 y->hasB oA (aH y)=true) (f:mz<=m+200000):sX F w W' G bf c0 p aL j mz oA A n c out y9:=
 ⟨hs,b.ci.reason T D hw hm e,by have:=b.As;omega,by have:=b.Au;omega,by have:=b.nl;omega,b.xm⟩
end
def Mz(F:List (List Int))(w:World)(c0:Core)(p:Int)(e:Ending)(w':World):Prop:=
 ∃A c out,e=.returned (.slice A out.length c)/\aQ w' A out.length c out/\Below w.heap.size w w'/\(∀x∈out,x=p\/(x∈c0.au/\mF c0.j9 (aH x)=none))/\p∈out/\(∀M,tK M F->¬∀x∈p::out,M x=true)/\∀b,A.map (·.block)=some b->w.heap.size<=b
theorem MA{K:Nat->Prop}{base:Nat}{w:World}{G:Nat}{hs:Nat->aq}{cb:Nat->Nat}{s:aj}{F Fd:List (List Int)}(h:aU K base w G hs cb s)(T:jV s.c)(D:rO F Fd s.c)(dp:s.c.n<=60000)(dq:s.c.st.length<=1000000){p:Int}(hp:gU s.c.n p)(b4: -p∈s.c.au):
  Calls y_ 153 #[.pointer (some ⟨G,0,none⟩),.int .i64 p] w (Mz F w s.c p):=by
 have H:=U h;have I:=U T;have bw:=U D;have cH:=U hp;have a7:=U b4;obtain⟨v,Q⟩:∃v,aH p=v:=⟨_,rfl⟩
 have dr:v<=60000:=by have:=hp.2;omega
 have b5:bI (∀w:World,Calls y_ 97 #[.int .i64 p] w λ e w'=>e=.returned (.int .i64 (v:Int))/\w=w'):=U (λ w=>by have:=sM p w (by unfold aH at Q;omega) (by unfold aH at Q;omega);rw[Q] at this;exact this);obtain⟨g2,b6,bx,f2⟩:=h.e.lV 3 2 rfl h.e.mb (by have:=T.pM;omega);obtain⟨y,R⟩:∃y,gQ s.c.lvl v=y:=⟨_,rfl⟩
 have c2:=h.e.vV b6 (k:=v) (by have:=T.pM;have:=hp.2;omega);rw[R] at c2;have dt:(v:Int)<(s.c.lvl.length:Int):=by have:=T.pM;have:=hp.2;omega
 have af:=U (z_ Q R);have cI:=(h.e.rows.lt b6).2;have aF:=h.e.box.lt;have du:∀(fn:Fn)(first cap:Array Value)(w:World),(Instr.makeFunc fn first cap).run y_ w=.ok (.func fn first cap) w:=λ _ _ _ _=>rfl
 have dv:= @run_makeMap y_;clear h T D hp b4 Q R f2;refine Ba Tryz.func153 rfl ?_;simp only[Tryz.ntmps153,List.size_toArray,List.length_cons,List.length_nil,Nat.reduceAdd,Nat.reduceSub,Array.replicate_succ,Array.replicate_zero,List.push_toArray,List.append_toArray,List.nil_append,List.cons_append]
 go_wp2_with fail
 obtain⟨u,O⟩:∃u,(w.alloc (.cells #[.pointer (some ⟨G,0,none⟩)] 115)).alloc (.cells #[.int .i64 p] 3)=u:=⟨_,rfl⟩
 rw[O];have a8:Below w.heap.size w u:=by rw[<-O];exact((m_ _ w).alloc (n_ _) _).alloc (by simp) _
 have bz:aO u w.heap.size 115 [.pointer (some ⟨G,0,none⟩)]:=by rw[<-O];exact(aO.new w 115 [.pointer (some ⟨G,0,none⟩)]).below (bK _ _)
 have b7:u.ownsRow w.heap.size 3 1 (.slice (some ⟨w.heap.size+1,0,none⟩) 1 1) 1 (gX [p]):=by rw[<-O];have:=Dx (w.alloc (.cells #[.pointer (some ⟨G,0,none⟩)] 115)) w.heap.size [p] 1 rfl (by simp) (by omega);simpa[gX] using this
 have a':u.heap.size=w.heap.size+1+1:=by rw[<-O];simp
 clear O;have aS:=bz.cell 0;have bx:=(x_ (a:=⟨G,3,none⟩) (a8.block G aF)).trans bx;have c2:=(x_ (a:=⟨g2,v,none⟩) (a8.block g2 cI)).trans c2;refine l_ 8 (by kernel_rfl) (by kernel_rfl) ?_;simp only[r_,j_,q_,i_]
 iterate 5 still_step
 still_call ((b5.o _).mono (λ e w' h=>⟨h.1,h.2.symm⟩))
 iterate 2 still_step
 refine h_ ?_;change wpList _ _ _ _ _ u.drew;have aG:=U a8.drew;have b8:=U (show aO u.drew w.heap.size 115 [.pointer (some ⟨G,0,none⟩)] from bz);have ba:=U (show u.drew.ownsRow w.heap.size 3 1 (.slice (some ⟨w.heap.size+1,0,none⟩) 1 1) 1 (gX [p]) from b7);have a':u.drew.heap.size=w.heap.size+1+1:=a';clear aS bx c2 a8 bz b7;generalize u.drew=u at*
 by_cases aI:y=0
 ·have cJ:((y:Int)==0)=true:=by simp[aI]
  have bb:=U aI;clear aI
  go_wp2_with fail
  refine Bb [] rfl List.nodup_nil (λ D h=>by cases h) (λ W' az=>⟨_,results_tmp rfl _ _ _,?_⟩);refine⟨some ⟨w.heap.size+1,0,none⟩,1,[p],rfl,aQ.lz (lR ba.o (az.below (m_ _ _) (λ D h=>by cases h))) (by simp),aG.o.trans ((az.below (m_ _ _) (λ D h=>by cases h)).mono aG.o.size),λ x aa=>.inl (by simpa using aa),by simp,λ M b9 cK=>?_,λ b e=>(by injection e with e;have e:w.heap.size+1=b:=e;omega)⟩;obtain⟨i,ah,bc,bd⟩:=I.o.at a7.o;have h1:=yA I.o bw.o b9 i ah (by rw[bd];show gQ s.c.lvl (aH p)=0;rw[af.o.1,af.o.2,bb.o]);rw[bc,b9.1 p cH.o.oQ,cK p (by simp)] at h1
  cases h1
 ·have cJ:((y:Int)==0)=false:=by simp;omega
  have bb:=U aI;clear aI;obtain⟨ak,b',bA,bB⟩:=(lY.made u).put (x:=(v:Int)) (by unfold maxLen;omega) (D3 _ (by omega) (by omega));rw[a'] at b' bA bB;have ca:=U bA;have bg:=U bB;clear bA bB
  go_upto_region 5 with(go_at_call 97;refine(b5.o _).mono ?_;rintro e w1 ⟨rfl,rfl⟩;dsimp only)
  have g2:u.grownBy (u.alloc (.map #[] 0)) none:=World.grownBy_alloc u _ none;have bC:pY w (ak.alloc (.cells #[.map (some (w.heap.size+1+1))] 114)) G w.heap.size ak.heap.size (w.heap.size+1+1) 1 [(v:Int)] (some ⟨w.heap.size+1,0,none⟩) 1 1 [p] []:=by
   have cL:(u.alloc (.map #[] 0)).heap.size=w.heap.size+1+1+1:=by simp[a']
   have cc:Below w.heap.size w (u.alloc (.map #[] 0)):=aG.o.alloc aG.o.size _;have dw:=bg.o.size;have bD:=cc.grown bg.o cc.size (λ g e=>by cases e;omega);have q:∀b,b<w.heap.size+1+1->ak.heap[b]? =u.heap[b]? :=λ b P=>(bg.o.block b (by omega) (by simp;omega)).trans (g2.block b (by omega) (by simp))
   refine⟨bD.alloc bD.size _,?_,aO.new ak 114 [.map (some (w.heap.size+1+1))],ca.o.alloc _,?_,⟨List.nodup_nil,λ D h=>by cases h⟩,by omega,n_ _,bD.size⟩
   ·exact(show aO ak w.heap.size 115 _ from(q _ (by omega)).trans b8.o).below (bK _ _)
   ·exact lR (mP ba.o (λ b e=>q b (by have:=(td ba.o e).2;omega))) (bK _ _)
  obtain⟨bh,bE⟩:∃bh,ak.alloc (.cells #[.map (some (w.heap.size+1+1))] 114)=bh:=⟨_,rfl⟩
  obtain⟨bf,bF⟩:∃bf,ak.heap.size=bf:=⟨_,rfl⟩
  rw[bE,bF] at bC;rw[bE,bF];have bG:=U bC;clear bC g2 bg ca aG b8 ba b' bE bF;obtain⟨aL,aJ⟩:∃aL,s.c.au.length=aL:=⟨_,rfl⟩
  have dx:aL<=60000:=by have:=I.o.len;omega
  have dy:0<aL:=by have:=Zn a7.o;omega
  obtain⟨dz,j6,c4,cM⟩:∃A n c,hs 4=⟨A,n,c⟩:=⟨_,_,_,rfl⟩
  have dA:j6=aL:=by have:=H.o.e.j6;rw[cM] at this;exact this.trans aJ
  obtain⟨g4,bH,bJ,f4⟩:=H.o.e.lV 5 4 rfl H.o.e.j6 (by omega);have bL:bh.cell? ⟨G,5,none⟩=some (.slice (some ⟨g4,0,none⟩) aL (hs 4).c):=by rw[<-aJ];exact(x_ (a:=⟨G,5,none⟩) (bG.o.below.block G aF)).trans bJ
  have aS:bh.cell? ⟨w.heap.size,0,none⟩=some (.pointer (some ⟨G,0,none⟩)):=bG.o.qc.cell 0;have cd:c_.wrap ((aL:Int)-1)=(aL:Int)-1:=by rw[k_];omega
  go_wp2_with fail
  have cf:qH F s.c p aL (hasB [(v:Int)]) [p]:=by
   rw[<-aJ];exact qH.start I.o a7.o (by show 1<=gQ s.c.lvl (aH p);rw[af.o.1,af.o.2];have:=bb.o;omega) (by rw[af.o.1];simp[hasB])
  have bM:0<s.c.st.length:=by
   obtain⟨i,ah,bc,bd⟩:=I.o.at a7.o;have h1:=wJ s.c.st i;have al:aR s.c p=y:=by show gQ s.c.lvl (aH p)=y;rw[af.o.1,af.o.2]
   have:=bb.o;omega
  obtain⟨bj,cg⟩:∃bj,s.c.st.length=bj:=⟨_,rfl⟩
  obtain⟨g5,bN,aK,f5⟩:=H.o.e.lV 6 5 rfl H.o.e.j0 (by omega);obtain⟨an,bO⟩:∃an,gQ s.c.st 0=an:=⟨_,rfl⟩
  have c5:=H.o.e.Fk bN (k:=0) bM;rw[bO] at c5;rw[cg] at aK bM;obtain⟨g3,bP,aM,f3⟩:=H.o.e.lV 4 3 rfl H.o.e.nA (by have:=I.o.o8;omega);have Y:=U (z_ aJ (z_ bO (z_ bM (z_ bH (z_ aK (z_ c5 (z_ bP (z_ aM bJ))))))));have cN:=(H.o.e.rows.lt bN).2;have dB:=(H.o.e.rows.lt bH).2;have dC:=(H.o.e.rows.lt bP).2;have cO:=U cf;have dD:(0:Int)<(bj:Int):=by omega
  clear aS cd f4 f5 f3 c5 aK bN bL bJ bH bP aM aJ bO cf;refine b_ (xo F w G bf s.c p aL) aL ?start ?round
  case start=>exact xo.mk (c:=1) ⟨bG.o,cO.o,n_ _,n_ _,by omega,by simp⟩
  case round=>
   intro g a W ch dE K bQ dF;refine ch.elim ?_;intro j m n c A S out ds dG u8 dH dI dJ dK dL dM dN u16 dO dP dQ dR dS dT dU dV dW dX dY dZ d' ea eb u32 ec ed ee ef eg eh ei ej ek en eo ep er et eu ev ew ey ez eA eB eC eD eE eF eG eH eI eJ eK eL u64 eM eN eO eP eQ eR eS eT eU eV eW eX eY eZ e0 e1 e2 e3 e4 e5 e6 bk aN aP;clear ch;subst bk;replace aN:=aN.symm;subst aN;have B:=U aP;have E:=U (H.o.below aP.s.below).1;have aS:W.cell? ⟨w.heap.size,0,none⟩=some (.pointer (some ⟨G,0,none⟩)):=aP.s.qc.cell 0;have qt:=aP.s.below.block;have aK:W.cell? ⟨G,6,none⟩=some (.slice (some ⟨g5,0,none⟩) bj (hs 5).c):=(x_ (a:=⟨G,6,none⟩) (qt G aF)).trans Y.o.2.2.2.2.1;have c5:W.cell? ⟨g5,0,none⟩=some (.int .i64 (an:Int)):=(x_ (a:=⟨g5,0,none⟩) (qt g5 cN)).trans Y.o.2.2.2.2.2.1;clear aP qt
   by_cases cP:an<j
   ·obtain⟨j,rfl⟩:∃k,j=k+1:=⟨j-1,by omega⟩
    have cQ:((j+1:Nat):Int)-1=(j:Int):=by omega
    rw[cQ];have cR:(an:Int)<=(j:Int):=by omega
    obtain⟨x,aa⟩:∃x,ai s.c.au j=x:=⟨_,rfl⟩
    have bl:j<aL:=by have:=B.o.As;omega
    have bL:W.cell? ⟨G,5,none⟩=some (.slice (some ⟨g4,0,none⟩) aL (hs 4).c):=by rw[<-Y.o.1];exact(x_ (a:=⟨G,5,none⟩) (B.o.s.below.block G aF)).trans Y.o.2.2.2.2.2.2.2.2
    have c4:=E.o.e.zX Y.o.2.2.2.1 (k:=j) (by rw[Y.o.1];exact bl);rw[aa] at c4;have e7:(j:Int)<(aL:Int):=by omega
    have bR:gU s.c.n x:=by rw[<-aa];exact I.o.lit _ (l5 (by rw[Y.o.1];exact bl))
    obtain⟨z,aT⟩:∃z,aH x=z:=⟨_,rfl⟩
    have cj:z<=s.c.n:=by have:=bR.2;omega
    have bn:bI (∀w:World,Calls y_ 97 #[.int .i64 x] w λ e w'=>e=.returned (.int .i64 (z:Int))/\w=w'):=U (λ w=>by have:=sM x w (by unfold aH at aT;omega) (by unfold aH at aT;omega);rw[aT] at this;exact this);have cS:W.cell? ⟨bf,0,none⟩=some (.map (some (w.heap.size+1+1))):=B.o.s.qt.cell 0;have bS:=B.o.s.set.drew.look (D3 (z:Int) (by omega) (by omega));have cd:c_.wrap ((j:Int)-1)=(j:Int)-1:=by rw[k_];omega
    have X:=U (z_ aa (z_ bl (z_ bR (z_ aT cj))));clear aa bl bR aT cj
    cases P:hasB S (z:Int) with
    |false=>
     rw[P] at bS;have ao:=U (B.o.skip (W':=W.drew) ((m_ _ W).drew) (by rw[X.o.1,X.o.2.2.2.1];exact P));clear P
     go_upto_region 9 with fail
     refine l_ 4 (by kernel_rfl) (by kernel_rfl) ?_;simp only[r_,j_,q_,i_]
     iterate 2 still_step
     still_call ((bn.o _).mono (λ e w' h=>⟨h.1,h.2.symm⟩))
     iterate 1 still_step
     refine h_ ?_;change wpList _ _ _ _ _ W.drew
     go_wp2_with fail
     exact o_ j (by omega) (bQ _ _ _ (xo.mk ao.o))
    |true=>
     rw[P] at bS;have e8:=U P;clear P
     go_upto_region 9 with fail
     refine l_ 4 (by kernel_rfl) (by kernel_rfl) ?_;simp only[r_,j_,q_,i_]
     iterate 2 still_step
     still_call ((bn.o _).mono (λ e w' h=>⟨h.1,h.2.symm⟩))
     iterate 1 still_step
     refine h_ ?_;change wpList _ _ _ _ _ W.drew
     go_upto_region 10 with fail
     have bT:=U (B.o.grow ((m_ _ W).drew));have ck:W.drew.cell? ⟨w.heap.size,0,none⟩=some (.pointer (some ⟨G,0,none⟩)):=aS;have aM:W.drew.cell? ⟨G,4,none⟩=some (.slice (some ⟨g3,0,none⟩) s.c.j9.length (hs 3).c):=(x_ (a:=⟨G,4,none⟩) (bT.o.s.below.block G aF)).trans Y.o.2.2.2.2.2.2.2.1;have c3:=E.o.drew.e.yI Y.o.2.2.2.2.2.2.1 (k:=z) (by have:=I.o.o8;have:=X.o;omega);have e9:(z:Int)<(s.c.j9.length:Int):=by have:=I.o.o8;have:=X.o;omega
     clear aS bL c4 aK c5 bS cS E B;generalize W.drew=V at*
     cases hw:mF s.c.j9 z with
     |none=>
      rw[hw] at c3;change V.cell? ⟨g3,z,none⟩=some (.pointer none) at c3;have bo:=U hw;clear hw;refine l_ 8 (by kernel_rfl) (by kernel_rfl) ?_;simp only[r_,j_,q_,i_]
      iterate 5 still_step
      still_call ((bn.o _).mono (λ e w' h=>⟨h.1,h.2.symm⟩))
      iterate 2 still_step
      refine h_ ?_;change wpList _ _ _ _ _ V.drew;clear aM c3 ck;have aA:=U (bT.o.grow ((m_ _ V).drew));generalize V.drew=t at*;have bU:=U (aA.o.s.grow (bK t (mD [x])));have cT:=U (aQ.lit t [x] 1 t.heap.size rfl rfl (by omega))
      go_wp2_with (at_builtin;refine vq rfl (.tmp 65) (.tmp 67) rfl w.heap.size (.slice A n c) n out rfl bU.o.row (some ⟨t.heap.size,0,none⟩) 1 1 [x] rfl cT.o (by have:=aA.o.nl;omega) bU.o.below.size ?_;intro v9 di bk;obtain⟨A',c',rfl,aV⟩:=bU.o.app bk;have aB:=U aV;clear bk aV)
      have ao:=aA.o.dec (W':=di) (A':=A') (c':=c') (by rw[X.o.1];exact aB.o) (by rw[X.o.1,X.o.2.2.2.1];exact bo.o);exact o_ j (by omega) (bQ _ _ _ (xo.mk ao))
     |some d=>
      rw[hw] at c3;change V.cell? ⟨g3,z,none⟩=some (.pointer (some ⟨cb d,0,none⟩)) at c3;have bo:=U hw;clear hw;refine l_ 8 (by kernel_rfl) (by kernel_rfl) ?_;simp only[r_,j_,q_,i_]
      iterate 5 still_step
      still_call ((bn.o _).mono (λ e w' h=>⟨h.1,h.2.symm⟩))
      iterate 2 still_step
      refine h_ ?_;change wpList _ _ _ _ _ V.drew;clear aM c3 ck;have aA:=U (bT.o.grow ((m_ _ V).drew));generalize V.drew=t at*
      go_upto_region 13 with fail
      go_wp2_with (go_at_call 183;refine(Dv _ _ _).mono ?_;rintro e w1 ⟨rfl,rfl⟩;dsimp only)
      have ab:=U (aA.o.grow ((bK t (.cells #[.pointer (some ⟨cb d,0,none⟩)] 164)).trans ((bK _ (.cells #[.int .i64 x] 3)).mono (by simp))));have cU:((t.alloc (.cells #[.pointer (some ⟨cb d,0,none⟩)] 164)).alloc (.cells #[.int .i64 x] 3)).cell? ⟨t.heap.size,0,none⟩=some (.pointer (some ⟨cb d,0,none⟩)):=by go_simp
      have k2:((t.alloc (.cells #[.pointer (some ⟨cb d,0,none⟩)] 164)).alloc (.cells #[.int .i64 x] 3)).cell? ⟨t.heap.size+1,0,none⟩=some (.int .i64 x):=by go_simp
      have cL:((t.alloc (.cells #[.pointer (some ⟨cb d,0,none⟩)] 164)).alloc (.cells #[.int .i64 x] 3)).heap.size=t.heap.size+1+1:=by simp
      generalize (t.alloc (.cells #[.pointer (some ⟨cb d,0,none⟩)] 164)).alloc (.cells #[.int .i64 x] 3)=N at*;have cm:=I.o.p7 j (by rw[Y.o.1];exact X.o.2.1);rw[X.o.1,X.o.2.2.2.1,bo.o] at cm;obtain⟨ag,bV,-⟩:=cm;have bW:=U (H.o.below ab.o.s.below).1;obtain⟨bu,m1,cV,C⟩:=bW.o.yZ ag (Zn bV);have bX:=bw.o.mI d ag;have cW:m1<=120002:=by have:=bX.len;have:=C.len;omega
      have cX:=(bW.o.e.rows.lt C.b).2;have cY:=(bW.o.e.cls d ag).lt;have e':N.cell? ⟨w.heap.size,0,none⟩=some (.pointer (some ⟨G,0,none⟩)):=ab.o.s.qc.cell 0;have Z:=U (z_ ag (z_ bV (z_ bX (z_ cW C))));have aC:bI (w.heap.size+1+1<N.heap.size/\w.heap.size<=N.heap.size/\∀D∈ds,D<N.heap.size):=U ⟨ab.o.s.set.lt,ab.o.s.below.size,λ D ar=>ab.o.s.uY.lt ar⟩;have cn:OwnFrom N.heap.size (λ(pre:List Int)(f:World)=>∃(L:Nat)(J:List Int),pY w f G w.heap.size bf (w.heap.size+1+1) L J A n c out ds/\(∀v,hasB S v=true->hasB J v=true)/\(∀y∈pre,0<aR s.c y->hasB J (aH y)=true)/\L<=m+pre.length):=by
       rintro pre fa fb row ⟨L,J,h1,al,bp,bY⟩ aN cZ;exact⟨L,J,h1.tW aN cZ aC.o.2.1 aC.o.1 aC.o.2.2,al,bp,bY⟩
      have cp:=U cn;have cq:bI (some (t.heap.size+1)≠some (w.heap.size+1+1)/\some bu≠some (w.heap.size+1+1)):=U ⟨λ e=>by have h1:=aA.o.s.set.lt;injection e with e;omega,λ e=>by have h1:=(H.o.e.rows.lt C.b).2;injection e with e;omega⟩;clear ag bV bX cn;refine(wpIn_wide (n:=6)).1 ?_;refine A9 (F:=Fence.wide) (w0:=N) rfl (by omega) (gf:=224) (lb:= #[.pointer (some ⟨t.heap.size,0,none⟩),.pointer (some ⟨t.heap.size+1,0,none⟩)]) rfl trivial Du
       (Dw (6-1) (by omega) t.heap.size (t.heap.size+1) (cb d) bu m1 cV (ax s.c.cl d) x C.len (by omega) N cU k2 C.ag C.kB (by omega) (by omega) cY cX)
       (λ h k=>h.trans k) (λ V l o fc hl Q cr _=>⟨λ v bZ=>(x_ (w:=V) (Zp (by show t.heap.size+1≠l;omega))).trans bZ,λ k v _ bZ=>(x_ (w:=V) (Zp (by show bu≠l;omega))).trans bZ⟩) (m_ _ _) (λ _=>rfl)
       (λ(pre:List Int)(f:World)=>∃(L:Nat)(J:List Int),pY w f G w.heap.size bf (w.heap.size+1+1) L J A n c out ds/\(∀v,hasB S v=true->hasB J v=true)/\(∀y∈pre,0<aR s.c y->hasB J (aH y)=true)/\L<=m+pre.length) (λ _ _ _=>False)
       cp.o (λ _ _ _ _ _ h=>h.elim) ⟨m,S,ab.o.s,λ _ h=>h,λ y h=>absurd h List.not_mem_nil,n_ _⟩
       ?a1 ?w1 ?assign ?kw1 ?body ?done ?stop
      case assign=>
       intro l pre y f fe ah bq c7
       gi_wp2
       exact c7
      case kw1=>
       intro pre y f ah;exact⟨KeepsFrom.refl _ _,pQ.refl _ _ _ _⟩
      case body=>
       rintro l pre y ct f ah ⟨o,c8,cu,cr,O,cv⟩ bq ff;have da:=cp.o _ _ _ _ ah (show ct.grownBy f (some (N.heap.size+1)) by rw[cu];exact grownBy_putObj' ct (N.heap.size+1) o) (λ r e=>by cases e;exact⟨by omega,c8,O,cv⟩);clear ah cu cr O cv;obtain⟨L,J,hs,cw,R,aW⟩:=da;have aX:=U hs;have av:=U (z_ cw (z_ R aW));have db:=U bq;have ad:gU s.c.n y:=Z.o.2.2.1.lt y (by
        have h1:y∈others (ax s.c.cl d) x:=bq.subset (by simp);exact(List.mem_filter.1 h1).1)
       have dc:f.cell? ⟨w.heap.size,0,none⟩=some (.pointer (some ⟨G,0,none⟩)):=hs.qc.cell 0;have cx:f.cell? ⟨bf,0,none⟩=some (.map (some (w.heap.size+1+1))):=hs.qt.cell 0;have br:=U (H.o.below hs.below).1;clear hs cw R aW bq;obtain⟨ae,aY⟩:∃v,aH y=v:=⟨_,rfl⟩
       have cy:ae<=s.c.n:=by have:=ad.2;omega
       have cz:1<=ae:=by have:=ad.1;omega
       have cA:bI (∀w:World,Calls y_ 97 #[.int .i64 y] w λ e w'=>e=.returned (.int .i64 (ae:Int))/\w=w'):=U (λ w=>by have:=sM y w (by unfold aH at aY;omega) (by unfold aH at aY;omega);rw[aY] at this;exact this);obtain⟨fg,cB,dd,-⟩:=br.o.e.lV 3 2 rfl br.o.e.mb (by have:=I.o.pM;omega);obtain⟨aD,b0⟩:∃l,gQ s.c.lvl ae=l:=⟨_,rfl⟩
       have cC:=br.o.e.vV cB (k:=ae) (by have:=I.o.pM;omega);rw[b0] at cC;have fh:(ae:Int)<(s.c.lvl.length:Int):=by have:=I.o.pM;omega
       have hlen:pre.length+1<=120002:=by
        have h1:=db.o.length_le;have al:(others (ax s.c.cl d) x).length<=(ax s.c.cl d).length:=g_ _ _;have:=Z.o.2.2.2.2.len;have:=Z.o.2.2.2.1;rw[p_,Zk] at h1;omega
       have aZ:=U (z_ aY (z_ b0 (z_ hlen (z_ cy cz))));clear aY b0 hlen cy cz ad cB
       gi_wp2
       refine C1 8 (by kernel_rfl) (by kernel_rfl) (by rintro⟨_,_,h⟩;exact h) (by kernel_rfl) ?_;simp only[r_,j_,q_,i_]
       iterate 5 still_step
       still_call ((cA.o _).mono (λ e w' h=>⟨h.1,h.2.symm⟩))
       iterate 2 still_step
       refine h_ ?_;change wpList _ _ _ _ _ f.drew;have bs:bI (KeepsFrom N.heap.size f f.drew/\pQ (t.heap.size+1) bu m1 f f.drew):=U ⟨(Zg f).from _,pQ.refl _ _ _ _⟩;have aX:=U (aX.o.grow ((m_ _ f).drew));have cx:f.drew.cell? ⟨bf,0,none⟩=some (.map (some (w.heap.size+1+1))):=cx;clear dc dd cC br;generalize f.drew=aw at*
       by_cases ad:0<aD
       ·have de:decide ((0:Int)<(aD:Int))=true:=by simp;omega
        have df:(0:Int)<(aD:Int):=by omega
        have cD:=U ad;clear ad;obtain⟨fi,fj,aV,cE⟩:=aX.o.set.drew.put (x:=(ae:Int)) (by have:=av.o.2.2;have:=aZ.o;have:=ab.o.Au;unfold maxLen;omega) (D3 _ (by omega) (by have:=aZ.o;omega));have aB:=U (z_ aV cE);clear aV cE
        go_wp2_with fail
        gi_wp2
        refine C1 3 (by kernel_rfl) (by kernel_rfl) (by rintro⟨_,_,h⟩;exact h) (by kernel_rfl) ?_;simp only[r_,j_,q_,i_]
        iterate 2 still_step
        still_call ((cA.o _).mono (λ e w' h=>⟨h.1,h.2.symm⟩))
        refine h_ ?_;change wpList _ _ _ _ _ aw.drew
        go_wp2_with fail
        have dh:=(aX.o.grow ((m_ _ aw).drew)).put aB.o.1 aB.o.2;refine⟨bs.o.1.trans (((Zg aw).from _).trans (KeepsFrom.of_grownBy aB.o.2 (λ r e=>by cases e;exact aC.o.1))),bs.o.2.trans ((show pQ _ _ _ aw aw.drew from pQ.refl _ _ _ aw).trans (pQ.yS (W:=aw.drew) aB.o.2 cq.o.1 cq.o.2)),L+1,J++[(ae:Int)],dh,λ v Q=>by rw[ym,av.o.1 v Q];rfl,λ b1 b2 ay=>?_,by have:=av.o.2.2;rw[p_,Zk];omega⟩;rw[ym];rcases List.mem_append.1 b2 with h|h
        ·rw[av.o.2.1 b1 h ay];rfl
        ·rw[List.mem_singleton] at h;subst h;rw[aZ.o.1];simp
       ·have de:decide ((0:Int)<(aD:Int))=false:=by simp;omega
        have df:¬(0:Int)<(aD:Int):=by omega
        have cD:=U ad;clear ad
        go_wp2_with fail
        gi_wp2
        exact⟨bs.o.1,bs.o.2,L,J,aX.o,av.o.1,λ b1 b2 ay=>(List.mem_append.1 b2).elim (λ h=>av.o.2.1 b1 h ay) (λ h=>by rw[List.mem_singleton] at h;subst h;exact absurd (show 0<aD by rw[<-aZ.o.2.1,<-aZ.o.1];exact ay) cD.o),by have:=av.o.2.2;rw[p_];omega⟩
      case done=>
       rintro D ys f ar rfl ⟨L,J,h1,al,bp,bY⟩ aW;have hlen:(others (ax s.c.cl d) x).length<=120002:=by
        have al:(others (ax s.c.cl d) x).length<=(ax s.c.cl d).length:=g_ _ _;have:=Z.o.2.2.2.2.len;have:=Z.o.2.2.2.1;omega
       have ao:sX F w f G bf s.c p aL j L J A n c out (D::ds):=ab.o.My I.o bw.o (h1.mark (by have:=aC.o.2.1;omega) aW (λ E dj=>by have:=aC.o.2.2 E dj;omega)) (d:=d) (by rw[X.o.1,X.o.2.2.2.1];exact bo.o) al (λ y R cF hl=>bp y (List.mem_filter.2 ⟨R,by rw[X.o.1] at cF;simpa using cF⟩) hl) (by omega);have ao:=U ao;clear h1 al bp bY aW hlen
       gi_wp2
       go_wp2_with fail
       exact o_ j (by omega) (bQ _ _ _ (xo.mk (ds:=D::ds) ao.o))
      case stop=>
       rintro D fk pre f ar fl h;exact h.elim
   ·have fm:decide ((j:Int)-1>=(an:Int))=false:=by simp;omega
    have cR:¬(an:Int)<=(j:Int)-1:=by omega
    have dk:=U cP
    go_wp2_with fail
    refine Bb ds rfl B.o.s.uY.nr (λ D ar=>(B.o.s.uY.kB D ar).2) (λ W' az=>⟨_,results_tmp rfl _ _ _,?_⟩);have hlen:=B.o.s.len;have dm:=B.o.ci.done I.o (by rw[cg];exact Y.o.2.2.1) (by rw[Y.o.2.1];have:=dk.o;omega);refine⟨A,c,out,by rw[hlen];rfl,?_,az.below B.o.s.below (λ D ar=>(B.o.s.uY.kB D ar).1),λ x aa=>B.o.ci.Bl x aa,B.o.xm,dm,λ b P=>(B.o.s.row.lt b (by show(aq.v ⟨A,n,c⟩).ownBlock=_;rw[aq.own];exact P)).1⟩;rw[hlen];have a6:=aQ.lz B.o.s.row (by have:=B.o.nl;omega);refine⟨a6.len,a6.cap,a6.mW,a6.o6,λ ay=>?_⟩;obtain⟨aE,bt,bc,bd,cG⟩:=a6.cells ay;have dn:aE∉ds:=λ ag=>by
     obtain⟨v1,b3⟩:∃v1,W.cell? ⟨aE,bt+0,none⟩=some v1:=⟨_,cG 0 ay⟩
     unfold World.cell? at b3;rw[show W.heap[(⟨aE,bt+0,none⟩:Addr).block]? =_ from(B.o.s.uY.kB aE ag).2] at b3
     cases b3
    exact⟨aE,bt,bc,by rw[az.size];exact bd,λ k hk=>(az.cell (p:=⟨aE,bt+k,none⟩) dn).trans (cG k hk)⟩
end
section
open Go.RowKit Go.Shelf
def MB:Code->Code
 | .cond _ _ b=>b
 |c=>c
noncomputable def MC:Code:=BK (nu (MB (nu ((Tryz.f99.body.bind λ c=>qu c 4).getD .skip))))
theorem MD{w0:World}{iS:Nat}
  (C:sB bw gP w0 F aC n gx jr aF jy ia jA aZ) (S:mR bw gP base w0 G F aC n gx jr aF aW aZ K W hs cb s aV s.c.ag) (T:s.c.st.length<ia) (ao:ai aC s.c.st.length=p) (X:gU n p) (Y: -p∈s.c.au)
  (ar:∀(K:Nat->Prop)(hs:Nat->aq)(cb:Nat->Nat)(s':aj)(h':Nat)(av:Option Addr)(aw ax:Nat)(gA iT hM gG gq dn bh bj gE u16 dr dw dx gh dy dz dA dB dD dF dG dH cu cv cw u32 cz cA cB cC cD cE cF cG cH cI cK dI dJ gO gM gN bx bz bA bB bC bD bE bF bG bL bM bN bO bP bQ u64 bR bS bT bU bV bW bX bY bZ b5 b6 b7 b8 b9 cc cg ck cm cn cp cr dK dL dM dN dO dP dQ dR cL cM cN cO cQ cR cS cT cU cV cW cZ c7 c8 dc de dh dS dU dV dW dX dY dZ ec ee ef ei ej ek en eo ep er eu ew ey ez eA eB eC eD eE eF eG eH eL gi gj gl eM eN eO eP eR eS eT eU eV eW eX eY gm gn gp eZ e3 e4 e5 e6 e7 e8 e9 fc fe ff fh fk fm fo fq fu fA fB fC fD fE fF fG fH fI fJ fK fL fM fN fO fP fQ fR fS gu gv fT fU fV fW fZ ga gb ir iu iw iy iz iA iB iC iD iE iF iG iY iZ ja jb jc jd je jf jN jO jP jQ jR jS:Value)(W':World),sC bw gP base w0 G F aC n gx aF aW aZ K W' hs cb s' aV h' 2 none 0 0 av aw ax->aO W' aW 30 [.int .i64 2,mX,.slice av aw ax,.int .i64 (aV:Int)]->Q .ret {tmps:= #[.pointer (some ⟨G,0,none⟩),.slice jy ia jA,.int .i64 (aZ:Int),gA,iT,hM,.pointer (some ⟨aW,0,none⟩),.int .i64 (iS:Int),.int .i64 left,.int .i64 2000,gG,gq,dn,bh,bj,gE,u16,dr,dw,dx,gh,dy,dz,dA,dB,dD,dF,dG,dH,cu,cv,cw,u32,cz,cA,cB,cC,cD,cE,cF,cG,cH,cI,cK,dI,dJ,gO,gM,gN,bx,bz,bA,bB,bC,bD,bE,bF,bG,bL,bM,bN,bO,bP,bQ,u64,bR,bS,bT,bU,bV,bW,bX,bY,bZ,b5,b6,b7,b8,b9,cc,cg,ck,cm,cn,cp,cr,dK,dL,dM,dN,dO,dP,dQ,dR,cL,cM,cN,cO,cQ,cR,cS,cT,cU,cV,cW,cZ,c7,c8,dc,de,dh,dS,dU,dV,dW,dX,dY,dZ,ec,ee,ef,ei,ej,ek,en,eo,ep,er,eu,ew,ey,ez,eA,eB,eC,eD,eE,eF,eG,eH,eL,gi,gj,gl,eM,eN,eO,eP,eR,eS,eT,eU,eV,eW,eX,eY,gm,gn,gp,eZ,e3,e4,e5,e6,e7,e8,e9,fc,fe,ff,fh,fk,fm,fo,fq,fu,fA,fB,fC,fD,fE,fF,fG,fH,fI,fJ,fK,fL,fM,fN,fO,fP,fQ,fR,fS,gu,gv,fT,fU,fV,fW,fZ,ga,gb,ir,iu,iw,iy,iz,iA,iB,iC,iD,iE,iF,iG,iY,iZ,ja,jb,jc,jd,je,jf,jN,jO,jP,jQ,jR,jS],defers:=[]} W'):
  Zx y_ MC Q {tmps:= #[.pointer (some ⟨G,0,none⟩),.slice jy ia jA,.int .i64 (aZ:Int),gA,iT,hM,.pointer (some ⟨aW,0,none⟩),.int .i64 (iS:Int),.int .i64 left,.int .i64 2000,gG,gq,dn,.int .i64 0,.int .i64 p,gE,u16,dr,dw,dx,gh,dy,dz,dA,dB,dD,dF,dG,dH,cu,cv,cw,u32,cz,cA,cB,cC,cD,cE,cF,cG,cH,cI,cK,dI,dJ,gO,gM,gN,bx,bz,bA,bB,bC,bD,bE,bF,bG,bL,bM,bN,bO,bP,bQ,u64,bR,bS,bT,bU,bV,bW,bX,bY,bZ,b5,b6,b7,b8,b9,cc,cg,ck,cm,cn,cp,cr,dK,dL,dM,dN,dO,dP,dQ,dR,cL,cM,cN,cO,cQ,cR,cS,cT,cU,cV,cW,cZ,c7,c8,dc,de,dh,dS,dU,dV,dW,dX,dY,dZ,ec,ee,ef,ei,ej,ek,en,eo,ep,er,eu,ew,ey,ez,eA,eB,eC,eD,eE,eF,eG,eH,eL,gi,gj,gl,eM,eN,eO,eP,eR,eS,eT,eU,eV,eW,eX,eY,gm,gn,gp,eZ,e3,e4,e5,e6,e7,e8,e9,fc,fe,ff,fh,fk,fm,fo,fq,fu,fA,fB,fC,fD,fE,fF,fG,fH,fI,fJ,fK,fL,fM,fN,fO,fP,fQ,fR,fS,gu,gv,fT,fU,fV,fW,fZ,ga,gb,ir,iu,iw,iy,iz,iA,iB,iC,iD,iE,iF,iG,iY,iZ,ja,jb,jc,jd,je,jf,jN,jO,jP,jQ,jR,jS],defers:=[]} W:=by
 have bk:=U ar;have y:=U C;have ay:=U S;have az:=U (S.nW C);have Z:=U (z_ T (z_ ao (z_ X Y)));have bl:bI (∀b,w0.heap.size<=b->¬bw b):=U λ b i=>C.DX i
 have aA:=U (MA S.gz S.jX.gK.aL S.jX.gK.jK (by have:=az.o;omega) (by have:=az.o;omega) (p:=p) (by rw[S.jX.rg.jh];exact X) Y);clear ar C S T ao X Y
 conv=>arg 2;whnf
 dsimp only
 go_upto_region 32 with(go_at_call 153;refine aA.o.mono ?_;rintro e w1 ⟨j,co,out,rfl,xb,aB,aE,aG,un,aH⟩;dsimp only)
 have f:=U ((ay.o.below aB).below (bK w1 (.cells #[.slice j out.length co] 25)));have aI:(w1.alloc (.cells #[.slice j out.length co] 25)).cell? ⟨w1.heap.size,0,none⟩=some (.slice j out.length co):=by go_simp
 have aJ:=U aI;have bn:=U (xb.alloc (.cells #[.slice j out.length co] 25));have aK:∀b,j.map (·.block)=some b->0<out.length->b<w1.heap.size:=λ b e bo=>by
  obtain⟨b',off,aM,h1,_⟩:=xb.cells bo;rw[aM] at e;injection e with e;exact e▸h1
 have bp:=U aK;have bq:bI (w1.heap.size<(w1.alloc (.cells #[.slice j out.length co] 25)).heap.size):=U (by simp);have J:=U (z_ aE (z_ aG un));have br:bI (∀b,j.map (·.block)=some b->b≠aW):=U (λ b e=>by have h1:=aH b e;have z:=ay.o.lQ.lt;omega);clear aI aK xb aB aE aG un aH aA;generalize w1.alloc (.cells #[.slice j out.length co] 25)=V at*;generalize w1.heap.size=A at*;have L:=f.o.lQ.cell 0;have M:=f.o.lQ.cell 1;have N:=f.o.lQ.cell 2;have O:=f.o.lQ.cell 3;have aN:=f.o.lQ.free 0;have aP:=f.o.lQ.free 1;have aR:=f.o.lQ.free 2;have aS:=f.o.lQ.free 3;simp only[mX,w_,v_] at L M N O;have ca:∀(fn:Fn)(first cap:Array Value)(w:World),(Instr.makeFunc fn first cap).run y_ w=.ok (.func fn first cap) w:=λ _ _ _ _=>rfl
 go_upto_region 33 with fail
 clear L M N O aN aP aR aS;have aT:bI (aO (V.setCell ⟨aW,0,none⟩ (.int .i64 2)) aW 30 [.int .i64 2,mX,mX,.int .i64 (aV:Int)]):=U (f.o.lQ.set 0 _);have B:=U (f.o.gz.vi f.o.rH 0 (.int .i64 2));have aU:=U (aD.DZ f.o 0 (.int .i64 2));have bs:A≠aW:=λ e=>by
  have h1:V.heap[aW]? =_:=f.o.lQ;have z:=aJ.o;rw[e] at z;have aa:=f.o.lQ.cell 0;rw[aa] at z;simp at z
 have c3:(V.setCell ⟨aW,0,none⟩ (.int .i64 2)).cell? ⟨A,0,none⟩=some (.slice j out.length co):=by
  rw[World.cell?_setCell_other _ _ _ _ (by simp[bs])];exact aJ.o
 have aX:=((f.o.GN y.o).iP (aD.set (K:=gP) aW 0 (.int .i64 2) f.o.tZ) y.o.GL)
 have aY:aQ (V.setCell ⟨aW,0,none⟩ (.int .i64 2)) j out.length co out:=bn.o.iP (aD.set (K:=λ b=>b≠aW) aW 0 (.int .i64 2) (λ h=>h rfl)) (λ b e _=>br.o b e);have E:bI (A<V.heap.size/\∀b,j.map (·.block)=some b->0<out.length->b<A):=U ⟨bq.o,bp.o⟩;have a6:(V.setCell ⟨aW,0,none⟩ (.int .i64 2)).heap.size=V.heap.size:=by simp
 generalize V.setCell ⟨aW,0,none⟩ (.int .i64 2)=l at*;have D:=U (z_ c3 (z_ aY a6));have bt:=U (w9 jy ia jA aC l aX);have bu:=B.o.e;have bH:bI (∀(H:Option Addr)(c4:Nat)(v:World),v.ownsRow l.heap.size 3 1 (.slice H aC.length c4) aC.length (aC.map (a_ .i64))->Below l.heap.size l v->∃g,H=some ⟨g,0,none⟩/\l.heap.size<=g/\g<v.heap.size/\Calls y_ 85 #[.slice (some ⟨g,0,none⟩) aC.length c4,.func (.func 154) #[] #[.pointer (some ⟨A,0,none⟩)]] v λ e w'=>
   ∃m,e=.returned (.slice (some ⟨g,0,none⟩) m c4)/\Own w' l.heap.size g m c4 (aC.filter λ x=>hasB out x)/\Below l.heap.size v w'):=U (by
  intro H c4 v P i;have hl:=y.o.x7;have T:=Z.o.1;obtain⟨k,hk⟩:∃k,aC.length=k+1:=⟨aC.length-1,by omega⟩
  rw[hk] at P⊢;obtain⟨g,cap,bJ⟩:=yp P;injection bJ with b0 aM cd
  subst b0;have ab:=P.lt g rfl;refine⟨g,rfl,ab.1,ab.2,Mx v l.heap.size g (k+1) c4 aC P ab.1 ((i.cell (p:=⟨A,0,none⟩) (by rw[D.o.2.2];exact E.o.1)).trans D.o.1) (u_ (by rw[D.o.2.2];exact E.o.1) i.size) (by have:=E.o.1;have:=D.o.2.2;omega) (D.o.2.1.below i) (λ b e=>?_)⟩;have b1:0<out.length:=List.length_pos_iff.2 (λ e=>by have h:=J.o.2.1;rw[e] at h;cases h);have h1:=E.o.2 b e b1;have z:=E.o.1;have aa:=D.o.2.2;have b2:=i.size;exact⟨by omega,by omega⟩)
 clear aX c3 aY a6 bu
 go_upto_region 34 with(first
  |(go_at_call 81;refine bt.o.mono ?_;rintro e b3 ⟨H,c4,rfl,a7,ad⟩;dsimp only;obtain⟨g,rfl,a8,a',ae⟩:=bH.o H c4 b3 a7 ad;have ae:=U ae;have u:=U (z_ ad (z_ a8 a'));clear a7 ad a8 a')
  |(go_at_call 85;refine ae.o.mono ?_;rintro e I ⟨m,rfl,ba,af⟩;dsimp only;have ah:=U (aT.o.below (u.o.1.trans af));have R:=U (z_ ba af);clear ba af;have f2:=ah.o.free 2;have bb:=ah.o.cell 2;simp only[mX,w_,v_] at bb))
 have t:=U (ah.o.set 2 (.slice (some ⟨g,0,none⟩) m c4));have L:=t.o.cell 0;have M:=t.o.cell 1;have N:=t.o.cell 2;have O:=t.o.cell 3;have aN:=t.o.free 0;have aP:=t.o.free 1;have aR:=t.o.free 2;have aS:=t.o.free 3;simp only[mX,List.set_cons_succ,List.set_cons_zero,w_,v_] at L M N O;clear f2 bb;have ak:Below l.heap.size l I:=u.o.1.trans R.o.2;have bc:g<I.heap.size:=u_ u.o.2.2 R.o.2.size;have bd:=(B.o.below ak).1;have bf:=bd.qJ (g:=g) bc (by have:=B.o.e.box.lt;have:=u.o.2.1;omega) (λ r e=>by have:=(B.o.e.rows.lt e).2;have:=u.o.2.1;omega) (λ d ag e=>by have:=(B.o.e.cls d ag).lt;have:=u.o.2.1;omega);have al:aD (λ b=>K b/\b≠aW) V I:=aU.o.trans ((aD.q3 ak B.o.s.lt).mono λ b i=>i.1);have bg:g≠aW:=by have:=aT.o.lt;have:=u.o.2.1;omega
 have hm:m<=1000:=by
  have h1:=R.o.1.len;have z:=g_ (λ x=>hasB out x) aC;have aa:=y.o.x7;have b2:=y.o.GK;omega
 have an:sC bw gP base w0 G F aC n gx aF aW aZ (qJ K g) I hs cb s aV s.c.ag 2 none 0 0 (some ⟨g,0,none⟩) m c4:=by
  have f0:aD gP V I:=al.mono λ b i=>⟨f.o.rG b i,λ e=>f.o.tZ (e▸i)⟩
  refine⟨λ b i=>.inl (f.o.rG b i),bf,f.o.iP.trans f0,f.o.jX,.inl f.o.rH,f.o.tZ,f.o.xe.kept (f0.mono λ b i=>i.1) rfl rfl,λ q b4=>((f.o.xg q b4).iP (al.mono λ b i=>i.1)).mono λ b i=>⟨⟨.inl i.1.1,i.1.2⟩,i.2⟩,f.o.xh,f.o.vj,f.o.rZ,.inr (.inl ⟨rfl,rfl,aC.filter λ x=>hasB out x,R.o.1.xb (by omega),λ b e=>?_,List.filter_sublist,?_⟩)⟩
  ·injection e with e
   have e:g=b:=e;subst e;exact⟨⟨.inr rfl,bg⟩,bl.o _ (Zw f.o.iP.size (Zw aU.o.size u.o.2.1))⟩
  ·exact f.o.jX.core (by rw[y.o.x7];exact Z.o.1) Z.o.2.1 J.o.1 J.o.2.2 J.o.2.1
 have an:=U an;clear ak bc bd bf al bg hm
 go_wp2_with fail
 apply bk.o
 ·exact((((((an.o.set 2 _).set 0 _).set 1 _).set 2 _).set 3 _))
 ·exact((((t.o.set 0 _).set 1 _).set 2 _).set 3 _)
structure D4(bw gP:Nat->Prop)(base:Nat)(w0:World)(G:Nat)(F:List (List Int))(aC:List Int)(n gx jr:Nat)(aF:aj)(aW aZ ia:Nat)(K:Nat->Prop)(cb:Nat->Nat)(aV kX:Nat)(oM:List Int)(hs:Nat->aq)(s:aj)(next:Int)(W:World)(g:Nat):Prop where
 S:mR bw gP base w0 G F aC n gx jr aF aW aZ K W hs cb s aV s.c.ag
 fix:s.c.ag=s.c.au.length
 l9:s.c.l9=false
 aI:s.aI.length=kX
 au:s.c.au=oM
 ME:next=0\/(next≠0/\gU n next/\jZ s.c next=0/\s.c.st.length<ia/\ai aC s.c.st.length=next)
 g:g=2*(ia-s.c.st.length)+(if next=0 then 1 else 0)
inductive x8(bw gP:Nat->Prop)(base:Nat)(w0:World)(G:Nat)(F:List (List Int))(aC:List Int)(n gx jr:Nat)(aF:aj)(jy:Option Addr)(ia jA aW aZ:Nat)(K:Nat->Prop)(cb:Nat->Nat)(aV iS:Nat)(left:Int)(kX:Nat)(oM:List Int):Nat->Act->World->Prop
 |mk {hs:Nat->aq} {s:aj} {next:Int} {g:Nat} {gA iT hM gG gq dn gr gE u16 dr dw dx gh dy dz dA dB dD dF dG dH cu cv cw u32 cz cA cB cC cD cE cF cG cH cI cK dI dJ gO gM gN bx bz bA bB bC bD bE bF bG bL bM bN bO bP bQ u64 bR bS bT bU bV bW bX bY bZ b5 b6 b7 b8 b9 cc cg ck cm cn cp cr dK dL dM dN dO dP dQ dR cL cM cN cO cQ cR cS cT cU cV cW cZ c7 c8 dc de dh dS dU dV dW dX dY dZ ec ee ef ei ej ek en eo ep er eu ew ey ez eA eB eC eD eE eF eG eH eL gi gj gl eM eN eO eP eR eS eT eU eV eW eX eY gm gn gp eZ e3 e4 e5 e6 e7 e8 e9 fc fe ff fh fk fm fo fq fu fA fB fC fD fE fF fG fH fI fJ fK fL fM fN fO fP fQ fR fS gu gv fT fU fV fW fZ ga gb ir iu iw iy iz iA iB iC iD iE iF iG iY iZ ja jb jc jd je jf jN jO jP jQ jR jS:Value} {W:World} (h:D4 bw gP base w0 G F aC n gx jr aF aW aZ ia K cb aV kX oM hs s next W g):x8 bw gP base w0 G F aC n gx jr aF jy ia jA aW aZ K cb aV iS left kX oM g {tmps:= #[.pointer (some ⟨G,0,none⟩),.slice jy ia jA,.int .i64 (aZ:Int),gA,iT,hM,.pointer (some ⟨aW,0,none⟩),.int .i64 (iS:Int),.int .i64 left,.int .i64 2000,gG,gq,dn,.int .i64 next,gr,gE,u16,dr,dw,dx,gh,dy,dz,dA,dB,dD,dF,dG,dH,cu,cv,cw,u32,cz,cA,cB,cC,cD,cE,cF,cG,cH,cI,cK,dI,dJ,gO,gM,gN,bx,bz,bA,bB,bC,bD,bE,bF,bG,bL,bM,bN,bO,bP,bQ,u64,bR,bS,bT,bU,bV,bW,bX,bY,bZ,b5,b6,b7,b8,b9,cc,cg,ck,cm,cn,cp,cr,dK,dL,dM,dN,dO,dP,dQ,dR,cL,cM,cN,cO,cQ,cR,cS,cT,cU,cV,cW,cZ,c7,c8,dc,de,dh,dS,dU,dV,dW,dX,dY,dZ,ec,ee,ef,ei,ej,ek,en,eo,ep,er,eu,ew,ey,ez,eA,eB,eC,eD,eE,eF,eG,eH,eL,gi,gj,gl,eM,eN,eO,eP,eR,eS,eT,eU,eV,eW,eX,eY,gm,gn,gp,eZ,e3,e4,e5,e6,e7,e8,e9,fc,fe,ff,fh,fk,fm,fo,fq,fu,fA,fB,fC,fD,fE,fF,fG,fH,fI,fJ,fK,fL,fM,fN,fO,fP,fQ,fR,fS,gu,gv,fT,fU,fV,fW,fZ,ga,gb,ir,iu,iw,iy,iz,iA,iB,iC,iD,iE,iF,iG,iY,iZ,ja,jb,jc,jd,je,jf,jN,jO,jP,jQ,jR,jS],defers:=[]} W
theorem x8.elim{w0:World}{iS:Nat}(b:x8 bw gP base w0 G F aC n gx jr aF jy ia jA aW aZ K cb aV iS left kX oM g a W){P:Prop}
  (k:∀{hs:Nat->aq}{s:aj}{next:Int}{c d e f i j l m u16 o p q r t u v w y z A B C D E u32 H I J L M N O Q R S T U V X Y Z aa ab ad ae af ag ah ai ak al an ao ar au av u64 aw ax ay az aA aB aD aE aG aH aI aJ aK aL aM aN aO aP aQ aR aS aT aU aX aY a6 a7 a8 a' ba bb bc bd bf bg bh bj bk bl bn bo bp bq br bs bt bu bx bz bA bB bC bD bE bF bG bH bI bJ bK bL bM bN bO bP bQ bR bS bT bU bV bW bX bY bZ b0 b1 b2 b3 b4 b5 b6 b7 b8 b9 b' ca cc cd cf cg ch cj ck cm cn cp cq cr ct cu cv cw cx cy cz cA cB cC cD cE cF cG cH cI cJ cK cL cM cN cO cP cQ cR cS cT cU cV cW cX cY cZ c7 c8 da db dc dd de df dh di dj dk dm dn dp dq dr dt du dv dw dx dy dz dA dB dC dD dE dF dG dH dI:Value},a={tmps:= #[.pointer (some ⟨G,0,none⟩),.slice jy ia jA,.int .i64 (aZ:Int),c,d,e,.pointer (some ⟨aW,0,none⟩),.int .i64 (iS:Int),.int .i64 left,.int .i64 2000,f,i,j,.int .i64 next,l,m,u16,o,p,q,r,t,u,v,w,y,z,A,B,C,D,E,u32,H,I,J,L,M,N,O,Q,R,S,T,U,V,X,Y,Z,aa,ab,ad,ae,af,ag,ah,ai,ak,al,an,ao,ar,au,av,u64,aw,ax,ay,az,aA,aB,aD,aE,aG,aH,aI,aJ,aK,aL,aM,aN,aO,aP,aQ,aR,aS,aT,aU,aX,aY,a6,a7,a8,a',ba,bb,bc,bd,bf,bg,bh,bj,bk,bl,bn,bo,bp,bq,br,bs,bt,bu,bx,bz,bA,bB,bC,bD,bE,bF,bG,bH,bI,bJ,bK,bL,bM,bN,bO,bP,bQ,bR,bS,bT,bU,bV,bW,bX,bY,bZ,b0,b1,b2,b3,b4,b5,b6,b7,b8,b9,b',ca,cc,cd,cf,cg,ch,cj,ck,cm,cn,cp,cq,cr,ct,cu,cv,cw,cx,cy,cz,cA,cB,cC,cD,cE,cF,cG,cH,cI,cJ,cK,cL,cM,cN,cO,cP,cQ,cR,cS,cT,cU,cV,cW,cX,cY,cZ,c7,c8,da,db,dc,dd,de,df,dh,di,dj,dk,dm,dn,dp,dq,dr,dt,du,dv,dw,dx,dy,dz,dA,dB,dC,dD,dE,dF,dG,dH,dI],defers:=[]}->D4 bw gP base w0 G F aC n gx jr aF aW aZ ia K cb aV kX oM hs s next W g->P):P:=by
 cases b with
 |mk h=>exact k rfl h
noncomputable def MF:Code:=(Tryz.f99.body.bind λ c=>qu c 2).getD .skip
theorem B8(l:List Nat):(l.map λ k:Nat=>(k:Int)).map (a_ .i64)=ql l:=by unfold ql;rw[Zi];rfl
theorem MG{bw gP:Nat->Prop}{base:Nat}{w0:World}{G:Nat}{F:List (List Int)}{aC:List Int}{n gx jr:Nat}{aF:aj}{jy:Option Addr}{ia jA aW aZ:Nat}{K:Nat->Prop}{W:World}{hs:Nat->aq}{cb:Nat->Nat}{s:aj}{aV iS:Nat}{left:Int}{gA iT hM gG gq dn gr gE u16 dr dw dx gh dy dz dA dB dD dF dG dH cu cv cw u32 cz cA cB cC cD cE cF cG cH cI cK dI dJ gO gM gN bx bz bA bB bC bD bE bF bG bL bM bN bO bP bQ u64 bR bS bT bU bV bW bX bY bZ b5 b6 b7 b8 b9 cc cg ck cm cn cp cr dK dL dM dN dO dP dQ dR cL cM cN cO cQ cR cS cT cU cV cW cZ c7 c8 dc de dh dS dU dV dW dX dY dZ ec ee ef ei ej ek en eo ep er eu ew ey ez eA eB eC eD eE eF eG eH eL gi gj gl eM eN eO eP eR eS eT eU eV eW eX eY gm gn gp eZ e3 e4 e5 e6 e7 e8 e9 fc fe ff fh fk fm fo fq fu fA fB fC fD fE fF fG fH fI fJ fK fL fM fN fO fP fQ fR fS gu gv fT fU fV fW fZ ga gb ir iu iw iy iz iA iB iC iD iE iF iG iY iZ ja jb jc jd je jf jN jO jP jQ jR jS:Value}{Q:Exit->Act->World->Prop}
  (C:sB bw gP w0 F aC n gx jr aF jy ia jA aZ) (S:mR bw gP base w0 G F aC n gx jr aF aW aZ K W hs cb s aV s.c.ag) (M:s.c.ag=s.c.au.length) (N:s.c.l9=false)
  (O:∀(hs:Nat->aq)(s':aj)(next:Int)(gA iT hM gG gq dn gr gE u16 dr dw dx gh dy dz dA dB dD dF dG dH cu cv cw u32 cz cA cB cC cD cE cF cG cH cI cK dI dJ gO gM gN bx bz bA bB bC bD bE bF bG bL bM bN bO bP bQ u64 bR bS bT bU bV bW bX bY bZ b5 b6 b7 b8 b9 cc cg ck cm cn cp cr dK dL dM dN dO dP dQ dR cL cM cN cO cQ cR cS cT cU cV cW cZ c7 c8 dc de dh dS dU dV dW dX dY dZ ec ee ef ei ej ek en eo ep er eu ew ey ez eA eB eC eD eE eF eG eH eL gi gj gl eM eN eO eP eR eS eT eU eV eW eX eY gm gn gp eZ e3 e4 e5 e6 e7 e8 e9 fc fe ff fh fk fm fo fq fu fA fB fC fD fE fF fG fH fI fJ fK fL fM fN fO fP fQ fR fS gu gv fT fU fV fW fZ ga gb ir iu iw iy iz iA iB iC iD iE iF iG iY iZ ja jb jc jd je jf jN jO jP jQ jR jS:Value)(W':World),mR bw gP base w0 G F aC n gx jr aF aW aZ K W' hs cb s' aV s'.c.ag->s'.c.ag=s'.c.au.length->s'.c.l9=false->s'.aI.length=s.aI.length->s'.c.au=s.c.au->((next=0/\ia<=s'.c.st.length)\/(next≠0/\gU n next/\jZ s'.c next=0/\s'.c.st.length<ia/\ai aC s'.c.st.length=next))->Q (.exit 2) {tmps:= #[.pointer (some ⟨G,0,none⟩),.slice jy ia jA,.int .i64 (aZ:Int),gA,iT,hM,.pointer (some ⟨aW,0,none⟩),.int .i64 (iS:Int),.int .i64 left,.int .i64 2000,gG,gq,dn,.int .i64 next,gr,gE,u16,dr,dw,dx,gh,dy,dz,dA,dB,dD,dF,dG,dH,cu,cv,cw,u32,cz,cA,cB,cC,cD,cE,cF,cG,cH,cI,cK,dI,dJ,gO,gM,gN,bx,bz,bA,bB,bC,bD,bE,bF,bG,bL,bM,bN,bO,bP,bQ,u64,bR,bS,bT,bU,bV,bW,bX,bY,bZ,b5,b6,b7,b8,b9,cc,cg,ck,cm,cn,cp,cr,dK,dL,dM,dN,dO,dP,dQ,dR,cL,cM,cN,cO,cQ,cR,cS,cT,cU,cV,cW,cZ,c7,c8,dc,de,dh,dS,dU,dV,dW,dX,dY,dZ,ec,ee,ef,ei,ej,ek,en,eo,ep,er,eu,ew,ey,ez,eA,eB,eC,eD,eE,eF,eG,eH,eL,gi,gj,gl,eM,eN,eO,eP,eR,eS,eT,eU,eV,eW,eX,eY,gm,gn,gp,eZ,e3,e4,e5,e6,e7,e8,e9,fc,fe,ff,fh,fk,fm,fo,fq,fu,fA,fB,fC,fD,fE,fF,fG,fH,fI,fJ,fK,fL,fM,fN,fO,fP,fQ,fR,fS,gu,gv,fT,fU,fV,fW,fZ,ga,gb,ir,iu,iw,iy,iz,iA,iB,iC,iD,iE,iF,iG,iY,iZ,ja,jb,jc,jd,je,jf,jN,jO,jP,jQ,jR,jS],defers:=[]} W')
  (P:∀(K:Nat->Prop)(hs:Nat->aq)(cb:Nat->Nat)(s':aj)(h':Nat)(R:Option Addr)(T V:Nat)(gA iT hM gG gq dn aB gr gE u16 dr dw dx gh dy dz dA dB dD dF dG dH cu cv cw u32 cz cA cB cC cD cE cF cG cH cI cK dI dJ gO gM gN bx bz bA bB bC bD bE bF bG bL bM bN bO bP bQ u64 bR bS bT bU bV bW bX bY bZ b5 b6 b7 b8 b9 cc cg ck cm cn cp cr dK dL dM dN dO dP dQ dR cL cM cN cO cQ cR cS cT cU cV cW cZ c7 c8 dc de dh dS dU dV dW dX dY dZ ec ee ef ei ej ek en eo ep er eu ew ey ez eA eB eC eD eE eF eG eH eL gi gj gl eM eN eO eP eR eS eT eU eV eW eX eY gm gn gp eZ e3 e4 e5 e6 e7 e8 e9 fc fe ff fh fk fm fo fq fu fA fB fC fD fE fF fG fH fI fJ fK fL fM fN fO fP fQ fR fS gu gv fT fU fV fW fZ ga gb ir iu iw iy iz iA iB iC iD iE iF iG iY iZ ja jb jc jd je jf jN jO jP jQ jR jS:Value)(W':World),sC bw gP base w0 G F aC n gx aF aW aZ K W' hs cb s' aV h' 2 none 0 0 R T V->aO W' aW 30 [.int .i64 2,mX,.slice R T V,.int .i64 (aV:Int)]->Q .ret {tmps:= #[.pointer (some ⟨G,0,none⟩),.slice jy ia jA,.int .i64 (aZ:Int),gA,iT,hM,.pointer (some ⟨aW,0,none⟩),.int .i64 (iS:Int),.int .i64 left,.int .i64 2000,gG,gq,dn,aB,gr,gE,u16,dr,dw,dx,gh,dy,dz,dA,dB,dD,dF,dG,dH,cu,cv,cw,u32,cz,cA,cB,cC,cD,cE,cF,cG,cH,cI,cK,dI,dJ,gO,gM,gN,bx,bz,bA,bB,bC,bD,bE,bF,bG,bL,bM,bN,bO,bP,bQ,u64,bR,bS,bT,bU,bV,bW,bX,bY,bZ,b5,b6,b7,b8,b9,cc,cg,ck,cm,cn,cp,cr,dK,dL,dM,dN,dO,dP,dQ,dR,cL,cM,cN,cO,cQ,cR,cS,cT,cU,cV,cW,cZ,c7,c8,dc,de,dh,dS,dU,dV,dW,dX,dY,dZ,ec,ee,ef,ei,ej,ek,en,eo,ep,er,eu,ew,ey,ez,eA,eB,eC,eD,eE,eF,eG,eH,eL,gi,gj,gl,eM,eN,eO,eP,eR,eS,eT,eU,eV,eW,eX,eY,gm,gn,gp,eZ,e3,e4,e5,e6,e7,e8,e9,fc,fe,ff,fh,fk,fm,fo,fq,fu,fA,fB,fC,fD,fE,fF,fG,fH,fI,fJ,fK,fL,fM,fN,fO,fP,fQ,fR,fS,gu,gv,fT,fU,fV,fW,fZ,ga,gb,ir,iu,iw,iy,iz,iA,iB,iC,iD,iE,iF,iG,iY,iZ,ja,jb,jc,jd,je,jf,jN,jO,jP,jQ,jR,jS],defers:=[]} W'):
  Zx y_ MF Q {tmps:= #[.pointer (some ⟨G,0,none⟩),.slice jy ia jA,.int .i64 (aZ:Int),gA,iT,hM,.pointer (some ⟨aW,0,none⟩),.int .i64 (iS:Int),.int .i64 left,.int .i64 2000,gG,gq,dn,.int .i64 0,gr,gE,u16,dr,dw,dx,gh,dy,dz,dA,dB,dD,dF,dG,dH,cu,cv,cw,u32,cz,cA,cB,cC,cD,cE,cF,cG,cH,cI,cK,dI,dJ,gO,gM,gN,bx,bz,bA,bB,bC,bD,bE,bF,bG,bL,bM,bN,bO,bP,bQ,u64,bR,bS,bT,bU,bV,bW,bX,bY,bZ,b5,b6,b7,b8,b9,cc,cg,ck,cm,cn,cp,cr,dK,dL,dM,dN,dO,dP,dQ,dR,cL,cM,cN,cO,cQ,cR,cS,cT,cU,cV,cW,cZ,c7,c8,dc,de,dh,dS,dU,dV,dW,dX,dY,dZ,ec,ee,ef,ei,ej,ek,en,eo,ep,er,eu,ew,ey,ez,eA,eB,eC,eD,eE,eF,eG,eH,eL,gi,gj,gl,eM,eN,eO,eP,eR,eS,eT,eU,eV,eW,eX,eY,gm,gn,gp,eZ,e3,e4,e5,e6,e7,e8,e9,fc,fe,ff,fh,fk,fm,fo,fq,fu,fA,fB,fC,fD,fE,fF,fG,fH,fI,fJ,fK,fL,fM,fN,fO,fP,fQ,fR,fS,gu,gv,fT,fU,fV,fW,fZ,ga,gb,ir,iu,iw,iy,iz,iA,iB,iC,iD,iE,iF,iG,iY,iZ,ja,jb,jc,jd,je,jf,jN,jO,jP,jQ,jR,jS],defers:=[]} W:=by
 have y:=U O;have aD:=U P;have i:=U C;have X:D4 bw gP base w0 G F aC n gx jr aF aW aZ ia K cb aV s.aI.length s.c.au hs s 0 W (2*(ia-s.c.st.length)+1):=⟨S,M,N,rfl,rfl,.inl rfl,by rw[if_pos rfl]⟩
 clear O P C S M N
 conv=>arg 2;whnf
 dsimp only;refine b_ (x8 bw gP base w0 G F aC n gx jr aF jy ia jA aW aZ K cb aV iS left s.aI.length s.c.au) (2*(ia-s.c.st.length)+1) ?start ?round
 case start=>exact x8.mk X
 case round=>
  clear X;obtain⟨ba,Y⟩:∃t,s.aI.length=t:=⟨_,rfl⟩
  obtain⟨bb,Z⟩:∃t,s.c.au=t:=⟨_,rfl⟩
  rw[Y,Z] at y⊢;clear Y Z W hs s;intro g a W aa bc aE ab ad;refine aa.elim ?_;intro hs s next gA iT hM gG gq dn gr gE u16 dr dw dx gh dy dz dA dB dD dF dG dH cu cv cw u32 cz cA cB cC cD cE cF cG cH cI cK dI dJ gO gM gN bx bz bA bB bC bD bE bF bG bL bM bN bO bP bQ u64 bR bS bT bU bV bW bX bY bZ b5 b6 b7 b8 b9 cc cg ck cm cn cp cr dK dL dM dN dO dP dQ dR cL cM cN cO cQ cR cS cT cU cV cW cZ c7 c8 dc de dh dS dU dV dW dX dY dZ ec ee ef ei ej ek en eo ep er eu ew ey ez eA eB eC eD eE eF eG eH eL gi gj gl eM eN eO eP eR eS eT eU eV eW eX eY gm gn gp eZ e3 e4 e5 e6 e7 e8 e9 fc fe ff fh fk fm fo fq fu fA fB fC fD fE fF fG fH fI fJ fK fL fM fN fO fP fQ fR fS gu gv fT fU fV fW fZ ga gb ir iu iw iy iz iA iB iC iD iE iF iG iY iZ ja jb jc jd je jf jN jO jP jQ jR jS j H
  clear aa;subst j;have b:=U H;have ae:=U ab;have af:=U ad;have ah:=U (H.S.nW i.o);obtain⟨q,j0,c5,r⟩:∃A n c,hs 5=⟨A,n,c⟩:=⟨_,_,_,rfl⟩
  have bd:W.cell? ⟨G,6,none⟩=some (.slice q j0 c5):=by have:=H.S.gz.e.kA (k:=6) (v:=(hs 5).v) rfl;rw[r] at this;exact this
  have ak:j0=s.c.st.length:=by have:=H.S.gz.e.j0;rw[r] at this;exact this
  have f:=U (z_ r ak);clear r ak ab ad
  by_cases z:next=0
  ·subst z;clear H
   by_cases l:j0<ia
   ·have B:(j0:Int)<(ia:Int):=by omega
    have d5:decide ((j0:Int)<(ia:Int))=true:=decide_eq_true B;obtain⟨bf,bg,rfl,aG,al⟩:=(b.o.S.GN i.o).cells (by omega);obtain⟨p,hp⟩:∃p,iJ aC j0=p:=⟨_,rfl⟩
    have aH:=al j0 l;rw[hp] at aH;have D:ai aC j0=p:=hp;have an:p∈aC:=by rw[<-D];exact l5 (by rw[i.o.x7];exact l)
    have E:=i.o.Me p an;have u:=U (BI b.o.S.gz b.o.S.jX.gK.aL (by have:=ah.o;omega) (x:=p) (by rw[b.o.S.jX.rg.jh];exact E));obtain⟨t,I⟩:∃t,jZ s.c p=t:=⟨_,rfl⟩
    have ao:=b.o.S.jX.gK.aL.range p;rw[I] at u ao;have d:=U (z_ l (z_ D (z_ E I)));clear l hp D an E I al aG;rcases ao with rfl|rfl|rfl
    ·
     go_wp2_with (go_at_call 152;refine u.o.mono ?_;rintro e w1 ⟨rfl,rfl⟩;dsimp only)
     have ar:p≠0:=d.o.2.2.1.oQ;refine af.o _ _ (o_ (2*(ia-s.c.st.length)) ?_ (ae.o _ _ _ (x8.mk (hs:=hs) (s:=s) (next:=p) ⟨b.o.S,b.o.fix,b.o.l9,b.o.aI,b.o.au,.inr ⟨ar,d.o.2.2.1,d.o.2.2.2,?_,?_⟩,?_⟩)))
     ·have:=b.o.g;rw[if_pos rfl] at this;omega
     ·rw[<-f.o.2];exact d.o.1
     ·rw[<-f.o.2];exact d.o.2.1
     ·rw[if_neg ar];rfl
    ·
     obtain⟨av,j6,c4,w⟩:∃A n c,hs 4=⟨A,n,c⟩:=⟨_,_,_,rfl⟩
     have bh:W.cell? ⟨G,5,none⟩=some (.slice av j6 c4):=by have:=b.o.S.gz.e.kA (k:=5) (v:=(hs 4).v) rfl;rw[w] at this;exact this
     have aw:j6=s.c.au.length:=by have:=b.o.S.gz.e.j6;rw[w] at this;exact this
     have ax:=U (z_ aw w);clear w aw
     go_upto_region 29 with(go_at_call 152;refine u.o.mono ?_;rintro e w1 ⟨rfl,rfl⟩;dsimp only)
     have m:=U (b.o.S.gz.below ((bK W (.cells #[.int .i64 (j6:Int)] 3)).drew));have aJ:bI (((W.alloc (.cells #[.int .i64 (j6:Int)] 3)).drew).ownsRow base 3 1 (.slice q j0 c5) j0 ((s.c.st.map λ k:Nat=>(k:Int)).map (a_ .i64))):=U (by
      have h1:=m.o.1.e.rows.row 5;rw[f.o.1] at h1;rw[B8];exact h1)
     have aK:=U (Nat.le_of_lt m.o.1.e.lt);have aM:bI (j0<=1100):=U (by have:=ah.o;have:=f.o.2;omega);have aN:bI (∀v9 di,oa ((W.alloc (.cells #[.int .i64 (j6:Int)] 3)).drew) base 3 (.slice q j0 c5) (j0+1) (((s.c.st.map λ k:Nat=>(k:Int))++[(j6:Int)]).map (a_ .i64)) v9 di->oa ((W.alloc (.cells #[.int .i64 (j6:Int)] 3)).drew) base 3 (hs 5).v (s.c.st.length+1) (ql (s.c.st++[j6])) v9 di):=U (λ v9 di j=>by
      rw[f.o.1,<-f.o.2,<-B8,List.map_append];exact j)
     have J:=m.o.1.e.kA (k:=6) (v:=(hs 5).v) rfl;have L:=m.o.1.e.kA (k:=5) (v:=(hs 4).v) rfl;rw[f.o.1] at J;rw[ax.o.2] at L;have J:((W.alloc (.cells #[.int .i64 (j6:Int)] 3)).drew).cell? ⟨G,6,none⟩=some (.slice q j0 c5):=J;have L:((W.alloc (.cells #[.int .i64 (j6:Int)] 3)).drew).cell? ⟨G,5,none⟩=some (.slice av j6 c4):=L;refine wp_region_noPanic ?_
     go_region_law (refine EM rfl (.tmp 131) (.tmp 137) rfl base (.slice q j0 c5) j0 (s.c.st.map λ k:Nat=>(k:Int)) rfl aJ.o (some ⟨W.heap.size,0,none⟩) 1 1 [(j6:Int)] rfl ((aQ.lit W [(j6:Int)] 1 _ rfl rfl (by omega)).drew) (by have:=aM.o;omega) aK.o ?_;intro v9 di j;obtain⟨⟨A',aP,c'⟩,aR,bj,bk,f9,ay,aS⟩:=aU.FL (x:=j6) m.o.1 (aN.o v9 di j);obtain rfl:v9=.slice A' aP c':=aR;clear j)
     all_goals
      have aT:p∈s.c.au:=(b.o.S.jX.gK.aL.pos p (by rw[b.o.S.jX.rg.jh];exact d.o.2.2.1)).1 d.o.2.2.2;have aX:=b.o.S.jX.level b.o.fix b.o.l9 (by rw[i.o.x7,<-f.o.2];exact d.o.1) (by rw[<-f.o.2,d.o.2.1];exact aT);rw[ax.o.1] at ay;have aY:=b.o.S.move (s':={s with c:=nH s.c}) ay (m.o.2.trans aS) aX rfl rfl rfl;show aE _ _;refine af.o _ _ (o_ (2*(ia-(s.c.st.length+1))+1) ?_ (ae.o _ _ _ (x8.mk (s:={s with c:=nH s.c}) (next:=0) ⟨aY,b.o.fix,b.o.l9,b.o.aI,b.o.au,.inl rfl,?_⟩)))
      ·have h1:=b.o.g;rw[if_pos rfl] at h1;have bl:=d.o.1;have bn:=f.o.2;omega
      ·rw[if_pos rfl];show _=2*(ia-(s.c.st++[s.c.au.length]).length)+1;rw[p_];rfl
    ·
     have az: -p∈s.c.au:=(b.o.S.jX.gK.aL.xK (by rw[b.o.S.jX.rg.jh];exact d.o.2.2.1)).1 d.o.2.2.2;have a6:=U az;clear az
     go_upto_region 30 with(go_at_call 152;refine u.o.mono ?_;rintro e w1 ⟨rfl,rfl⟩;dsimp only)
     rename_i bo aA;have a7:=U aA;clear aA
     go_wp2_with fail
     apply a7.o;refine wp_cond (t:=true) rfl ?_;rw[if_pos rfl];refine MD i.o b.o.S (by rw[<-f.o.2];exact d.o.1) (by rw[<-f.o.2];exact d.o.2.1) d.o.2.2.1 a6.o ?_;exact aD.o
   ·have B:¬(j0:Int)<(ia:Int):=by omega
    have d5:decide ((j0:Int)<(ia:Int))=false:=decide_eq_false B;have a8:=U l;clear l
    go_wp2_with fail
    apply y.o hs s 0
    ·exact b.o.S
    ·exact b.o.fix
    ·exact b.o.l9
    ·exact b.o.aI
    ·exact b.o.au
    ·exact .inl ⟨rfl,by have:=a8.o;have:=f.o.2;omega⟩
  ·have bp:decide (next=0)=false:=decide_eq_false z;have a':bI (next≠0/\gU n next/\jZ s.c next=0/\s.c.st.length<ia/\ai aC s.c.st.length=next):=U (by
    rcases H.ME with h|h
    ·exact absurd h z
    ·exact h)
   clear H
   go_wp2_with fail
   apply y.o hs s next
   ·exact b.o.S
   ·exact b.o.fix
   ·exact b.o.l9
   ·exact b.o.aI
   ·exact b.o.au
   ·exact .inr a'.o
theorem mw.ord{sp:Nat}(S:mw F aC n gx s sp h){o p:List Int}(b:mh n o p)(d:∀v:Nat,1<=v->v<=n->ai s.c.val v=0->0<=ai p v):mw F aC n gx {s with ord:=o,pl:=p} sp h:=
 ⟨S.gK,⟨S.rg.jh,b,S.rg.kM,S.rg.pP,S.rg.a0,S.rg.rC,S.rg.oS,S.rg.nB,S.rg.oT,S.rg.nV,S.rg.qa,S.rg.kX⟩,S.vZ,S.lb,d,S.aN,S.wX,S.pE,S.yM,S.v0,S.qK⟩
structure D5(bw gP:Nat->Prop)(base:Nat)(w0:World)(G:Nat)(F:List (List Int))(aC:List Int)(n gx jr:Nat)(aF:aj)(aW aZ:Nat)(K:Nat->Prop)(cb:Nat->Nat)(aV kX:Nat)(oM:List Int)(hs:Nat->aq)(s1:aj)(next:Int)(W:World):Prop where
 old:∃(mE:World)(wh:Nat->aq)(s':aj),mR bw gP base w0 G F aC n gx jr aF aW aZ K mE wh cb s' aV s'.c.ag/\aD K mE W/\s1={s' with ord:=s1.ord,pl:=s1.pl}
 gz:aU K base W G hs cb s1
 fix:s1.c.ag=s1.c.au.length
 l9:s1.c.l9=false
 aI:s1.aI.length=kX
 au:s1.c.au=oM
 lT:mh n s1.ord s1.pl
 mN:∀v:Nat,1<=v->v<=n->ai s1.c.val v=0->v≠aH next->0<=ai s1.pl v
 jw:next≠0
 nl:gU n next
 od:jZ s1.c next=0
 jB:s1.c.st.length<aC.length->next=ai aC s1.c.st.length
structure Av(bw gP:Nat->Prop)(base:Nat)(w0:World)(G:Nat)(F:List (List Int))(aC:List Int)(n gx jr:Nat)(aF:aj)(aW aZ:Nat)(K:Nat->Prop)(cb:Nat->Nat)(aV kX:Nat)(oM:List Int)(hs:Nat->aq)(s:aj)(next:Int)(W:World)(g:Nat):Prop where
 no:next=0->mR bw gP base w0 G F aC n gx jr aF aW aZ K W hs cb s aV s.c.ag/\s.c.ag=s.c.au.length/\s.c.l9=false/\s.aI.length=kX/\s.c.au=oM/\aC.length<=s.c.st.length
 yes:next≠0->D5 bw gP base w0 G F aC n gx jr aF aW aZ K cb aV kX oM hs s next W
 gz:aU K base W G hs cb s
 g:g=s.ord.length+(if next=0 then 1 else 0)
inductive xq(bw gP:Nat->Prop)(base:Nat)(w0:World)(G:Nat)(F:List (List Int))(aC:List Int)(n gx jr:Nat)(aF:aj)(jy:Option Addr)(ia jA aW aZ:Nat)(K:Nat->Prop)(cb:Nat->Nat)(aV iS:Nat)(left:Int)(kX:Nat)(oM:List Int):Nat->Act->World->Prop
 |mk {hs:Nat->aq} {s:aj} {next:Int} {g:Nat} {gA iT hM gG gq dn gr gE u16 dr dw dx gh dy dz dA dB dD dF dG dH cu cv cw u32 cz cA cB cC cD cE cF cG cH cI cK dI dJ gO gM gN bx bz bA bB bC bD bE bF bG bL bM bN bO bP bQ u64 bR bS bT bU bV bW bX bY bZ b5 b6 b7 b8 b9 cc cg ck cm cn cp cr dK dL dM dN dO dP dQ dR cL cM cN cO cQ cR cS cT cU cV cW cZ c7 c8 dc de dh dS dU dV dW dX dY dZ ec ee ef ei ej ek en eo ep er eu ew ey ez eA eB eC eD eE eF eG eH eL gi gj gl eM eN eO eP eR eS eT eU eV eW eX eY gm gn gp eZ e3 e4 e5 e6 e7 e8 e9 fc fe ff fh fk fm fo fq fu fA fB fC fD fE fF fG fH fI fJ fK fL fM fN fO fP fQ fR fS gu gv fT fU fV fW fZ ga gb ir iu iw iy iz iA iB iC iD iE iF iG iY iZ ja jb jc jd je jf jN jO jP jQ jR jS:Value} {W:World} (h:Av bw gP base w0 G F aC n gx jr aF aW aZ K cb aV kX oM hs s next W g):xq bw gP base w0 G F aC n gx jr aF jy ia jA aW aZ K cb aV iS left kX oM g {tmps:= #[.pointer (some ⟨G,0,none⟩),.slice jy ia jA,.int .i64 (aZ:Int),gA,iT,hM,.pointer (some ⟨aW,0,none⟩),.int .i64 (iS:Int),.int .i64 left,.int .i64 2000,gG,gq,dn,.int .i64 next,gr,gE,u16,dr,dw,dx,gh,dy,dz,dA,dB,dD,dF,dG,dH,cu,cv,cw,u32,cz,cA,cB,cC,cD,cE,cF,cG,cH,cI,cK,dI,dJ,gO,gM,gN,bx,bz,bA,bB,bC,bD,bE,bF,bG,bL,bM,bN,bO,bP,bQ,u64,bR,bS,bT,bU,bV,bW,bX,bY,bZ,b5,b6,b7,b8,b9,cc,cg,ck,cm,cn,cp,cr,dK,dL,dM,dN,dO,dP,dQ,dR,cL,cM,cN,cO,cQ,cR,cS,cT,cU,cV,cW,cZ,c7,c8,dc,de,dh,dS,dU,dV,dW,dX,dY,dZ,ec,ee,ef,ei,ej,ek,en,eo,ep,er,eu,ew,ey,ez,eA,eB,eC,eD,eE,eF,eG,eH,eL,gi,gj,gl,eM,eN,eO,eP,eR,eS,eT,eU,eV,eW,eX,eY,gm,gn,gp,eZ,e3,e4,e5,e6,e7,e8,e9,fc,fe,ff,fh,fk,fm,fo,fq,fu,fA,fB,fC,fD,fE,fF,fG,fH,fI,fJ,fK,fL,fM,fN,fO,fP,fQ,fR,fS,gu,gv,fT,fU,fV,fW,fZ,ga,gb,ir,iu,iw,iy,iz,iA,iB,iC,iD,iE,iF,iG,iY,iZ,ja,jb,jc,jd,je,jf,jN,jO,jP,jQ,jR,jS],defers:=[]} W
theorem xq.elim{w0:World}{iS:Nat}(b:xq bw gP base w0 G F aC n gx jr aF jy ia jA aW aZ K cb aV iS left kX oM g a W){P:Prop}
  (k:∀{hs:Nat->aq}{s:aj}{next:Int}{c d e f i j l m u16 o p q r t u v w y z A B C D E u32 H I J L M N O Q R S T U V X Y Z aa ab ad ae af ag ah ai ak al an ao ar au av u64 aw ax ay az aA aB aD aE aG aH aI aJ aK aL aM aN aO aP aQ aR aS aT aU aX aY a6 a7 a8 a' ba bb bc bd bf bg bh bj bk bl bn bo bp bq br bs bt bu bx bz bA bB bC bD bE bF bG bH bI bJ bK bL bM bN bO bP bQ bR bS bT bU bV bW bX bY bZ b0 b1 b2 b3 b4 b5 b6 b7 b8 b9 b' ca cc cd cf cg ch cj ck cm cn cp cq cr ct cu cv cw cx cy cz cA cB cC cD cE cF cG cH cI cJ cK cL cM cN cO cP cQ cR cS cT cU cV cW cX cY cZ c7 c8 da db dc dd de df dh di dj dk dm dn dp dq dr dt du dv dw dx dy dz dA dB dC dD dE dF dG dH dI:Value},a={tmps:= #[.pointer (some ⟨G,0,none⟩),.slice jy ia jA,.int .i64 (aZ:Int),c,d,e,.pointer (some ⟨aW,0,none⟩),.int .i64 (iS:Int),.int .i64 left,.int .i64 2000,f,i,j,.int .i64 next,l,m,u16,o,p,q,r,t,u,v,w,y,z,A,B,C,D,E,u32,H,I,J,L,M,N,O,Q,R,S,T,U,V,X,Y,Z,aa,ab,ad,ae,af,ag,ah,ai,ak,al,an,ao,ar,au,av,u64,aw,ax,ay,az,aA,aB,aD,aE,aG,aH,aI,aJ,aK,aL,aM,aN,aO,aP,aQ,aR,aS,aT,aU,aX,aY,a6,a7,a8,a',ba,bb,bc,bd,bf,bg,bh,bj,bk,bl,bn,bo,bp,bq,br,bs,bt,bu,bx,bz,bA,bB,bC,bD,bE,bF,bG,bH,bI,bJ,bK,bL,bM,bN,bO,bP,bQ,bR,bS,bT,bU,bV,bW,bX,bY,bZ,b0,b1,b2,b3,b4,b5,b6,b7,b8,b9,b',ca,cc,cd,cf,cg,ch,cj,ck,cm,cn,cp,cq,cr,ct,cu,cv,cw,cx,cy,cz,cA,cB,cC,cD,cE,cF,cG,cH,cI,cJ,cK,cL,cM,cN,cO,cP,cQ,cR,cS,cT,cU,cV,cW,cX,cY,cZ,c7,c8,da,db,dc,dd,de,df,dh,di,dj,dk,dm,dn,dp,dq,dr,dt,du,dv,dw,dx,dy,dz,dA,dB,dC,dD,dE,dF,dG,dH,dI],defers:=[]}->Av bw gP base w0 G F aC n gx jr aF aW aZ K cb aV kX oM hs s next W g->P):P:=by
 cases b with
 |mk h=>exact k rfl h
noncomputable def MH:Code:=(Tryz.f99.body.bind λ c=>qu c 5).getD .skip
theorem MI{bw gP:Nat->Prop}{base:Nat}{w0:World}{G:Nat}{F:List (List Int)}{aC:List Int}{n gx jr:Nat}{aF:aj}{jy:Option Addr}{ia jA aW aZ:Nat}{K:Nat->Prop}{W:World}{hs:Nat->aq}{cb:Nat->Nat}{s:aj}{aV iS kX:Nat}{oM:List Int}{left next g0:Int}{g:Nat}{gA iT hM gG gq dn gr gE u16 dr dw dx gh dy dz dA dB dD dF dG dH cu cv cw u32 cz cA cB cC cD cE cF cG cH cI cK dI dJ gO gM gN bx bz bA bB bC bD bE bF bG bL bM bN bO bP bQ u64 bR bS bT bU bV bW bX bY bZ b5 b6 b7 b8 b9 cc cg ck cm cn cp cr dK dL dM dN dO dP dQ dR cL cM cN cO cQ cR cS cT cU cV cW cZ c7 c8 dc de dh dS dU dV dW dX dY dZ ec ee ef ei ej ek en eo ep er eu ew ey ez eA eB eC eD eE eF eG eH eL gi gj gl eM eN eO eP eR eS eT eU eV eW eX eY gm gn gp eZ e3 e4 e5 e6 e7 e8 e9 fc fe ff fh fk fm fo fq fu fA fB fC fD fE fF fG fH fI fJ fK fL fM fN fO fP fQ fR fS gu gv fT fU fV fW fZ ga gb ir iu iw iy iz iA iB iC iD iE iF iG iY iZ ja jb jc jd je jf jN jO jP jQ jR jS:Value}{Q:Exit->Act->World->Prop}
  (C:sB bw gP w0 F aC n gx jr aF jy ia jA aZ) (O:Av bw gP base w0 G F aC n gx jr aF aW aZ K cb aV kX oM hs s next W g)
  (P:∀(hs:Nat->aq)(s':aj)(next:Int)(g:Nat)(gA iT hM gG gq dn gr gE u16 dr dw dx gh dy dz dA dB dD dF dG dH cu cv cw u32 cz cA cB cC cD cE cF cG cH cI cK dI dJ gO gM gN bx bz bA bB bC bD bE bF bG bL bM bN bO bP bQ u64 bR bS bT bU bV bW bX bY bZ b5 b6 b7 b8 b9 cc cg ck cm cn cp cr dK dL dM dN dO dP dQ dR cL cM cN cO cQ cR cS cT cU cV cW cZ c7 c8 dc de dh dS dU dV dW dX dY dZ ec ee ef ei ej ek en eo ep er eu ew ey ez eA eB eC eD eE eF eG eH eL gi gj gl eM eN eO eP eR eS eT eU eV eW eX eY gm gn gp eZ e3 e4 e5 e6 e7 e8 e9 fc fe ff fh fk fm fo fq fu fA fB fC fD fE fF fG fH fI fJ fK fL fM fN fO fP fQ fR fS gu gv fT fU fV fW fZ ga gb ir iu iw iy iz iA iB iC iD iE iF iG iY iZ ja jb jc jd je jf jN jO jP jQ jR jS:Value)(W':World),Av bw gP base w0 G F aC n gx jr aF aW aZ K cb aV kX oM hs s' next W' g->(next=0->s'.ord.length=0)->Q (.exit 5) {tmps:= #[.pointer (some ⟨G,0,none⟩),.slice jy ia jA,.int .i64 (aZ:Int),gA,iT,hM,.pointer (some ⟨aW,0,none⟩),.int .i64 (iS:Int),.int .i64 left,.int .i64 2000,gG,gq,dn,.int .i64 next,gr,gE,u16,dr,dw,dx,gh,dy,dz,dA,dB,dD,dF,dG,dH,cu,cv,cw,u32,cz,cA,cB,cC,cD,cE,cF,cG,cH,cI,cK,dI,dJ,gO,gM,gN,bx,bz,bA,bB,bC,bD,bE,bF,bG,bL,bM,bN,bO,bP,bQ,u64,bR,bS,bT,bU,bV,bW,bX,bY,bZ,b5,b6,b7,b8,b9,cc,cg,ck,cm,cn,cp,cr,dK,dL,dM,dN,dO,dP,dQ,dR,cL,cM,cN,cO,cQ,cR,cS,cT,cU,cV,cW,cZ,c7,c8,dc,de,dh,dS,dU,dV,dW,dX,dY,dZ,ec,ee,ef,ei,ej,ek,en,eo,ep,er,eu,ew,ey,ez,eA,eB,eC,eD,eE,eF,eG,eH,eL,gi,gj,gl,eM,eN,eO,eP,eR,eS,eT,eU,eV,eW,eX,eY,gm,gn,gp,eZ,e3,e4,e5,e6,e7,e8,e9,fc,fe,ff,fh,fk,fm,fo,fq,fu,fA,fB,fC,fD,fE,fF,fG,fH,fI,fJ,fK,fL,fM,fN,fO,fP,fQ,fR,fS,gu,gv,fT,fU,fV,fW,fZ,ga,gb,ir,iu,iw,iy,iz,iA,iB,iC,iD,iE,iF,iG,iY,iZ,ja,jb,jc,jd,je,jf,jN,jO,jP,jQ,jR,jS],defers:=[]} W'):
  Zx y_ MH Q {tmps:= #[.pointer (some ⟨G,0,none⟩),.slice jy ia jA,.int .i64 (aZ:Int),gA,iT,hM,.pointer (some ⟨aW,0,none⟩),.int .i64 (iS:Int),.int .i64 left,.int .i64 2000,gG,gq,dn,.int .i64 next,gr,gE,u16,dr,dw,dx,gh,dy,dz,dA,dB,dD,dF,dG,dH,cu,cv,cw,u32,cz,cA,cB,cC,cD,cE,cF,cG,cH,cI,cK,dI,dJ,gO,gM,gN,bx,bz,bA,bB,bC,bD,bE,bF,bG,bL,bM,bN,bO,bP,bQ,u64,bR,bS,bT,bU,bV,bW,bX,bY,bZ,b5,b6,b7,b8,b9,cc,cg,ck,cm,cn,cp,cr,dK,dL,dM,dN,dO,dP,dQ,dR,cL,cM,cN,cO,cQ,cR,cS,cT,cU,cV,cW,cZ,c7,c8,dc,de,dh,dS,dU,dV,dW,dX,dY,dZ,ec,ee,ef,ei,ej,ek,en,eo,ep,er,eu,ew,ey,ez,eA,eB,eC,eD,eE,eF,eG,eH,eL,gi,gj,gl,eM,eN,eO,eP,eR,eS,eT,eU,eV,eW,eX,eY,gm,gn,gp,eZ,e3,e4,e5,e6,e7,e8,e9,fc,fe,ff,fh,fk,fm,fo,fq,fu,fA,fB,fC,fD,fE,fF,fG,fH,fI,fJ,fK,fL,fM,fN,fO,fP,fQ,fR,fS,gu,gv,fT,fU,fV,fW,fZ,ga,gb,ir,iu,iw,iy,iz,iA,iB,iC,iD,iE,iF,iG,iY,iZ,ja,jb,jc,jd,je,jf,jN,jO,jP,jQ,jR,jS],defers:=[]} W:=by
 have R:=U P;have z:=U C;clear P C
 conv=>arg 2;whnf
 dsimp only;refine b_ (xq bw gP base w0 G F aC n gx jr aF jy ia jA aW aZ K cb aV iS left kX oM) g ?start ?round
 case start=>exact xq.mk O
 case round=>
  clear O W hs s next g
  intro g a W S a6 a7 V Y;refine S.elim ?_;intro hs s next gA iT hM gG gq dn gr gE u16 dr dw dx gh dy dz dA dB dD dF dG dH cu cv cw u32 cz cA cB cC cD cE cF cG cH cI cK dI dJ gO gM gN bx bz bA bB bC bD bE bF bG bL bM bN bO bP bQ u64 bR bS bT bU bV bW bX bY bZ b5 b6 b7 b8 b9 cc cg ck cm cn cp cr dK dL dM dN dO dP dQ dR cL cM cN cO cQ cR cS cT cU cV cW cZ c7 c8 dc de dh dS dU dV dW dX dY dZ ec ee ef ei ej ek en eo ep er eu ew ey ez eA eB eC eD eE eF eG eH eL gi gj gl eM eN eO eP eR eS eT eU eV eW eX eY gm gn gp eZ e3 e4 e5 e6 e7 e8 e9 fc fe ff fh fk fm fo fq fu fA fB fC fD fE fF fG fH fI fJ fK fL fM fN fO fP fQ fR fS gu gv fT fU fV fW fZ ga gb ir iu iw iy iz iA iB iC iD iE iF iG iY iZ ja jb jc jd je jf jN jO jP jQ jR jS aE H
  clear S;subst aE;have j:=U H;have B:=U V;have D:=U Y;obtain⟨aG,n7,aI,E⟩:∃A n c,hs 7=⟨A,n,c⟩:=⟨_,_,_,rfl⟩
  have aJ:W.cell? ⟨G,10,none⟩=some (.slice aG n7 aI):=by have:=H.gz.e.kA (k:=10) (v:=(hs 7).v) rfl;rw[E] at this;exact this
  have Z:n7=s.ord.length:=by have:=H.gz.e.n7;rw[E] at this;exact this
  have aa:=U Z;clear E Z V Y
  by_cases I:next=0
  ·subst I;have b:=U (H.no rfl);clear H;have a8:=U (b.o.1.nW z.o)
   by_cases l:0<n7
   ·have J:(0:Int)<(n7:Int):=by omega
    have d7:decide ((0:Int)<(n7:Int))=true:=decide_eq_true J;have L:=b.o.1.jX.rg.jh;have aK:=z.o.n10;have ab:=U (J1 b.o.1.gz (by rw[L];exact b.o.1.jX.rg.lT) (by rw[L];exact b.o.1.jX.rg.kM) (by omega) (by rw[<-aa.o];exact l) (by have h1:=mh.len b.o.1.jX.rg.lT;omega));have ad:=U l;clear l L aK
    go_upto_region 37 with(go_at_call 155;refine ab.o.mono ?_;rintro e w1 ⟨v,i,s1,rfl,aM,ae,af,aN,f,ag,q,ah,ak⟩;dsimp only)
    obtain⟨o,p,rfl⟩:=aN;have T:=b.o.1.jX.gK.aL;have al:v<=n:=by rw[<-b.o.1.jX.rg.jh];exact af
    have q:mh n o p:=by rw[<-b.o.1.jX.rg.jh];exact q
    have f:aU K base w1 G i cb {s with ord:=o,pl:=p}:=f;have an:v<s.c.val.length:=by rw[T.rN];omega
    obtain⟨ao,ar,au,aO⟩:=f.e.lV 2 1 rfl f.e.kJ (by show s.c.val.length≠0;omega);have M:=f.e.zW ar (k:=v) an;replace au:w1.cell? ⟨G,2,none⟩=some (.slice (some ⟨ao,0,none⟩) s.c.val.length (i 1).c):=au;replace M:w1.cell? ⟨ao,v,none⟩=some (.int .i8 (ai s.c.val v)):=M;have a':(v:Int)<(s.c.val.length:Int):=by omega
    have aP:s.bl.length=n+1:=b.o.1.jX.rg.nB;obtain⟨av,aw,ax,aQ⟩:=f.e.lV 12 9 rfl f.e.jJ (by show s.bl.length≠0;omega);have r:=f.e.Fl aw (k:=v) (by show v<s.bl.length;omega);replace ax:w1.cell? ⟨G,12,none⟩=some (.slice (some ⟨av,0,none⟩) s.bl.length (i 9).c):=ax;replace r:w1.cell? ⟨av,v,none⟩=some (.bool (jE s.bl v)):=r;have ba:(v:Int)<(s.bl.length:Int):=by omega
    have wn:c_.wrap (-(v:Int))= -(v:Int):=by rw[k_];have:=z.o.n10;omega
    have X:=U (z_ ae (z_ al (z_ q (z_ f (z_ ag (z_ ah ak))))));clear aM ae af f ag q ah ak al an ar aO aw aQ aP T ab aJ;obtain⟨y,N⟩:∃y,ai s.c.val v=y:=⟨_,rfl⟩
    rw[N] at M;have ay:=U N;clear N
    by_cases t:y=0
    ·subst t;have az:bI (∀x:Int,x=v\/x= -(v:Int)->D5 bw gP base w0 G F aC n gx jr aF aW aZ K cb aV kX oM i {s with ord:=o,pl:=p} x w1):=U (λ x bb=>by
      have h1:=X.o.1;have w:aH x=v:=by unfold aH;omega
      have aA:gU n x:=⟨by rw[w];exact h1,by rw[w];exact X.o.2.1⟩
      refine⟨⟨W,hs,s,b.o.1,X.o.2.2.2.2.1,rfl⟩,X.o.2.2.2.1,b.o.2.1,b.o.2.2.1,b.o.2.2.2.1,b.o.2.2.2.2.1,X.o.2.2.1,λ u d m aR aB=>?_,aA.oQ,aA,?_,λ h=>absurd h (Nat.not_lt.2 b.o.2.2.2.2.2)⟩
      ·rw[w] at aB;exact(X.o.2.2.2.2.2.2 u aB).2 (b.o.1.jX.un u d m aR)
      ·show jZ s.c x=0;unfold jZ;rw[w,ay.o];split<;>rfl)
     cases aD:jE s.bl v with
     |true=>
      rw[aD] at r
      go_wp2_with fail
      refine D.o _ _ (o_ o.length ?_ (B.o _ _ _ (xq.mk (hs:=i) (s:={s with ord:=o,pl:=p}) (next:=(v:Int)) ⟨λ e=>?_,λ _=>az.o _ (.inl rfl),X.o.2.2.2.1,?_⟩)))
      ·have h1:=j.o.g;have d:=X.o.2.2.2.2.2.1;rw[if_pos rfl] at h1;have d:o.length+1=s.ord.length:=d;omega
      ·exact absurd e (by have:=X.o.1;omega)
      ·rw[if_neg (by have:=X.o.1;omega)];rfl
     |false=>
      rw[aD] at r
      go_wp2_with fail
      refine D.o _ _ (o_ o.length ?_ (B.o _ _ _ (xq.mk (hs:=i) (s:={s with ord:=o,pl:=p}) (next:= -(v:Int)) ⟨λ e=>?_,λ _=>az.o _ (.inr rfl),X.o.2.2.2.1,?_⟩)))
      ·have h1:=j.o.g;have d:=X.o.2.2.2.2.2.1;rw[if_pos rfl] at h1;have d:o.length+1=s.ord.length:=d;omega
      ·exact absurd e (by have:=X.o.1;omega)
      ·rw[if_neg (by have:=X.o.1;omega)];rfl
    ·have bc:(y==0)=false:=by simpa using t
     have aS:=U t;clear t
     go_wp2_with fail
     have aT:=b.o.1.jX.ord X.o.2.2.1 (λ u h1 d m=>(X.o.2.2.2.2.2.2 u (λ e=>by subst e;rw[ay.o] at m;exact aS.o m)).2 (b.o.1.jX.un u h1 d m));have aX:=b.o.1.move X.o.2.2.2.1 X.o.2.2.2.2.1 aT rfl rfl rfl;refine D.o _ _ (o_ (o.length+1) ?_ (B.o _ _ _ (xq.mk (hs:=i) (s:={s with ord:=o,pl:=p}) (next:=0) ⟨λ _=>⟨aX,b.o.2⟩,λ e=>absurd rfl e,X.o.2.2.2.1,?_⟩)))
     ·have h1:=j.o.g;have d:=X.o.2.2.2.2.2.1;rw[if_pos rfl] at h1;have d:o.length+1=s.ord.length:=d;omega
     ·rw[if_pos rfl]
   ·have J:¬(0:Int)<(n7:Int):=by omega
    have d7:decide ((0:Int)<(n7:Int))=false:=decide_eq_false J;have ad:=U l;clear l
    go_wp2_with fail
    apply R.o hs s 0 g
    ·exact j.o
    ·intro _;rw[<-aa.o];have:=ad.o;omega
  ·have bd:decide (next=0)=false:=decide_eq_false I;have aY:=U I;clear H
   go_wp2_with fail
   apply R.o hs s next g
   ·exact j.o
   ·exact λ h=>absurd h aY.o
theorem xu{A C:World}(h:A.grownBy B row)(k:B.grownBy C row):A.grownBy C row:=
 ⟨k.os.trans h.os,k.tape.trans h.tape,k.output.trans h.output,Zw h.size k.size,λ i b c=>(k.block i (u_ b h.size) c).trans (h.block i b c)⟩
theorem D6{A:World}(h:A.grownBy B row):A.grownBy B.drew row:=⟨h.os,h.tape,h.output,h.size,h.block⟩
structure vK(K:Nat->Prop)(base:Nat)(W:World)(G:Nat)(hs:Nat->aq)(cb:Nat->Nat)(s:aj)(aW aV n g:Nat)(gR:List Bool):Prop where
 gz:aU (qJ K g) base W G hs cb s
 lQ:aO W aW 30 [.int .i64 1,.slice (some ⟨g,0,none⟩) (n+1) (n+1),mX,.int .i64 (aV:Int)]
 row:W.ownsRow g 4 1 (.slice (some ⟨g,0,none⟩) (n+1) (n+1)) (n+1) (nO gR)
 ne:g≠aW
theorem vK.set{K:Nat->Prop}{base:Nat}{W:World}{G:Nat}{hs:Nat->aq}{cb:Nat->Nat}{s:aj}{aW aV n g:Nat}{gR:List Bool}(h:vK K base W G hs cb s aW aV n g gR)(k:Nat)(b:Bool):vK K base (W.setCell ⟨g,k,none⟩ (.bool b)) G hs cb s aW aV n g (gR.set k b):=
 ⟨h.gz.vi (.inr rfl) k _,h.lQ.kept (kK W g k _) (λ e=>h.ne (by injection e with e;exact e.symm)),by unfold nO;rw[List.map_set];exact IK h.row _,h.ne⟩
theorem vK.drew{K:Nat->Prop}{base:Nat}{W:World}{G:Nat}{hs:Nat->aq}{cb:Nat->Nat}{s:aj}{aW aV n g:Nat}{gR:List Bool}(h:vK K base W G hs cb s aW aV n g gR):vK K base W.drew G hs cb s aW aV n g gR:=
 ⟨h.gz.drew,h.lQ,lR h.row ((m_ _ W).drew),h.ne⟩
structure GV(K:Nat->Prop)(base:Nat)(V W:World)(G:Nat)(hs:Nat->aq)(cb:Nat->Nat)(s:aj)(aW aV n g k:Nat):Prop where
 st:∃gR:List Bool,vK K base W G hs cb s aW aV n g gR/\gR.length=n+1/\∀j,j<k->jE gR j=decide (0<ai s.c.val j)
 nw:V.grownBy W (some g)
 rK:k<=n+1
inductive zh(K:Nat->Prop)(base:Nat)(V:World)(G:Nat)(hs:Nat->aq)(cb:Nat->Nat)(s:aj)(jy:Option Addr)(ia jA aW aZ aV iS:Nat)(left:Int)(n g:Nat):Nat->Act->World->Prop
 |mk {k:Nat} {gA iT hM gG gq dn gT gr gE u16 dr dw dx gh dy dz dA dB dD dF dG dH cu cv cw u32 cz cA cB cC cD cE cF cG cH cI cK dI dJ gO gM gN bx bz bA bB bC bD bE bF bG bL bM bN bO bP bQ u64 bR bS bT bU bV bW bX bY bZ b5 b6 b7 b8 b9 cc cg ck cm cn cp cr dK dL dM dN dO dP dQ dR cL cM cN cO cQ cR cS cT cU cV cW cZ c7 c8 dc de dh dS dU dV dW dX dY dZ ec ee ef ei ej ek en eo ep er eu ew ey ez eA eB eC eD eE eF eG eH eL gi gj gl eM eN eO eP eR eS eT eU eV eW eX eY gm gn gp eZ e3 e4 e5 e6 e7 e8 e9 fc fe ff fh fk fm fo fq fu fA fB fC fD fE fF fG fH fI fJ fK fL fM fN fO fP fQ fR fS fT fU fV fW fZ ga gb ir iu iw iy iz iA iB iC iD iE iF iG iY iZ ja jb jc jd je jf jN jO jP jQ jR jS:Value} {W:World} (h:GV K base V W G hs cb s aW aV n g k):zh K base V G hs cb s jy ia jA aW aZ aV iS left n g (n+1-k) {tmps:= #[.pointer (some ⟨G,0,none⟩),.slice jy ia jA,.int .i64 (aZ:Int),gA,iT,hM,.pointer (some ⟨aW,0,none⟩),.int .i64 (iS:Int),.int .i64 left,.int .i64 2000,gG,gq,dn,gT,gr,gE,u16,dr,dw,dx,gh,dy,dz,dA,dB,dD,dF,dG,dH,cu,cv,cw,u32,cz,cA,cB,cC,cD,cE,cF,cG,cH,cI,cK,dI,dJ,gO,gM,gN,bx,bz,bA,bB,bC,bD,bE,bF,bG,bL,bM,bN,bO,bP,bQ,u64,bR,bS,bT,bU,bV,bW,bX,bY,bZ,b5,b6,b7,b8,b9,cc,cg,ck,cm,cn,cp,cr,dK,dL,dM,dN,dO,dP,dQ,dR,cL,cM,cN,cO,cQ,cR,cS,cT,cU,cV,cW,cZ,c7,c8,dc,de,dh,dS,dU,dV,dW,dX,dY,dZ,ec,ee,ef,ei,ej,ek,en,eo,ep,er,eu,ew,ey,ez,eA,eB,eC,eD,eE,eF,eG,eH,eL,gi,gj,gl,eM,eN,eO,eP,eR,eS,eT,eU,eV,eW,eX,eY,gm,gn,gp,eZ,e3,e4,e5,e6,e7,e8,e9,fc,fe,ff,fh,fk,fm,fo,fq,fu,fA,fB,fC,fD,fE,fF,fG,fH,fI,fJ,fK,fL,fM,fN,fO,fP,fQ,fR,fS,.int .i64 ((n:Int)+1),.int .i64 (k:Int),fT,fU,fV,fW,fZ,ga,gb,ir,iu,iw,iy,iz,iA,iB,iC,iD,iE,iF,iG,iY,iZ,ja,jb,jc,jd,je,jf,jN,jO,jP,jQ,jR,jS],defers:=[]} W
theorem zh.elim{V:World}{iS:Nat}{m:Nat}(b:zh K base V G hs cb s jy ia jA aW aZ aV iS left n g m a W){P:Prop}
  (k:∀{k:Nat}{c d e f i j l o p u16 q r t u v w y z A B C D E F H u32 I J L M N O Q R S T U X Y Z aa ab ad ae af ag ah ai ak al an ao ar au av aw ax u64 ay az aA aB aC aD aE aF aG aH aI aJ aK aL aM aN aO aP aQ aR aS aT aU aX aY a6 a7 a8 a' ba bb bc bd bf bg bh bj bk bl bn bo bp bq br bs bt bu bw bx bz bA bB bC bD bE bF bG bH bI bJ bK bL bM bN bO bP bQ bR bS bT bU bV bW bX bY bZ b0 b1 b2 b3 b4 b5 b6 b7 b8 b9 b' ca cc cd cf cg ch cj ck cm cn cp cq cr ct cu cv cw cx cy cz cA cB cC cD cE cF cG cH cI cJ cK cL cM cN cO cP cQ cR cS cT cU cV cW cX cY cZ c7 c8 da db dc dd de df dh di dj dk dm dn dp dq dr dt du dv dw dx dy dz dA dB dC dD dE dF:Value},a={tmps:= #[.pointer (some ⟨G,0,none⟩),.slice jy ia jA,.int .i64 (aZ:Int),c,d,e,.pointer (some ⟨aW,0,none⟩),.int .i64 (iS:Int),.int .i64 left,.int .i64 2000,f,i,j,l,o,p,u16,q,r,t,u,v,w,y,z,A,B,C,D,E,F,H,u32,I,J,L,M,N,O,Q,R,S,T,U,X,Y,Z,aa,ab,ad,ae,af,ag,ah,ai,ak,al,an,ao,ar,au,av,aw,ax,u64,ay,az,aA,aB,aC,aD,aE,aF,aG,aH,aI,aJ,aK,aL,aM,aN,aO,aP,aQ,aR,aS,aT,aU,aX,aY,a6,a7,a8,a',ba,bb,bc,bd,bf,bg,bh,bj,bk,bl,bn,bo,bp,bq,br,bs,bt,bu,bw,bx,bz,bA,bB,bC,bD,bE,bF,bG,bH,bI,bJ,bK,bL,bM,bN,bO,bP,bQ,bR,bS,bT,bU,bV,bW,bX,bY,bZ,b0,b1,b2,b3,b4,b5,b6,b7,b8,b9,b',ca,cc,cd,cf,cg,ch,cj,ck,cm,cn,cp,cq,cr,ct,cu,cv,cw,cx,cy,cz,cA,cB,cC,cD,cE,cF,cG,cH,cI,cJ,cK,cL,cM,cN,cO,cP,cQ,cR,cS,cT,cU,cV,cW,.int .i64 ((n:Int)+1),.int .i64 (k:Int),cX,cY,cZ,c7,c8,da,db,dc,dd,de,df,dh,di,dj,dk,dm,dn,dp,dq,dr,dt,du,dv,dw,dx,dy,dz,dA,dB,dC,dD,dE,dF],defers:=[]}->m=n+1-k->GV K base V W G hs cb s aW aV n g k->P):P:=by
 cases b with
 |mk h=>exact k rfl rfl h
noncomputable def GW:Code:=DL (nu (nu (nu (nu (nu B6)))))
noncomputable def MJ:Code:=nu (BK (nu GW))
theorem MK{K:Nat->Prop}{base:Nat}{V:World}{G:Nat}{hs:Nat->aq}{cb:Nat->Nat}{s:aj}{jy:Option Addr}{ia jA aW aZ aV iS:Nat}{left:Int}{n g:Nat}{B9:List Bool}{gA iT hM gG gq dn gT gr gE u16 dr dw dx gh dy dz dA dB dD dF dG dH cu cv cw u32 cz cA cB cC cD cE cF cG cH cI cK dI dJ gO gM gN bx bz bA bB bC bD bE bF bG bL bM bN bO bP bQ u64 bR bS bT bU bV bW bX bY bZ b5 b6 b7 b8 b9 cc cg ck cm cn cp cr dK dL dM dN dO dP dQ dR cL cM cN cO cQ cR cS cT cU cV cW cZ c7 c8 dc de dh dS dU dV dW dX dY dZ ec ee ef ei ej ek en eo ep er eu ew ey ez eA eB eC eD eE eF eG eH eL gi gj gl eM eN eO eP eR eS eT eU eV eW eX eY gm gn gp eZ e3 e4 e5 e6 e7 e8 e9 fc fe ff fh fk fm fo fq fu fA fB fC fD fE fF fG fH fI fJ fK fL fM fN fO fP fQ fR fS gu gv fT fU fV fW fZ ga gb ir iu iw iy iz iA iB iC iD iE iF iG iY iZ ja jb jc jd je jf jN jO jP jQ jR jS:Value}{Q:Exit->Act->World->Prop}
  (p:vK K base V G hs cb s aW aV n g B9) (v:B9.length=n+1) (al:n<=10) (an:s.c.val.length=n+1)
  (w:∀(d:List Bool)(gA iT hM gG gq dn gT gr gE u16 dr dw dx gh dy dz dA dB dD dF dG dH cu cv cw u32 cz cA cB cC cD cE cF cG cH cI cK dI dJ gO gM gN bx bz bA bB bC bD bE bF bG bL bM bN bO bP bQ u64 bR bS bT bU bV bW bX bY bZ b5 b6 b7 b8 b9 cc cg ck cm cn cp cr dK dL dM dN dO dP dQ dR cL cM cN cO cQ cR cS cT cU cV cW cZ c7 c8 dc de dh dS dU dV dW dX dY dZ ec ee ef ei ej ek en eo ep er eu ew ey ez eA eB eC eD eE eF eG eH eL gi gj gl eM eN eO eP eR eS eT eU eV eW eX eY gm gn gp eZ e3 e4 e5 e6 e7 e8 e9 fc fe ff fh fk fm fo fq fu fA fB fC fD fE fF fG fH fI fJ fK fL fM fN fO fP fQ fR fS gu gv fT fU fV fW fZ ga gb ir iu iw iy iz iA iB iC iD iE iF iG iY iZ ja jb jc jd je jf jN jO jP jQ jR jS:Value)(W':World),vK K base W' G hs cb s aW aV n g d->d.length=n+1->(∀j,j<n+1->jE d j=decide (0<ai s.c.val j))->V.grownBy W' (some g)->Q .ret {tmps:= #[.pointer (some ⟨G,0,none⟩),.slice jy ia jA,.int .i64 (aZ:Int),gA,iT,hM,.pointer (some ⟨aW,0,none⟩),.int .i64 (iS:Int),.int .i64 left,.int .i64 2000,gG,gq,dn,gT,gr,gE,u16,dr,dw,dx,gh,dy,dz,dA,dB,dD,dF,dG,dH,cu,cv,cw,u32,cz,cA,cB,cC,cD,cE,cF,cG,cH,cI,cK,dI,dJ,gO,gM,gN,bx,bz,bA,bB,bC,bD,bE,bF,bG,bL,bM,bN,bO,bP,bQ,u64,bR,bS,bT,bU,bV,bW,bX,bY,bZ,b5,b6,b7,b8,b9,cc,cg,ck,cm,cn,cp,cr,dK,dL,dM,dN,dO,dP,dQ,dR,cL,cM,cN,cO,cQ,cR,cS,cT,cU,cV,cW,cZ,c7,c8,dc,de,dh,dS,dU,dV,dW,dX,dY,dZ,ec,ee,ef,ei,ej,ek,en,eo,ep,er,eu,ew,ey,ez,eA,eB,eC,eD,eE,eF,eG,eH,eL,gi,gj,gl,eM,eN,eO,eP,eR,eS,eT,eU,eV,eW,eX,eY,gm,gn,gp,eZ,e3,e4,e5,e6,e7,e8,e9,fc,fe,ff,fh,fk,fm,fo,fq,fu,fA,fB,fC,fD,fE,fF,fG,fH,fI,fJ,fK,fL,fM,fN,fO,fP,fQ,fR,fS,gu,gv,fT,fU,fV,fW,fZ,ga,gb,ir,iu,iw,iy,iz,iA,iB,iC,iD,iE,iF,iG,iY,iZ,ja,jb,jc,jd,je,jf,jN,jO,jP,jQ,jR,jS],defers:=[]} (((((W'.setCell ⟨aW,0,none⟩ (.int .i64 1)).setCell ⟨aW,1,none⟩ (.slice (some ⟨g,0,none⟩) (n+1) (n+1)))).setCell ⟨aW,2,none⟩ (.slice none 0 0)).setCell ⟨aW,3,none⟩ (.int .i64 (aV:Int)))):
  Zx y_ MJ Q {tmps:= #[.pointer (some ⟨G,0,none⟩),.slice jy ia jA,.int .i64 (aZ:Int),gA,iT,hM,.pointer (some ⟨aW,0,none⟩),.int .i64 (iS:Int),.int .i64 left,.int .i64 2000,gG,gq,dn,gT,gr,gE,u16,dr,dw,dx,gh,dy,dz,dA,dB,dD,dF,dG,dH,cu,cv,cw,u32,cz,cA,cB,cC,cD,cE,cF,cG,cH,cI,cK,dI,dJ,gO,gM,gN,bx,bz,bA,bB,bC,bD,bE,bF,bG,bL,bM,bN,bO,bP,bQ,u64,bR,bS,bT,bU,bV,bW,bX,bY,bZ,b5,b6,b7,b8,b9,cc,cg,ck,cm,cn,cp,cr,dK,dL,dM,dN,dO,dP,dQ,dR,cL,cM,cN,cO,cQ,cR,cS,cT,cU,cV,cW,cZ,c7,c8,dc,de,dh,dS,dU,dV,dW,dX,dY,dZ,ec,ee,ef,ei,ej,ek,en,eo,ep,er,eu,ew,ey,ez,eA,eB,eC,eD,eE,eF,eG,eH,eL,gi,gj,gl,eM,eN,eO,eP,eR,eS,eT,eU,eV,eW,eX,eY,gm,gn,gp,eZ,e3,e4,e5,e6,e7,e8,e9,fc,fe,ff,fh,fk,fm,fo,fq,fu,fA,fB,fC,fD,fE,fF,fG,fH,fI,fJ,fK,fL,fM,fN,fO,fP,fQ,fR,fS,gu,gv,fT,fU,fV,fW,fZ,ga,gb,ir,iu,iw,iy,iz,iA,iB,iC,iD,iE,iF,iG,iY,iZ,ja,jb,jc,jd,je,jf,jN,jO,jP,jQ,jR,jS],defers:=[]} V:=by
 have N:=U w;have b:=p.lQ.cell 1;simp only[mX,w_,v_] at b;have z:=U p;clear w p
 conv=>arg 2;whnf
 dsimp only
 go_upto_region 44 with fail
 clear b;refine b_ (zh K base V G hs cb s jy ia jA aW aZ aV iS left n g) (n+1-0) ?start ?round
 case start=>exact zh.mk ⟨⟨B9,z.o,v,λ j O=>by omega⟩,⟨rfl,rfl,rfl,n_ _,λ _ _ _=>rfl⟩,Zo _⟩
 case round=>
  clear z v B9;intro m a W A ao ar B C;refine A.elim ?_;intro k gA iT hM gG gq dn gT gr gE u16 dr dw dx gh dy dz dA dB dD dF dG dH cu cv cw u32 cz cA cB cC cD cE cF cG cH cI cK dI dJ gO gM gN bx bz bA bB bC bD bE bF bG bL bM bN bO bP bQ u64 bR bS bT bU bV bW bX bY bZ b5 b6 b7 b8 b9 cc cg ck cm cn cp cr dK dL dM dN dO dP dQ dR cL cM cN cO cQ cR cS cT cU cV cW cZ c7 c8 dc de dh dS dU dV dW dX dY dZ ec ee ef ei ej ek en eo ep er eu ew ey ez eA eB eC eD eE eF eG eH eL gi gj gl eM eN eO eP eR eS eT eU eV eW eX eY gm gn gp eZ e3 e4 e5 e6 e7 e8 e9 fc fe ff fh fk fm fo fq fu fA fB fC fD fE fF fG fH fI fJ fK fL fM fN fO fP fQ fR fS fT fU fV fW fZ ga gb ir iu iw iy iz iA iB iC iD iE iF iG iY iZ ja jb jc jd je jf jN jO jP jQ jR jS P hm H;clear A;subst P;subst hm;obtain⟨⟨d,D,E,F⟩,I,f⟩:=H;have Y:=U D;have X:=U (z_ E (z_ F (z_ I f)));have R:=U B;have S:=U C;clear D E F I f B C
  by_cases q:k<n+1
  ·have r:(k:Int)<(n:Int)+1:=by omega
   have T:decide ((k:Int)<(n:Int)+1)=true:=decide_eq_true r;have b:=Y.o.lQ.cell 1;simp only[mX,w_,v_] at b;have J:k<s.c.val.length:=by omega
   obtain⟨i,t,Z,aa⟩:=Y.o.gz.e.lV 2 1 rfl Y.o.gz.e.kJ (by omega);have L:=Y.o.gz.e.zW t (k:=k) J;obtain⟨y,u⟩:∃y,ai s.c.val k=y:=⟨_,rfl⟩
   rw[u] at L;have au:(k:Int)<(s.c.val.length:Int):=by omega
   have M:=Y.o.row.cellAt k (by omega);have av:=Y.o.row.frozenAt k;have ab:=(Y.o.row.lt g rfl).2;have aw:W.cell? ⟨g,k,none⟩=some (.bool (jE d k)):=by
    rw[M];unfold nO;rw[List.getElem?_map,List.getElem?_eq_getElem (by have:=X.o.1;omega),Bh (by have:=X.o.1;omega)];rfl
   have kJ:g≠G:=λ e=>Y.o.gz.s.g (by rw[<-e];exact .inr rfl)
   have ax:g≠aW:=Y.o.ne;have ay:g≠i:=λ e=>Y.o.gz.s.row 1 i t (by rw[<-e];exact .inr rfl)
   have l:=U (z_ q u);have az:c_.wrap ((k:Int)+1)=(k:Int)+1:=by rw[k_];omega
   clear q u t aa M J ab
   go_upto_region 46 with fail
   go_region_held3 (λ w'=>w'.cell? ⟨aW,1,none⟩=some (.slice (some ⟨g,0,none⟩) (n+1) (n+1))/\w'.cell? ⟨G,2,none⟩=some (.slice (some ⟨i,0,none⟩) s.c.val.length (hs 1).c)/\w'.cell? ⟨i,k,none⟩=some (.int .i8 y)) (first|exact⟨b,Z,L⟩|go_keep) (fail)
   have ad:=(Y.o.set k (decide (0<y))).drew;have ae:=D6 (xu X.o.2.2.1 (kK W g k (.bool (decide (0<y)))))
   go_wp2_with fail
   refine S.o _ _ (o_ (n+1-(k+1)) (by have:=l.o.1;omega) (R.o _ _ _ (zh.mk (k:=k+1) ⟨⟨_,ad,by rw[List.length_set];exact X.o.1,λ j O=>?_⟩,ae,by have:=l.o.1;omega⟩)));rw[zM]
   by_cases e:k=j
   ·subst e;rw[if_pos ⟨rfl,by have:=X.o.1;have:=l.o.1;omega⟩,l.o.2]
   ·rw[if_neg (λ h=>e h.1)];exact X.o.2.1 j (by omega)
  ·have r:¬(k:Int)<(n:Int)+1:=by omega
   have T:decide ((k:Int)<(n:Int)+1)=false:=decide_eq_false r;have f:k=n+1:=by have:=X.o.2.2.2;omega
   have af:=U f;have ag:=Y.o.lQ.cell 0;have b:=Y.o.lQ.cell 1;have ah:=Y.o.lQ.cell 2;have ak:=Y.o.lQ.cell 3;have aA:=Y.o.lQ.free 0;have aB:=Y.o.lQ.free 1;have aC:=Y.o.lQ.free 2;have aD:=Y.o.lQ.free 3;simp only[mX,w_,v_] at ag b ah ak;clear q f
   go_wp2_with fail
   apply N.o d
   ·exact Y.o
   ·exact X.o.1
   ·rw[<-af.o];exact X.o.2.1
   ·exact X.o.2.2.1
theorem Aw:(y_.info? 4).map (λ i=>(i.zero,i.size,i.bytes))=some (some (.bool false),1,1):=by kernel_rfl
theorem ML{w0:World}{jy:Option Addr}{ia jA:Nat}(S:mR bw gP base w0 G F aC n gx jr aF aW aZ K W hs cb s aV h)(p:n<=10):
  vK K base ((((W.setCell ⟨aW,0,none⟩ (.int .i64 1)).setCell ⟨aW,1,none⟩ (.slice (some ⟨W.heap.size,0,none⟩) (n+1) (n+1))).alloc (.cells (madeCells (f_ false).cells (n+1)) 4)).drew) G hs cb s aW aV n W.heap.size (Zl (n+1) false)/\
  aD (λ b=>K b/\b≠aW) W ((((W.setCell ⟨aW,0,none⟩ (.int .i64 1)).setCell ⟨aW,1,none⟩ (.slice (some ⟨W.heap.size,0,none⟩) (n+1) (n+1))).alloc (.cells (madeCells (f_ false).cells (n+1)) 4)).drew):=by
 have g:=(S.gz.vi S.rH 0 (.int .i64 1)).vi S.rH 1 (.slice (some ⟨W.heap.size,0,none⟩) (n+1) (n+1));have j:=(aD.DZ S 0 (.int .i64 1)).trans (aD.set (K:=λ b=>K b/\b≠aW) aW 1 (.slice (some ⟨W.heap.size,0,none⟩) (n+1) (n+1)) (λ c=>c.2 rfl));have k:=(S.lQ.set 0 (.int .i64 1)).set 1 (.slice (some ⟨W.heap.size,0,none⟩) (n+1) (n+1));have l:((W.setCell ⟨aW,0,none⟩ (.int .i64 1)).setCell ⟨aW,1,none⟩ (.slice (some ⟨W.heap.size,0,none⟩) (n+1) (n+1))).heap.size=W.heap.size:=by simp
 have q:=S.lQ.lt;generalize (W.setCell ⟨aW,0,none⟩ (.int .i64 1)).setCell ⟨aW,1,none⟩ (.slice (some ⟨W.heap.size,0,none⟩) (n+1) (n+1))=f at*;have c:=(bK f (.cells (madeCells (f_ false).cells (n+1)) 4)).drew;have m:((f.alloc (.cells (madeCells (f_ false).cells (n+1)) 4)).drew).ownsRow W.heap.size 4 1 (.slice (some ⟨W.heap.size,0,none⟩) (n+1) (n+1)) (n+1) ((Zl (n+1) false).map f_):=by
  rw[<-l];refine⟨by simp,Or.inr ⟨f.heap.size,n+1,_,rfl,n_ _,heap_alloc_new f _,n_ _,by unfold maxLen;omega,by rw[size_madeCells];omega,?_⟩⟩;show(madeCells #[f_ false] (n+1)).toList.take ((n+1)*1)=_;rw[toList_madeCells_one];simp
 have i:=(g.below c)
 refine⟨⟨i.1.qJ (by show _<(f.alloc _).heap.size;simp;omega) (by have:=g.e.box.lt;omega) (λ r e=>by have:=(g.e.rows.lt e).2;omega) (λ d o e=>by have:=(g.e.cls d o).lt;omega),k.below c,m,by omega⟩,j.trans (i.2.mono λ b c=>c.1)⟩
theorem MM{w0:World}{iS:Nat}{next:Int}
  (C:sB bw gP w0 F aC n gx jr aF jy ia jA aZ) (S:next=0->mR bw gP base w0 G F aC n gx jr aF aW aZ K W hs cb s aV s.c.ag/\s.c.ag=s.c.au.length/\s.c.l9=false/\aC.length<=s.c.st.length/\s.ord.length=0)
  (p:∀(gA iT hM gG gq dn gr gE u16 dr dw dx gh dy dz dA dB dD dF dG dH cu cv cw u32 cz cA cB cC cD cE cF cG cH cI cK dI dJ gO gM gN bx bz bA bB bC bD bE bF bG bL bM bN bO bP bQ u64 bR bS bT bU bV bW bX bY bZ b5 b6 b7 b8 b9 cc cg ck cm cn cp cr dK dL dM dN dO dP dQ dR cL cM cN cO cQ cR cS cT cU cV cW cZ c7 c8 dc de dh dS dU dV dW dX dY dZ ec ee ef ei ej ek en eo ep er eu ew ey ez eA eB eC eD eE eF eG eH eL gi gj gl eM eN eO eP eR eS eT eU eV eW eX eY gm gn gp eZ e3 e4 e5 e6 e7 e8 e9 fc fe ff fh fk fm fo fq fu fA fB fC fD fE fF fG fH fI fJ fK fL fM fN fO fP fQ fR fS gu gv fT fU fV fW fZ ga gb ir iu iw iy iz iA iB iC iD iE iF iG iY iZ ja jb jc jd je jf jN jO jP jQ jR jS:Value),next≠0->Q .normal {tmps:= #[.pointer (some ⟨G,0,none⟩),.slice jy ia jA,.int .i64 (aZ:Int),gA,iT,hM,.pointer (some ⟨aW,0,none⟩),.int .i64 (iS:Int),.int .i64 left,.int .i64 2000,gG,gq,dn,.int .i64 next,gr,gE,u16,dr,dw,dx,gh,dy,dz,dA,dB,dD,dF,dG,dH,cu,cv,cw,u32,cz,cA,cB,cC,cD,cE,cF,cG,cH,cI,cK,dI,dJ,gO,gM,gN,bx,bz,bA,bB,bC,bD,bE,bF,bG,bL,bM,bN,bO,bP,bQ,u64,bR,bS,bT,bU,bV,bW,bX,bY,bZ,b5,b6,b7,b8,b9,cc,cg,ck,cm,cn,cp,cr,dK,dL,dM,dN,dO,dP,dQ,dR,cL,cM,cN,cO,cQ,cR,cS,cT,cU,cV,cW,cZ,c7,c8,dc,de,dh,dS,dU,dV,dW,dX,dY,dZ,ec,ee,ef,ei,ej,ek,en,eo,ep,er,eu,ew,ey,ez,eA,eB,eC,eD,eE,eF,eG,eH,eL,gi,gj,gl,eM,eN,eO,eP,eR,eS,eT,eU,eV,eW,eX,eY,gm,gn,gp,eZ,e3,e4,e5,e6,e7,e8,e9,fc,fe,ff,fh,fk,fm,fo,fq,fu,fA,fB,fC,fD,fE,fF,fG,fH,fI,fJ,fK,fL,fM,fN,fO,fP,fQ,fR,fS,gu,gv,fT,fU,fV,fW,fZ,ga,gb,ir,iu,iw,iy,iz,iA,iB,iC,iD,iE,iF,iG,iY,iZ,ja,jb,jc,jd,je,jf,jN,jO,jP,jQ,jR,jS],defers:=[]} W)
  (r:∀(K:Nat->Prop)(hs:Nat->aq)(cb:Nat->Nat)(s':aj)(h':Nat)(t:Option Addr)(u w:Nat)(gA iT hM gG gq dn y gr gE u16 dr dw dx gh dy dz dA dB dD dF dG dH cu cv cw u32 cz cA cB cC cD cE cF cG cH cI cK dI dJ gO gM gN bx bz bA bB bC bD bE bF bG bL bM bN bO bP bQ u64 bR bS bT bU bV bW bX bY bZ b5 b6 b7 b8 b9 cc cg ck cm cn cp cr dK dL dM dN dO dP dQ dR cL cM cN cO cQ cR cS cT cU cV cW cZ c7 c8 dc de dh dS dU dV dW dX dY dZ ec ee ef ei ej ek en eo ep er eu ew ey ez eA eB eC eD eE eF eG eH eL gi gj gl eM eN eO eP eR eS eT eU eV eW eX eY gm gn gp eZ e3 e4 e5 e6 e7 e8 e9 fc fe ff fh fk fm fo fq fu fA fB fC fD fE fF fG fH fI fJ fK fL fM fN fO fP fQ fR fS gu gv fT fU fV fW fZ ga gb ir iu iw iy iz iA iB iC iD iE iF iG iY iZ ja jb jc jd je jf jN jO jP jQ jR jS:Value)(W':World),sC bw gP base w0 G F aC n gx aF aW aZ K W' hs cb s' aV h' 1 t u w none 0 0->aO W' aW 30 [.int .i64 1,.slice t u w,mX,.int .i64 (aV:Int)]->Q .ret {tmps:= #[.pointer (some ⟨G,0,none⟩),.slice jy ia jA,.int .i64 (aZ:Int),gA,iT,hM,.pointer (some ⟨aW,0,none⟩),.int .i64 (iS:Int),.int .i64 left,.int .i64 2000,gG,gq,dn,y,gr,gE,u16,dr,dw,dx,gh,dy,dz,dA,dB,dD,dF,dG,dH,cu,cv,cw,u32,cz,cA,cB,cC,cD,cE,cF,cG,cH,cI,cK,dI,dJ,gO,gM,gN,bx,bz,bA,bB,bC,bD,bE,bF,bG,bL,bM,bN,bO,bP,bQ,u64,bR,bS,bT,bU,bV,bW,bX,bY,bZ,b5,b6,b7,b8,b9,cc,cg,ck,cm,cn,cp,cr,dK,dL,dM,dN,dO,dP,dQ,dR,cL,cM,cN,cO,cQ,cR,cS,cT,cU,cV,cW,cZ,c7,c8,dc,de,dh,dS,dU,dV,dW,dX,dY,dZ,ec,ee,ef,ei,ej,ek,en,eo,ep,er,eu,ew,ey,ez,eA,eB,eC,eD,eE,eF,eG,eH,eL,gi,gj,gl,eM,eN,eO,eP,eR,eS,eT,eU,eV,eW,eX,eY,gm,gn,gp,eZ,e3,e4,e5,e6,e7,e8,e9,fc,fe,ff,fh,fk,fm,fo,fq,fu,fA,fB,fC,fD,fE,fF,fG,fH,fI,fJ,fK,fL,fM,fN,fO,fP,fQ,fR,fS,gu,gv,fT,fU,fV,fW,fZ,ga,gb,ir,iu,iw,iy,iz,iA,iB,iC,iD,iE,iF,iG,iY,iZ,ja,jb,jc,jd,je,jf,jN,jO,jP,jQ,jR,jS],defers:=[]} W'):
  Zx y_ GW Q {tmps:= #[.pointer (some ⟨G,0,none⟩),.slice jy ia jA,.int .i64 (aZ:Int),gA,iT,hM,.pointer (some ⟨aW,0,none⟩),.int .i64 (iS:Int),.int .i64 left,.int .i64 2000,gG,gq,dn,.int .i64 next,gr,gE,u16,dr,dw,dx,gh,dy,dz,dA,dB,dD,dF,dG,dH,cu,cv,cw,u32,cz,cA,cB,cC,cD,cE,cF,cG,cH,cI,cK,dI,dJ,gO,gM,gN,bx,bz,bA,bB,bC,bD,bE,bF,bG,bL,bM,bN,bO,bP,bQ,u64,bR,bS,bT,bU,bV,bW,bX,bY,bZ,b5,b6,b7,b8,b9,cc,cg,ck,cm,cn,cp,cr,dK,dL,dM,dN,dO,dP,dQ,dR,cL,cM,cN,cO,cQ,cR,cS,cT,cU,cV,cW,cZ,c7,c8,dc,de,dh,dS,dU,dV,dW,dX,dY,dZ,ec,ee,ef,ei,ej,ek,en,eo,ep,er,eu,ew,ey,ez,eA,eB,eC,eD,eE,eF,eG,eH,eL,gi,gj,gl,eM,eN,eO,eP,eR,eS,eT,eU,eV,eW,eX,eY,gm,gn,gp,eZ,e3,e4,e5,e6,e7,e8,e9,fc,fe,ff,fh,fk,fm,fo,fq,fu,fA,fB,fC,fD,fE,fF,fG,fH,fI,fJ,fK,fL,fM,fN,fO,fP,fQ,fR,fS,gu,gv,fT,fU,fV,fW,fZ,ga,gb,ir,iu,iw,iy,iz,iA,iB,iC,iD,iE,iF,iG,iY,iZ,ja,jb,jc,jd,je,jf,jN,jO,jP,jQ,jR,jS],defers:=[]} W:=by
 have R:=U p;have T:=U r;have i:=U C;have l:=U S;clear p r C S
 conv=>arg 2;whnf
 dsimp only
 by_cases m:next=0
 ·subst m;have d:=U (l.o rfl);clear l;have c0:W.cell? ⟨G,0,none⟩=some (.int .i64 (n:Int)):=by have:=d.o.1.gz.e.kA (k:=0) (v:=.int .i64 (s.c.n:Int)) rfl;rw[d.o.1.jX.rg.jh] at this;exact this
  have V:=d.o.1.lQ.cell 0;have X:=d.o.1.lQ.cell 1;have Z:=d.o.1.lQ.cell 2;have aa:=d.o.1.lQ.cell 3;have ax:=d.o.1.lQ.free 0;have ay:=d.o.1.lQ.free 1;have az:=d.o.1.lQ.free 2;have aA:=d.o.1.lQ.free 3;simp only[mX,w_,v_] at V X Z aa;obtain⟨i0,z,A,B,D⟩:=info_parts Aw;have aB:=i.o.n10;have ab:∀W:World,(Instr.makeSlice 28 (.int .i64 ((n:Int)+1)) (.int .i64 ((n:Int)+1))).run y_ W=.ok (.slice (some ⟨W.heap.size,0,none⟩) (n+1) (n+1)) (W.alloc (.cells (madeCells (f_ false).cells (n+1)) 4)):=λ W=>by
   have:=run_make (P:=y_) W 28 4 i0 (.bool false) Tryz.underlying28 z A .i64 .i64 ((n:Int)+1) ((n:Int)+1) (by omega) (by omega) (by rw[D];omega) (by omega);rw[B,show((n:Int)+1).toNat=n+1 by omega,Nat.mul_one] at this;exact this
  have wn:c_.wrap ((n:Int)+1)=(n:Int)+1:=by rw[k_];omega
  have aE:=d.o.1.lQ.lt;have aG:=d.o.1.gz.e.box.lt;have ad:G≠aW:=λ e=>d.o.1.gz.s.g (by rw[e];exact d.o.1.rH)
  have aH:aW≠G:=λ e=>ad e.symm
  clear z A B D;generalize E:madeCells (f_ false).cells (n+1)=cs at ab;have ae:=U E;clear E
  go_upto_region 42 with fail
  rename_i af H;have ah:=U H;clear H
  go_region_held3 (λ w'=>w'.cell? ⟨G,0,none⟩=some (.int .i64 (n:Int))) (first|exact c0|go_keep) (fail)
  all_goals
   show af _ _;apply ah.o;rw[<-ae.o];obtain⟨ai,I⟩:=ML (jy:=jy) (ia:=ia) (jA:=jA) d.o.1 i.o.n10;refine MK ai (by simp) i.o.n10 (by rw[d.o.1.jX.gK.aL.rN,d.o.1.jX.rg.jh]) ?_;intro J gA iT hM gG gq dn y gr gE u16 dr dw dx gh dy dz dA dB dD dF dG dH cu cv cw u32 cz cA cB cC cD cE cF cG cH cI cK dI dJ gO gM gN bx bz bA bB bC bD bE bF bG bL bM bN bO bP bQ u64 bR bS bT bU bV bW bX bY bZ b5 b6 b7 b8 b9 cc cg ck cm cn cp cr dK dL dM dN dO dP dQ dR cL cM cN cO cQ cR cS cT cU cV cW cZ c7 c8 dc de dh dS dU dV dW dX dY dZ ec ee ef ei ej ek en eo ep er eu ew ey ez eA eB eC eD eE eF eG eH eL gi gj gl eM eN eO eP eR eS eT eU eV eW eX eY gm gn gp eZ e3 e4 e5 e6 e7 e8 e9 fc fe ff fh fk fm fo fq fu fA fB fC fD fE fF fG fH fI fJ fK fL fM fN fO fP fQ fR fS gu gv fT fU fV fW fZ ga gb ir iu iw iy iz iA iB iC iD iE iF iG iY iZ ja jb jc jd je jf jN jO jP jQ jR jS W' Y L ak al;have M:=d.o.1.jX.rg.jh;have hm:J=v7 s:=by
    refine List.ext_getElem (by rw[J2,L,M]) (λ j h1 an=>?_);have N:=ak j (by omega);rw[Bh h1] at N;rw[<-Bh an,Dr s (by rw[M];omega),N]
   have O:aD (λ b=>K b/\b≠aW) W W':=I.trans (aD.grown al (λ b f=>u_ (d.o.1.gz.s.lt b f.1) I.size) (λ b e f=>by injection e with e;have:=d.o.1.gz.s.lt b f.1;omega));have f0:aD gP W W':=O.mono λ b f=>⟨d.o.1.rG b f,λ e=>d.o.1.tZ (e▸f)⟩
   obtain⟨hF,ao⟩:=d.o.1.jX.yes d.o.2.1 d.o.2.2.1 d.o.2.2.2.2 i.o.lit d.o.2.2.2.1;have ar:sC bw gP base w0 G F aC n gx aF aW aZ (qJ K W.heap.size) W' hs cb s aV s.c.ag 1 (some ⟨W.heap.size,0,none⟩) (n+1) (n+1) none 0 0:=by
    refine⟨λ b f=>.inl (d.o.1.rG b f),Y.gz,d.o.1.iP.trans f0,d.o.1.jX,.inl d.o.1.rH,d.o.1.tZ,d.o.1.xe.kept (f0.mono λ b f=>f.1) rfl rfl,λ q av=>((d.o.1.xg q av).iP (O.mono λ b f=>f.1)).mono λ b f=>⟨⟨.inl f.1.1,f.1.2⟩,f.2⟩,d.o.1.xh,d.o.1.vj,d.o.1.rZ,.inl ⟨rfl,rfl,J,lB.lz Y.row (by have:=i.o.n10;omega),λ b e=>?_,L,by rw[hm];exact d.o.1.jX.J3,by rw[hm];exact hF,by rw[hm];exact ao⟩⟩;injection e with e
    have e:W.heap.size=b:=e;subst e;exact⟨⟨.inr rfl,Y.ne⟩,i.o.DX (d.o.1.iP.size)⟩
   apply T.o
   ·exact((((ar.set 0 _).set 1 _).set 2 _).set 3 _)
   ·exact(((Y.lQ.set 0 _).set 1 _).set 2 _).set 3 _
 ·have aI:decide (next=0)=false:=decide_eq_false m;have aw:=U m;clear l
  go_wp2_with fail
  apply R.o;exact aw.o
noncomputable def MN:Code:=nu (nu (nu (nu (nu (nu B6)))))
theorem MO{w0:World}{iS:Nat}{next:Int}
  (C:sB bw gP w0 F aC n gx jr aF jy ia jA aZ) (D:D5 bw gP base w0 G F aC n gx jr aF aW aZ K cb aV kX oM hs s next W)
  (B:∀(hs':Nat->aq)(s':aj)(gA iT hM gG gq dn X gr gE u16 dr dw dx gh dy dz dA dB dD dF dG dH cu cv cw u32 cz cA cB cC cD cE cF cG cH cI cK dI dJ gO gM gN bx bz bA bB bC bD bE bF bG bL bM bN bO bP bQ u64 bR bS bT bU bV bW bX bY bZ b5 b6 b7 b8 b9 cc cg ck cm cn cp cr dK dL dM dN dO dP dQ dR cL cM cN cO cQ cR cS cT cU cV cW cZ c7 c8 dc de dh dS dU dV dW dX dY dZ ec ee ef ei ej ek en eo ep er eu ew ey ez eA eB eC eD eE eF eG eH eL gi gj gl eM eN eO eP eR eS eT eU eV eW eX eY gm gn gp eZ e3 e4 e5 e6 e7 e8 e9 fc fe ff fh fk fm fo fq fu fA fB fC fD fE fF fG fH fI fJ fK fL fM fN fO fP fQ fR fS gu gv fT fU fV fW fZ ga gb ir iu iw iy iz iA iB iC iD iE iF iG iY iZ ja jb jc jd je jf jN jO jP jQ jR jS:Value)(W':World),mR bw gP base w0 G F aC n gx jr aF aW aZ K W' hs' cb s' aV s'.c.ag->s'.aI.length=kX->s'.c.au.length=oM.length+1->Q .normal {tmps:= #[.pointer (some ⟨G,0,none⟩),.slice jy ia jA,.int .i64 (aZ:Int),gA,iT,hM,.pointer (some ⟨aW,0,none⟩),.int .i64 (iS:Int),.int .i64 left,.int .i64 2000,gG,gq,dn,X,gr,gE,u16,dr,dw,dx,gh,dy,dz,dA,dB,dD,dF,dG,dH,cu,cv,cw,u32,cz,cA,cB,cC,cD,cE,cF,cG,cH,cI,cK,dI,dJ,gO,gM,gN,bx,bz,bA,bB,bC,bD,bE,bF,bG,bL,bM,bN,bO,bP,bQ,u64,bR,bS,bT,bU,bV,bW,bX,bY,bZ,b5,b6,b7,b8,b9,cc,cg,ck,cm,cn,cp,cr,dK,dL,dM,dN,dO,dP,dQ,dR,cL,cM,cN,cO,cQ,cR,cS,cT,cU,cV,cW,cZ,c7,c8,dc,de,dh,dS,dU,dV,dW,dX,dY,dZ,ec,ee,ef,ei,ej,ek,en,eo,ep,er,eu,ew,ey,ez,eA,eB,eC,eD,eE,eF,eG,eH,eL,gi,gj,gl,eM,eN,eO,eP,eR,eS,eT,eU,eV,eW,eX,eY,gm,gn,gp,eZ,e3,e4,e5,e6,e7,e8,e9,fc,fe,ff,fh,fk,fm,fo,fq,fu,fA,fB,fC,fD,fE,fF,fG,fH,fI,fJ,fK,fL,fM,fN,fO,fP,fQ,fR,fS,gu,gv,fT,fU,fV,fW,fZ,ga,gb,ir,iu,iw,iy,iz,iA,iB,iC,iD,iE,iF,iG,iY,iZ,ja,jb,jc,jd,je,jf,jN,jO,jP,jQ,jR,jS],defers:=[]} W'):
  Zx y_ MN Q {tmps:= #[.pointer (some ⟨G,0,none⟩),.slice jy ia jA,.int .i64 (aZ:Int),gA,iT,hM,.pointer (some ⟨aW,0,none⟩),.int .i64 (iS:Int),.int .i64 left,.int .i64 2000,gG,gq,dn,.int .i64 next,gr,gE,u16,dr,dw,dx,gh,dy,dz,dA,dB,dD,dF,dG,dH,cu,cv,cw,u32,cz,cA,cB,cC,cD,cE,cF,cG,cH,cI,cK,dI,dJ,gO,gM,gN,bx,bz,bA,bB,bC,bD,bE,bF,bG,bL,bM,bN,bO,bP,bQ,u64,bR,bS,bT,bU,bV,bW,bX,bY,bZ,b5,b6,b7,b8,b9,cc,cg,ck,cm,cn,cp,cr,dK,dL,dM,dN,dO,dP,dQ,dR,cL,cM,cN,cO,cQ,cR,cS,cT,cU,cV,cW,cZ,c7,c8,dc,de,dh,dS,dU,dV,dW,dX,dY,dZ,ec,ee,ef,ei,ej,ek,en,eo,ep,er,eu,ew,ey,ez,eA,eB,eC,eD,eE,eF,eG,eH,eL,gi,gj,gl,eM,eN,eO,eP,eR,eS,eT,eU,eV,eW,eX,eY,gm,gn,gp,eZ,e3,e4,e5,e6,e7,e8,e9,fc,fe,ff,fh,fk,fm,fo,fq,fu,fA,fB,fC,fD,fE,fF,fG,fH,fI,fJ,fK,fL,fM,fN,fO,fP,fQ,fR,fS,gu,gv,fT,fU,fV,fW,fZ,ga,gb,ir,iu,iw,iy,iz,iA,iB,iC,iD,iE,iF,iG,iY,iZ,ja,jb,jc,jd,je,jf,jN,jO,jP,jQ,jR,jS],defers:=[]} W:=by
 have Y:=U B;have Z:=U C;have d:=U D;obtain⟨ay,az,s',u,E,he⟩:=D.old;have f:=U (z_ u (z_ E he));have H:=U (u.nW C);clear B C D u E he
 conv=>arg 2;whnf
 dsimp only;have I:s.c=s'.c:=by rw[f.o.2.2]
 obtain⟨j,j0,c5,m⟩:∃A n c,hs 5=⟨A,n,c⟩:=⟨_,_,_,rfl⟩
 have aa:W.cell? ⟨G,6,none⟩=some (.slice j j0 c5):=by have:=d.o.gz.e.kA (k:=6) (v:=(hs 5).v) rfl;rw[m] at this;exact this
 have J:j0=s.c.st.length:=by have:=d.o.gz.e.j0;rw[m] at this;exact this
 obtain⟨L,j6,c4,p⟩:∃A n c,hs 4=⟨A,n,c⟩:=⟨_,_,_,rfl⟩
 have ab:W.cell? ⟨G,5,none⟩=some (.slice L j6 c4):=by have:=d.o.gz.e.kA (k:=5) (v:=(hs 4).v) rfl;rw[p] at this;exact this
 have M:j6=s.c.au.length:=by have:=d.o.gz.e.j6;rw[p] at this;exact this
 have b:=U (z_ I (z_ m (z_ J (z_ p M))));clear I m J p M
 go_upto_region 49 with fail
 have g:=U (d.o.gz.below ((bK W (.cells #[.int .i64 (j6:Int)] 3)).drew));have ad:bI (((W.alloc (.cells #[.int .i64 (j6:Int)] 3)).drew).ownsRow base 3 1 (.slice j j0 c5) j0 ((s.c.st.map λ k:Nat=>(k:Int)).map (a_ .i64))):=U (by
  have h1:=g.o.1.e.rows.row 5;rw[b.o.2.1] at h1;rw[B8];exact h1)
 have ae:=U (Nat.le_of_lt g.o.1.e.lt);have af:bI (j0<=1100):=U (by have h1:=H.o;have ah:=b.o.2.2.1;rw[b.o.1] at ah;omega);have ai:bI (∀v9 di,oa ((W.alloc (.cells #[.int .i64 (j6:Int)] 3)).drew) base 3 (.slice j j0 c5) (j0+1) (((s.c.st.map λ k:Nat=>(k:Int))++[(j6:Int)]).map (a_ .i64)) v9 di->oa ((W.alloc (.cells #[.int .i64 (j6:Int)] 3)).drew) base 3 (hs 5).v (s.c.st.length+1) (ql (s.c.st++[j6])) v9 di):=U (λ v9 di q=>by
  rw[b.o.2.1,<-b.o.2.2.1,<-B8,List.map_append];exact q)
 have r:=g.o.1.e.kA (k:=6) (v:=(hs 5).v) rfl;have t:=g.o.1.e.kA (k:=5) (v:=(hs 4).v) rfl;rw[b.o.2.1] at r;rw[b.o.2.2.2.1] at t;replace r:((W.alloc (.cells #[.int .i64 (j6:Int)] 3)).drew).cell? ⟨G,6,none⟩=some (.slice j j0 c5):=r;replace t:((W.alloc (.cells #[.int .i64 (j6:Int)] 3)).drew).cell? ⟨G,5,none⟩=some (.slice L j6 c4):=t;rename_i ak N;have al:=U N;clear N;refine wp_region_noPanic ?_
 go_region_law (refine EM rfl (.tmp 217) (.tmp 223) rfl base (.slice j j0 c5) j0 (s.c.st.map λ k:Nat=>(k:Int)) rfl ad.o (some ⟨W.heap.size,0,none⟩) 1 1 [(j6:Int)] rfl ((aQ.lit W [(j6:Int)] 1 _ rfl rfl (by omega)).drew) (by have:=af.o;omega) ae.o ?_;intro v9 di q;obtain⟨⟨A',l,c'⟩,an,aA,ao,f9,i,O⟩:=aU.FL (x:=j6) g.o.1 (ai.o v9 di q);obtain rfl:v9=.slice A' l c':=an;clear q)
 all_goals
  show ak _ _;apply al.o;rw[b.o.2.2.2.2] at i;have i:aU K base (di.setCell ⟨G,6,none⟩ (.slice A' l c')) G (iH hs 5 ⟨A',l,c'⟩) cb {s with c:=nH s.c}:=i;have i:=U i;have ar:=U (f.o.2.1.trans (g.o.2.trans O));clear O ao f9 r t aa ab;generalize di.setCell ⟨G,6,none⟩ (.slice A' l c')=V at*;have w:s'.c.ag=s'.c.au.length:=by rw[<-b.o.1];exact d.o.fix
  have y:s'.c.l9=false:=by rw[<-b.o.1];exact d.o.l9
  have P:kf F F s'.c s'.c.au.length []:=by rw[<-w];exact f.o.1.jX.gK
  have R:jV (nH s.c):=by rw[b.o.1];exact(P.level y).aL
  have z:s.c.n=n:=by rw[b.o.1];exact f.o.1.jX.rg.jh
  have av:=U (BH i.o next none R (by show gU s.c.n next;rw[z];exact d.o.nl) (by show s.c.n<=60000;have:=Z.o.n10;omega) (by show(s.c.st++[s.c.au.length]).length<=1000000;rw[p_,b.o.1];have:=H.o;simp;omega));have S:=U (z_ w (z_ y z));clear w y P R z
  go_wp2_with (go_at_call 156;refine av.o.mono ?_;rintro e aB ⟨rfl,h',aw,ax⟩;dsimp only)
  have mN:=d.o.mN;rw[b.o.1] at mN;have T:=f.o.1.jX.decide (aF:=s) S.o.1 S.o.2.1 d.o.nl (by rw[<-b.o.1];exact d.o.od) (by rw[<-b.o.1];exact d.o.jB) f.o.2.2 d.o.lT mN;rw[<-b.o.1] at T;apply Y.o (iH (iH hs 5 ⟨A',l,c'⟩) 4 h') {s with c:=k5 (nH s.c) next none}
  ·refine f.o.1.move aw (ar.o.trans ax) ?_ (by rw[f.o.2.2]) (by rw[f.o.2.2]) (by show s.c.cl.length=_;rw[b.o.1]);exact T
  ·exact d.o.aI
  ·show(s.c.au++[next]).length=_;rw[p_,d.o.au];rfl
theorem MP{aP:Ending->World->Prop}{v0 v1 v2 v3:Value}(b:a.defers=[])(c:a.tmps.getD 6 undef=.pointer (some ⟨aW,0,none⟩))(d:aO W aW 30 [v0,v1,v2,v3])(h:aP (.returned (.agg #[v0,v1,v2,v3])) W):bodyPost y_ Tryz.f99 aP .ret a W:=
 bodyPost_ret (results_cell_row (p:=6) (ty:=30) rfl a.tmps W aW 30 #[v0,v1,v2,v3] (0,0) _ c d Tryz.underlying30 rfl (by kernel_rfl)) b h
structure Ca(bw gP:Nat->Prop)(base:Nat)(w0:World)(G:Nat)(F:List (List Int))(aC:List Int)(n gx jr:Nat)(aF:aj)(aW aZ:Nat)(K:Nat->Prop)(hs:Nat->aq)(cb:Nat->Nat)(s:aj)(aV iS:Nat)(left:Int)(W:World)(g:Nat):Prop where
 S:mR bw gP base w0 G F aC n gx jr aF aW aZ K W hs cb s aV s.c.ag
 t1:1<=iS
 t2:iS<=aV+1
 t3:left<=0->iS<=aV
 jm: -(aV:Int)<=left
 kr:left<=3000000
 g:g=(59050-aV)*1000+(if left<=0 then 100 else 0)+(20-s.c.au.length)
inductive xw(bw gP:Nat->Prop)(base:Nat)(w0:World)(G:Nat)(F:List (List Int))(aC:List Int)(n gx jr:Nat)(aF:aj)(jy:Option Addr)(ia jA aW aZ:Nat):Nat->Act->World->Prop
 |mk {K:Nat->Prop} {hs:Nat->aq} {cb:Nat->Nat} {s:aj} {aV iS:Nat} {left:Int} {g:Nat} {gA iT hM gG gq dn gT gr gE u16 dr dw dx gh dy dz dA dB dD dF dG dH cu cv cw u32 cz cA cB cC cD cE cF cG cH cI cK dI dJ gO gM gN bx bz bA bB bC bD bE bF bG bL bM bN bO bP bQ u64 bR bS bT bU bV bW bX bY bZ b5 b6 b7 b8 b9 cc cg ck cm cn cp cr dK dL dM dN dO dP dQ dR cL cM cN cO cQ cR cS cT cU cV cW cZ c7 c8 dc de dh dS dU dV dW dX dY dZ ec ee ef ei ej ek en eo ep er eu ew ey ez eA eB eC eD eE eF eG eH eL gi gj gl eM eN eO eP eR eS eT eU eV eW eX eY gm gn gp eZ e3 e4 e5 e6 e7 e8 e9 fc fe ff fh fk fm fo fq fu fA fB fC fD fE fF fG fH fI fJ fK fL fM fN fO fP fQ fR fS gu gv fT fU fV fW fZ ga gb ir iu iw iy iz iA iB iC iD iE iF iG iY iZ ja jb jc jd je jf jN jO jP jQ jR jS:Value} {W:World} (h:Ca bw gP base w0 G F aC n gx jr aF aW aZ K hs cb s aV iS left W g):xw bw gP base w0 G F aC n gx jr aF jy ia jA aW aZ g {tmps:= #[.pointer (some ⟨G,0,none⟩),.slice jy ia jA,.int .i64 (aZ:Int),gA,iT,hM,.pointer (some ⟨aW,0,none⟩),.int .i64 (iS:Int),.int .i64 left,.int .i64 2000,gG,gq,dn,gT,gr,gE,u16,dr,dw,dx,gh,dy,dz,dA,dB,dD,dF,dG,dH,cu,cv,cw,u32,cz,cA,cB,cC,cD,cE,cF,cG,cH,cI,cK,dI,dJ,gO,gM,gN,bx,bz,bA,bB,bC,bD,bE,bF,bG,bL,bM,bN,bO,bP,bQ,u64,bR,bS,bT,bU,bV,bW,bX,bY,bZ,b5,b6,b7,b8,b9,cc,cg,ck,cm,cn,cp,cr,dK,dL,dM,dN,dO,dP,dQ,dR,cL,cM,cN,cO,cQ,cR,cS,cT,cU,cV,cW,cZ,c7,c8,dc,de,dh,dS,dU,dV,dW,dX,dY,dZ,ec,ee,ef,ei,ej,ek,en,eo,ep,er,eu,ew,ey,ez,eA,eB,eC,eD,eE,eF,eG,eH,eL,gi,gj,gl,eM,eN,eO,eP,eR,eS,eT,eU,eV,eW,eX,eY,gm,gn,gp,eZ,e3,e4,e5,e6,e7,e8,e9,fc,fe,ff,fh,fk,fm,fo,fq,fu,fA,fB,fC,fD,fE,fF,fG,fH,fI,fJ,fK,fL,fM,fN,fO,fP,fQ,fR,fS,gu,gv,fT,fU,fV,fW,fZ,ga,gb,ir,iu,iw,iy,iz,iA,iB,iC,iD,iE,iF,iG,iY,iZ,ja,jb,jc,jd,je,jf,jN,jO,jP,jQ,jR,jS],defers:=[]} W
theorem xw.elim{w0:World}(b:xw bw gP base w0 G F aC n gx jr aF jy ia jA aW aZ g a W){P:Prop}
  (k:∀{K:Nat->Prop}{hs:Nat->aq}{cb:Nat->Nat}{s:aj}{c iS:Nat}{left:Int}{d e f i j l m o p u16 q r t u v w y z A B C D E H I u32 J L M N O Q R S T U V X Y Z aa ab ad ae af ag ah ai ak al an ao ar au av aw ax u64 ay az aA aB aD aE aG aH aI aJ aK aL aM aN aO aP aQ aR aS aT aU aV aX aY a6 a7 a8 a' ba bb bc bd bf bg bh bj bk bl bn bo bp bq br bs bt bu bx bz bA bB bC bD bE bF bG bH bI bJ bK bL bM bN bO bP bQ bR bS bT bU bV bW bX bY bZ b0 b1 b2 b3 b4 b5 b6 b7 b8 b9 b' ca cc cd cf cg ch cj ck cm cn cp cq cr ct cu cv cw cx cy cz cA cB cC cD cE cF cG cH cI cJ cK cL cM cN cO cP cQ cR cS cT cU cV cW cX cY cZ c7 c8 da db dc dd de df dh di dj dk dm dn dp dq dr dt du dv dw dx dy dz dA dB dC dD dE dF dG dH dI dJ:Value},a={tmps:= #[.pointer (some ⟨G,0,none⟩),.slice jy ia jA,.int .i64 (aZ:Int),d,e,f,.pointer (some ⟨aW,0,none⟩),.int .i64 (iS:Int),.int .i64 left,.int .i64 2000,i,j,l,m,o,p,u16,q,r,t,u,v,w,y,z,A,B,C,D,E,H,I,u32,J,L,M,N,O,Q,R,S,T,U,V,X,Y,Z,aa,ab,ad,ae,af,ag,ah,ai,ak,al,an,ao,ar,au,av,aw,ax,u64,ay,az,aA,aB,aD,aE,aG,aH,aI,aJ,aK,aL,aM,aN,aO,aP,aQ,aR,aS,aT,aU,aV,aX,aY,a6,a7,a8,a',ba,bb,bc,bd,bf,bg,bh,bj,bk,bl,bn,bo,bp,bq,br,bs,bt,bu,bx,bz,bA,bB,bC,bD,bE,bF,bG,bH,bI,bJ,bK,bL,bM,bN,bO,bP,bQ,bR,bS,bT,bU,bV,bW,bX,bY,bZ,b0,b1,b2,b3,b4,b5,b6,b7,b8,b9,b',ca,cc,cd,cf,cg,ch,cj,ck,cm,cn,cp,cq,cr,ct,cu,cv,cw,cx,cy,cz,cA,cB,cC,cD,cE,cF,cG,cH,cI,cJ,cK,cL,cM,cN,cO,cP,cQ,cR,cS,cT,cU,cV,cW,cX,cY,cZ,c7,c8,da,db,dc,dd,de,df,dh,di,dj,dk,dm,dn,dp,dq,dr,dt,du,dv,dw,dx,dy,dz,dA,dB,dC,dD,dE,dF,dG,dH,dI,dJ],defers:=[]}->Ca bw gP base w0 G F aC n gx jr aF aW aZ K hs cb s c iS left W g->P):P:=by
 cases b with
 |mk h=>exact k rfl h
noncomputable def MQ:Code:=(Tryz.f99.body.bind λ c=>qu c 0).getD .skip
theorem MR{bw gP:Nat->Prop}{base:Nat}{w0:World}{G:Nat}{F:List (List Int)}{aC:List Int}{n gx jr:Nat}{aF:aj}{jy:Option Addr}{ia jA aW aZ:Nat}{K:Nat->Prop}{W:World}{hs:Nat->aq}{cb:Nat->Nat}{s:aj}{aV iS g:Nat}{left:Int}{gA iT hM gG gq dn gT gr gE u16 dr dw dx gh dy dz dA dB dD dF dG dH cu cv cw u32 cz cA cB cC cD cE cF cG cH cI cK dI dJ gO gM gN bx bz bA bB bC bD bE bF bG bL bM bN bO bP bQ u64 bR bS bT bU bV bW bX bY bZ b5 b6 b7 b8 b9 cc cg ck cm cn cp cr dK dL dM dN dO dP dQ dR cL cM cN cO cQ cR cS cT cU cV cW cZ c7 c8 dc de dh dS dU dV dW dX dY dZ ec ee ef ei ej ek en eo ep er eu ew ey ez eA eB eC eD eE eF eG eH eL gi gj gl eM eN eO eP eR eS eT eU eV eW eX eY gm gn gp eZ e3 e4 e5 e6 e7 e8 e9 fc fe ff fh fk fm fo fq fu fA fB fC fD fE fF fG fH fI fJ fK fL fM fN fO fP fQ fR fS gu gv fT fU fV fW fZ ga gb ir iu iw iy iz iA iB iC iD iE iF iG iY iZ ja jb jc jd je jf jN jO jP jQ jR jS:Value}{Q:Exit->Act->World->Prop}
  (C:sB bw gP w0 F aC n gx jr aF jy ia jA aZ) (D:Ca bw gP base w0 G F aC n gx jr aF aW aZ K hs cb s aV iS left W g)
  (E:∀(iS:Nat)(left:Int)(v0 v1 v2 v3:Value)(gA iT hM gG gq dn gT gr gE u16 dr dw dx gh dy dz dA dB dD dF dG dH cu cv cw u32 cz cA cB cC cD cE cF cG cH cI cK dI dJ gO gM gN bx bz bA bB bC bD bE bF bG bL bM bN bO bP bQ u64 bR bS bT bU bV bW bX bY bZ b5 b6 b7 b8 b9 cc cg ck cm cn cp cr dK dL dM dN dO dP dQ dR cL cM cN cO cQ cR cS cT cU cV cW cZ c7 c8 dc de dh dS dU dV dW dX dY dZ ec ee ef ei ej ek en eo ep er eu ew ey ez eA eB eC eD eE eF eG eH eL gi gj gl eM eN eO eP eR eS eT eU eV eW eX eY gm gn gp eZ e3 e4 e5 e6 e7 e8 e9 fc fe ff fh fk fm fo fq fu fA fB fC fD fE fF fG fH fI fJ fK fL fM fN fO fP fQ fR fS gu gv fT fU fV fW fZ ga gb ir iu iw iy iz iA iB iC iD iE iF iG iY iZ ja jb jc jd je jf jN jO jP jQ jR jS:Value)(W':World),aO W' aW 30 [v0,v1,v2,v3]->DY bw gP base w0 G F aC n gx aF aZ (.returned (.agg #[v0,v1,v2,v3])) W'->Q .ret {tmps:= #[.pointer (some ⟨G,0,none⟩),.slice jy ia jA,.int .i64 (aZ:Int),gA,iT,hM,.pointer (some ⟨aW,0,none⟩),.int .i64 (iS:Int),.int .i64 left,.int .i64 2000,gG,gq,dn,gT,gr,gE,u16,dr,dw,dx,gh,dy,dz,dA,dB,dD,dF,dG,dH,cu,cv,cw,u32,cz,cA,cB,cC,cD,cE,cF,cG,cH,cI,cK,dI,dJ,gO,gM,gN,bx,bz,bA,bB,bC,bD,bE,bF,bG,bL,bM,bN,bO,bP,bQ,u64,bR,bS,bT,bU,bV,bW,bX,bY,bZ,b5,b6,b7,b8,b9,cc,cg,ck,cm,cn,cp,cr,dK,dL,dM,dN,dO,dP,dQ,dR,cL,cM,cN,cO,cQ,cR,cS,cT,cU,cV,cW,cZ,c7,c8,dc,de,dh,dS,dU,dV,dW,dX,dY,dZ,ec,ee,ef,ei,ej,ek,en,eo,ep,er,eu,ew,ey,ez,eA,eB,eC,eD,eE,eF,eG,eH,eL,gi,gj,gl,eM,eN,eO,eP,eR,eS,eT,eU,eV,eW,eX,eY,gm,gn,gp,eZ,e3,e4,e5,e6,e7,e8,e9,fc,fe,ff,fh,fk,fm,fo,fq,fu,fA,fB,fC,fD,fE,fF,fG,fH,fI,fJ,fK,fL,fM,fN,fO,fP,fQ,fR,fS,gu,gv,fT,fU,fV,fW,fZ,ga,gb,ir,iu,iw,iy,iz,iA,iB,iC,iD,iE,iF,iG,iY,iZ,ja,jb,jc,jd,je,jf,jN,jO,jP,jQ,jR,jS],defers:=[]} W'):
  Zx y_ MQ Q {tmps:= #[.pointer (some ⟨G,0,none⟩),.slice jy ia jA,.int .i64 (aZ:Int),gA,iT,hM,.pointer (some ⟨aW,0,none⟩),.int .i64 (iS:Int),.int .i64 left,.int .i64 2000,gG,gq,dn,gT,gr,gE,u16,dr,dw,dx,gh,dy,dz,dA,dB,dD,dF,dG,dH,cu,cv,cw,u32,cz,cA,cB,cC,cD,cE,cF,cG,cH,cI,cK,dI,dJ,gO,gM,gN,bx,bz,bA,bB,bC,bD,bE,bF,bG,bL,bM,bN,bO,bP,bQ,u64,bR,bS,bT,bU,bV,bW,bX,bY,bZ,b5,b6,b7,b8,b9,cc,cg,ck,cm,cn,cp,cr,dK,dL,dM,dN,dO,dP,dQ,dR,cL,cM,cN,cO,cQ,cR,cS,cT,cU,cV,cW,cZ,c7,c8,dc,de,dh,dS,dU,dV,dW,dX,dY,dZ,ec,ee,ef,ei,ej,ek,en,eo,ep,er,eu,ew,ey,ez,eA,eB,eC,eD,eE,eF,eG,eH,eL,gi,gj,gl,eM,eN,eO,eP,eR,eS,eT,eU,eV,eW,eX,eY,gm,gn,gp,eZ,e3,e4,e5,e6,e7,e8,e9,fc,fe,ff,fh,fk,fm,fo,fq,fu,fA,fB,fC,fD,fE,fF,fG,fH,fI,fJ,fK,fL,fM,fN,fO,fP,fQ,fR,fS,gu,gv,fT,fU,fV,fW,fZ,ga,gb,ir,iu,iw,iy,iz,iA,iB,iC,iD,iE,iF,iG,iY,iZ,ja,jb,jc,jd,je,jf,jN,jO,jP,jQ,jR,jS],defers:=[]} W:=by
 have r:=U E;have d:=U C;clear E C
 conv=>arg 2;whnf
 dsimp only;refine b_ (xw bw gP base w0 G F aC n gx jr aF jy ia jA aW aZ) g ?start ?round
 case start=>exact xw.mk D
 case round=>
  clear D K W hs cb s aV iS g left;intro g a W I a8 t J L;refine I.elim ?_;intro K hs cb s aV iS left gA iT hM gG gq dn gT gr gE u16 dr dw dx gh dy dz dA dB dD dF dG dH cu cv cw u32 cz cA cB cC cD cE cF cG cH cI cK dI dJ gO gM gN bx bz bA bB bC bD bE bF bG bL bM bN bO bP bQ u64 bR bS bT bU bV bW bX bY bZ b5 b6 b7 b8 b9 cc cg ck cm cn cp cr dK dL dM dN dO dP dQ dR cL cM cN cO cQ cR cS cT cU cV cW cZ c7 c8 dc de dh dS dU dV dW dX dY dZ ec ee ef ei ej ek en eo ep er eu ew ey ez eA eB eC eD eE eF eG eH eL gi gj gl eM eN eO eP eR eS eT eU eV eW eX eY gm gn gp eZ e3 e4 e5 e6 e7 e8 e9 fc fe ff fh fk fm fo fq fu fA fB fC fD fE fF fG fH fI fJ fK fL fM fN fO fP fQ fR fS gu gv fT fU fV fW fZ ga gb ir iu iw iy iz iA iB iC iD iE iF iG iY iZ ja jb jc jd je jf jN jO jP jQ jR jS az H;clear I;subst az;have b:=U H;have u:=U J;have w:=U L;have i:=U (H.S.nW d.o);clear H J L;refine wp_block ?_;refine wp_seq_k ?_;intro aA M;have aB:=U M;clear M;refine Mi d.o b.o.S (by have:=b.o.jm;have:=b.o.kr;have:=i.o;omega) ?_ ?_ ?_
  ·intro a' s1 gA iT hM gG gq dn gT gr gE u16 dr dw dx gh dy dz dA dB dD dF dG dH cu cv cw u32 cz cA cB cC cD cE cF cG cH cI cK dI dJ gO gM gN bx bz bA bB bC bD bE bF bG bL bM bN bO bP bQ u64 bR bS bT bU bV bW bX bY bZ b5 b6 b7 b8 b9 cc cg ck cm cn cp cr dK dL dM dN dO dP dQ dR cL cM cN cO cQ cR cS cT cU cV cW cZ c7 c8 dc de dh dS dU dV dW dX dY dZ ec ee ef ei ej ek en eo ep er eu ew ey ez eA eB eC eD eE eF eG eH eL gi gj gl eM eN eO eP eR eS eT eU eV eW eX eY gm gn gp eZ e3 e4 e5 e6 e7 e8 e9 fc fe ff fh fk fm fo fq fu fA fB fC fD fE fF fG fH fI fJ fK fL fM fN fO fP fQ fR fS gu gv fT fU fV fW fZ ga gb ir iu iw iy iz iA iB iC iD iE iF iG iY iZ ja jb jc jd je jf jN jO jP jQ jR jS ba N O P R T;have j:=U (z_ N (z_ O (z_ P (z_ R T))));clear N O P R T;show aA _ _;apply aB.o;refine wp_seq_k ?_;intro qd V;have aE:=U V;clear V;refine Mu d.o j.o.1 ⟨b.o.t1,by have:=b.o.t2;have:=i.o;omega⟩ ?_ ?_
   ·intro gA iT hM gG gq dn gT gr gE u16 dr dw dx gh dy dz dA dB dD dF dG dH cu cv cw u32 cz cA cB cC cD cE cF cG cH cI cK dI dJ gO gM gN bx bz bA bB bC bD bE bF bG bL bM bN bO bP bQ u64 bR bS bT bU bV bW bX bY bZ b5 b6 b7 b8 b9 cc cg ck cm cn cp cr dK dL dM dN dO dP dQ dR cL cM cN cO cQ cR cS cT cU cV cW cZ c7 c8 dc de dh dS dU dV dW dX dY dZ ec ee ef ei ej ek en eo ep er eu ew ey ez eA eB eC eD eE eF eG eH eL gi gj gl eM eN eO eP eR eS eT eU eV eW eX eY gm gn gp eZ e3 e4 e5 e6 e7 e8 e9 fc fe ff fh fk fm fo fq fu fA fB fC fD fE fF fG fH fI fJ fK fL fM fN fO fP fQ fR fS gu gv fT fU fV fW fZ ga gb ir iu iw iy iz iA iB iC iD iE iF iG iY iZ ja jb jc jd je jf jN jO jP jQ jR jS hl;show qd _ _;apply aE.o;refine wp_seq_k ?_;intro bb X;have aG:=U X;clear X
    go_wp2_with fail
    apply aG.o;refine wp_seq_k ?_;intro aH aa;have aJ:=U aa;clear aa;refine wp_block ?_;refine MG d.o j.o.1 j.o.2.1 j.o.2.2.1 ?_ ?_
    ·intro m s2 next gA iT hM gG gq dn gr gE u16 dr dw dx gh dy dz dA dB dD dF dG dH cu cv cw u32 cz cA cB cC cD cE cF cG cH cI cK dI dJ gO gM gN bx bz bA bB bC bD bE bF bG bL bM bN bO bP bQ u64 bR bS bT bU bV bW bX bY bZ b5 b6 b7 b8 b9 cc cg ck cm cn cp cr dK dL dM dN dO dP dQ dR cL cM cN cO cQ cR cS cT cU cV cW cZ c7 c8 dc de dh dS dU dV dW dX dY dZ ec ee ef ei ej ek en eo ep er eu ew ey ez eA eB eC eD eE eF eG eH eL gi gj gl eM eN eO eP eR eS eT eU eV eW eX eY gm gn gp eZ e3 e4 e5 e6 e7 e8 e9 fc fe ff fh fk fm fo fq fu fA fB fC fD fE fF fG fH fI fJ fK fL fM fN fO fP fQ fR fS gu gv fT fU fV fW fZ ga gb ir iu iw iy iz iA iB iC iD iE iF iG iY iZ ja jb jc jd je jf jN jO jP jQ jR jS p f y z A ab B
     show aH _ _;apply aJ.o;refine wp_seq_k ?_;intro aK ad;have aL:=U ad;clear ad;refine wp_block ?_;have ae:Av bw gP base w0 G F aC n gx jr aF aW aZ K cb aV s2.aI.length s2.c.au m s2 next p (s2.ord.length+(if next=0 then 1 else 0)):=by
      refine⟨λ e=>⟨f,y,z,rfl,rfl,?_⟩,λ e=>?_,f.gz,rfl⟩
      ·rcases B with h|h
       ·rw[d.o.x7];exact h.2
       ·exact absurd e h.1
      ·rcases B with h|h
       ·exact absurd h.1 e
       ·exact⟨⟨p,m,s2,f,aD.refl,rfl⟩,f.gz,y,z,rfl,rfl,f.jX.rg.lT,λ v h1 q af _=>f.jX.un v h1 q af,h.1,h.2.1,h.2.2.1,λ _=>h.2.2.2.2.symm⟩
     refine MI (g0:=0) d.o ae ?_;intro bc s3 bd g3 gA iT hM gG gq dn gr gE u16 dr dw dx gh dy dz dA dB dD dF dG dH cu cv cw u32 cz cA cB cC cD cE cF cG cH cI cK dI dJ gO gM gN bx bz bA bB bC bD bE bF bG bL bM bN bO bP bQ u64 bR bS bT bU bV bW bX bY bZ b5 b6 b7 b8 b9 cc cg ck cm cn cp cr dK dL dM dN dO dP dQ dR cL cM cN cO cQ cR cS cT cU cV cW cZ c7 c8 dc de dh dS dU dV dW dX dY dZ ec ee ef ei ej ek en eo ep er eu ew ey ez eA eB eC eD eE eF eG eH eL gi gj gl eM eN eO eP eR eS eT eU eV eW eX eY gm gn gp eZ e3 e4 e5 e6 e7 e8 e9 fc fe ff fh fk fm fo fq fu fA fB fC fD fE fF fG fH fI fJ fK fL fM fN fO fP fQ fR fS gu gv fT fU fV fW fZ ga gb ir iu iw iy iz iA iB iC iD iE iF iG iY iZ ja jb jc jd je jf jN jO jP jQ jR jS bf ag ah;have Y:=U (z_ ag ah);have Z:=U (z_ A ab);clear ag ah ae B f y z A ab;show aK _ _;apply aL.o;refine wp_seq_k ?_;intro aM ai;have aN:=U ai;clear ai;refine MM d.o (λ e=>⟨(Y.o.1.no e).1,(Y.o.1.no e).2.1,(Y.o.1.no e).2.2.1,(Y.o.1.no e).2.2.2.2.2,Y.o.2 e⟩) ?_ ?_
     ·intro gA iT hM gG gq dn gr gE u16 dr dw dx gh dy dz dA dB dD dF dG dH cu cv cw u32 cz cA cB cC cD cE cF cG cH cI cK dI dJ gO gM gN bx bz bA bB bC bD bE bF bG bL bM bN bO bP bQ u64 bR bS bT bU bV bW bX bY bZ b5 b6 b7 b8 b9 cc cg ck cm cn cp cr dK dL dM dN dO dP dQ dR cL cM cN cO cQ cR cS cT cU cV cW cZ c7 c8 dc de dh dS dU dV dW dX dY dZ ec ee ef ei ej ek en eo ep er eu ew ey ez eA eB eC eD eE eF eG eH eL gi gj gl eM eN eO eP eR eS eT eU eV eW eX eY gm gn gp eZ e3 e4 e5 e6 e7 e8 e9 fc fe ff fh fk fm fo fq fu fA fB fC fD fE fF fG fH fI fJ fK fL fM fN fO fP fQ fR fS gu gv fT fU fV fW fZ ga gb ir iu iw iy iz iA iB iC iD iE iF iG iY iZ ja jb jc jd je jf jN jO jP jQ jR jS aP;show aM _ _;apply aN.o;refine MO d.o (Y.o.1.yes aP) ?_;intro bg iK gA iT hM gG gq dn gT gr gE u16 dr dw dx gh dy dz dA dB dD dF dG dH cu cv cw u32 cz cA cB cC cD cE cF cG cH cI cK dI dJ gO gM gN bx bz bA bB bC bD bE bF bG bL bM bN bO bP bQ u64 bR bS bT bU bV bW bX bY bZ b5 b6 b7 b8 b9 cc cg ck cm cn cp cr dK dL dM dN dO dP dQ dR cL cM cN cO cQ cR cS cT cU cV cW cZ c7 c8 dc de dh dS dU dV dW dX dY dZ ec ee ef ei ej ek en eo ep er eu ew ey ez eA eB eC eD eE eF eG eH eL gi gj gl eM eN eO eP eR eS eT eU eV eW eX eY gm gn gp eZ e3 e4 e5 e6 e7 e8 e9 fc fe ff fh fk fm fo fq fu fA fB fC fD fE fF fG fH fI fJ fK fL fM fN fO fP fQ fR fS gu gv fT fU fV fW fZ ga gb ir iu iw iy iz iA iB iC iD iE iF iG iY iZ ja jb jc jd je jf jN jO jP jQ jR jS bh ak bj aQ;show t _ _;refine w.o _ _ (o_ ((59050-aV)*1000+(if left<=0 then 100 else 0)+(20-iK.c.au.length)) ?_ (u.o _ _ _ (xw.mk ⟨ak,b.o.t1,b.o.t2,b.o.t3,b.o.jm,b.o.kr,rfl⟩)));have h1:=b.o.g;have q:=Z.o.2;have af:=j.o.2.2.2.2;have aR:=(ak.nW d.o).2.2.2.2.2.2;have al:=d.o.n10;rw[q] at aQ;omega
     ·intro an ao ar av aw aS aT aU gA iT hM gG gq dn gT gr gE u16 dr dw dx gh dy dz dA dB dD dF dG dH cu cv cw u32 cz cA cB cC cD cE cF cG cH cI cK dI dJ gO gM gN bx bz bA bB bC bD bE bF bG bL bM bN bO bP bQ u64 bR bS bT bU bV bW bX bY bZ b5 b6 b7 b8 b9 cc cg ck cm cn cp cr dK dL dM dN dO dP dQ dR cL cM cN cO cQ cR cS cT cU cV cW cZ c7 c8 dc de dh dS dU dV dW dX dY dZ ec ee ef ei ej ek en eo ep er eu ew ey ez eA eB eC eD eE eF eG eH eL gi gj gl eM eN eO eP eR eS eT eU eV eW eX eY gm gn gp eZ e3 e4 e5 e6 e7 e8 e9 fc fe ff fh fk fm fo fq fu fA fB fC fD fE fF fG fH fI fJ fK fL fM fN fO fP fQ fR fS gu gv fT fU fV fW fZ ga gb ir iu iw iy iz iA iB iC iD iE iF iG iY iZ ja jb jc jd je jf jN jO jP jQ jR jS ax k l;have h:=r.o iS left (.int .i64 1) (.slice aS aT aU) mX (.int .i64 (aV:Int));show Q .ret _ _;apply h
      ·exact l
      ·exact k.done
    ·intro an ao ar av aw aX aY a6 gA iT hM gG gq dn gT gr gE u16 dr dw dx gh dy dz dA dB dD dF dG dH cu cv cw u32 cz cA cB cC cD cE cF cG cH cI cK dI dJ gO gM gN bx bz bA bB bC bD bE bF bG bL bM bN bO bP bQ u64 bR bS bT bU bV bW bX bY bZ b5 b6 b7 b8 b9 cc cg ck cm cn cp cr dK dL dM dN dO dP dQ dR cL cM cN cO cQ cR cS cT cU cV cW cZ c7 c8 dc de dh dS dU dV dW dX dY dZ ec ee ef ei ej ek en eo ep er eu ew ey ez eA eB eC eD eE eF eG eH eL gi gj gl eM eN eO eP eR eS eT eU eV eW eX eY gm gn gp eZ e3 e4 e5 e6 e7 e8 e9 fc fe ff fh fk fm fo fq fu fA fB fC fD fE fF fG fH fI fJ fK fL fM fN fO fP fQ fR fS gu gv fT fU fV fW fZ ga gb ir iu iw iy iz iA iB iC iD iE iF iG iY iZ ja jb jc jd je jf jN jO jP jQ jR jS ax k l;have h:=r.o iS left (.int .i64 2) mX (.slice aX aY a6) (.int .i64 (aV:Int));show Q .ret _ _;apply h
     ·exact l
     ·exact k.done
   ·intro m s2 a7 gA iT hM gG gq dn gT gr gE u16 dr dw dx gh dy dz dA dB dD dF dG dH cu cv cw u32 cz cA cB cC cD cE cF cG cH cI cK dI dJ gO gM gN bx bz bA bB bC bD bE bF bG bL bM bN bO bP bQ u64 bR bS bT bU bV bW bX bY bZ b5 b6 b7 b8 b9 cc cg ck cm cn cp cr dK dL dM dN dO dP dQ dR cL cM cN cO cQ cR cS cT cU cV cW cZ c7 c8 dc de dh dS dU dV dW dX dY dZ ec ee ef ei ej ek en eo ep er eu ew ey ez eA eB eC eD eE eF eG eH eL gi gj gl eM eN eO eP eR eS eT eU eV eW eX eY gm gn gp eZ e3 e4 e5 e6 e7 e8 e9 fc fe ff fh fk fm fo fq fu fA fB fC fD fE fF fG fH fI fJ fK fL fM fN fO fP fQ fR fS gu gv fT fU fV fW fZ ga gb ir iu iw iy iz iA iB iC iD iE iF iG iY iZ ja jb jc jd je jf jN jO jP jQ jR jS p f A ay bk bl;show t _ _;refine w.o _ _ (o_ ((59050-aV)*1000+(if a7<=0 then 100 else 0)+(20-s2.c.au.length)) ?_ (u.o _ _ _ (xw.mk (iS:=iS+1) ⟨f,by omega,by have:=b.o.t3 ay;omega,λ h=>by omega,by omega,by have:=b.o.t2;have:=i.o;omega,rfl⟩)));have h1:=b.o.g;rw[if_pos ay] at h1;rw[if_neg (by omega)];have aR:=i.o.2.2.2.2.2.2;have al:=d.o.n10;omega
  ·intro qd m bn s2 gA iT hM gG gq dn gT gr gE u16 dr dw dx gh dy dz dA dB dD dF dG dH cu cv cw u32 cz cA cB cC cD cE cF cG cH cI cK dI dJ gO gM gN bx bz bA bB bC bD bE bF bG bL bM bN bO bP bQ u64 bR bS bT bU bV bW bX bY bZ b5 b6 b7 b8 b9 cc cg ck cm cn cp cr dK dL dM dN dO dP dQ dR cL cM cN cO cQ cR cS cT cU cV cW cZ c7 c8 dc de dh dS dU dV dW dX dY dZ ec ee ef ei ej ek en eo ep er eu ew ey ez eA eB eC eD eE eF eG eH eL gi gj gl eM eN eO eP eR eS eT eU eV eW eX eY gm gn gp eZ e3 e4 e5 e6 e7 e8 e9 fc fe ff fh fk fm fo fq fu fA fB fC fD fE fF fG fH fI fJ fK fL fM fN fO fP fQ fR fS gu gv fT fU fV fW fZ ga gb ir iu iw iy iz iA iB iC iD iE iF iG iY iZ ja jb jc jd je jf jN jO jP jQ jR jS p f;show t _ _;refine w.o _ _ (o_ ((59050-(aV+1))*1000+(if left-1<=0 then 100 else 0)+(20-s2.c.au.length)) ?_ (u.o _ _ _ (xw.mk (left:=left-1) ⟨f,b.o.t1,by have:=b.o.t2;omega,λ h=>by have:=b.o.t2;omega,by have:=b.o.jm;omega,by have:=b.o.kr;omega,rfl⟩)));have h1:=b.o.g;have q:=i.o;have al:=d.o.n10;split<;>omega
  ·intro an ao ar av aw kind gA iT hM gG gq dn gT gr gE u16 dr dw dx gh dy dz dA dB dD dF dG dH cu cv cw u32 cz cA cB cC cD cE cF cG cH cI cK dI dJ gO gM gN bx bz bA bB bC bD bE bF bG bL bM bN bO bP bQ u64 bR bS bT bU bV bW bX bY bZ b5 b6 b7 b8 b9 cc cg ck cm cn cp cr dK dL dM dN dO dP dQ dR cL cM cN cO cQ cR cS cT cU cV cW cZ c7 c8 dc de dh dS dU dV dW dX dY dZ ec ee ef ei ej ek en eo ep er eu ew ey ez eA eB eC eD eE eF eG eH eL gi gj gl eM eN eO eP eR eS eT eU eV eW eX eY gm gn gp eZ e3 e4 e5 e6 e7 e8 e9 fc fe ff fh fk fm fo fq fu fA fB fC fD fE fF fG fH fI fJ fK fL fM fN fO fP fQ fR fS gu gv fT fU fV fW fZ ga gb ir iu iw iy iz iA iB iC iD iE iF iG iY iZ ja jb jc jd je jf jN jO jP jQ jR jS ax k l;have h:=r.o iS left (.int .i64 kind) mX mX (.int .i64 (aV:Int));show Q .ret _ _;apply h
   ·exact l
   ·exact k.done
theorem MS{w0:World}{aW:Nat}(C:sB bw gP w0 F aC n gx jr aF jy ia jA aZ)(E:aU gP base w0 G hs cb aF)(S:mw F aC n gx aF 0 aF.c.ag)(P:oV (λ b=>gP b/\¬bw b) w0 aF)(L:∀p∈aF.aA,qf (λ b=>gP b/\¬bw b) w0 n F p)(m:aF.c.cl.length=jr):
  Calls y_ 99 #[.pointer (some ⟨G,0,none⟩),.slice jy ia jA,.int .i64 (aZ:Int)] w0 (DY bw gP base w0 G F aC n gx aF aZ):=by
 have f:=bK w0 (.cells #[.int .i64 0,.slice none 0 0,.slice none 0 0,.int .i64 0] 30);have i:aO (w0.alloc (.cells #[.int .i64 0,.slice none 0 0,.slice none 0 0,.int .i64 0] 30)) w0.heap.size 30 [.int .i64 0,mX,mX,.int .i64 ((0:Nat):Int)]:=aO.new w0 30 _;have g:=E.below f;have j:∀b,gP b->b<w0.heap.size:=E.s.lt;have l:mR bw gP base w0 G F aC n gx jr aF w0.heap.size aZ (qJ gP w0.heap.size) (w0.alloc (.cells #[.int .i64 0,.slice none 0 0,.slice none 0 0,.int .i64 0] 30)) hs cb aF 0 aF.c.ag:=by
  refine⟨λ b f=>.inl f,g.1.qJ (by simp) (by have:=E.e.box.lt;omega) (λ r e=>by have:=(E.e.rows.lt e).2;omega) (λ d ag e=>by have:=(E.e.cls d ag).lt;omega),g.2,S,i,.inr rfl,λ h=>by have:=j _ h;omega,P.kept (g.2.mono λ b f=>f.1) rfl rfl,λ p hp=>((L p hp).iP (g.2.mono λ b f=>f.1)).mono λ b f=>⟨⟨.inl f.1,by have:=j b f.1;omega⟩,f.2⟩,List.prefix_refl _,rfl,by omega,Zo _⟩
 have k:Ca bw gP base w0 G F aC n gx jr aF w0.heap.size aZ (qJ gP w0.heap.size) hs cb aF 0 1 32 (w0.alloc (.cells #[.int .i64 0,.slice none 0 0,.slice none 0 0,.int .i64 0] 30)) ((59050-0)*1000+(if (32:Int)<=0 then 100 else 0)+(20-aF.c.au.length)):=
  ⟨l,n_ _,by omega,λ h=>by omega,by omega,by omega,rfl⟩
 have k:=U k;have q:=U C;clear C E S P L f i g j l m;go_enter Tryz.func99,Tryz.ntmps99
 go_wp2_with fail
 refine MR q.o k.o ?_;intro iS left v0 v1 v2 v3 u v w y z A B D H u16 I J K M N O Q R T V W X Y Z aa u32 ab ad ae af ah ai ak al an ao ar av aw ax ay az aB aD aE aG aH aI aJ aK aL aM aN aP aQ aR aS u64 aT aV aX aY a6 a7 a8 a' ba bb bc bd bf bg bh bj bk bl bn bo bp bq br bs bt bu bx bz bA bB bC bD bE bF bG bH bI bJ bL bM bN bO bP bQ bR bS bT bU bV bW bX bY bZ b0 b1 b2 b3 b4 b5 b6 b7 b8 b9 b' ca cc cd cf cg ch cj ck cm cn cp cq cr ct cu cv cw cx cy cz cA cB cC cD cE cF cG cH cI cJ cK cL cM cN cO cP cQ cR cS cT cU cV cW cX cY cZ c7 c8 da db dc dd de df dh di dj dk dm dn dp dq dr dt du dv dw dx dy dz dA dB dC dD dE dF dG dH dI dJ dK dL dM dN dO dP dQ dR dS dT dU dV dW dX dY dZ d' ea eb ec ed W' i t;refine MP rfl rfl i ?_;exact t
end
section
open Go.RowKit Go.Shelf Go.Sort Go.Lib
theorem MT:∀args w,(callFunc 158 args).run y_ w=.ok (.enter 158 args) w:=enters_of Tryz.func158 (by kernel_rfl) rfl
theorem MU{w:World}{aG c:Nat}(v u:Nat)(x y:Int)(b:w.cell? ⟨aG,0,none⟩=some (.pointer (some ⟨G,0,none⟩)))(q:w.cell? ⟨G,8,none⟩=some (.slice (some ⟨g,0,none⟩) n c))(d:(v:Int)<(n:Int))(hu:(u:Int)<(n:Int))(f:v<=65536)(i:u<=65536)
  (j:w.cell? ⟨g,v,none⟩=some (.int .i64 x)) (k:w.cell? ⟨g,u,none⟩=some (.int .i64 y)):
  Calls y_ 158 #[.int .i64 v,.int .i64 u,.pointer (some ⟨aG,0,none⟩)] w λ e w'=>e=.returned (.int .i64 (rJ (oz y x) ((v:Int)-(u:Int))))/\w'=(w.drew.alloc (.cells #[.int .i64 (oz y x),.int .i64 ((v:Int)-(u:Int))] 3)):=by
 have l:wrap64 ((v:Int)-(u:Int))=(v:Int)-(u:Int):=by unfold wrap64;omega
 go_enter Tryz.func158,Tryz.ntmps158
 go_wp2;refine l_ 18 (by kernel_rfl) (by kernel_rfl) ?_;simp only[r_,j_,q_,i_]
 iterate 14 still_step
 still_call ((zD _ _ _).mono (λ e w' h=>⟨h.1,h.2.symm⟩))
 iterate 3 still_step
 refine h_ ?_;change wpList _ _ _ _ _ w.drew
 go_wp2_with fail
 refine(A0 w.heap.size (oz y x) ((v:Int)-(u:Int)) _ (by go_simp) (by go_simp)).mono ?_;rintro e w' ⟨rfl,rfl⟩;go_wp2;go_ret;exact⟨rfl,rfl⟩
abbrev vk(n:Nat):={x:Int//1<=x/\x<=n}
def x9{n:Nat}(x:vk n):Value:=.int .i64 x.1
def Cb(act:List Int)(x y:Int):Int:=rJ (oz (ai act y.toNat) (ai act x.toNat)) (x-y)
def uJ(act:List Int){n:Nat}(x y:vk n):Int:=Cb act x.1 y.1
theorem D7(a b:Int):(a<b/\oz a b= -1)\/(a=b/\oz a b=0)\/(b<a/\oz a b=1):=by
 unfold oz;rcases Int.lt_trichotomy a b with h|h|h
 ·left;exact⟨h,by simp[h]⟩
 ·right;left;subst h;exact⟨rfl,by simp⟩
 ·right;right;refine⟨h,?_⟩;rw[if_neg (by omega),if_pos (by omega)]
theorem Ay{act:List Int}{x y:Int}:Cb act x y<0↔ai act y.toNat<ai act x.toNat\/(ai act y.toNat=ai act x.toNat/\x<y):=by
 unfold Cb rJ;rcases D7 (ai act y.toNat) (ai act x.toNat) with⟨h,e⟩|⟨h,e⟩|⟨h,e⟩<;>rw[e]
 ·simp;omega
 ·simp;omega
 ·simp;omega
theorem Az{act:List Int}(x y:vk n):ltOf (uJ act) x y=decide (Cb act x.1 y.1<0):=rfl
theorem Cc(act:List Int)(n:Nat):SWO (ltOf (uJ act (n:=n))) where
 irrefl x:=by rw[Az,decide_eq_false_iff_not,Ay];omega
 trans x y z h1 b:=by rw[Az,decide_eq_true_eq,Ay] at*;omega
 ntrans x y z h1 b:=by rw[Az,decide_eq_false_iff_not,Ay] at*;omega
theorem MV(act:List Int)(n:Nat)(x y:vk n)(h1:ltOf (uJ act) x y=false)(b:ltOf (uJ act) y x=false):x=y:=by
 rw[Az,decide_eq_false_iff_not,Ay] at*;apply Subtype.ext;omega
theorem MW{α:Type}[Inhabited α](enc:α->Value)(w:World)(g m:Nat)(c:Array α)(os:Array Obj){b:Nat}(d:b<w.heap.size)(f:b≠g):(sortWorld enc w g 0 m c os).heap[b]? =w.heap[b]? :=by
 unfold sortWorld;rw[Sort.heap_grow_old _ _ (by rw[Zq];exact d)];unfold Sort.putRow Sort.mapBlock;rw[Zm,if_neg (λ e=>f e.symm)];rfl
theorem GX(l:List (vk n)):l.map x9=(l.map (·.1)).map (a_ .i64):=by rw[Zi];rfl
def pJ(act:List Int){n:Nat}(ls:List (vk n)):List (vk n):=ls.mergeSort λ x y=> !(ltOf (uJ act)) y x
theorem MX{w:World}{m cap:Nat}{act:List Int}{ls:List (vk n)}(h:Own w base g m cap (ls.map (·.1)))(t:base<=g)(hm:m<=1000)(H:1<=n)(I:n<=60000){aG G sY ow:Nat}(z:w.cell? ⟨aG,0,none⟩=some (.pointer (some ⟨G,0,none⟩)))(q:w.cell? ⟨G,8,none⟩=some (.slice (some ⟨sY,0,none⟩) (n+1) ow))
  (f:∀v,v<=n->w.cell? ⟨sY,v,none⟩=some (.int .i64 (ai act v))) (A:aG<w.heap.size/\aG≠g) (B:G<w.heap.size/\G≠g) (i:sY<w.heap.size/\sY≠g):
  Calls y_ 157 #[.slice (some ⟨g,0,none⟩) m cap,.func (.func 158) #[] #[.pointer (some ⟨aG,0,none⟩)]] w λ e w'=>
   e=.returned (.tuple #[])/\Own w' base g m cap ((pJ act ls).map (·.1))/\Below base w w':=by
 haveI:Inhabited (vk n):=⟨⟨1,by omega⟩⟩
 have h':w.ownsRow base 3 1 (.slice (some ⟨g,0,none⟩) m cap) m (ls.map x9):=by rw[GX];exact h
 obtain⟨J,K,he,h1,C,L,M,c,D⟩:=holds_of_ownsRow h' (by intro e;cases e)
 cases he
 have E:CmpLays1 y_ 158 #[.pointer (some ⟨aG,0,none⟩)] (x9 (n:=n)) (uJ act) g 0 ls.toArray.size w:=by
  intro k os l hs x y;obtain⟨x,N⟩:=x;obtain⟨y,O⟩:=y;obtain⟨v,rfl⟩:∃v:Nat,x=v:=⟨x.toNat,by omega⟩
  obtain⟨u,rfl⟩:∃u:Nat,y=u:=⟨y.toNat,by omega⟩
  have hw:∀b j,b<w.heap.size/\b≠g->(sortWorld x9 w g 0 k l os).cell? ⟨b,j,none⟩=w.cell? ⟨b,j,none⟩:=λ b j o=>x_ (a:=⟨b,j,none⟩) (MW x9 w g k l os o.1 o.2)
  refine(MU v u (ai act v) (ai act u) ((hw aG 0 A).trans z) ((hw G 8 B).trans q) (by omega) (by omega) (by omega) (by omega) ((hw sY v i).trans (f v (by omega))) ((hw sY u i).trans (f u (by omega)))).mono ?_;rintro e w' ⟨rfl,rfl⟩;exact⟨rfl,1, #[_],by rw[alloc_eq_grow];rfl⟩
 have p:=Tryz.slices_SortFunc_total x9 (λ _=>rfl) (uJ act) (Cc act n) 158 #[.pointer (some ⟨aG,0,none⟩)] g 0 cap ls.toArray w MT E D C (by simp[c];omega) (MV act n);have hs:ls.toArray.size=m:=by simp[c]
 rw[hs] at p;refine p.mono ?_;rintro e w' ⟨rfl,r,os,rfl⟩;have s:=ownsRow_putRow (q:=r) (k:=m) (ys:=ls.mergeSort λ x y=> !(ltOf (uJ act)) y x) h' (by simp[c]) (n_ _);rw[List.take_of_length_le (by simp[c]),GX] at s;refine⟨rfl,?_,?_⟩
 ·have:=ownsRow_grow s 0 os;exact this
 ·have F:=below_putRow (enc:=x9) (q:=r) (d:=(ls.mergeSort λ x y=> !(ltOf (uJ act)) y x).toArray) (m_ base w) t;exact below_grow F (by simp[putRow,mapBlock,Sort.ahead];omega) os
def n4(n:Nat):List (vk n):=(Zj n).attach.map λ k=>⟨(k.1:Int)+1,by have:=List.mem_range.1 k.2;omega⟩
theorem D8(n:Nat):(n4 n).map (·.1)=(Zj n).map λ k:Nat=>(k:Int)+1:=by
 unfold n4;rw[Zi];show(Zj n).attach.map (λ k=>(k.1:Int)+1)=_;rw[List.attach_map_val (l:=Zj n) (f:=λ k:Nat=>(k:Int)+1)]
end
section
open Go.RowKit Go.Shelf
theorem MY:(y_.info? 74).map (λ i=>(i.zero,i.size,i.bytes))=some (some (.agg #[.slice none 0 0,.int .i64 0,.int .i64 0]),3,40):=by kernel_rfl
structure lE where
 r:Row
 aR:Int
 ac:Int
def sZ(e:lE):List Value:=[ki e.r,.int .i64 e.aR,.int .i64 e.ac]
def p4(es:List lE):List Value:=(es.map sZ).flatten
theorem GY:∀es:List lE,(p4 es).length=es.length*3
 |[]=>rfl
 |e::es=>by
  have:=GY es;unfold p4 at this⊢;simp only[d_,List.flatten_cons,p_,this,sZ,List.length_cons,List.length_nil];omega
theorem MZ(a b:List lE):p4 (a++b)=p4 a++p4 b:=by simp[p4]
theorem AA:∀(es:List lE)(j:Nat)(h:j<es.length)(k:Nat),k<3->(p4 es)[j*3+k]? =(sZ es[j])[k]?
 |[],j,h,k,hk=>by simp at h
 |e::es,0,h,k,hk=>by
  show(sZ e++p4 es)[0*3+k]? =_;rw[List.getElem?_append_left (by simp[sZ];omega)];simp
 |e::es,j+1,h,k,hk=>by
  show(sZ e++p4 es)[(j+1)*3+k]? =_;rw[List.getElem?_append_right (by simp[sZ];omega)];have:=AA es j (by simpa using h) k hk;rw[show(j+1)*3+k-(sZ e).length=j*3+k by simp[sZ];omega,this];rfl
structure qP(w:World)(A:Option Addr)(n c:Nat)(es:List lE):Prop where
 len:es.length=n
 cap:n<=c
 mW:n*40<=140737488355328
 o6:c<=maxLen
 cells:0<n->∃b off,A=some ⟨b,off,none⟩/\b<w.heap.size/\∀k,k<n*3->w.cell? ⟨b,off+k,none⟩=(p4 es)[k]?
 rows:∀e∈es,aQ w e.r.A e.r.n e.r.c e.r.ah
theorem qP.below{w w':World}{A:Option Addr}{n c:Nat}{es:List lE}(h:qP w A n c es)(d:Below w.heap.size w w'):qP w' A n c es:=
 ⟨h.len,h.cap,h.mW,h.o6,λ g=>by
  obtain⟨b,off,rfl,f,i⟩:=h.cells g;exact⟨b,off,rfl,u_ f d.size,λ k hk=>(d.cell (p:=⟨b,_,none⟩) f).trans (i k hk)⟩,λ e he=>(h.rows e he).below d⟩
structure mc where
 iM:Int
 r:Row
def r6(e:mc):List Value:=[.int .i64 e.iM,ki e.r]
def ni(es:List mc):List Value:=(es.map r6).flatten
structure nx(w:World)(A:Option Addr)(n c:Nat)(es:List mc):Prop where
 len:es.length=n
 cap:n<=c
 mW:n*32<=140737488355328
 o6:c<=maxLen
 cells:0<n->∃b off,A=some ⟨b,off,none⟩/\b<w.heap.size/\∀k,k<n*2->w.cell? ⟨b,off+k,none⟩=(ni es)[k]?
 rows:∀e∈es,aQ w e.r.A e.r.n e.r.c e.r.ah
theorem nx.below{w w':World}{A:Option Addr}{n c:Nat}{es:List mc}(h:nx w A n c es)(d:Below w.heap.size w w'):nx w' A n c es:=
 ⟨h.len,h.cap,h.mW,h.o6,λ g=>by
  obtain⟨b,off,rfl,f,i⟩:=h.cells g;exact⟨b,off,rfl,u_ f d.size,λ k hk=>(d.cell (p:=⟨b,_,none⟩) f).trans (i k hk)⟩,λ e he=>(h.rows e he).below d⟩
def M0(w:World)(base:Nat)(v:Value)(k:Nat)(es:List lE)(v':Value)(w':World):Prop:=
 w'.ownsRow base 74 3 v' k (p4 es)/\w.grownBy w' v.ownBlock/\(v'.ownBlock=v.ownBlock\/v'.ownBlock=some w.heap.size)
theorem M1(w:World)(ty:TypeId)(base:Nat)(v:Value)(n:Nat)(es:List lE)(d:w.ownsRow base 74 3 v n (p4 es))(c c1:Nat)(e:lE)(f:w.cell? ⟨c,0,none⟩=some (ki e.r))(h1:w.cell? ⟨c,1,none⟩=some (.int .i64 e.aR))(g:w.cell? ⟨c,2,none⟩=some (.int .i64 e.ac))(t:n<=1000000)(i:base<=w.heap.size):
  ∃v' w',(Builtin.append_ #[42,42] ty #[v,.slice (some ⟨c,0,none⟩) 1 c1]).run y_ w=.ok v' w'/\M0 w base v (n+1) (es++[e]) v' w':=by
 obtain⟨i0,k,l,m,o⟩:=info_parts MY;have p:∀j u,(sZ e)[j]? =some u->w.cell? ((⟨c,0,none⟩:Addr).add j)=some u:=by
  intro j u b;have y:j<3:=(List.getElem?_eq_some_iff.1 b).1;rw[Addr.add_lit,Nat.zero_add];unfold sZ at b;rcases(show j=0\/j=1\/j=2 by omega) with rfl|rfl|rfl
  ·simp only[w_,Zt] at b;subst b;exact f
  ·simp only[v_,w_,Zt] at b;subst b;exact h1
  ·simp only[v_,w_,Zt] at b;subst b;exact g
 have q:∀u∈sZ e,u.oneCell'=true:=by
  intro u hu;unfold sZ at hu;simp only[List.mem_cons,List.not_mem_nil,or_false] at hu;rcases hu with rfl|rfl|rfl<;>rfl
 have s:p4 (es++[e])=p4 es++sZ e:=by rw[MZ];simp[p4]
 obtain⟨v',w',g1,g2,g3,_,g5⟩:=run_append_own_at (P:=y_) w base 42 ty 74 i0 (.agg #[.slice none 0 0,.int .i64 0,.int .i64 0]) 3 40 Tryz.underlying42 k l m o rfl (by decide) v n (p4 es) d ⟨c,0,none⟩ 1 c1 (sZ e) rfl p q (by unfold maxLen;omega) (by omega) i;rw[<-s] at g2;exact⟨v',w',g1,g2,g3,g5⟩
theorem qP.lz{w:World}{c:Nat}{es:List lE}(h:w.ownsRow base 74 3 (.slice A n c) n (p4 es))(d:n*40<=140737488355328)(f:∀e∈es,aQ w e.r.A e.r.n e.r.c e.r.ah):qP w A n c es:=by
 have hl:es.length=n:=by have:=h.1;rw[GY] at this;omega
 rcases h.2 with⟨b,i⟩|⟨g,cap,cur,b,m,o,j,l,p,q⟩
 ·simp only[Zh] at b;obtain⟨rfl,_,rfl⟩:=b;subst i;exact⟨hl,n_ _,d,Zo _,λ h=>absurd h (by omega),f⟩
 ·simp only[Zh] at b;obtain⟨rfl,_,rfl⟩:=b;refine⟨hl,j,d,l,λ i=>⟨g,0,rfl,(h.lt g rfl).2,λ k hk=>?_⟩,f⟩;rw[Nat.zero_add];exact h.cellAt k hk
theorem aU.still{w:World}(h:aU K base w G hs cb s){P:Nat->Prop}(f:aD (λ b=>b<w.heap.size/\¬P b) w W)(c:∀b,P b->K b):aU K base W G hs cb s:=by
 have k:¬P G:=λ e=>h.s.g (c _ e)
 refine⟨⟨f.blk h.e.box ⟨h.e.box.lt,k⟩,⟨λ r=>mP (h.e.rows.row r) (λ b i=>?_),h.e.rows.apart⟩,λ d j=>f.blk (h.e.cls d j) ⟨(h.e.cls d j).lt,λ e=>h.s.cl d j (c _ e)⟩,h.e.inj,h.e.ru,h.e.rU⟩,h.s.more f.size⟩;rw[aq.own] at i;exact f.keep b ⟨(h.e.rows.lt i).2,λ e=>h.s.row r b i (c _ e)⟩
def tD(W w:World)(c:Option Addr)(c2:Nat)(d:List Int):Prop:=aQ w c d.length c2 d/\∀b,c.map (·.block)=some b->W.heap.size<=b/\b<w.heap.size
theorem tD.below{W w w':World}{bq:Option Addr}{c2:Nat}{ah:List Int}(h:tD W w bq c2 ah)(c:Below w.heap.size w w'):tD W w' bq c2 ah:=⟨h.1.below c,λ b e=>⟨(h.2 b e).1,u_ (h.2 b e).2 c.size⟩⟩
theorem tD.grown{w:World}{bq:Option Addr}{c2:Nat}(h:tD W w bq c2 ah)(c:w.grownBy w' row)(d:∀g,row=some g->g<W.heap.size):tD W w' bq c2 ah:=
 ⟨h.1.xk c.size (λ b e=>c.block b (h.2 b e).2 (λ f=>by have:=d b f.symm;have:=(h.2 b e).1;omega)),λ b e=>⟨(h.2 b e).1,u_ (h.2 b e).2 c.size⟩⟩
def Cd(c:Option Addr)(c2:Nat)(b:List Int)(aR ac:Int):lE:=⟨⟨c,b.length,c2,b⟩,aR,min ac 1099511627776⟩
def GE(W:World)(base l:Nat)(A:Option Addr)(j c:Nat)(es:List lE)(e:Nat)(m:Option Addr)(n o:Nat)(f:List Int)(aR ac:Int)(i:Nat)(v:Value)(w:World):Prop:=
 match i with
 |0=>v=.pointer (some ⟨l,2,none⟩)
 |1=>v=.slice A j c
 |2=>v=.pointer (some ⟨e,0,none⟩)
 |3=>v=.pointer (some ⟨e,0,none⟩)
 |4=>v=.pointer (some ⟨e,0,none⟩)
 |5=>v=.slice m n o
 |6=>∃d c2,v=.slice d f.length c2/\tD W w d c2 f
 |7=>v=.pointer (some ⟨e,0,none⟩)
 |8=>v=.pointer (some ⟨e,0,none⟩)
 |9=>v=.pointer (some ⟨e,2,none⟩)
 |10=>v=.int .i64 aR
 |11=>v=.pointer (some ⟨e,0,none⟩)
 |12=>v=.pointer (some ⟨e,0,none⟩)
 |13=>v=.pointer (some ⟨e,3,none⟩)
 |14=>v=.int .i64 ac
 |15=>v=.int .i64 (min ac 1099511627776)
 |16=>∃d c2,v=.agg #[.slice d f.length c2,.int .i64 aR,.int .i64 (min ac 1099511627776)]/\tD W w d c2 f
 |17=>∃d c2 b,v=.slice (some ⟨b,0,none⟩) 1 1/\tD W w d c2 f/\W.heap.size<=b/\b<w.heap.size/\w.cell? ⟨b,0,none⟩=some (.slice d f.length c2)/\w.cell? ⟨b,1,none⟩=some (.int .i64 aR)/\w.cell? ⟨b,2,none⟩=some (.int .i64 (min ac 1099511627776))
 |18=>∃d c2 k c9,v=.slice k (j+1) c9/\tD W w d c2 f/\w.ownsRow base 74 3 (.slice k (j+1) c9) (j+1) (p4 (es++[Cd d c2 f aR ac]))/\((s_ k (j+1) c9).ownBlock=(s_ A j c).ownBlock\/∀g,(s_ k (j+1) c9).ownBlock=some g->W.heap.size<=g)/\∀b,d.map (·.block)=some b->(s_ k (j+1) c9).ownBlock≠some b
 |19=>v=.pointer (some ⟨l,2,none⟩)
 |_=>True
theorem GE.mono(W:World)(base l:Nat)(A:Option Addr)(j c:Nat)(es:List lE)(m:Nat)(o:Option Addr)(q r:Nat)(s:List Int)(aR ac:Int)(i:Nat)(u:Value)(w w':World)(d:Below w.heap.size w w')(h:GE W base l A j c es m o q r s aR ac i u w):GE W base l A j c es m o q r s aR ac i u w':=by
 match i,h with
 |0,h=>exact h
 |1,h=>exact h
 |2,h=>exact h
 |3,h=>exact h
 |4,h=>exact h
 |5,h=>exact h
 |6,h=>obtain⟨e,c2,h1,f⟩:=h;exact⟨e,c2,h1,f.below d⟩
 |7,h=>exact h
 |8,h=>exact h
 |9,h=>exact h
 |10,h=>exact h
 |11,h=>exact h
 |12,h=>exact h
 |13,h=>exact h
 |14,h=>exact h
 |15,h=>exact h
 |16,h=>obtain⟨e,c2,h1,f⟩:=h;exact⟨e,c2,h1,f.below d⟩
 |17,h=>obtain⟨e,c2,b,h1,f,k,g,t,v,y⟩:=h;exact⟨e,c2,b,h1,f.below d,k,u_ g d.size,(d.cell (p:=⟨b,0,none⟩) g).trans t,(d.cell (p:=⟨b,1,none⟩) g).trans v,(d.cell (p:=⟨b,2,none⟩) g).trans y⟩
 |18,h=>obtain⟨e,c2,z,c9,h1,f,k,g⟩:=h;exact⟨e,c2,z,c9,h1,f.below d,lR k d,g⟩
 |19,h=>exact h
 |n+20,h=>trivial
theorem GE.grown(W:World)(base o:Nat)(A:Option Addr)(j c:Nat)(es:List lE)(p:Nat)(q:Option Addr)(r s:Nat)(t:List Int)(aR ac:Int)(m:∀g,(s_ A j c).ownBlock=some g->g<W.heap.size)(i:Nat)(y:i≠18)(u:Value)(w w':World)(d:w.grownBy w' (s_ A j c).ownBlock)(h:GE W base o A j c es p q r s t aR ac i u w):GE W base o A j c es p q r s t aR ac i u w':=by
 match i,h with
 |0,h=>exact h
 |1,h=>exact h
 |2,h=>exact h
 |3,h=>exact h
 |4,h=>exact h
 |5,h=>exact h
 |6,h=>obtain⟨f,c2,h1,l⟩:=h;exact⟨f,c2,h1,l.grown d m⟩
 |7,h=>exact h
 |8,h=>exact h
 |9,h=>exact h
 |10,h=>exact h
 |11,h=>exact h
 |12,h=>exact h
 |13,h=>exact h
 |14,h=>exact h
 |15,h=>exact h
 |16,h=>obtain⟨f,c2,h1,l⟩:=h;exact⟨f,c2,h1,l.grown d m⟩
 |17,h=>obtain⟨f,c2,b,h1,l,z,v,B,C,D⟩:=h;have hk:∀k,w'.cell? ⟨b,k,none⟩=w.cell? ⟨b,k,none⟩:=(λ k=>x_ (a:=⟨b,k,none⟩) (d.block b v (λ e=>by have:=m b e.symm;omega)));exact⟨f,c2,b,h1,l.grown d m,z,u_ v d.size,(hk 0).trans B,(hk 1).trans C,(hk 2).trans D⟩
 |18,h=>exact absurd rfl y
 |19,h=>exact h
 |n+20,h=>trivial
structure GZ(W:World)(base gH:Nat)(A:Option Addr)(j c:Nat)(es:List lE)(nD:Nat)(oW:Option Addr)(pI p5:Nat)(ah:List Int)(aR ac:Int):Prop where
 gR:W.cell? ⟨gH,2,none⟩=some (.slice A j c)
 M3:gH<W.heap.size
 M4:some gH≠(s_ A j c).ownBlock
 c0:W.cell? ⟨nD,0,none⟩=some (.slice oW pI p5)
 c2:W.cell? ⟨nD,2,none⟩=some (.int .i64 aR)
 c3:W.cell? ⟨nD,3,none⟩=some (.int .i64 ac)
 D9:nD<W.heap.size
 Ea:some nD≠(s_ A j c).ownBlock
 xb:aQ W oW pI p5 ah
 kM:∀b,oW.map (·.block)=some b->b<W.heap.size/\some b≠(s_ A j c).ownBlock
 row:∀g,(s_ A j c).ownBlock=some g->g<W.heap.size
 bp:base<=W.heap.size
 M5:j<=1000000
theorem M6(W:World)(base s:Nat)(A:Option Addr)(j c:Nat)(es:List lE)(p:Nat)(z:Option Addr)(B D:Nat)(o:List Int)(aR ac:Int)(C:GZ W base s A j c es p z B D o aR ac):
  uB y_ [some 48,some 49,some 50,some 51,some 52,some 53,some 54,some 55,some 56,some 57,some 58,some 59,some 60,some 61,some 62,some 63,some 64,some 65,some 66,some 67,none] [[],[0],[],[2],[3],[4],[5],[],[7],[8],[9],[],[11],[12],[13],[14],[6,10,15],[16],[1,17,6],[0,1,2,3,4,5,6,7,8,9,10,11,12,13,14,15,16,17,18],[19,18,18,0,1,2,3,4,5,6,7,8,9,10,11,12,13,14,15,16,17,18]] [(3,.pointer (some ⟨s,0,none⟩)),(8,.pointer (some ⟨p,0,none⟩))] (λ w=>W.grownBy w (s_ A j c).ownBlock) (GE W base s A j c es p z B D o aR ac) (λ _=>none) (λ w=>w.ownsRow base 74 3 (.slice A j c) j (p4 es)) 18 0 ((tu Tryz.f100 12).take 20):=by
 have af:=GE.mono W base s A j c es p z B D o aR ac;have ag:∀w w':World,Below w.heap.size w w'->w.ownsRow base 74 3 (.slice A j c) j (p4 es)->w'.ownsRow base 74 3 (.slice A j c) j (p4 es):=λ w w' q h=>lR h q
 have ah:∀w w':World,W.grownBy w (s_ A j c).ownBlock->Below w.heap.size w w'->W.grownBy w' (s_ A j c).ownBlock:=λ w w' f q=>xu f ⟨q.os,q.tape,q.output,q.size,λ k hk _=>q.block k hk⟩
 refine⟨?_,?_,?_,?_,?_,?_,?_,?_,?_,?_,?_,?_,?_,?_,?_,?_,?_,?_,?_,?_,trivial⟩
 ·intro vals w i f m d l hp;have Y:i (.tmp 3)=_:=l.1 rfl;simp only[bn,execOp,Y];simp[gF,go_sem];exact .same f rfl
 ·intro vals w i f m d l hp;obtain⟨⟨f0,G⟩,-⟩:=(⟨d.1 rfl,d.2⟩:_/\_)
  have G:i (.tmp 48)=vals 0:=G _ rfl;have f0:vals 0=_:=f0 (t_ rfl);rw[f0] at G;have t:=(x_ (a:=⟨s,2,none⟩) (f.block s C.M3 C.M4)).trans C.gR;simp only[bn,execOp,G];simp[gF,go_sem,t];exact .same f rfl
 ·intro vals w i f m d l hp;have E:i (.tmp 8)=_:=l.2.1 rfl;simp only[bn,execOp,E];simp[gF,go_sem];exact .same f rfl
 ·intro vals w i f m d l hp;obtain⟨⟨f2,r⟩,-⟩:=(⟨d.1 rfl,d.2⟩:_/\_)
  have r:i (.tmp 50)=vals 2:=r _ rfl;have f2:vals 2=_:=f2 (t_ rfl);rw[f2] at r;simp only[bn,execOp,r];simp[gF,go_sem];exact .same f rfl
 ·intro vals w i f m d l hp;obtain⟨⟨f3,H⟩,-⟩:=(⟨d.1 rfl,d.2⟩:_/\_)
  have H:i (.tmp 51)=vals 3:=H _ rfl;have f3:vals 3=_:=f3 (t_ rfl);rw[f3] at H;simp only[bn,execOp,H];simp[gF,go_sem];exact .same f rfl
 ·intro vals w i f m d l hp;obtain⟨⟨f4,I⟩,-⟩:=(⟨d.1 rfl,d.2⟩:_/\_)
  have I:i (.tmp 52)=vals 4:=I _ rfl;have f4:vals 4=_:=f4 (t_ rfl);rw[f4] at I;have t:=(x_ (a:=⟨p,0,none⟩) (f.block p C.D9 C.Ea)).trans C.c0;simp only[bn,execOp,I];simp[gF,go_sem,t];exact .same f rfl
 ·intro vals w i f m d l hp;obtain⟨⟨f5,J⟩,-⟩:=(⟨d.1 rfl,d.2⟩:_/\_)
  have J:i (.tmp 53)=vals 5:=J _ rfl;have f5:vals 5=_:=f5 (t_ rfl);rw[f5] at J;have Z:aQ w z B D o:=C.xb.xk f.size (λ b e=>f.block b (C.kM b e).1 (C.kM b e).2);refine va 81 #[.tmp 53] #[25] rfl Ar hp ?_;simp only[e_,d_,Zv,J];refine(w9 z B D o w Z).mono ?_;rintro e w' ⟨n,c2,rfl,ai,q⟩;have hl:=Z.len;have au:=Z.mW;refine⟨_,rfl,.more af ag q (ah w w' f q) ⟨n,c2,rfl,aQ.lz ai (by omega),λ b e=>?_⟩⟩;have h1:=ai.lt b (by show(aq.v ⟨n,o.length,c2⟩).ownBlock=_;rw[aq.own];exact e);exact⟨Zw f.size h1.1,h1.2⟩
 ·intro vals w i f m d l hp;have E:i (.tmp 8)=_:=l.2.1 rfl;simp only[bn,execOp,E];simp[gF,go_sem];exact .same f rfl
 ·intro vals w i f m d l hp;obtain⟨⟨f7,K⟩,-⟩:=(⟨d.1 rfl,d.2⟩:_/\_)
  have K:i (.tmp 55)=vals 7:=K _ rfl;have f7:vals 7=_:=f7 (t_ rfl);rw[f7] at K;simp only[bn,execOp,K];simp[gF,go_sem];exact .same f rfl
 ·intro vals w i f m d l hp;obtain⟨⟨f8,L⟩,-⟩:=(⟨d.1 rfl,d.2⟩:_/\_)
  have L:i (.tmp 56)=vals 8:=L _ rfl;have f8:vals 8=_:=f8 (t_ rfl);rw[f8] at L;simp only[bn,execOp,L];simp[gF,go_sem];exact .same f rfl
 ·intro vals w i f m d l hp;obtain⟨⟨f9,M⟩,-⟩:=(⟨d.1 rfl,d.2⟩:_/\_)
  have M:i (.tmp 57)=vals 9:=M _ rfl;have f9:vals 9=_:=f9 (t_ rfl);rw[f9] at M;have t:=(x_ (a:=⟨p,2,none⟩) (f.block p C.D9 C.Ea)).trans C.c2;simp only[bn,execOp,M];simp[gF,go_sem,t];exact .same f rfl
 ·intro vals w i f m d l hp;have E:i (.tmp 8)=_:=l.2.1 rfl;simp only[bn,execOp,E];simp[gF,go_sem];exact .same f rfl
 ·intro vals w i f m d l hp;obtain⟨⟨f11,N⟩,-⟩:=(⟨d.1 rfl,d.2⟩:_/\_)
  have N:i (.tmp 59)=vals 11:=N _ rfl;have f11:vals 11=_:=f11 (t_ rfl);rw[f11] at N;simp only[bn,execOp,N];simp[gF,go_sem];exact .same f rfl
 ·intro vals w i f m d l hp;obtain⟨⟨f12,O⟩,-⟩:=(⟨d.1 rfl,d.2⟩:_/\_)
  have O:i (.tmp 60)=vals 12:=O _ rfl;have f12:vals 12=_:=f12 (t_ rfl);rw[f12] at O;simp only[bn,execOp,O];simp[gF,go_sem];exact .same f rfl
 ·intro vals w i f m d l hp;obtain⟨⟨f13,P⟩,-⟩:=(⟨d.1 rfl,d.2⟩:_/\_)
  have P:i (.tmp 61)=vals 13:=P _ rfl;have f13:vals 13=_:=f13 (t_ rfl);rw[f13] at P;have t:=(x_ (a:=⟨p,3,none⟩) (f.block p C.D9 C.Ea)).trans C.c3;simp only[bn,execOp,P];simp[gF,go_sem,t];exact .same f rfl
 ·intro vals w i f m d l hp;obtain⟨⟨f14,Q⟩,-⟩:=(⟨d.1 rfl,d.2⟩:_/\_)
  have Q:i (.tmp 62)=vals 14:=Q _ rfl;have f14:vals 14=_:=f14 (t_ rfl);rw[f14] at Q;simp only[bn,execOp,resolve,invoke,builtin,Sem.run_bind,Sem.run_pure,Result.andThen_ok,e_,d_,Zv,Q,hp.1];simp[gF,go_sem];exact .same f rfl
 ·intro vals w i f m d l hp;obtain⟨⟨f6,R⟩,⟨f10,S⟩,⟨f15,T⟩,-⟩:=(⟨d.1 rfl,d.2.1 rfl,d.2.2.1 rfl,d.2.2.2⟩:_/\_/\_/\_)
  have R:i (.tmp 54)=vals 6:=R _ rfl;have S:i (.tmp 58)=vals 10:=S _ rfl;have T:i (.tmp 63)=vals 15:=T _ rfl;obtain⟨n,c2,f6,aa⟩:∃n c2,vals 6=.slice n o.length c2/\tD W w n c2 o:=f6 (t_ rfl);have f10:vals 10=_:=f10 (t_ rfl);have f15:vals 15=_:=f15 (t_ rfl);rw[f6] at R;rw[f10] at S;rw[f15] at T;simp only[bn,execOp,e_,d_,Zv,R,S,T];simp[gF,go_sem];exact .same f ⟨n,c2,rfl,aa⟩
 ·intro vals w i f m d l hp;obtain⟨⟨f16,U⟩,-⟩:=(⟨d.1 rfl,d.2⟩:_/\_)
  have U:i (.tmp 64)=vals 16:=U _ rfl;obtain⟨n,c2,f16,ak⟩:∃n c2,vals 16=.agg #[.slice n o.length c2,.int .i64 aR,.int .i64 (min ac 1099511627776)]/\tD W w n c2 o:=f16 (t_ rfl);rw[f16] at U;simp only[bn,execOp,e_,d_,Zv,U];simp[gF,go_sem];exact .more af ag (bK w _) (ah w _ f (bK w _)) ⟨n,c2,w.heap.size,rfl,ak.below (bK w _),f.size,by simp,by go_simp,by go_simp,by go_simp⟩
 ·intro vals w i f m d l hp;obtain⟨⟨f1,V⟩,⟨f17,X⟩,-⟩:=(⟨d.1 rfl,d.2.1 rfl,d.2.2⟩:_/\_/\_)
  have V:i (.tmp 49)=vals 1:=V _ rfl;have X:i (.tmp 65)=vals 17:=X _ rfl;have f1:vals 1=_:=f1 (t_ rfl);obtain⟨n,c2,b,f17,aj,av,aw,al,an,aa⟩:∃n c2 b,vals 17=.slice (some ⟨b,0,none⟩) 1 1/\tD W w n c2 o/\W.heap.size<=b/\b<w.heap.size/\w.cell? ⟨b,0,none⟩=some (.slice n o.length c2)/\w.cell? ⟨b,1,none⟩=some (.int .i64 aR)/\w.cell? ⟨b,2,none⟩=some (.int .i64 (min ac 1099511627776)):=f17 (t_ rfl);rw[f1] at V;rw[f17] at X;obtain⟨v',w',g1,g2⟩:=M1 w 42 base (.slice A j c) j es (m (Or.inr rfl)) b 1 (Cd n c2 o aR ac) al an aa C.M5 (Zw C.bp f.size);simp only[bn,execOp,resolve,invoke,builtin,Sem.run_bind,Sem.run_pure,Result.andThen_ok,e_,d_,Zv,V,X,g1,gF];obtain⟨⟨ab,jJ,c9⟩,ad,ae⟩:=aq.lz g2.1;have ae:jJ=j+1:=ae;subst ae;have ad:v'=.slice ab (j+1) c9:=ad;subst ad;refine⟨xu f g2.2.1,⟨n,c2,ab,c9,rfl,aj.grown g2.2.1 C.row,g2.1,?_⟩,λ k u hk _ _ _ ao=>GE.grown W base s A j c es p z B D o aR ac C.row k hk u w w' g2.2.1 ao,λ h=>absurd rfl h⟩;have ar:∀F,n.map (·.block)=some F->(s_ ab (j+1) c9).ownBlock≠some F:=λ F e r=>by
   have ax:=aj.2 F e;rcases g2.2.2 with y|y
   ·rw[y] at r;have:=C.row F r;omega
   ·rw[y] at r;injection r with r;omega
  refine⟨?_,ar⟩;rcases g2.2.2 with y|y
  ·exact .inl y
  ·exact .inr (λ g e=>by rw[y] at e;injection e with e;have:=f.size;omega)
 ·intro vals w i f m d l hp;have Y:i (.tmp 3)=_:=l.1 rfl;simp only[bn,execOp,Y];simp[gF,go_sem];exact .same f rfl
def ya(W:World)(G aG b r:Nat)(g j k s t u y l:Value)(c:Option Addr)(n6 c6:Nat)(d:Option Addr)(n7 e:Nat)(f:Int)(m:Option Addr)(jJ c9:Nat)(n:Option Addr)(o p:Nat)(i:Nat)(v:Value)(w:World):Prop:=
 match i with
 |0=>v=.agg #[.slice c n6 c6,.slice d n7 e,.int .i64 f]
 |1=>v=.pointer (some ⟨G,0,none⟩)
 |2=>v=.pointer (some ⟨G,0,none⟩)
 |3=>v=.pointer (some ⟨G,12,none⟩)
 |4=>v=.slice m jJ c9
 |5=>v=.pointer (some ⟨G,0,none⟩)
 |6=>v=.pointer (some ⟨G,0,none⟩)
 |7=>v=.pointer (some ⟨G,14,none⟩)
 |8=>v=.slice n o p
 |9=>v=.pointer (some ⟨b,3,none⟩)
 |10=>∃q,aO w b 47 [g,j,k,.slice c n6 c6,.slice d n7 e,.int .i64 f,q,l]
 |11=>v=.pointer (some ⟨b,6,none⟩)
 |12=>aO w b 47 [g,j,k,.slice c n6 c6,.slice d n7 e,.int .i64 f,.slice m jJ c9,l]
 |13=>v=.pointer (some ⟨b,7,none⟩)
 |_=>True
theorem ya.const(W:World)(G aG b c:Nat)(d e f g j k l m:Value)(o:Option Addr)(n6 c6:Nat)(p:Option Addr)(n7 q:Nat)(r:Int)(s:Option Addr)(jJ c9:Nat)(t:Option Addr)(v y:Nat)(i:Nat)(z:i≠10)(A:i≠12)(u:Value)(w w':World)(h:ya W G aG b c d e f g j k l m o n6 c6 p n7 q r s jJ c9 t v y i u w):ya W G aG b c d e f g j k l m o n6 c6 p n7 q r s jJ c9 t v y i u w':=by
 match i,h with
 |0,h=>exact h
 |1,h=>exact h
 |2,h=>exact h
 |3,h=>exact h
 |4,h=>exact h
 |5,h=>exact h
 |6,h=>exact h
 |7,h=>exact h
 |8,h=>exact h
 |9,h=>exact h
 |10,h=>exact absurd rfl z
 |11,h=>exact h
 |12,h=>exact absurd rfl A
 |13,h=>exact h
 |n+14,h=>trivial
structure G0(W:World)(G aG gH q7:Nat)(qL kq mT oN ua q5 wm pS:Value)(jW:Option Addr)(n6 c6:Nat)(iq:Option Addr)(n7 gZ:Nat)(qO:Int)(iR:Option Addr)(jJ c9:Nat)(aT:Option Addr)(aJ aY:Nat):Prop where
 av:W.cell? ⟨q7,0,none⟩=some (.slice jW n6 c6)
 h1:W.cell? ⟨q7,1,none⟩=some (.slice iq n7 gZ)
 af:W.cell? ⟨q7,2,none⟩=some (.int .i64 qO)
 Eb:q7<W.heap.size/\q7≠gH
 g0:W.cell? ⟨aG,0,none⟩=some (.pointer (some ⟨G,0,none⟩))
 qc:aG<W.heap.size/\aG≠gH
 oF:W.cell? ⟨G,12,none⟩=some (.slice iR jJ c9)
 vI:W.cell? ⟨G,14,none⟩=some (.slice aT aJ aY)
 G1:G<W.heap.size/\G≠gH
def G2(j:Nat):Option Nat:=if j=10 then some 12 else none
theorem M7(W:World)(G aG j o:Nat)(r s n m y p E t:Value)(z:Option Addr)(n6 c6:Nat)(A:Option Addr)(n7 B:Nat)(D:Int)(F:Option Addr)(jJ c9:Nat)(H:Option Addr)(I J:Nat)(C:G0 W G aG j o r s n m y p E t z n6 c6 A n7 B D F jJ c9 H I J):
  uB y_ [some 69,some 70,some 71,some 72,some 73,some 74,some 75,some 76,some 77,some 78,none,some 79,none,some 80,none] [[],[],[1],[2],[3],[],[5],[6],[7],[0],[9,0,0],[0,1,2,3,4,9,10],[11,4,10,0,1,2,3,4,9,10],[0,1,2,3,4,5,6,7,8,9,10,11,12],[13,8,12,0,1,2,3,4,5,6,7,8,9,10,11,12]] [(5,.pointer (some ⟨o,0,none⟩)),(2,.pointer (some ⟨aG,0,none⟩)),(3,.pointer (some ⟨j,0,none⟩))] (λ w=>W.grownBy w (some j)) (ya W G aG j o r s n m y p E t z n6 c6 A n7 B D F jJ c9 H I J) G2 (λ w=>∃q,aO w j 47 [r,s,n,m,y,p,q,t]) 10 0 ((tu Tryz.f100 14).take 14):=by
 have v:∀w b k,W.grownBy w (some j)->b<W.heap.size/\b≠j->w.cell? ⟨b,k,none⟩=W.cell? ⟨b,k,none⟩:=λ w b k c l=>x_ (a:=⟨b,k,none⟩) (c.block b l.1 (λ e=>by injection e with e;exact l.2 e))
 refine⟨?_,?_,?_,?_,?_,?_,?_,?_,?_,?_,?_,?_,?_,?_,trivial⟩
 ·intro vals w f c i d g hp;have p:f (.tmp 5)=_:=g.1 rfl;have c0:=(v w o 0 c C.Eb).trans C.av;have c1:=(v w o 1 c C.Eb).trans C.h1;have c2:=(v w o 2 c C.Eb).trans C.af;simp only[bn,execOp,p];simp[gF,go_sem,c0,c1,c2];exact .same c rfl
 ·intro vals w f c i d g hp;have n:f (.tmp 2)=_:=g.2.1 rfl;have aS:=(v w aG 0 c C.qc).trans C.g0;simp only[bn,execOp,n];simp[gF,go_sem,aS];exact .same c rfl
 ·intro vals w f c i d g hp;obtain⟨⟨f1,K⟩,-⟩:=(⟨d.1 rfl,d.2⟩:_/\_)
  have K:f (.tmp 70)=vals 1:=K _ rfl;have f1:vals 1=_:=f1 (t_ rfl);rw[f1] at K;simp only[bn,execOp,K];simp[gF,go_sem];exact .same c rfl
 ·intro vals w f c i d g hp;obtain⟨⟨f2,L⟩,-⟩:=(⟨d.1 rfl,d.2⟩:_/\_)
  have L:f (.tmp 71)=vals 2:=L _ rfl;have f2:vals 2=_:=f2 (t_ rfl);rw[f2] at L;simp only[bn,execOp,L];simp[gF,go_sem];exact .same c rfl
 ·intro vals w f c i d g hp;obtain⟨⟨f3,M⟩,-⟩:=(⟨d.1 rfl,d.2⟩:_/\_)
  have M:f (.tmp 72)=vals 3:=M _ rfl;have f3:vals 3=_:=f3 (t_ rfl);rw[f3] at M;have aS:=(v w G 12 c C.G1).trans C.oF;simp only[bn,execOp,M];simp[gF,go_sem,aS];exact .same c rfl
 ·intro vals w f c i d g hp;have n:f (.tmp 2)=_:=g.2.1 rfl;have aS:=(v w aG 0 c C.qc).trans C.g0;simp only[bn,execOp,n];simp[gF,go_sem,aS];exact .same c rfl
 ·intro vals w f c i d g hp;obtain⟨⟨f5,N⟩,-⟩:=(⟨d.1 rfl,d.2⟩:_/\_)
  have N:f (.tmp 74)=vals 5:=N _ rfl;have f5:vals 5=_:=f5 (t_ rfl);rw[f5] at N;simp only[bn,execOp,N];simp[gF,go_sem];exact .same c rfl
 ·intro vals w f c i d g hp;obtain⟨⟨f6,O⟩,-⟩:=(⟨d.1 rfl,d.2⟩:_/\_)
  have O:f (.tmp 75)=vals 6:=O _ rfl;have f6:vals 6=_:=f6 (t_ rfl);rw[f6] at O;simp only[bn,execOp,O];simp[gF,go_sem];exact .same c rfl
 ·intro vals w f c i d g hp;obtain⟨⟨f7,P⟩,-⟩:=(⟨d.1 rfl,d.2⟩:_/\_)
  have P:f (.tmp 76)=vals 7:=P _ rfl;have f7:vals 7=_:=f7 (t_ rfl);rw[f7] at P;have aS:=(v w G 14 c C.G1).trans C.vI;simp only[bn,execOp,P];simp[gF,go_sem,aS];exact .same c rfl
 ·intro vals w f c i d g hp;have m:f (.tmp 3)=_:=g.2.2.1 rfl;simp only[bn,execOp,m];simp[gF,go_sem];exact .same c rfl
 ·intro vals w f c i d g hp;obtain⟨⟨f9,Q⟩,⟨f0,R⟩,-⟩:=(⟨d.1 rfl,d.2.1 rfl,d.2.2⟩:_/\_/\_)
  have Q:f (.tmp 78)=vals 9:=Q _ rfl;have f9:vals 9=_:=f9 (t_ rfl);rw[f9] at Q;have R:f (.tmp 69)=vals 0:=R _ rfl;have f0:vals 0=_:=f0 (t_ rfl);rw[f0] at R;obtain⟨q,l⟩:∃q,aO w j 47 [r,s,n,m,y,p,q,t]:=i (Or.inr rfl);have V:=l.cell 3;have X:=l.cell 4;have Y:=l.cell 5;have k3:=l.free 3;have ad:=l.free 4;have ae:=l.free 5;simp only[w_,v_] at V X Y;simp only[bn,execOp,Q,R];simp[gF,go_sem,V,X,Y,k3,ad,ae];have ag:=xu (xu (kK w j 3 (.slice z n6 c6)) (kK _ j 4 (.slice A n7 B))) (kK _ j 5 (.int .i64 D));exact⟨xu c ag,⟨q,((l.set 3 _).set 4 _).set 5 _⟩,λ k u hk Z aa _ U=>ya.const W G aG j o r s n m y p E t z n6 c6 A n7 B D F jJ c9 H I J k hk (λ e=>by subst e;exact absurd aa (by decide)) u _ _ U,λ h=>absurd rfl h⟩
 ·intro vals w f c i d g hp;have m:f (.tmp 3)=_:=g.2.2.1 rfl;simp only[bn,execOp,m];simp[gF,go_sem];exact .same c rfl
 ·intro vals w f c i d g hp;obtain⟨⟨f11,S⟩,⟨f4,T⟩,⟨f10,aj⟩,-⟩:=(⟨d.1 rfl,d.2.1 rfl,d.2.2.1 rfl,d.2.2.2⟩:_/\_/\_/\_)
  have S:f (.tmp 79)=vals 11:=S _ rfl;have f11:vals 11=_:=f11 (t_ rfl);rw[f11] at S;have T:f (.tmp 73)=vals 4:=T _ rfl;have f4:vals 4=_:=f4 (t_ rfl);rw[f4] at T;obtain⟨q,l⟩:∃q,aO w j 47 [r,s,n,.slice z n6 c6,.slice A n7 B,.int .i64 D,q,t]:=f10 (Or.inr rfl);have ab:=l.cell 6;have ah:=l.free 6;simp only[w_,v_] at ab;simp only[bn,execOp,S,T];simp[gF,go_sem,ab,ah];exact⟨xu c (kK w j 6 _),l.set 6 _,λ k u hk Z aa _ U=>ya.const W G aG j o r s n m y p E t z n6 c6 A n7 B D F jJ c9 H I J k (λ e=>by subst e;exact absurd rfl Z) hk u _ _ U,λ h _ i=>by obtain⟨ak,ai⟩:=i;exact⟨_,ai.set 6 _⟩⟩
 ·intro vals w f c i d g hp;have m:f (.tmp 3)=_:=g.2.2.1 rfl;simp only[bn,execOp,m];simp[gF,go_sem];exact .same c rfl
end
end Go.Proofs.YtogdlkfacflmaaaGreat
