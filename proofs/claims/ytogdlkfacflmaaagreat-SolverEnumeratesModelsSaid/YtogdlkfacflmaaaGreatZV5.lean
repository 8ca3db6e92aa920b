/- Parts of the walk of the solver and its core; no condition. -/
import Derived.Test.YtogdlkfacflmaaaGreatZV4
import Derived.Test.YtogdlkfacflmaaaGreatZV2
import Derived.Test.YtogdlkfacflmaaaGreatZV3
import Derived.Laws.EntriesVeiled
import Derived.Laws.ResultCell
import Derived.Test.YtogdlkfacflmaaaGreatZV1
namespace Go.Proofs.YtogdlkfacflmaaaGreat
set_option linter.unusedVariables false
set_option linter.unusedSimpArgs false
set_option maxRecDepth 1000000
set_option maxHeartbeats 8000000
open _root_.And renaming intro→z_
open _root_.List renaming getElem?_eq_some_iff→y_,take_succ_cons→v_,drop_succ_cons→u_,drop_zero→t_,take_zero→s_,length_append→r_,getElem?_eq_getElem→q_,replicate→p_,length_cons→j_,length_set→i_,length_drop→h_,map_congr_left→d_,getElem?_drop→c_,getElem?_append_right→b_,getD_eq_getElem?_getD→a_,getElem?_map→Zx,getElem?_eq_none→Zt
open _root_.Go.Proofs.Tryz renaming prog→x_
open _root_.Go renaming wp_region_still_tail→w_,wpStill_nil→l_
open _root_.Go.IntKind renaming wrap_i64→o_,i64→n_
open _root_.Nat renaming le_refl→m_,lt_or_ge→Zr
open _root_.Go.Oper renaming mk→k_
open _root_.Go.Code renaming wp→g_
open _root_.Go.Region renaming binds→f_
open _root_.Go.World renaming cell?_of_block→e_,cell?_setCell_other→Zv
open _root_.Go.RowKit.Below renaming refl→Zw
open _root_.Exists renaming intro→Zu
open _root_.Go.Value renaming int→Zq
variable{n base G aH bG bI di aY h g0 iR gU iT i kl d bk m dh aL k0:Nat}{K:Nat->Prop}{w W:World}{hs jS gB:Nat->aq}{cb:Nat->Nat}{s aG:an}{mk out r ax:List Int}{op jW lit:Int}{hU:aq}{iJ:List Value}{ds ls kept:List Nat}{X:Nat->List Value}{aK:List Bool}{j7 gx kP gG gp dm gP gr u16 dn dr dw gd dx dy dz dA dB dD dF dG cr ct cu u32 cv cw cz cA cB cC cD cE cF cG cH dH dI gM gK gL bu bw bx bz bA bB bC bD bE bK bL bM bN bO bP u64 bQ bR bS bT bU bV bW bX bY bZ b5 b6 b7 b8 b9 cc cg ck cm cn cp dJ dK dL dM dN dO dP dQ cI cK cL cM cN cO cQ cR cS cT cU cV cW cZ c7 c8 dc dR dS dU dV dW dX dY dZ ec ee ef ei ej ek en eo ep er eu ew ey ez eA eB eC eD eE eF eG eH gh gi gj eL eM eN eO eP eR eS eT eU eV eW eX eY eZ e3 e4 e5 e6 e7 e8 e9 fc fe ff fh fk fm fo fq fu fA fB fC fD fE fF fG fH fI fJ fK fL fM fN fO fP fQ fR gu gv fS fT fU fV fW fZ ga gl gm gn gC lM mM u8 ir iu iw iy iz iA iB iC iD iE iF iG iX iY iZ ja jb jc jd je:Value}{Q:Exit->Act->World->Prop}{F Fd:List (List Int)}{c1 c2:Core}
section
open Go.RowKit Go.Shelf
noncomputable def LQ:Code:=(Tryz.f146.body.bind λ c=>qw c 8).getD .skip
structure sB(K:Nat->Prop)(base:Nat)(w W:World)(G:Nat)(hs:Nat->aq)(cb:Nat->Nat)(s:an)(aH bG bI di aY:Nat)(out mk:List Int)(op:Int)(hU:aq)(iJ:List Value)(r:List Int)(ds:List Nat)(ls:Nat->aq)(X:Nat->List Value):Prop where
 aJ:kN K base w W G hs cb s aH bG bI di aY out mk op hU iJ ls X
 uD:X 9=gT r
 ms:pH w.heap.size W ds
theorem sB.grow{K:Nat->Prop}{base:Nat}{w W W':World}{G:Nat}{hs:Nat->aq}{cb:Nat->Nat}{s:an}{aH bG bI di aY:Nat}{out mk:List Int}{op:Int}{hU:aq}{iJ:List Value}{r:List Int}{ds:List Nat}{ls:Nat->aq}{X:Nat->List Value}(h:sB K base w W G hs cb s aH bG bI di aY out mk op hU iJ r ds ls X)(b:Below W.heap.size W W'):sB K base w W' G hs cb s aH bG bI di aY out mk op hU iJ r ds ls X:=
 ⟨h.aJ.grow b,h.uD,h.ms.below b⟩
theorem sB.wW{K:Nat->Prop}{base:Nat}{w W:World}{G:Nat}{hs:Nat->aq}{cb:Nat->Nat}{s:an}{aH bG bI di aY:Nat}{out mk:List Int}{op:Int}{hU:aq}{iJ:List Value}{r:List Int}{ds:List Nat}{ls:Nat->aq}{X:Nat->List Value}(h:sB K base w W G hs cb s aH bG bI di aY out mk op hU iJ r ds ls X){g:Nat}(c:(hs 12).b=some g)(v:Nat)(b:Bool):sB K base w (W.setCell ⟨g,v,none⟩ (.bool b)) G hs cb (s.tn v b) aH bG bI di aY out mk op hU iJ r ds ls X:=by
 have e:=h.aJ.de.back (h.aJ.de.call.wW c v b).1 (h.aJ.de.call.wW c v b).2;exact⟨h.aJ.vc e.1,h.uD,h.ms.others e.2⟩
theorem LR{l:List Bool}(hl:l.length=n)(h:∀v,jr l v=false):l=p_ n false:=by
 refine List.ext_getElem (by simp[hl]) (λ k h1 b=>?_);rw[<-Bq h1,h k,List.getElem_replicate]
theorem LS{ls:Nat->aq}{jt:Option Addr}{jE jh:Nat}{iU:Option Addr}{jI c9:Nat}
  (H:sB K base w W G hs cb s aH bG bI di aY out mk op hU iJ r ds ls X) (i:ls 6=⟨jt,jE,jh⟩) (ad:jE<=1000) (t:s.aK=aK) (y:∀z:Int,z∈mk↔∃v:Nat,z=v/\jr aK v=true)
  (A:∀(j7 gx kP gG gp dm gP gr u16 dn dr dw gd dx dy dz dA dB dD dF dG cr ct cu u32 cv cw cz cA cB cC cD cE cF cG cH dH dI gM gK gL bu bw bx bz bA bB bC bD bE bK bL bM bN bO bP u64 bQ bR bS bT bU bV bW bX bY bZ b5 b6 b7 b8 b9 cc cg ck cm cn cp dJ dK dL dM dN dO dP dQ cI cK cL cM cN cO cQ cR cS cT cU cV cW cZ c7 c8 dc dR dS dU dV dW dX dY dZ ec ee ef ei ej ek en eo ep er eu ew ey ez eA eB eC eD eE eF eG eH gh gi gj eL eM eN eO eP eR eS eT eU eV eW eX O P R eY eZ e3 e4 e5 e6 e7 e8 e9 fc fe ff fh fk fm fo fq fu fA fB fC fD fE fF fG fH fI fJ fK fL fM fN fO fP fQ fR gu gv fS fT fU fV fW fZ ga:Value)(W':World),sB K base w W' G hs cb {s with aK:=p_ aK.length false} aH bG bI di aY out mk op hU iJ r ds ls X->Q (.exit 8) {tmps:= #[.pointer (some ⟨G,0,none⟩),j7,.pointer (some ⟨aH,0,none⟩),gx,.pointer (some ⟨bG,0,none⟩),.int .i64 0,.pointer (some ⟨bI,0,none⟩),.pointer (some ⟨aY,0,none⟩),.pointer (some ⟨di,0,none⟩),kP,gG,gp,dm,gP,gr,.slice iU jI c9,u16,dn,dr,dw,gd,dx,dy,dz,dA,dB,dD,dF,dG,cr,ct,cu,u32,cv,cw,cz,cA,cB,cC,cD,cE,cF,cG,cH,dH,dI,gM,gK,gL,bu,bw,bx,bz,bA,bB,bC,bD,bE,bK,bL,bM,bN,bO,bP,u64,bQ,bR,bS,bT,bU,bV,bW,bX,bY,bZ,b5,b6,b7,b8,b9,cc,cg,ck,cm,cn,cp,dJ,dK,dL,dM,dN,dO,dP,dQ,cI,cK,cL,cM,cN,cO,cQ,cR,cS,cT,cU,cV,cW,cZ,c7,c8,dc,dR,dS,dU,dV,dW,dX,dY,dZ,ec,ee,ef,ei,ej,ek,en,eo,ep,er,eu,ew,ey,ez,eA,eB,eC,eD,eE,eF,eG,eH,gh,gi,gj,eL,eM,eN,eO,eP,eR,eS,eT,eU,eV,eW,eX,O,P,R,eY,eZ,e3,e4,e5,e6,e7,e8,e9,fc,fe,ff,fh,fk,fm,fo,fq,fu,fA,fB,fC,fD,fE,fF,fG,fH,fI,fJ,fK,fL,fM,fN,fO,fP,fQ,fR,gu,gv,fS,fT,fU,fV,fW,fZ,ga],defers:=ds.map oS} W'):
  g_ x_ LQ Q {tmps:= #[.pointer (some ⟨G,0,none⟩),j7,.pointer (some ⟨aH,0,none⟩),gx,.pointer (some ⟨bG,0,none⟩),.int .i64 0,.pointer (some ⟨bI,0,none⟩),.pointer (some ⟨aY,0,none⟩),.pointer (some ⟨di,0,none⟩),kP,gG,gp,dm,gP,gr,.slice iU jI c9,u16,dn,dr,dw,gd,dx,dy,dz,dA,dB,dD,dF,dG,cr,ct,cu,u32,cv,cw,cz,cA,cB,cC,cD,cE,cF,cG,cH,dH,dI,gM,gK,gL,bu,bw,bx,bz,bA,bB,bC,bD,bE,bK,bL,bM,bN,bO,bP,u64,bQ,bR,bS,bT,bU,bV,bW,bX,bY,bZ,b5,b6,b7,b8,b9,cc,cg,ck,cm,cn,cp,dJ,dK,dL,dM,dN,dO,dP,dQ,cI,cK,cL,cM,cN,cO,cQ,cR,cS,cT,cU,cV,cW,cZ,c7,c8,dc,dR,dS,dU,dV,dW,dX,dY,dZ,ec,ee,ef,ei,ej,ek,en,eo,ep,er,eu,ew,ey,ez,eA,eB,eC,eD,eE,eF,eG,eH,gh,gi,gj,eL,eM,eN,eO,eP,eR,eS,eT,eU,eV,eW,eX,.slice jt jE jh,.int .i64 (jE:Int),.int .i64 0,eY,eZ,e3,e4,e5,e6,e7,e8,e9,fc,fe,ff,fh,fk,fm,fo,fq,fu,fA,fB,fC,fD,fE,fF,fG,fH,fI,fJ,fK,fL,fM,fN,fO,fP,fQ,fR,gu,gv,fS,fT,fU,fV,fW,fZ,ga],defers:=ds.map oS} W:=by
 have S:=U A;have T:=U H;have B:mk.length=jE:=by have:=H.aJ.n6;rw[i] at this;exact this.symm
 have V:=U (z_ i (z_ t (z_ y B)));clear H A t y B
 conv=>arg 2;whnf
 dsimp only
 go_loopw [158] (λ x W'=>∃(k:Nat)(b:List Bool),x=.int .i64 (k:Int)/\k<=jE/\b.length=aK.length/\(∀v:Nat,jr b v=true->jr aK v=true/\¬(v:Int)∈mk.take k)/\sB K base w W' G hs cb {s with aK:=b} aH bG bI di aY out mk op hU iJ r ds ls X) (λ x _=>jE-(intOf x).toNat)
 case atStart=>exact⟨0,aK,rfl,Nat.zero_le _,rfl,λ v h=>⟨h,by simp⟩,by rw[<-V.o.2.1];exact T.o⟩
 case round=>
  obtain⟨k,b,rfl,hk,C,E,F⟩:=hrel;have L:=U F;have D:=U (z_ hk (z_ C E));clear F hk C E
  by_cases j:k<jE
  ·have Y:(k:Int)<(jE:Int):=by omega
   obtain⟨I,l,J⟩:=L.o.aJ.de.rows.addr (r:=6) (by rw[i];show jE≠0;omega);rw[i] at l;have l:jt=some ⟨I,0,none⟩:=l;subst l;have f:k<mk.length:=by rw[V.o.2.2.2];exact j
   obtain⟨v,g,m⟩:=(V.o.2.2.1 (ai mk k)).1 (lY f);have ae:wr.cell? ⟨I,k,none⟩=some (.int .i64 (v:Int)):=by
    refine(L.o.aJ.de.kB J (k:=k) ?_).1;rw[L.o.aJ.kg];unfold gT;rw[Zx,q_ f,<-g,nC f];rfl
   have n:v<b.length:=by rw[D.o.2.1];exact GN m
   have bn:=L.o.aJ.bn;obtain⟨g12,p,M,f12⟩:=L.o.aJ.de.gA.e.lN 16 12 rfl L.o.aJ.de.gA.e.n12 (by show b.length≠0;omega);have af:=f12 v;have c12:=L.o.aJ.de.gA.e.Aa p (k:=v) n;have ag:(v:Int)<(b.length:Int):=by omega
   have M:wr.cell? ⟨G,16,none⟩=some (.slice (some ⟨g12,0,none⟩) b.length (hs 12).c):=M;have ah:n_.wrap ((k:Int)+1)=(k:Int)+1:=by rw[o_];omega
   have d:=U (z_ j (z_ f (z_ g (z_ m (z_ n p)))));clear j f g m n p f12 J
   go_wp2_with fail
   have Z:=L.o.wW d.o.2.2.2.2.2 v false;go_roundw
   case rel=>
    refine⟨k+1,b.set v false,by go_num,by have:=d.o.1;omega,by rw[i_];exact D.o.2.1,λ u hu=>?_,Z⟩;rw[zS] at hu;split at hu
    ·cases hu
    ·rename_i aa;obtain⟨h1,q⟩:=D.o.2.2 u hu;refine⟨h1,λ hm=>?_⟩;rw[yY d.o.2.1,List.mem_append,List.mem_singleton,d.o.2.2.1] at hm;rcases hm with hm|hm
     ·exact q hm
     ·exact aa ⟨by omega,d.o.2.2.2.2.1⟩
   case measure=>have:=d.o;simp[intOf];omega
  ·have Y:¬(k:Int)<(jE:Int):=by omega
   have N:k=jE:=by have:=D.o.1;omega
   have ab:=U N;clear j N
   go_wp2_with fail
   apply S.o;have e:b=p_ aK.length false:=LR D.o.2.1 (λ v=>by
    cases g:jr b v with
    |false=>rfl
    |true=>
     obtain⟨h1,q⟩:=D.o.2.2 v g;refine absurd ?_ q;rw[ab.o,List.take_of_length_le (by rw[V.o.2.2.2];exact m_ _)];exact(V.o.2.2.1 _).2 ⟨v,rfl,h1⟩)
   rw[<-e];exact L.o
noncomputable def LU:Code:=(Tryz.f146.body.bind λ c=>qw c 10).getD .skip
theorem sB.swap{ls:Nat->aq}(h:sB K base w W G hs cb s aH bG bI di aY out mk op hU iJ r ds ls X){g:Nat}(c:(ls 9).b=some g)(i:Nat):
  ∃d,sB K base w ((W.setCell ⟨g,1,none⟩ (.int .i64 (ai r i))).setCell ⟨g,i,none⟩ (.int .i64 (ai r 1))) G hs cb s aH bG bI di aY out mk op hU iJ (kL r 1 i) ds ls d:=by
 obtain⟨e,f⟩:=h.aJ.de.set c 1 (.int .i64 (ai r i));obtain⟨j,k2⟩:=e.set c i (.int .i64 (ai r 1));refine⟨_,⟨j,h.aJ.qP,?_,h.aJ.hM,?_,?_,h.aJ.jK,?_,?_,h.aJ.pJ,?_,h.aJ.rZ,?_,h.aJ.tv,?_⟩,?_,(h.ms.others f).others k2⟩
 all_goals first|(rw[aV _ _ (by omega),aV _ _ (by omega)];first|exact h.aJ.iN|exact h.aJ.jR|exact h.aJ.kC|exact h.aJ.ku|exact h.aJ.kg|exact h.aJ.kI|exact h.aJ.kJ|exact h.aJ.vb)|skip
 rw[jC,jC,h.uD];unfold kL gT;rw[List.map_set,List.map_set]
theorem LV{mJ:List Int}{ls:Nat->aq}{ny j4 kE:Nat}
  (H:sB K base w W G hs cb s aH bG bI di aY out mk op hU iJ mJ ds ls X) (E:ls 9=⟨some ⟨ny,0,none⟩,j4,kE⟩) (aa:1<=j4) (aX:j4<=1000) (a6:n<=60000) (ab:mJ.Nodup) (ad:0<s.c.st.length) (ae:s.c.st.length<=1000000) (i:∀x∈mJ,gF n x) (af:s.c.lvl.length=n+1) (ah:∀x∈mJ,x≠ai mJ 0->1<=aS s.c x/\aS s.c x<s.c.st.length)
  (aj:∀(level:Nat)(r:List Int)(X:Nat->List Value)(j7 gx kP gG gp dm gP gr u16 dn dr dw aE dx dy dz dA dB dD dF dG cr ct cu u32 cv cw cz cA cB cC cD cE cF cG cH dH dI gM gK gL bu bw bx bz bA bB bC bD bE bK bL bM bN bO bP u64 bQ bR bS bT bU bV bW bX bY bZ b5 b6 b7 b8 b9 cc cg ck cm cn cp dJ dK dL dM dN dO dP dQ cI cK cL cM cN cO cQ cR cS cT cU cV cW cZ c7 c8 dc dR dS dU dV dW dX dY dZ ec ee ef ei ej ek en eo ep er eu ew ey ez eA eB eC eD eE eF eG eH gh gi gj eL eM eN eO eP eR eS eT eU eV eW eX gl gm gn eY eZ e3 e4 e5 e6 e7 e8 e9 fc fe ff fh fk fm fo fq fu fA fB fC fD fE fF fG fH fI fJ fK fL fM fN fO fP fQ fR gu gv fS fT fU fV fW fZ ga:Value)(W':World),sB K base w W' G hs cb s aH bG bI di aY out mk op hU iJ r ds ls X->pQ s.c mJ j4 level r->Q (.exit 10) {tmps:= #[.pointer (some ⟨G,0,none⟩),j7,.pointer (some ⟨aH,0,none⟩),gx,.pointer (some ⟨bG,0,none⟩),.int .i64 (level:Int),.pointer (some ⟨bI,0,none⟩),.pointer (some ⟨aY,0,none⟩),.pointer (some ⟨di,0,none⟩),kP,gG,gp,dm,gP,gr,.slice (some ⟨ny,0,none⟩) j4 kE,u16,dn,dr,dw,aE,dx,dy,dz,dA,dB,dD,dF,dG,cr,ct,cu,u32,cv,cw,cz,cA,cB,cC,cD,cE,cF,cG,cH,dH,dI,gM,gK,gL,bu,bw,bx,bz,bA,bB,bC,bD,bE,bK,bL,bM,bN,bO,bP,u64,bQ,bR,bS,bT,bU,bV,bW,bX,bY,bZ,b5,b6,b7,b8,b9,cc,cg,ck,cm,cn,cp,dJ,dK,dL,dM,dN,dO,dP,dQ,cI,cK,cL,cM,cN,cO,cQ,cR,cS,cT,cU,cV,cW,cZ,c7,c8,dc,dR,dS,dU,dV,dW,dX,dY,dZ,ec,ee,ef,ei,ej,ek,en,eo,ep,er,eu,ew,ey,ez,eA,eB,eC,eD,eE,eF,eG,eH,gh,gi,gj,eL,eM,eN,eO,eP,eR,eS,eT,eU,eV,eW,eX,gl,gm,gn,eY,eZ,e3,e4,e5,e6,e7,e8,e9,fc,fe,ff,fh,fk,fm,fo,fq,fu,fA,fB,fC,fD,fE,fF,fG,fH,fI,fJ,fK,fL,fM,fN,fO,fP,fQ,fR,gu,gv,fS,fT,fU,fV,fW,fZ,ga],defers:=ds.map oS} W'):
  g_ x_ LU Q {tmps:= #[.pointer (some ⟨G,0,none⟩),j7,.pointer (some ⟨aH,0,none⟩),gx,.pointer (some ⟨bG,0,none⟩),.int .i64 0,.pointer (some ⟨bI,0,none⟩),.pointer (some ⟨aY,0,none⟩),.pointer (some ⟨di,0,none⟩),kP,gG,gp,dm,gP,gr,.slice (some ⟨ny,0,none⟩) j4 kE,u16,dn,dr,dw,.int .i64 1,dx,dy,dz,dA,dB,dD,dF,dG,cr,ct,cu,u32,cv,cw,cz,cA,cB,cC,cD,cE,cF,cG,cH,dH,dI,gM,gK,gL,bu,bw,bx,bz,bA,bB,bC,bD,bE,bK,bL,bM,bN,bO,bP,u64,bQ,bR,bS,bT,bU,bV,bW,bX,bY,bZ,b5,b6,b7,b8,b9,cc,cg,ck,cm,cn,cp,dJ,dK,dL,dM,dN,dO,dP,dQ,cI,cK,cL,cM,cN,cO,cQ,cR,cS,cT,cU,cV,cW,cZ,c7,c8,dc,dR,dS,dU,dV,dW,dX,dY,dZ,ec,ee,ef,ei,ej,ek,en,eo,ep,er,eu,ew,ey,ez,eA,eB,eC,eD,eE,eF,eG,eH,gh,gi,gj,eL,eM,eN,eO,eP,eR,eS,eT,eU,eV,eW,eX,gl,gm,gn,eY,eZ,e3,e4,e5,e6,e7,e8,e9,fc,fe,ff,fh,fk,fm,fo,fq,fu,fA,fB,fC,fD,fE,fF,fG,fH,fI,fJ,fK,fL,fM,fN,fO,fP,fQ,fR,gu,gv,fS,fT,fU,fV,fW,fZ,ga],defers:=ds.map oS} W:=by
 have aF:=U aj;have aG:=U H;have F:mJ.length=j4:=by have:=H.aJ.de.rows.len 9;rw[H.uD,E] at this;simpa[gT] using this
 have V:=U (z_ E (z_ aa (z_ ab (z_ ad (z_ ae (z_ i (z_ af (z_ ah F))))))));clear H aj E ab ad ae i af ah F
 conv=>arg 2;whnf
 dsimp only
 go_loopw [5,20] (λ aK I W'=>∃(k level:Nat)(r:List Int)(X:Nat->List Value),aK=.int .i64 (level:Int)/\I=.int .i64 (k:Int)/\1<=k/\k<=j4/\pQ s.c mJ k level r/\sB K base w W' G hs cb s aH bG bI di aY out mk op hU iJ r ds ls X) (λ _ I _=>j4-(intOf I).toNat)
 case atStart=>exact⟨1,0,mJ,X,rfl,rfl,m_ _,aa,pQ.start V.o.2.2.1 V.o.2.2.2.1,aG.o⟩
 case round=>
  obtain⟨k,level,r,X,rfl,rfl,ak,hk,J,al⟩:=hrel;have L:=U al;have D:=U (z_ ak (z_ hk J));have F:r.length=j4:=J.len.trans V.o.2.2.2.2.2.2.2.2;clear al hk J ak
  by_cases i:k<j4
  ·have aL:(k:Int)<(j4:Int):=by omega
   have A:k<r.length:=by omega
   obtain⟨x,f⟩:∃x,ai r k=x:=⟨_,rfl⟩
   have M:x∈mJ:=(D.o.2.2.mem x).1 (by rw[<-f];exact lY A);have ao:=V.o.2.2.2.2.2.1 x M;have ar:(ls 9).b=some ny:=by rw[V.o.1];rfl
   have N:∀j,j<j4->wr.cell? ⟨ny,j,none⟩=some (.int .i64 (ai r j))/\wr.frozen? ⟨ny,j,none⟩=false:=λ j a7=>L.o.aJ.de.kB ar (k:=j) (by
    rw[L.o.uD];unfold gT;rw[Zx,q_ (by omega),nC (by omega)];rfl)
   have l:=(N k i).1;rw[f] at l;have bn:=L.o.aJ.bn;obtain⟨v,p⟩:∃v,aI x=v:=⟨_,rfl⟩
   have aM:v<=n:=by have:=ao.2;omega
   have aN:bF (∀w:World,Calls x_ 97 #[.int .i64 x] w λ e w'=>e=.returned (.int .i64 (v:Int))/\w=w'):=U (λ w=>by have:=sM x w (by unfold aI at p;omega) (by unfold aI at p;omega);rw[p] at this;exact this);obtain⟨g2,au,aO,f2⟩:=L.o.aJ.de.gA.e.lN 3 2 rfl L.o.aJ.de.gA.e.lD (by have:=V.o;omega);have c2:=L.o.aJ.de.gA.e.v7 au (k:=v) (by have:=V.o;omega);have a8:(v:Int)<(s.c.lvl.length:Int):=by have:=V.o;omega
   obtain⟨y,O⟩:∃y,gO s.c.lvl v=y:=⟨_,rfl⟩
   rw[O] at c2;have a':n_.wrap ((k:Int)+1)=(k:Int)+1:=by rw[o_];omega
   have P:aS s.c (ai r k)=y:=by rw[f];show gO s.c.lvl (aI x)=y;rw[p,O]
   have av:x≠ai mJ 0:=by
    rw[<-f,<-D.o.2.2.ag];intro e;have:=uT D.o.2.2.nu A (by omega) e;have:=D.o.1;omega
   have R:=V.o.2.2.2.2.2.2.2.1 x M av;rw[show aS s.c x=y by rw[<-P,f]] at R;have d:=U (z_ f (z_ A (z_ i (z_ P (z_ R N)))));clear f A M ao p aM O P av R au f2 N ar
   go_wp2_with fail
   refine w_ 11 (by kernel_rfl) (by kernel_rfl) ?_;simp only[v_,s_,u_,t_]
   iterate 8 still_step
   still_call ((aN.o _).mono (λ e w' h=>⟨h.1,h.2.symm⟩))
   iterate 2 still_step
   refine l_ ?_;change wpList _ _ _ _ _ wr.drew;have S:=U (L.o.grow ((Zw _ wr).drew));have l:wr.drew.cell? ⟨ny,k,none⟩=some (.int .i64 x):=l;have c1:wr.drew.cell? ⟨ny,1,none⟩=some (.int .i64 (ai r 1)):=(d.o.2.2.2.2.2 1 (by have:=D.o;have:=d.o.2.2.1;omega)).1;have f1:wr.drew.frozen? ⟨ny,1,none⟩=false:=(d.o.2.2.2.2.2 1 (by have:=D.o;have:=d.o.2.2.1;omega)).2;have aw:wr.drew.frozen? ⟨ny,k,none⟩=false:=(d.o.2.2.2.2.2 k d.o.2.2.1).2;have aP:(1:Int)<(j4:Int):=by have:=D.o;have:=d.o.2.2.1;omega
   clear bn aO c2;generalize wr.drew=ax at*
   by_cases B:level<y
   ·have d1:decide ((level:Int)<(y:Int))=true:=by simp;omega
    have aQ:(level:Int)<(y:Int):=by omega
    have C:=U B;clear B;obtain⟨z,T⟩:∃z,ai r 1=z:=⟨_,rfl⟩
    rw[T] at c1;have ay:=U T;clear T
    by_cases az:k=1
    ·subst az;obtain rfl:z=x:=by rw[<-ay.o,d.o.1]
     go_upto_region 46 with fail
     clear aw l
     go_region_held3 (λ w'=>w'.cell? ⟨ny,1,none⟩=some (.int .i64 z)/\w'.frozen? ⟨ny,1,none⟩=false) (first|exact⟨c1,f1⟩|(refine⟨?_,?_⟩<;>go_simp)) (fail)
     all_goals
      go_wp2_with fail
      obtain⟨Y,q⟩:=S.o.swap (g:=ny) (by rw[V.o.1];rfl) 1;rw[d.o.1] at q;go_roundw
      case rel=>
       refine⟨1+1,y,_,Y,rfl,by go_num,by omega,by have:=d.o.2.2.1;omega,?_,q.grow ((Zw _ _).drew)⟩;have:=D.o.2.2.iS D.o.1 d.o.2.1 (by rw[d.o.2.2.2.1];exact C.o) (by rw[d.o.2.2.2.1];exact d.o.2.2.2.2.1.2);rw[d.o.2.2.2.1] at this;exact this
      case measure=>have:=d.o;simp[intOf];omega
    ·have aA:1≠k:=λ e=>az e.symm
     have aR:¬1=k:=aA
     go_upto_region 46 with fail
     have aB:(k:Int)<(j4:Int):=by have:=d.o.2.2.1;omega
     refine Ao (tq Tryz.f146 46) 13 11 12 204 [some 190,some 191,some 192,some 193,some 194,some 195,some 196,some 197,some 198,some 199,some 200,none,some 201,none] _ [(15,.slice (some ⟨ny,0,none⟩) j4 kE),(20,.int .i64 (k:Int))] (λ _=>True) [.slice (some ⟨ny,0,none⟩) j4 kE,.slice (some ⟨ny,0,none⟩) j4 kE,.int .i64 (k:Int),.slice (some ⟨ny,0,none⟩) j4 kE,.int .i64 (k:Int),.pointer (some ⟨ny,k,none⟩),.int .i64 x,.slice (some ⟨ny,0,none⟩) j4 kE,.pointer (some ⟨ny,1,none⟩),.int .i64 z,.pointer (some ⟨ny,1,none⟩),undef,undef] (ax.drew.setCell ⟨ny,1,none⟩ (.int .i64 x)) (λ v w'=>v=.pointer (some ⟨ny,k,none⟩)/\w'=(ax.drew.setCell ⟨ny,1,none⟩ (.int .i64 x))) (by kernel_rfl) (by kernel_rfl) (by kernel_rfl) rfl (by kernel_rfl) (by kernel_rfl) rfl ⟨rfl,rfl,trivial⟩ trivial trivial (λ _ _ _=>trivial) (λ m ag Z hp=>?_) (λ m ag Z hp=>?_) ?_ ?_
     ·have h1:m (.tmp 200)=.pointer (some ⟨ny,1,none⟩):=ag.1 rfl (by decide) (by decide) _ rfl;have t:m (.tmp 196)=.int .i64 x:=ag.2.1 rfl (by decide) (by decide) _ rfl;show aZ _ _ (k_ _ _ _ _ _ _) _ _;simp[aZ,execOp,gE,go_sem,h1,t,c1,f1]
     ·have h1:m (.tmp 191)=.slice (some ⟨ny,0,none⟩) j4 kE:=ag.1 rfl (by decide) (by decide) _ rfl;have t:m (.tmp 192)=.int .i64 (k:Int):=ag.2.1 rfl (by decide) (by decide) _ rfl;show aZ _ _ (k_ _ _ _ _ _ _) _ _;simp[aZ,execOp,gE,go_sem,h1,t,aB]
     ·refine⟨?_,?_,?_,?_,?_,?_,?_,?_,?_,?_,?_,?_,?_,trivial⟩
      all_goals
       intro h1 t m w _ aT ag Z hp
       first
        |exact absurd rfl h1
        |exact absurd rfl t
        |(obtain⟨aU,aV,-⟩:=Z;(try obtain rfl:=aT rfl);(try simp[pI,qq,f_] at ag);simp[aZ,execOp,gE,go_sem,aU,aV,ag,c1,l,aB,aP,hp.1];done)
     rintro u v w' ⟨rfl,rfl⟩ ba aC;simp[oJ,Act.put,k6] at aC;subst aC;rw[show((tq Tryz.f146 46).getD 13 default).dst=none from rfl];show aZ _ _ (k_ _ _ _ _ _ _) _ _;simp[aZ,execOp,gE,go_sem,Act.eval,Act.put,l,aw,aA,aR]
     iterate 1
      go_wp2_with fail
      obtain⟨Y,q⟩:=S.o.swap (g:=ny) (by rw[V.o.1];rfl) k;rw[d.o.1,ay.o] at q;go_roundw
      case rel=>
       refine⟨k+1,y,_,Y,rfl,by go_num,by omega,by have:=d.o.2.2.1;omega,?_,q.grow ((Zw _ _).drew)⟩;have:=D.o.2.2.iS D.o.1 d.o.2.1 (by rw[d.o.2.2.2.1];exact C.o) (by rw[d.o.2.2.2.1];exact d.o.2.2.2.2.1.2);rw[d.o.2.2.2.1] at this;exact this
      case measure=>have:=d.o;simp[intOf];omega
   ·have d1:decide ((level:Int)<(y:Int))=false:=by simp;omega
    have aQ:¬(level:Int)<(y:Int):=by omega
    have C:=U B;clear B
    go_wp2_with fail
    go_roundw
    case rel=>
     exact⟨k+1,level,r,X,rfl,by go_num,by omega,by have:=d.o.2.2.1;omega,D.o.2.2.stay D.o.1 d.o.2.1 (by rw[d.o.2.2.2.1];have:=C.o;omega) (λ e=>by subst e;rw[d.o.2.2.2.1];exact d.o.2.2.2.2.1.1),S.o⟩
    case measure=>have:=d.o;simp[intOf];omega
  ·have aL:¬(k:Int)<(j4:Int):=by omega
   have aD:k=j4:=by have:=D.o;omega
   have aW:=U aD;clear i aD
   go_wp2_with fail
   apply aF.o
   ·exact L.o
   ·rw[<-aW.o];exact D.o.2.2
def GW(K:Nat->Prop)(base:Nat)(w:World)(G:Nat)(hs:Nat->aq)(cb:Nat->Nat)(n:Nat)(f:Int)(F:List (List Int))(aG:an)(e:Ending)(w':World):Prop:=
 ∃(bk c level:Nat)(l:List Int)(s':an),e=.returned (.tuple #[.slice (some ⟨bk,0,none⟩) l.length c,.int .i64 (level:Int)])/\uU F aG.c l level/\aP K base w' G hs cb s'/\aF K w w'/\ou aG s'/\mh n jl (f+16*jl) s'/\
  w'.ownsRow base 3 1 (.slice (some ⟨bk,0,none⟩) l.length c) l.length (gT l)/\(bk≠G/\(∀r,(hs r).b≠some bk)/\∀d,d<s'.c.cl.length->cb d≠bk)/\¬K bk
def vF(lp aH lR:Nat):Value:=.func (.func 185) #[] #[.pointer (some ⟨lp,0,none⟩),.pointer (some ⟨aH,0,none⟩),.pointer (some ⟨lR,0,none⟩)]
theorem q7.make{V:World}{ls:Nat->aq}(L:kN K base w V G hs cb s aH bG bI di aY out mk op hU iJ ls X)(i:pH w.heap.size V ds)(u:Int):
  ∃b j,b 9=⟨some ⟨V.heap.size+1+1+1,0,none⟩,1,1⟩/\b 5=ls 5/\b 6=ls 6/\q7 K base w ((((V.alloc (.map #[] 0)).alloc (.cells #[.map (some V.heap.size)] 114)).alloc (.cells #[vF (V.heap.size+1) aH (V.heap.size+1+1)] 129)).alloc (.cells #[.int .i64 u] 3)) G hs cb s aH bG bI di aY (V.heap.size+1) (V.heap.size+1+1) V.heap.size 0 DW out mk op hU iJ [u] ds b j:=by
 have k:=L.de.grow (bg V (.map #[] 0));have s1:(V.alloc (.map #[] 0)).heap.size=V.heap.size+1:=by simp
 have c:=k.box 7 (.map (some V.heap.size));rw[s1] at c;have c:iK K base w ((V.alloc (.map #[] 0)).alloc (.cells #[.map (some V.heap.size)] 114)) G hs cb s _ _:=c;have s2:((V.alloc (.map #[] 0)).alloc (.cells #[.map (some V.heap.size)] 114)).heap.size=V.heap.size+1+1:=by simp
 have d:=c.box 8 (vF (V.heap.size+1) aH (V.heap.size+1+1));rw[s2] at d;have d:iK K base w (((V.alloc (.map #[] 0)).alloc (.cells #[.map (some V.heap.size)] 114)).alloc (.cells #[vF (V.heap.size+1) aH (V.heap.size+1+1)] 129)) G hs cb s _ _:=d;have s3:(((V.alloc (.map #[] 0)).alloc (.cells #[.map (some V.heap.size)] 114)).alloc (.cells #[vF (V.heap.size+1) aH (V.heap.size+1+1)] 129)).heap.size=V.heap.size+1+1+1:=by simp
 have hw:=L.de.iQ.size;have l:=d.fresh (r:=9) (h':=⟨some ⟨V.heap.size+1+1+1,0,none⟩,1,1⟩) (ys:=gT [u]) (bg _ (.cells (gT [u]).toArray 3)) (by have:=DE (((V.alloc (.map #[] 0)).alloc (.cells #[.map (some V.heap.size)] 114)).alloc (.cells #[vF (V.heap.size+1) aH (V.heap.size+1+1)] 129)) w.heap.size [u] 1 rfl (by omega) (by omega);rw[s3] at this;exact this) (λ g e=>by
  have f:some (V.heap.size+1+1+1)=some g:=e;injection f with f
  omega)
 have m:mT 4 tB ((((V.alloc (.map #[] 0)).alloc (.cells #[.map (some V.heap.size)] 114)).alloc (.cells #[vF (V.heap.size+1) aH (V.heap.size+1+1)] 129)).alloc (.cells #[.int .i64 u] 3)) V.heap.size 0 DW:=(((mT.made V).alloc _).alloc _).alloc _;have n:Below V.heap.size V ((((V.alloc (.map #[] 0)).alloc (.cells #[.map (some V.heap.size)] 114)).alloc (.cells #[vF (V.heap.size+1) aH (V.heap.size+1+1)] 129)).alloc (.cells #[.int .i64 u] 3)):=((((Zw _ V).alloc (m_ _) _).alloc (by simp) _).alloc (by omega) _).alloc (by omega) _;refine⟨_,_,jC _ _ _,?_,?_,⟨⟨l,?_,?_,?_,?_,?_,?_,?_,?_,?_,?_,?_,?_,?_,?_⟩,?_,?_,?_,?_,jC _ _ _,m,(λ y h=>by cases h),hw,i.below n⟩⟩
 ·rw[aV _ _ (by omega),aV _ _ (by omega),aV _ _ (by omega)]
 ·rw[aV _ _ (by omega),aV _ _ (by omega),aV _ _ (by omega)]
 ·rw[aV _ _ (by omega),aV _ _ (by omega),aV _ _ (by omega)];exact L.qP
 ·rw[aV _ _ (by omega),aV _ _ (by omega),aV _ _ (by omega)];exact L.iN
 ·rw[aV _ _ (by omega),aV _ _ (by omega),aV _ _ (by omega)];exact L.hM
 ·rw[aV _ _ (by omega),aV _ _ (by omega),aV _ _ (by omega),aV _ _ (by omega),aV _ _ (by omega),aV _ _ (by omega)];exact L.jR
 ·rw[aV _ _ (by omega),aV _ _ (by omega),aV _ _ (by omega)];exact L.kC
 ·rw[aV _ _ (by omega),aV _ _ (by omega),aV _ _ (by omega)];exact L.jK
 ·rw[aV _ _ (by omega),aV _ _ (by omega),aV _ _ (by omega),aV _ _ (by omega),aV _ _ (by omega),aV _ _ (by omega)];exact L.ku
 ·rw[aV _ _ (by omega),aV _ _ (by omega),aV _ _ (by omega)];exact L.kg
 ·rw[aV _ _ (by omega),aV _ _ (by omega),aV _ _ (by omega)];exact L.pJ
 ·rw[aV _ _ (by omega),aV _ _ (by omega),aV _ _ (by omega)];exact L.kI
 ·rw[aV _ _ (by omega),aV _ _ (by omega),aV _ _ (by omega)];exact L.rZ
 ·rw[aV _ _ (by omega),aV _ _ (by omega),aV _ _ (by omega)];exact L.kJ
 ·rw[aV _ _ (by omega),aV _ _ (by omega),aV _ _ (by omega)];exact L.tv
 ·rw[aV _ _ (by omega),aV _ _ (by omega),aV _ _ (by omega)];exact L.vb
 ·rw[aV _ _ (by omega),aV _ _ (by omega),jC]
 ·rw[aV _ _ (by omega),aV _ _ (by omega),jC]
 ·rw[aV _ _ (by omega),jC]
 ·rw[aV _ _ (by omega),jC];rfl
theorem iK.shut{W':World}{ls:Nat->aq}(h:iK K base w W G hs cb s ls X)(k:pH w.heap.size W ds)(c:Shut ds W W'):iK K base w W' G hs cb s ls X:=by
 have g:∀b cs t l,W.heap[b]? =some (Obj.cells cs t l)->W'.heap[b]? =W.heap[b]? :=λ b cs t l f=>c.block b (λ i=>by
  have h1:=(k.kB b i).2;rw[f] at h1;cases h1)
 have hblk:∀{b:Nat}{t:TypeId}{cs:List Value},aM W b t cs->aM W' b t cs:=λ m=>(g _ _ _ _ m).trans m
 refine⟨⟨⟨hblk h.gA.e.box,⟨λ r=>mK (h.gA.e.rows.row r) (λ b j=>?_),h.gA.e.rows.apart⟩,λ d n=>hblk (h.gA.e.cls d n),h.gA.e.inj,h.gA.e.rB,h.gA.e.rW⟩,h.gA.s.more (by rw[c.size];exact m_ _)⟩,⟨λ r=>mK (h.rows.row r) (λ b j=>?_),h.rows.apart⟩,⟨c.os.trans h.iQ.os,c.tape.trans h.iQ.tape,c.output.trans h.iQ.output,by rw[c.size];exact h.iQ.size,λ b hk=>(c.block b (λ i=>by have:=(k.kB b i).1;have:=h.kl b hk;omega)).trans (h.iQ.keep b hk)⟩,h.kl⟩
 ·obtain⟨cs,f⟩:=sN (h.gA.e.rows.row r) j;exact g b _ _ _ f
 ·obtain⟨cs,f⟩:=sN (h.rows.row r) j;exact g b _ _ _ f
theorem LX(tmps:Array Value)(b:Nat)(v v5:Value)(W:World)(c:tmps[4]? =some (.pointer (some ⟨b,0,none⟩)))(d:tmps[5]? =some v5)(e:W.cell? ⟨b,0,none⟩=some v):(results Tryz.f146 tmps).run x_ W=.ok (.tuple #[v,v5]) W:=by
 rw[results_cell_tmp (p:=4) (u:=5) (ty:=25) rfl];simp[c,d,e,go_sem]
theorem LY{A:Option Addr}{ig c:Nat}{v:Value}(h:n=ig):Ending.returned (.tuple #[.slice A n c,v])=.returned (.tuple #[.slice A ig c,v]):=by rw[h]
noncomputable def LZ:Code:=nw (nw (nw (nw (nw (nw (Tryz.f146.body.getD .skip))))))
theorem L0{au:List Int}{ls:Nat->aq}{B:Int}{j:Nat}
  (aD:base<=w.heap.size) (C:vE F Fd aG n h jW) (aE:aG.aK=p_ (n+1) false) (aF:B<=jW+16*jl) (H:BY K base w W G hs cb n B F aG aH bG bI di aY op hU iJ j ds s aK au mk ls X):
  g_ x_ LZ (bodyPostM Fence.wide 6 x_ Tryz.f146 (GW K base w G hs cb n jW F aG)) {tmps:= #[.pointer (some ⟨G,0,none⟩),j7,.pointer (some ⟨aH,0,none⟩),gx,.pointer (some ⟨bG,0,none⟩),.int .i64 0,.pointer (some ⟨bI,0,none⟩),.pointer (some ⟨aY,0,none⟩),.pointer (some ⟨di,0,none⟩),.int .i64 (ai aG.c.av j),gG,gp,dm,gP,gr,gC,u16,dn,dr,dw,gd,dx,dy,dz,dA,dB,dD,dF,dG,cr,ct,cu,u32,cv,cw,cz,cA,cB,cC,cD,cE,cF,cG,cH,dH,dI,gM,gK,gL,bu,bw,bx,bz,bA,bB,bC,bD,bE,bK,bL,bM,bN,bO,bP,u64,bQ,bR,bS,bT,bU,bV,bW,bX,bY,bZ,b5,b6,b7,b8,b9,cc,cg,ck,cm,cn,cp,dJ,dK,dL,dM,dN,dO,dP,dQ,cI,cK,cL,cM,cN,cO,cQ,cR,cS,cT,cU,cV,cW,cZ,c7,c8,dc,dR,dS,dU,dV,dW,dX,dY,dZ,ec,ee,ef,ei,ej,ek,en,eo,ep,er,eu,ew,ey,ez,eA,eB,eC,eD,eE,eF,eG,eH,gh,gi,gj,eL,eM,eN,eO,eP,eR,eS,eT,eU,eV,eW,eX,gl,gm,gn,eY,eZ,e3,e4,e5,e6,e7,e8,e9,fc,fe,ff,fh,fk,fm,fo,fq,fu,fA,fB,fC,fD,fE,fF,fG,fH,fI,fJ,fK,fL,fM,fN,fO,fP,fQ,fR,gu,gv,fS,fT,fU,fV,fW,fZ,ga],defers:=ds.map oS} W:=by
 have d:=U H;have i:=U C;have ak:=U (z_ aF (z_ aE aD));have ca:∀(fn:Fn)(first cap:Array Value)(w:World),(Instr.makeFunc fn first cap).run x_ w=.ok (.func fn first cap) w:=λ _ _ _ _=>rfl
 have cd:= @run_makeMap x_;obtain⟨x,T⟩:∃x,ai aG.c.av j=x:=⟨_,rfl⟩
 have al:j<aG.c.av.length:=by have:=H.li.qY;omega
 have ao:gF n x:=by have:=C.gH.au.lit _ (lY al);rw[T,C.gV] at this;exact this
 obtain⟨go,aL,ar⟩:=H.aJ.de.rows.addr (r:=5) (by rw[H.aJ.jZ];simp);have Y:ls 5=⟨some ⟨go,0,none⟩,au.length+1,(ls 5).c⟩:=by
  have h1:=H.aJ.jZ;rw[j_] at h1;rw[<-h1,<-aL]
 have co:W.cell? ⟨bG,0,none⟩=some (.slice (some ⟨go,0,none⟩) (au.length+1) (ls 5).c):=by have co:=H.aJ.co.1;rw[Y] at co;exact co
 obtain⟨P,aw⟩:∃t,au.length=t:=⟨_,rfl⟩
 obtain⟨c5,aM⟩:∃t,(ls 5).c=t:=⟨_,rfl⟩
 rw[aw,aM] at co Y;have g0:=H.aJ.de.kB ar (k:=0) (v:=.int .i64 0) (by rw[H.aJ.kC];rfl);have gc:=g0.1;have gf:=g0.2;have cf:n_.wrap (-x)= -x:=by rw[o_];have h1:=ao.2;have z:=C.n10;unfold aI at h1;omega
 have l:=U (z_ T (z_ ao (z_ al (z_ Y (z_ ar aw)))));rw[T];clear H C aF aE T ao al aL ar Y aw aM g0 aD
 conv=>arg 2;whnf
 dsimp only
 go_upto_region 25 with fail
 obtain⟨ch,E,aN⟩:=d.o.aJ.Ll l.o.2.2.2.2.1 0 (-x);have aO:=d.o.ms.others aN;obtain⟨cj,cq,J,aP,aQ,I⟩:=q7.make E aO (-x);have I:=U I;have c0:(W.setCell ⟨go,0,none⟩ (.int .i64 (-x))).cell? ⟨go,0,none⟩=some (.int .i64 (-x)):=(E.de.kB l.o.2.2.2.2.1 (k:=0) (v:=.int .i64 (-x)) (by rw[E.kC];rfl)).1;have co:=E.co.1;rw[l.o.2.2.2.1] at co;have co:(W.setCell ⟨go,0,none⟩ (.int .i64 (-x))).cell? ⟨bG,0,none⟩=some (.slice (some ⟨go,0,none⟩) (P+1) c5):=co;have bl:=(E.de.lt l.o.2.2.2.2.1).2;have bn:=(E.de.lt E.aU).2;have Q:=U (z_ J (z_ aP aQ));clear E aN aO J aP aQ gc gf;generalize W.setCell ⟨go,0,none⟩ (.int .i64 (-x))=V at*
 go_upto_region 28 with fail
 have Z:Below V.heap.size V (((V.alloc (.map #[] 0)).alloc (.cells #[.map (some V.heap.size)] 114)).alloc (.cells #[vF (V.heap.size+1) aH (V.heap.size+1+1)] 129)):=(((Zw _ V).alloc (m_ _) _).alloc (by simp) _).alloc (by simp;omega) _;have bo:(((V.alloc (.map #[] 0)).alloc (.cells #[.map (some V.heap.size)] 114)).alloc (.cells #[vF (V.heap.size+1) aH (V.heap.size+1+1)] 129)).heap.size=V.heap.size+1+1+1:=by simp
 unfold vF at I Z bo;have co:=(e_ (a:=⟨bG,0,none⟩) (Z.block bG bn)).trans co;have c0:=(e_ (a:=⟨go,0,none⟩) (Z.block go bl)).trans c0;clear Z;generalize (((V.alloc (.map #[] 0)).alloc (.cells #[.map (some V.heap.size)] 114)).alloc (.cells #[.func (.func 185) #[] #[.pointer (some ⟨V.heap.size+1,0,none⟩),.pointer (some ⟨aH,0,none⟩),.pointer (some ⟨V.heap.size+1+1,0,none⟩)]] 129))=aR at*
 go_upto_region 29 with fail
 have aa:(aR.alloc (.cells #[.int .i64 (-x)] 3)).cell? ⟨bG,0,none⟩=some (.slice (some ⟨go,0,none⟩) (P+1) c5):=by
  have aa:=I.o.aJ.co.1;rw[Q.o.2.1,l.o.2.2.2.1] at aa;exact aa
 have bp:P+1<=c5:=by
  have h1:=I.o.aJ.de.gA.e.rows;have z:=I.o.aJ.de.rows.row 5;rw[Q.o.2.1,l.o.2.2.2.1] at z;rcases z.2 with⟨ab,_⟩|⟨g,cap,cur,ab,_,_,ad,_⟩
  ·cases ab
  ·simp only[aq.v] at ab;injection ab with cx cy cJ
   have ad:P+1<=cap:=ad;omega
 clear co c0;generalize aR.alloc (.cells #[.int .i64 (-x)] 3)=cP at*;have aT:P<=20:=by
  have h1:=d.o.sS;have z:=DU d.o.sR d.o.qR;have bq:=d.o.li.tS;have br:=i.o.gV;have ad:=i.o.n10;have R:=l.o.2.2.2.2.2;omega
 go_wp2_with fail
 all_goals
  refine LO i.o I.o (Q.o.2.1.trans l.o.2.2.2.1) Q.o.1 l.o.2.2.2.2.2 aT d.o.kT.c d.o.kT.aK (by have:=d.o.li.tS;rw[i.o.gV] at this;exact this) (λ y f=>(d.o.li.uu y f).1) (λ cX=>by first|rfl|(exfalso;omega)) ?_;intro m5 f5 L bs jI c9 ax bt j7 gx aW gG gp dm gP gr u16 dn dr dw gd dx dy dz dA dB dD dF dG cr ct cu u32 cv cw cz cA cB cC cD cE cF cG cH dH dI gM gK gL bu bw bx bz bA bB bC bD bE bK bL bM bN bO bP u64 bQ bR bS bT bU bV bW bX bY bZ b5 b6 b7 b8 b9 cc cg ck cm cn cp dJ dK dL dM dN dO dP dQ cI cK cL cM cN cO cQ cR cS cT cU cV cW cZ c7 c8 dc dR dS dU dV dW dX dY dZ ec ee ef ei ej ek en eo ep er eu ew ey ez eA eB eC eD eE eF eG eH gh gi gj eL eM eN eO eP eR eS eT eU eV eW eX gl gm gn eY eZ e3 e4 e5 e6 e7 e8 e9 fc fe ff fh fk fm fo fq fu fA fB fC fD fE fF fG fH fI fJ fK fL fM fN fO fP fQ fR gu gv fS fT fU fV fW fZ ga aX u J ae aZ;have bF:∀y∈au,-y∈aG.c.av:=λ y f=>(d.o.li.uu y f).1
  have a6:gU F aG.c (-x) L:=by
   have C:=i.o;have H:=d.o;have ay:ai aG.c.av j=x:=l.o.1;have a7:=H.li.done C.gH.au H.x7 H.one;rw[ay] at a7;have bH:lu aG.c.st j=aG.c.st.length:=oy.top C.gH.au H.li;refine⟨Km C.gH.au C.gH.jG H.li.wS (λ y f=>⟨(H.li.uu y f).1,(H.li.uu y f).2.2.1⟩) a7 aZ,by rw[Int.neg_neg,<-ay];exact lY l.o.2.2.1,?_,λ y f=>?_,ae.nodup H.li.xR⟩
   ·show gO aG.c.lvl (aI (-x))=_;rw[oG,<-ay];exact(C.gH.au.mz j l.o.2.2.1).trans bH
   ·have:=H.li.uu y (ae.subset f);exact⟨this.1,this.2.1,this.2.2.1⟩
  obtain⟨N,af,ag⟩:=u.aJ.de.rows.addr (r:=9) (by have:=u.jI;rw[j_] at this;omega);rw[J] at af;have af:bs=some ⟨N,0,none⟩:=af;subst af;have a8:jI=L.length+1:=by have:=u.jI;rw[J,j_] at this;exact this
  obtain⟨a',ah,jh,R⟩:∃A n c,ax 6=⟨A,n,c⟩:=⟨_,_,_,rfl⟩
  have bJ:aX.cell? ⟨bI,0,none⟩=some (.slice a' ah jh):=by have:=u.aJ.jh.1;rw[R] at this;exact this
  have ba:ah<=1000:=by
   have h1:=u.aJ.n6;rw[R] at h1;have h1:ah=mk.length:=h1;have z:=DU d.o.sR d.o.qR;have bq:=d.o.li.tS;have br:=i.o.gV;have ad:=i.o.n10;omega
  have bb:L.length<=20:=by have:=ae.length_le;have:=l.o.2.2.2.2.2;omega
  have bc:sB K base w aX G hs cb s aH bG bI di aY (-x::au) mk op hU iJ (-x::L) ds ax bt:=⟨u.aJ,u.uD,u.ms⟩
  have p:=U (z_ bc (z_ J (z_ a6 (z_ a8 bb))));clear bc u J ae aZ aa bp aT bF a6 ag bb I Q a8
  go_wp2_with fail
  refine LS (jI:=jI) p.o.1 R ba d.o.kT.aK d.o.qR ?_;intro j7 gx aW gG gp dm gP gr u16 dn dr dw gd dx dy dz dA dB dD dF dG cr ct cu u32 cv cw cz cA cB cC cD cE cF cG cH dH dI gM gK gL bu bw bx bz bA bB bC bD bE bK bL bM bN bO bP u64 bQ bR bS bT bU bV bW bX bY bZ b5 b6 b7 b8 b9 cc cg ck cm cn cp dJ dK dL dM dN dO dP dQ cI cK cL cM cN cO cQ cR cS cT cU cV cW cZ c7 c8 dc dR dS dU dV dW dX dY dZ ec ee ef ei ej ek en eo ep er eu ew ey ez eA eB eC eD eE eF eG eH gh gi gj eL eM eN eO eP eR eS eT eU eV eW eX gl gm gn eY eZ e3 e4 e5 e6 e7 e8 e9 fc fe ff fh fk fm fo fq fu fA fB fC fD fE fF fG fH fI fJ fK fL fM fN fO fP fQ fR gu gv fS fT fU fV fW fZ ga cY az;have az:=U az;clear bJ ba R a' ah jh
  go_wp2_with fail
  have aj:=i.o.gH.au;have O:s.c=aG.c:=d.o.kT.c;have bd:=p.o.2.2.1.nodup aj;have bf:∀y∈-x::L,gF n y:=λ y f=>by
   have h1: -y∈aG.c.av:=by
    rcases List.mem_cons.1 f with rfl|f
    ·exact p.o.2.2.1.F2
    ·exact(p.o.2.2.1.BD y f).1
   have:=aj.lit _ h1;rw[i.o.gV] at this;have:=this.neg
   rwa[Int.neg_neg] at this
  refine LV (n:=n) az.o p.o.2.1 (by have:=p.o.2.2.2.1;omega) (by have:=p.o.2.2.2;omega) (by have:=i.o.n10;omega) bd (by show 0<s.c.st.length;rw[O];exact i.o.st1) (by show s.c.st.length<=_;rw[O];exact i.o.st2) bf (by show s.c.lvl.length=_;rw[O,aj.pN,i.o.gV]) (λ y f bg=>by
   have h1:ai (-x::L) 0= -x:=rfl;rw[h1] at bg;show 1<=aS s.c y/\aS s.c y<s.c.st.length;rw[O];rcases List.mem_cons.1 f with z|f
   ·exact absurd z bg
   ·exact(p.o.2.2.1.BD y f).2) ?_
  intro level aA da j7 gx aW gG gp dm gP gr u16 dn dr dw gd dx dy dz dA dB dD dF dG cr ct cu u32 cv cw cz cA cB cC cD cE cF cG cH dH dI gM gK gL bu bw bx bz bA bB bC bD bE bK bL bM bN bO bP u64 bQ bR bS bT bU bV bW bX bY bZ b5 b6 b7 b8 b9 cc cg ck cm cn cp dJ dK dL dM dN dO dP dQ cI cK cL cM cN cO cQ cR cS cT cU cV cW cZ c7 c8 dc dR dS dU dV dW dX dY dZ ec ee ef ei ej ek en eo ep er eu ew ey ez eA eB eC eD eE eF eG eH gh gi gj eL eM eN eO eP eR eS eT eU eV eW eX gl gm gn eY eZ e3 e4 e5 e6 e7 e8 e9 fc fe ff fh fk fm fo fq fu fA fB fC fD fE fF fG fH fI fJ fK fL fM fN fO fP fQ fR gu gv fS fT fU fV fW fZ ga db bh S;have S:pQ s.c (-x::L) jI level aA:=S;rw[O] at S;have q:=U (z_ bh S);have bj:=U p.o.2.1;clear bh S bd bf aj O;have dd:=q.o.1.aJ.co.1;have df:=q.o.1.aJ.co.2
  go_wp2_with fail
  obtain⟨b0,k8⟩:=q.o.1.aJ.de.set q.o.1.aJ.aU 0 (.slice (some ⟨N,0,none⟩) jI c9);have aB:=q.o.1.ms.others k8;refine Bl ds rfl aB.nu (λ D b1=>(aB.kB D b1).2) (λ W' b2=>?_);have M:=b0.shut aB b2;have b3:=(M.kB q.o.1.aJ.aU (k:=0) (v:=.slice (some ⟨N,0,none⟩) jI c9) (by rw[jC,q.o.1.aJ.jR];rfl)).1;refine⟨_,LX _ bG _ _ W' rfl rfl b3,?_⟩;have aC:aA.length=jI:=by have:=q.o.2.len;rw[this,j_];exact p.o.2.2.2.1.symm
  have bk:=M.rows.row 9;rw[bj.o,aV _ _ (by omega),q.o.1.uD] at bk;have b4:({s with aK:=p_ aK.length false}:an)={s with aK:=aG.aK}:=by
   rw[ak.o.2.1,d.o.li.tS,i.o.gV]
  have ag:(ax 9).b=some N:=by rw[bj.o];rfl
  have m:=d.o.kT.rg.mono (Int.le_refl _) ak.o.1;refine⟨N,c9,level,aA,_,LY aC.symm,q.o.2.done aC p.o.2.2.1 i.o.gH.au,M.gA.BA (λ b b'=>.inl b'),M.iQ,by rw[b4];exact d.o.kT.hk,⟨m.gV,m.lJ,m.kM,m.pR,m.a0,m.rG,m.oU,m.nE,m.oV,m.nX,m.qg,m.kW⟩,?_,M.off ag,λ hk=>?_⟩
  ·rw[aC];exact yQ bk ak.o.2.2
  ·have h1:=M.kl N hk;have z:=(M.lt ag).1;omega
theorem L1(E:aP K base w G hs cb aG)(C:vE F Fd aG n h jW)(r:mh n jl jW aG)(M:aG.aK=p_ (n+1) false){d:Nat}(N:d<aG.c.cl.length)(O:∀x∈aA aG.c.cl d,-x∈aG.c.av):
  Calls x_ 146 #[.pointer (some ⟨G,0,none⟩),.pointer (some ⟨cb d,0,none⟩)] w (GW K base w G hs cb n jW F aG):=by
 have P:=U E;have m:=U C;have nU:=U r;have b:=U (z_ M (z_ N O));have aB:∀(fn:Fn)(first cap:Array Value)(w:World),(Instr.makeFunc fn first cap).run x_ w=.ok (.func fn first cap) w:=λ _ _ _ _=>rfl
 have aC:= @run_makeMap x_;clear E C r M N O;refine Bk Tryz.func146 rfl ?_;simp only[Tryz.ntmps146,List.size_toArray,j_,List.length_nil,Nat.reduceAdd,Nat.reduceSub,Array.replicate_succ,Array.replicate_zero,List.push_toArray,List.append_toArray,List.nil_append,List.cons_append]
 go_upto_region 2 with fail
 have Q:=((iK.start P.o).box 0 (.pointer (some ⟨G,0,none⟩))).box 1 (.slice none 0 0);have f:=Q.box 2 (.slice none 0 0);have R:(w.alloc (.cells #[.pointer (some ⟨G,0,none⟩)] 115)).heap.size=w.heap.size+1:=by simp
 have S:((w.alloc (.cells #[.pointer (some ⟨G,0,none⟩)] 115)).alloc (.cells #[.slice none 0 0] 25)).heap.size=w.heap.size+1+1:=by simp
 have y:(((w.alloc (.cells #[.pointer (some ⟨G,0,none⟩)] 115)).alloc (.cells #[.slice none 0 0] 25)).alloc (.cells #[.slice none 0 0] 25)).heap.size=w.heap.size+1+1+1:=by simp
 have f:iK K base w (((w.alloc (.cells #[.pointer (some ⟨G,0,none⟩)] 115)).alloc (.cells #[.slice none 0 0] 25)).alloc (.cells #[.slice none 0 0] 25)) G hs cb aG (iH (iH (iH (λ _=>lX) 0 (oz w.heap.size)) 1 (oz (w.heap.size+1))) 2 (oz (w.heap.size+1+1))) (iH (iH (iH (λ _=> []) 0 [.pointer (some ⟨G,0,none⟩)]) 1 [.slice none 0 0]) 2 [.slice none 0 0]):=by
  rw[show oz (w.heap.size+1)=oz (w.alloc (.cells #[.pointer (some ⟨G,0,none⟩)] 115)).heap.size by rw[R],show oz (w.heap.size+1+1)=oz ((w.alloc (.cells #[.pointer (some ⟨G,0,none⟩)] 115)).alloc (.cells #[.slice none 0 0] 25)).heap.size by rw[S]];exact f
 have f:=U f;clear Q R S;generalize (((w.alloc (.cells #[.pointer (some ⟨G,0,none⟩)] 115)).alloc (.cells #[.slice none 0 0] 25)).alloc (.cells #[.slice none 0 0] 25))=H at*
 go_upto_region 3 with fail
 have i:=f.o.box 4 (.func (.func 182) #[] #[.pointer (some ⟨w.heap.size,0,none⟩),.pointer (some ⟨w.heap.size+1+1,0,none⟩)]);rw[y] at i;have T:(H.alloc (.cells #[.func (.func 182) #[] #[.pointer (some ⟨w.heap.size,0,none⟩),.pointer (some ⟨w.heap.size+1+1,0,none⟩)]] 170)).heap.size=w.heap.size+1+1+1+1:=by simp[y]
 have i:=U (show iK K base w (H.alloc (.cells #[.func (.func 182) #[] #[.pointer (some ⟨w.heap.size,0,none⟩),.pointer (some ⟨w.heap.size+1+1,0,none⟩)]] 170)) G hs cb aG _ _ from i);clear y f;generalize H.alloc (.cells #[.func (.func 182) #[] #[.pointer (some ⟨w.heap.size,0,none⟩),.pointer (some ⟨w.heap.size+1+1,0,none⟩)]] 170)=l at*;have V:=(i.o.set (r:=1) (g:=w.heap.size+1) (by rw[aV _ _ (by omega),aV _ _ (by omega),jC];rfl) 0 (.slice (some ⟨w.heap.size+1+1+1+1,0,none⟩) 1 1)).1;have c1:=i.o.kB (r:=1) (g:=w.heap.size+1) (by rw[aV _ _ (by omega),aV _ _ (by omega),jC];rfl) (k:=0) (v:=.slice none 0 0) (by rw[aV _ _ (by omega),aV _ _ (by omega),jC];rfl);have ak:=c1.1;have f1:=c1.2;have al:w.heap.size+1<l.heap.size:=by omega
 have I:(l.setCell ⟨w.heap.size+1,0,none⟩ (.slice (some ⟨w.heap.size+1+1+1+1,0,none⟩) 1 1)).heap.size=w.heap.size+1+1+1+1:=by simp[T]
 have W:=V.fresh (r:=5) (h':=⟨some ⟨w.heap.size+1+1+1+1,0,none⟩,1,1⟩) (ys:=gT [0]) (bg _ (.cells (gT [0]).toArray 3)) (by have:=DE (l.setCell ⟨w.heap.size+1,0,none⟩ (.slice (some ⟨w.heap.size+1+1+1+1,0,none⟩) 1 1)) w.heap.size [0] 1 rfl (by omega) (by omega);rw[I] at this;exact this) (λ g e=>by
  have Y:some (w.heap.size+1+1+1+1)=some g:=e;injection Y with Y
  omega)
 have p:=W.box 3 (.int .i64 0);have Z:((l.setCell ⟨w.heap.size+1,0,none⟩ (.slice (some ⟨w.heap.size+1+1+1+1,0,none⟩) 1 1)).alloc (.cells (gT [0]).toArray 3)).heap.size=w.heap.size+1+1+1+1+1:=by simp[I]
 rw[Z] at p;have p:=U (show iK K base w (((l.setCell ⟨w.heap.size+1,0,none⟩ (.slice (some ⟨w.heap.size+1+1+1+1,0,none⟩) 1 1)).alloc (.cells #[.int .i64 0] 3)).alloc (.cells #[.int .i64 0] 3)) G hs cb aG _ _ from p);clear V c1 i W I Z
 go_upto_region 5 with fail
 clear ak f1 T al;generalize (((l.setCell ⟨w.heap.size+1,0,none⟩ (.slice (some ⟨w.heap.size+1+1+1+1,0,none⟩) 1 1)).alloc (.cells #[.int .i64 0] 3)).alloc (.cells #[.int .i64 0] 3))=t at*;have u:=m.o.gH;have ao:=m.o.gV;have q:kN K base w t G hs cb aG w.heap.size (w.heap.size+1) (w.heap.size+1+1) (w.heap.size+1+1+1+1+1) (w.heap.size+1+1+1) [0] [] 0 lX [] _ _:=⟨p.o,rfl,rfl,rfl,rfl,rfl,rfl,rfl,rfl,rfl,rfl,rfl,rfl,rfl,rfl⟩
 have aa:nv aG.c (p_ (n+1) false) aG.c.av.length=0:=by
  unfold nv;rw[List.countP_eq_zero];intro k hk h1;unfold pg at h1;rw[Bs] at h1;simp at h1
 have J:=oy.start u m.o.st1 b.o.2.1 b.o.2.2;rw[ao] at J;have ab:others (aA aG.c.cl d) 0=aA aG.c.cl d:=by
  unfold others;rw[List.filter_eq_self];intro x ar;have:=(u.jG.mD d b.o.2.1).lt x ar;simpa using this.oH
 have ad:nx K base w t G hs cb n jW F aG w.heap.size (w.heap.size+1) (w.heap.size+1+1) (w.heap.size+1+1+1+1+1) (w.heap.size+1+1+1) lX [] aG.c.av.length (others (aA aG.c.cl d) 0) [] aG (p_ (n+1) false) [] [] _ _:=
  ⟨by rw[aa];exact q,⟨ou.refl aG,b.o.1,nU.o⟩,by rw[ab];exact J,List.nodup_nil,λ z=>⟨λ h=>(by cases h),λ⟨v,_,h⟩=>by rw[Bs] at h;cases h⟩,m_ _,⟨List.nodup_nil,λ D h=>by cases h⟩⟩
 have hH:BZ K base w G hs cb n jW F aG w.heap.size (w.heap.size+1) (w.heap.size+1+1) (w.heap.size+1+1+1+1+1) (w.heap.size+1+1+1) aG.c.av.length d 0 [] t:=
  ⟨_,_,_,_,_,_,_,_,ad.up (by rw[Nat.sub_self];simp),b.o.2.1,by
   have:=(u.jG.mD d b.o.2.1).ne;exact List.length_pos_iff.2 this⟩
 have ae:=U hH;have bn:=q.bn;obtain⟨au,j8,c4,L⟩:∃A n c,hs 4=⟨A,n,c⟩:=⟨_,_,_,rfl⟩
 have af:j8=aG.c.av.length:=by have:=q.de.gA.e.j8;rw[L] at this;exact this
 have aw:t.cell? ⟨G,5,none⟩=some (.slice au aG.c.av.length c4):=by have:=q.de.gA.e.kA (k:=5) (v:=(hs 4).v) rfl;rw[L,af] at this;exact this
 clear q aa J ab ad hH L af u p
 go_wp2_with fail
 refine LD (ds:=[]) m.o ae.o ?_;clear ae bn aw;intro j B op aD aE s aK aF mk ls X ds aI aJ aL aM aN aO aQ aR u16 aS aT aU aW aX aZ a6 a7 a8 a' ba bb bc bd bf u32 bh bj bk bl bo bp bq br bs bt bu bw bx bz bA bB bC bD bE bF bG bH bI bJ bK bL bM bN bO bP bQ u64 bR bS bT bU bV bW bX bY bZ b0 b1 b2 b3 b4 b5 b6 b7 b8 b9 b' ca cc cd cf cg ch cj ck cm cn cp cq cr ct cu cv cw cx cy cz cA cB cC cD cE cF cG cH cI cJ cK cL cM cN cO cP cQ cR cS cT cU cV cW cX cY cZ c7 c8 da db dc dd df dh di dj dk dm dn dp dq dr dt du dv dw dx dy dz dA dB dC dD dE dF dG dH dI dJ dK dL dM dN dO dP dQ dR dS dT dU dV dW dX dY dZ d' ea eb ec ed ee ef eg eh ei ej ek en eo ep er et eu ev ew ey ez eA eB eC ag ah;have ai:=U ah;have ax:=U ag;generalize w.heap.size+1+1+1+1+1=eD at*;generalize w.heap.size+1+1+1=aY at*;generalize w.heap.size+1+1=eE at*;generalize w.heap.size+1=eF at*;generalize eG:w.heap.size=aH at ai⊢;clear ah ag;rename_i ay aj;have az:=U aj;clear aj;show ay _ _;apply az.o;exact L0 (Nat.le_of_lt P.o.e.lt) m.o b.o.1 ax.o ai.o
noncomputable def L2:Code:=nw GL
theorem run_move{s2:an}{y:Int}{ky x9:Nat}
  (E:aP K base W G jS cb s2) (j:(jS 0).b=some g0) (I:s2.c.wt.length=x9) (V:ky<x9) (J:jy (-y)=ky) (aL: -60000<=y/\y<=60000) (z:d<s2.c.cl.length) (B:(jS (kz d)).b=some bk) (X:W.cell? ⟨cb d,0,none⟩=some (.slice (some ⟨bk,0,none⟩) m dh)) (hm:2<=m) (aM:m<=dh) (Y:W.cell? ⟨bk,1,none⟩=some (.int .i64 y)) (Z:(aA s2.c.wt ky).length<=1000000)
  (aa:∀(mM ao u8 bu bw bx bz bA bB bC bD bE bK bL bM bN bO bP u64 bQ bR bS bT bU bV bW bX bY bZ b5 b6 b7 b8 b9 cc cg ck cm cn cp dJ dK dL dM dN dO dP dQ cI cK cL cM cN cO cQ cR cS cT cU cV cW cZ c7 c8 dc dR dS dU dV dW dX dY dZ ec ee ef ei ej ek en eo ep er eu ew ey ez eA eB eC eD eE eF eG eH gh gi gj eL eM eN eO eP eR eS eT eU eV eW eX gl gm gn eY eZ e3 e4 e5 e6 e7 e8 e9 fc fe ff fh fk fm fo fq fu fA fB fC fD fE fF fG fH fI fJ fK fL fM fN fO fP fQ fR gu gv fS fT fU fV fW fZ ga ir iu iw iy iz iA iB iC iD iE iF iG:Value)(A':Option Addr)(ar c':Nat)(W':World),aP K base W' G (iH jS (ij ky) ⟨A',ar,c'⟩) cb (s2.p6 ky (aA s2.c.wt ky++[d]))->aF K W W'->Q (.exit 3) ⟨#[.pointer (some ⟨G,0,none⟩),j7,lM,.int .i64 lit,.slice (some ⟨iR,0,none⟩) gU iT,.slice (some ⟨iR,0,none⟩) (kl) iT,mM,ao,u8,kP,gG,gp,dm,gP,gr,gC,u16,dn,dr,dw,gd,dx,dy,dz,dA,dB,dD,dF,dG,cr,ct,cu,u32,cv,cw,cz,cA,cB,cC,cD,cE,cF,cG,cH,dH,dI,.slice (some ⟨iR,0,none⟩) gU iT,.int .i64 (gU:Int),.int .i64 (i:Int),bu,bw,bx,bz,bA,bB,bC,bD,bE,bK,bL,bM,bN,bO,bP,u64,bQ,bR,bS,bT,bU,bV,bW,bX,bY,bZ,b5,b6,b7,b8,b9,cc,cg,ck,cm,cn,cp,dJ,dK,dL,dM,dN,dO,dP,dQ,cI,cK,cL,cM,cN,cO,cQ,cR,cS,cT,cU,cV,cW,cZ,c7,c8,dc,dR,dS,dU,dV,dW,dX,dY,dZ,ec,ee,ef,ei,ej,ek,en,eo,ep,er,eu,ew,ey,ez,eA,eB,eC,eD,eE,eF,eG,eH,gh,gi,gj,eL,eM,eN,eO,eP,eR,eS,eT,eU,eV,eW,eX,gl,gm,gn,eY,eZ,e3,e4,e5,e6,e7,e8,e9,fc,fe,ff,fh,fk,fm,fo,fq,fu,fA,fB,fC,fD,fE,fF,fG,fH,fI,fJ,fK,fL,fM,fN,fO,fP,fQ,fR,gu,gv,fS,fT,fU,fV,fW,fZ,ga,ir,iu,iw,iy,iz,iA,iB,iC,iD,iE,iF,iG,iX,iY,iZ,ja,jb,jc,jd,je],[]⟩ W'):
   g_ x_ L2 Q ⟨#[.pointer (some ⟨G,0,none⟩),j7,lM,.int .i64 lit,.slice (some ⟨iR,0,none⟩) gU iT,.slice (some ⟨iR,0,none⟩) kl iT,mM,.pointer (some ⟨cb d,0,none⟩),u8,kP,gG,gp,dm,gP,gr,gC,u16,dn,dr,dw,gd,dx,dy,dz,dA,dB,dD,dF,dG,cr,ct,cu,u32,cv,cw,cz,cA,cB,cC,cD,cE,cF,cG,cH,dH,dI,.slice (some ⟨iR,0,none⟩) gU iT,.int .i64 (gU:Int),.int .i64 (i:Int),bu,bw,bx,bz,bA,bB,bC,bD,bE,bK,bL,bM,bN,bO,bP,u64,bQ,bR,bS,bT,bU,bV,bW,bX,bY,bZ,b5,b6,b7,b8,b9,cc,cg,ck,cm,cn,cp,dJ,dK,dL,dM,dN,dO,dP,dQ,cI,cK,cL,cM,cN,cO,cQ,cR,cS,cT,cU,cV,cW,cZ,c7,c8,dc,dR,dS,dU,dV,dW,dX,dY,dZ,ec,ee,ef,ei,ej,ek,en,eo,ep,er,eu,ew,ey,ez,eA,eB,eC,eD,eE,eF,eG,eH,gh,gi,gj,eL,eM,eN,eO,eP,eR,eS,eT,eU,eV,eW,eX,gl,gm,gn,eY,eZ,e3,e4,e5,e6,e7,e8,e9,fc,fe,ff,fh,fk,fm,fo,fq,fu,fA,fB,fC,fD,fE,fF,fG,fH,fI,fJ,fK,fL,fM,fN,fO,fP,fQ,fR,gu,gv,fS,fT,fU,fV,fW,fZ,ga,ir,iu,iw,iy,iz,iA,iB,iC,iD,iE,iF,iG,iX,iY,iZ,ja,jb,jc,jd,je],[]⟩ W:=by
 have ab:=E.e.rE 1 j (E.e.jj.trans I) rfl;have f0:=E.e.rows.free j ky;have C:=E.e.x5 j (k:=ky) (by omega);obtain⟨l,f,p,F⟩:∃A n c,jS (ij ky)=⟨A,n,c⟩:=⟨_,_,_,rfl⟩
 have ad:f=(aA s2.c.wt ky).length:=by have:=E.e.Ak ky;rw[F] at this;exact this
 rw[F] at C;have C:W.cell? ⟨g0,ky,none⟩=some (.slice l f p):=C;have aN:f<=1000000:=by omega
 have wn:n_.wrap (-y)= -y:=IntWalk.i64_in _ (by omega);have au:(ky:Int)<(x9:Int):=by omega
 have av:(1:Int)<(m:Int):=by omega
 have ae:bF (ky<s2.c.wt.length):=U (by omega);have aw:bF (∀w:World,Calls x_ 181 #[.int .i64 (-y)] w λ e w'=>e=.returned (.int .i64 (ky:Int))/\w=w'):=U (λ w=>by have:=Dt (-y) w (by omega) (by omega);rw[J] at this;exact this);have aO:G≠g0:=E.e.uz 0 g0 j;have aQ:cb d≠g0:=E.e.xU z 0 g0 j;have aR:bk≠g0:=E.e.wX (r:=kz d) (r':=0) (by unfold kz;omega) B j;have L:=E.e.box.lt;have M:=(E.e.cls d z).lt;have N:=(E.e.rows.lt B).2;have af:(jS (ij ky)).b≠some G:=λ e=>E.e.uz _ _ e rfl
 have ag:(jS (ij ky)).b≠some (cb d):=λ e=>E.e.xU z _ _ e rfl
 have ah:(jS (ij ky)).b≠some bk:=λ e=>E.e.wX (r:=kz d) (r':=ij ky) (by unfold kz ij;omega) B e rfl
 have q:=U (E.below ((bg W (.cells #[.pointer (some ⟨cb d,0,none⟩)] 164)).drew));have hp:((W.alloc (.cells #[.pointer (some ⟨cb d,0,none⟩)] 164)).drew).cell? ⟨W.heap.size,0,none⟩=some (.pointer (some ⟨cb d,0,none⟩)):=by go_simp
 have ax:=U (rH.one hp);have ay:bF (((W.alloc (.cells #[.pointer (some ⟨cb d,0,none⟩)] 164)).drew).ownsRow base 164 1 (.slice l f p) f (kU cb (aA s2.c.wt ky))):=U (by
   have:=q.o.1.e.rows.row (ij ky);rw[DG,Aj,F,wk] at this;exact this)
 have az:=U (Nat.le_of_lt q.o.1.e.lt);clear hp;have t:∀b,b<W.heap.size->∀k,((W.alloc (.cells #[.pointer (some ⟨cb d,0,none⟩)] 164)).drew).cell? ⟨b,k,none⟩=W.cell? ⟨b,k,none⟩:=λ b aB k=>e_ (((bg W (.cells #[.pointer (some ⟨cb d,0,none⟩)] 164)).drew).block b aB)
 have O:=(t G L 1).trans ab;have ai:=(t (cb d) M 0).trans X;have aj:=(t bk N 1).trans Y;have aC:=(t g0 (E.e.rows.lt j).2 ky).trans C;have D:=U (z_ E (z_ j (z_ I (z_ V (z_ J (z_ z (z_ B (z_ Z (z_ F (z_ ad (z_ L (z_ M (z_ N (z_ af (z_ ag ah)))))))))))))));have aS:=U t;clear E j I V J z B Z F ad L M N af ag ah t;have aD:=U aa;clear aa
 conv=>arg 2;whnf
 go_wp2_with fail
 refine Ao (DK Tryz.f145 18) 30 27 28 224 [some 140,some 141,some 142,some 143,some 144,some 145,some 146,some 147,some 148,some 149,some 150,some 151,some 152,some 153,some 154,some 155,some 156,some 157,some 158,some 159,some 160,some 161,some 162,some 163,some 164,some 165,some 166,some 167,some 168,some 169,none] _ [(0,.pointer (some ⟨G,0,none⟩)),(7,.pointer (some ⟨(cb d),0,none⟩))] (λ w':World=>w'.cell? ⟨G,1,none⟩=some (.slice (some ⟨g0,0,none⟩) x9 (jS 0).c)/\w'.cell? ⟨cb d,0,none⟩=some (.slice (some ⟨bk,0,none⟩) m dh)/\w'.cell? ⟨bk,1,none⟩=some (.int .i64 y)/\w'.cell? ⟨g0,ky,none⟩=some (.slice l f p)) [.pointer (some ⟨G,0,none⟩),.pointer (some ⟨G,0,none⟩),.pointer (some ⟨G,1,none⟩),.slice (some ⟨g0,0,none⟩) x9 (jS 0).c,.pointer (some ⟨(cb d),0,none⟩),.pointer (some ⟨(cb d),0,none⟩),.pointer (some ⟨(cb d),0,none⟩),.slice (some ⟨bk,0,none⟩) m dh,.pointer (some ⟨bk,1,none⟩),.int .i64 y,.int .i64 (-y),.int .i64 (ky:Int),.pointer (some ⟨G,0,none⟩),.pointer (some ⟨G,0,none⟩),.pointer (some ⟨G,1,none⟩),.slice (some ⟨g0,0,none⟩) x9 (jS 0).c,.pointer (some ⟨(cb d),0,none⟩),.pointer (some ⟨(cb d),0,none⟩),.pointer (some ⟨(cb d),0,none⟩),.slice (some ⟨bk,0,none⟩) m dh,.pointer (some ⟨bk,1,none⟩),.int .i64 y,.int .i64 (-y),.int .i64 (ky:Int),.pointer (some ⟨g0,ky,none⟩),.slice l f p,.pointer (some ⟨(cb d),0,none⟩),.slice (some ⟨W.heap.size,0,none⟩) 1 1,undef,.pointer (some ⟨g0,ky,none⟩)] ((W.alloc (.cells #[.pointer (some ⟨cb d,0,none⟩)] 164)).drew) (λ v w'=>n9 ((W.alloc (.cells #[.pointer (some ⟨cb d,0,none⟩)] 164)).drew) base 164 (.slice l f p) (f+1) (kU cb (aA s2.c.wt ky)++[.pointer (some ⟨cb d,0,none⟩)]) v w') (by kernel_rfl) (by kernel_rfl) (by kernel_rfl) rfl (by kernel_rfl) (by kernel_rfl) rfl ⟨rfl,rfl,trivial⟩ ⟨ab,X,Y,C⟩ ⟨O,ai,aj,aC⟩ (λ v w' P=>?_) (λ s g H hp=>?_) (λ s g H hp=>?_) ?_ ?_
 · obtain⟨A',c',rfl,ak,R,f9,S,-⟩:=aP.GH (d:=d) q.o.1 D.o.2.1 ae.o D.o.2.2.2.2.2.2.2.2.1 D.o.2.2.2.2.2.2.2.2.2.1 O P;exact⟨ak,(S (cb d) (Nat.lt_of_lt_of_le D.o.2.2.2.2.2.2.2.2.2.2.2.1 q.o.2.size) D.o.2.2.2.2.2.2.2.2.2.2.2.2.2.2.1 0).trans ai,(S bk (Nat.lt_of_lt_of_le D.o.2.2.2.2.2.2.2.2.2.2.2.2.1 q.o.2.size) D.o.2.2.2.2.2.2.2.2.2.2.2.2.2.2.2 1).trans aj,R⟩
 · obtain⟨-,aT,-⟩:=H;have g:s (.tmp 166)=.pointer (some ⟨(cb d),0,none⟩):=g.1 rfl (by decide) (by decide) _ rfl;show aZ _ _ (k_ _ _ _ _ _ _) _ _;simp[aZ,execOp,gE,go_sem,g]
 · have h1:s (.tmp 165)=.slice l f p:=g.1 rfl (by decide) (by decide) _ rfl;have T:s (.tmp 167)=.slice (some ⟨W.heap.size,0,none⟩) 1 1:=g.2.1 rfl (by decide) (by decide) _ rfl;obtain⟨v',w',g1,g2⟩:=DA ((W.alloc (.cells #[.pointer (some ⟨cb d,0,none⟩)] 164)).drew) 160 base (.slice l f p) f (kU cb (aA s2.c.wt ky)) ay.o (some ⟨W.heap.size,0,none⟩) 1 1 _ ax.o (by omega) az.o;show aZ _ _ (k_ _ _ _ _ _ _) _ _;simp only[aZ,execOp,resolve,invoke,builtin,Sem.run_bind,Sem.run_pure,Result.andThen_ok,List.map_toArray,List.map_cons,List.map_nil,h1,T,g1,gE];exact g2
 · refine⟨?_,?_,?_,?_,?_,?_,?_,?_,?_,?_,?_,?_,?_,?_,?_,?_,?_,?_,?_,?_,?_,?_,?_,?_,?_,?_,?_,?_,?_,?_,trivial⟩
   all_goals
    intro h1 T s w aE _ g H hp
    first
     |exact absurd rfl h1
     |exact absurd rfl T
     |(obtain⟨aG,aH,-⟩:=H;obtain⟨s1,s2,s3,iI⟩:=aE;(try simp[pI,qq,f_] at g);simp[aZ,execOp,gE,go_sem,aG,aH,g,s1,s2,s3,iI,wn,au,av,hp.1];done)
     |((try simp[pI,qq,f_] at g);(first|refine va 181 #[.tmp 150] #[3] rfl BP hp ?_|refine va 181 #[.tmp 162] #[3] rfl BP hp ?_);(first|rw[show(#[Operand.tmp 150].map s)= #[.int .i64 (-y)] by simp[g]]|rw[show(#[Operand.tmp 162].map s)= #[.int .i64 (-y)] by simp[g]]);exact(aw.o w).mono λ e w' h=>⟨_,h.1,rfl,h.2.symm⟩)
 intro u v9 gb P aU al;obtain⟨A',c',rfl,ak,R,f9,S,aI,aJ⟩:=aP.GH (d:=d) q.o.1 D.o.2.1 ae.o D.o.2.2.2.2.2.2.2.2.1 D.o.2.2.2.2.2.2.2.2.2.1 O P;have aK:=f9 ky;simp[oJ,Act.put,k6] at al;subst al;show aZ _ _ (k_ _ _ _ _ _ _) _ _;simp[aZ,execOp,gE,go_sem,Act.eval,R,aK];go_wp2;apply aD.o
 · exact aI
 · exact q.o.2.trans aJ
theorem L3{k:Nat}(C:r0 G gB c1 s lit ls k0 g0 iR gU iT)(f:mB K base w G cb F ax s c1 gB aL lit ls k0 i kl kept c2 jS W)(ag:ls[i]? =some d)(hw:w1 c2 d= -lit)(hk:2<=k)(R:k<m)(S:jY c2 (ai (aA c2.cl d) k)≠-1)(hC:y8 base W G jS cb d bk m dh (aA c2.cl d))
  (T:∀(mM ar u8 bu bw bx bz bA bB bC bD bE bK bL bM bN bO bP u64 bQ bR bS bT bU bV bW bX bY bZ b5 b6 b7 b8 b9 cc cg ck cm cn cp dJ dK dL dM dN dO dP dQ cI cK cL cM cN cO cQ cR cS cT cU cV cW cZ c7 c8 dc dR dS dU dV dW dX dY dZ ec ee ef ei ej ek en eo ep er eu ew ey ez eA eB eC eD eE eF eG eH gh gi gj eL eM eN eO eP eR eS eT eU eV eW eX gl gm gn eY eZ e3 e4 e5 e6 e7 e8 e9 fc fe ff fh fk fm fo fq fu fA fB fC fD fE fF fG fH fI fJ fK fL fM fN fO fP fQ fR gu gv fS fT fU fV fW fZ ga ir iu iw iy iz iA iB iC iD iE iF iG:Value)(c3:Core)(au:Nat->aq)(W':World),mB K base w G cb F ax s c1 gB aL lit ls k0 (i+1) kl kept c3 au W'->Q (.exit 3) ⟨#[.pointer (some ⟨G,0,none⟩),j7,lM,.int .i64 lit,.slice (some ⟨iR,0,none⟩) gU iT,.slice (some ⟨iR,0,none⟩) (kl) iT,mM,ar,u8,kP,gG,gp,dm,gP,gr,gC,u16,dn,dr,dw,gd,dx,dy,dz,dA,dB,dD,dF,dG,cr,ct,cu,u32,cv,cw,cz,cA,cB,cC,cD,cE,cF,cG,cH,dH,dI,.slice (some ⟨iR,0,none⟩) gU iT,.int .i64 (gU:Int),.int .i64 (i:Int),bu,bw,bx,bz,bA,bB,bC,bD,bE,bK,bL,bM,bN,bO,bP,u64,bQ,bR,bS,bT,bU,bV,bW,bX,bY,bZ,b5,b6,b7,b8,b9,cc,cg,ck,cm,cn,cp,dJ,dK,dL,dM,dN,dO,dP,dQ,cI,cK,cL,cM,cN,cO,cQ,cR,cS,cT,cU,cV,cW,cZ,c7,c8,dc,dR,dS,dU,dV,dW,dX,dY,dZ,ec,ee,ef,ei,ej,ek,en,eo,ep,er,eu,ew,ey,ez,eA,eB,eC,eD,eE,eF,eG,eH,gh,gi,gj,eL,eM,eN,eO,eP,eR,eS,eT,eU,eV,eW,eX,gl,gm,gn,eY,eZ,e3,e4,e5,e6,e7,e8,e9,fc,fe,ff,fh,fk,fm,fo,fq,fu,fA,fB,fC,fD,fE,fF,fG,fH,fI,fJ,fK,fL,fM,fN,fO,fP,fQ,fR,gu,gv,fS,fT,fU,fV,fW,fZ,ga,ir,iu,iw,iy,iz,iA,iB,iC,iD,iE,iF,iG,iX,iY,iZ,ja,jb,jc,jd,je],[]⟩ W'):
   g_ x_ GL Q ⟨#[.pointer (some ⟨G,0,none⟩),j7,lM,.int .i64 lit,.slice (some ⟨iR,0,none⟩) gU iT,.slice (some ⟨iR,0,none⟩) kl iT,mM,.pointer (some ⟨cb d,0,none⟩),.int .i64 (k:Int),kP,gG,gp,dm,gP,gr,gC,u16,dn,dr,dw,gd,dx,dy,dz,dA,dB,dD,dF,dG,cr,ct,cu,u32,cv,cw,cz,cA,cB,cC,cD,cE,cF,cG,cH,dH,dI,.slice (some ⟨iR,0,none⟩) gU iT,.int .i64 (gU:Int),.int .i64 (i:Int),bu,bw,bx,bz,bA,bB,bC,bD,bE,bK,bL,bM,bN,bO,bP,u64,bQ,bR,bS,bT,bU,bV,bW,bX,bY,bZ,b5,b6,b7,b8,b9,cc,cg,ck,cm,cn,cp,dJ,dK,dL,dM,dN,dO,dP,dQ,cI,cK,cL,cM,cN,cO,cQ,cR,cS,cT,cU,cV,cW,cZ,c7,c8,dc,dR,dS,dU,dV,dW,dX,dY,dZ,ec,ee,ef,ei,ej,ek,en,eo,ep,er,eu,ew,ey,ez,eA,eB,eC,eD,eE,eF,eG,eH,gh,gi,gj,eL,eM,eN,eO,eP,eR,eS,eT,eU,eV,eW,eX,gl,gm,gn,eY,eZ,e3,e4,e5,e6,e7,e8,e9,fc,fe,ff,fh,fk,fm,fo,fq,fu,fA,fB,fC,fD,fE,fF,fG,fH,fI,fJ,fK,fL,fM,fN,fO,fP,fQ,fR,gu,gv,fS,fT,fU,fV,fW,fZ,ga,ir,iu,iw,iy,iz,iA,iB,iC,iD,iE,iF,iG,iX,iY,iZ,ja,jb,jc,jd,je],[]⟩ W:=by
 have hm:=hC.len;have av:=f.m C ag;have B:=f.rF ag;have aw:2<=m:=by omega
 have V:=hC.cap;have H:ai (aA c2.cl d) 1= -lit:=hw;obtain⟨y,q⟩:∃y,ai (aA c2.cl d) k=y:=⟨_,rfl⟩
 have I:gF s.c.n y:=by rw[<-q];exact f.ok C ag (by omega)
 have aU: -60000<=lit/\lit<=60000:=by have:=C.ok.2;have:=C.aj;unfold aI at*;omega
 have X: -60000<=y/\y<=60000:=by have:=I.2;have:=C.aj;unfold aI at*;omega
 obtain⟨ky,z⟩:∃k:Nat,jy (-y)=k:=⟨_,rfl⟩
 have Y:ky<2*s.c.n+2:=by rw[<-z];exact I.neg.at
 have Z:i<ls.length:=(y_.1 ag).1;have A:ls[i]=d:=(y_.1 ag).2;have r:=f.nY.move Z (by rw[A];exact hw) hk (by rw[A];omega) (by rw[A];exact S);rw[A,q,z,C.kB] at r;have aa:=hC.ag;have a1:=hC.kB 1 (by omega);rw[H] at a1;have J:=hC.kB k R;rw[q] at J;have f1:=hC.uV 1;have az:=hC.uV k;have ab:=hC.ne;have aW:=hC.ne.symm;have ad:(k:Int)<(m:Int):=by omega
 have aB:(1:Int)<(m:Int):=by omega
 have ae:¬1=k:=by omega
 have aC:¬k=1:=by omega
 have af:=f.gA.GI (d:=d) (bk:=bk) (i:=1) (j:=k) hC.b B.1 (x:= -lit) (y:=y) H q;have aD:(kr c2 k0 (kept++ls.drop kl)).cl=c2.cl:=rfl;have L:aA (lF (kr c2 k0 (kept++ls.drop kl)) d (kL (aA c2.cl d) 1 k)).wt ky=aA c2.wt ky:=by
   show aA (c2.wt.set k0 _) ky=_;rw[qI,if_neg (λ h=>r.2 h.1.symm)]
 have ah:(aA c2.wt ky).length<=1000000:=by have h1:=f.nY.gH.wt.ov ky;have p:=f.Lt C;omega
 have key:∀(A':Option Addr)(M c':Nat)(l W':World),aF K W l->aP K base W' G (iH jS (ij ky) ⟨A',M,c'⟩) cb ((({s with c:=kr c2 k0 (kept++ls.drop kl)}:an).sP d (kL (aA c2.cl d) 1 k)).p6 ky (aA ((({s with c:=kr c2 k0 (kept++ls.drop kl)}:an).sP d (kL (aA c2.cl d) 1 k)).c.wt) ky++[d]))->aF K l W'->
    mB K base w G cb F ax s c1 gB aL lit ls k0 (i+1) kl kept (sk c2 d k (kept++ls.drop (i+1))) (iH jS (ij ky) ⟨A',M,c'⟩) W':=λ A' M c' l W' aE E aG=>by
   refine⟨r.1,f.tA,?_,(aV _ _ (by have:=r.2;unfold ij;omega)).trans f.hw,(aV _ _ (by unfold ij;omega)).trans f.ay,f.iQ.trans (aE.trans aG)⟩;rw[Lf (k0:=k0) (ky:=ky) (by rw[hw,Int.neg_neg];exact C.kB) (by rw[q];exact z) r.2,<-L];exact E
 have ak:ai (kL (aA c2.cl d) 1 k) 1=y:=by
   unfold kL;rw[o9,if_neg (by omega),o9,if_pos ⟨rfl,by omega⟩,q]
 have N:aA (lF (kr c2 k0 (kept++ls.drop kl)) d (kL (aA c2.cl d) 1 k)).cl d=kL (aA c2.cl d) 1 k:=by
   show aA (c2.cl.set d _) d=_;rw[qI,if_pos ⟨rfl,B.1⟩]
 have aH:bF (∀l:World,aP K base l G jS cb (({s with c:=kr c2 k0 (kept++ls.drop kl)}:an).sP d (kL (aA c2.cl d) 1 k))->l.cell? ⟨bk,1,none⟩=some (.int .i64 y)):=U (λ l O=>by
   have h1:=O.e.x6 hC.b (k:=1) (by show 1<(aA (lF (kr c2 k0 (kept++ls.drop kl)) d (kL (aA c2.cl d) 1 k)).cl d).length;rw[N];simp[kL];omega);have p:ai (aA (({s with c:=kr c2 k0 (kept++ls.drop kl)}:an).sP d (kL (aA c2.cl d) 1 k)).c.cl d) 1=y:=by
    show ai (aA (lF (kr c2 k0 (kept++ls.drop kl)) d (kL (aA c2.cl d) 1 k)).cl d) 1=y;rw[N];exact ak
   rw[p] at h1;exact h1)
 have aJ:=U (λ(l:World)(O:aP K base l G jS cb (({s with c:=kr c2 k0 (kept++ls.drop kl)}:an).sP d (kL (aA c2.cl d) 1 k)))=>z_ O (z_ (f.bf C) (z_ ((show(lF (kr c2 k0 (kept++ls.drop kl)) d (kL (aA c2.cl d) 1 k)).wt.length=_ from f.raw C)) (z_ Y (z_ z (z_ X (z_ (show d<(lF (kr c2 k0 (kept++ls.drop kl)) d (kL (aA c2.cl d) 1 k)).cl.length by rw[ry];exact B.1) (z_ hC.b (z_ aw (z_ V (show(aA (lF (kr c2 k0 (kept++ls.drop kl)) d (kL (aA c2.cl d) 1 k)).wt ky).length<=1000000 by rw[L];exact ah)))))))))));have aK:=U key;have D:=U af;have aM:=U T;clear T af key ak N ah L aD r C f ag hw hk R S hm av B V H q I X hC z Y Z A;obtain⟨x,al⟩:∃x,-lit=x:=⟨_,rfl⟩
 rw[al] at a1;rw[al] at D
 conv=>arg 2;whnf
 go_wp2_with fail
 rename_i aX aN;refine Ao (DK Tryz.f145 17) 25 23 24 224 [some 116,some 117,some 118,some 119,some 120,some 121,some 122,some 123,some 124,some 125,some 126,some 127,some 128,some 129,some 130,some 131,some 132,some 133,some 134,some 135,some 136,some 137,some 138,none,some 139,none] _ [(7,.pointer (some ⟨(cb d),0,none⟩)),(8,.int .i64 (k:Int))] (λ _=>True) [.pointer (some ⟨(cb d),0,none⟩),.pointer (some ⟨(cb d),0,none⟩),.pointer (some ⟨(cb d),0,none⟩),.slice (some ⟨bk,0,none⟩) m dh,.pointer (some ⟨(cb d),0,none⟩),.pointer (some ⟨(cb d),0,none⟩),.pointer (some ⟨(cb d),0,none⟩),.slice (some ⟨bk,0,none⟩) m dh,.int .i64 (k:Int),.pointer (some ⟨(cb d),0,none⟩),.pointer (some ⟨(cb d),0,none⟩),.pointer (some ⟨(cb d),0,none⟩),.slice (some ⟨bk,0,none⟩) m dh,.int .i64 (k:Int),.pointer (some ⟨bk,k,none⟩),.int .i64 y,.pointer (some ⟨(cb d),0,none⟩),.pointer (some ⟨(cb d),0,none⟩),.pointer (some ⟨(cb d),0,none⟩),.slice (some ⟨bk,0,none⟩) m dh,.pointer (some ⟨bk,1,none⟩),.int .i64 x,.pointer (some ⟨bk,1,none⟩),undef,undef] (W.drew.setCell ⟨bk,1,none⟩ (.int .i64 y)) (λ v w'=>v=.pointer (some ⟨bk,k,none⟩)/\w'=(W.drew.setCell ⟨bk,1,none⟩ (.int .i64 y))) (by kernel_rfl) (by kernel_rfl) (by kernel_rfl) rfl (by kernel_rfl) (by kernel_rfl) rfl ⟨rfl,rfl,trivial⟩ trivial trivial (λ _ _ _=>trivial) (λ t ag P hp=>?_) (λ t ag P hp=>?_) ?_ ?_
 · have h1:t (.tmp 138)=.pointer (some ⟨bk,1,none⟩):=ag.1 rfl (by decide) (by decide) _ rfl;have p:t (.tmp 131)=.int .i64 y:=ag.2.1 rfl (by decide) (by decide) _ rfl;show aZ _ _ (k_ _ _ _ _ _ _) _ _;simp[aZ,execOp,gE,go_sem,h1,p,a1,f1]
 · have h1:t (.tmp 123)=.slice (some ⟨bk,0,none⟩) m dh:=ag.1 rfl (by decide) (by decide) _ rfl;have p:t (.tmp 124)=.int .i64 (k:Int):=ag.2.1 rfl (by decide) (by decide) _ rfl;show aZ _ _ (k_ _ _ _ _ _ _) _ _;simp[aZ,execOp,gE,go_sem,h1,p,ad]
 · refine⟨?_,?_,?_,?_,?_,?_,?_,?_,?_,?_,?_,?_,?_,?_,?_,?_,?_,?_,?_,?_,?_,?_,?_,?_,?_,trivial⟩
   all_goals
    intro h1 p t w _ aO ag P hp
    first
     |exact absurd rfl h1
     |exact absurd rfl p
     |(obtain⟨aQ,aR,-⟩:=P;(try obtain rfl:=aO rfl);(try simp[pI,qq,f_] at ag);simp[aZ,execOp,gE,go_sem,aQ,aR,ag,aa,a1,J,ad,aB,hp.1];done)
 rintro u v w' ⟨rfl,rfl⟩ aY ao;simp[oJ,Act.put,k6] at ao;subst ao;show aZ _ _ (k_ _ _ _ _ _ _) _ _;have a6:¬(1=k):=ae;simp[aZ,execOp,gE,go_sem,Act.eval,J,az,ae,aC]
 iterate 1
   have g:=aJ.o _ D.o.1;have c0:(((W.setCell ⟨bk,1,none⟩ (.int .i64 y)).setCell ⟨bk,k,none⟩ (.int .i64 x)).drew).cell? ⟨cb d,0,none⟩=some (.slice (some ⟨bk,0,none⟩) m dh):=by
    show((W.setCell ⟨bk,1,none⟩ (.int .i64 y)).setCell ⟨bk,k,none⟩ (.int .i64 x)).cell? ⟨cb d,0,none⟩=_;rw[Zv _ _ _ _ (by simp[ab]),Zv _ _ _ _ (by simp[ab])];exact aa
   have c1:=aH.o _ D.o.1;refine aN _ _ ?_;refine run_move g.1 g.2.1 g.2.2.1 g.2.2.2.1 g.2.2.2.2.1 g.2.2.2.2.2.1 g.2.2.2.2.2.2.1 g.2.2.2.2.2.2.2.1 c0 g.2.2.2.2.2.2.2.2.1 g.2.2.2.2.2.2.2.2.2.1 c1 g.2.2.2.2.2.2.2.2.2.2 ?_
   intros
   rename_i aS aT;apply aM.o;exact aK.o _ _ _ _ _ D.o.2 aS aT
theorem mB.is(b:mB K base w G cb F ax s c1 gB aL lit ls k0 i kl kept c2 jS W)(C:r0 G gB c1 s lit ls k0 g0 iR gU iT){y z:Int}(d:gF s.c.n y)(f:jY c2 y=z):Calls x_ 152 #[.pointer (some ⟨G,0,none⟩),.int .i64 y] W λ e w'=>e=.returned (.int .i8 z)/\w'=W:=by
 have e:(kr c2 k0 (kept++ls.drop kl)).n=s.c.n:=b.lD C;have:=BS b.gA (DQ b.nY.gH.au) (show(kr c2 k0 (kept++ls.drop kl)).n<=60000 by rw[e];exact C.aj) (x:=y) (by show gF (kr c2 k0 (kept++ls.drop kl)).n y;rw[e];exact d);rw[show jY (({s with c:=kr c2 k0 (kept++ls.drop kl)}:an).c) y=z from f] at this;exact this.mono λ e w' h=>⟨h.1,h.2.symm⟩
theorem L4(C:r0 G gB c1 s lit ls k0 g0 iR gU iT)(l:mB K base w G cb F ax s c1 gB aL lit ls k0 i kl kept c2 jS W)(ag:ls[i]? =some d)(hw:w1 c2 d= -lit)(hC:y8 base W G jS cb d bk m dh (aA c2.cl d))
  (E:∀(V X u8 bu bw bx bz bA bB bC bD bE bK bL bM bN bO bP u64 bQ bR bS bT bU bV bW bX bY bZ b5 b6 b7 b8 b9 cc cg ck cm cn cp dJ dK dL dM dN dO dP dQ cI cK cL cM cN cO cQ cR cS cT cU cV cW cZ c7 c8 dc dR dS dU dV dW dX dY dZ ec ee ef ei ej ek en eo ep er eu ew ey ez eA eB eC eD eE eF eG eH gh gi gj eL eM eN eO eP eR eS eT eU eV eW eX gl gm gn eY eZ e3 e4 e5 e6 e7 e8 e9 fc fe ff fh fk fm fo fq fu fA fB fC fD fE fF fG fH fI fJ fK fL fM fN fO fP fQ fR gu gv fS fT fU fV fW fZ ga ir iu iw iy iz iA iB iC iD iE iF iG:Value)(c3:Core)(Y:Nat->aq)(W':World),mB K base w G cb F ax s c1 gB aL lit ls k0 (i+1) kl kept c3 Y W'->Q (.exit 3) ⟨#[.pointer (some ⟨G,0,none⟩),j7,lM,.int .i64 lit,.slice (some ⟨iR,0,none⟩) gU iT,.slice (some ⟨iR,0,none⟩) (kl) iT,V,X,u8,kP,gG,gp,dm,gP,gr,gC,u16,dn,dr,dw,gd,dx,dy,dz,dA,dB,dD,dF,dG,cr,ct,cu,u32,cv,cw,cz,cA,cB,cC,cD,cE,cF,cG,cH,dH,dI,.slice (some ⟨iR,0,none⟩) gU iT,.int .i64 (gU:Int),.int .i64 (i:Int),bu,bw,bx,bz,bA,bB,bC,bD,bE,bK,bL,bM,bN,bO,bP,u64,bQ,bR,bS,bT,bU,bV,bW,bX,bY,bZ,b5,b6,b7,b8,b9,cc,cg,ck,cm,cn,cp,dJ,dK,dL,dM,dN,dO,dP,dQ,cI,cK,cL,cM,cN,cO,cQ,cR,cS,cT,cU,cV,cW,cZ,c7,c8,dc,dR,dS,dU,dV,dW,dX,dY,dZ,ec,ee,ef,ei,ej,ek,en,eo,ep,er,eu,ew,ey,ez,eA,eB,eC,eD,eE,eF,eG,eH,gh,gi,gj,eL,eM,eN,eO,eP,eR,eS,eT,eU,eV,eW,eX,gl,gm,gn,eY,eZ,e3,e4,e5,e6,e7,e8,e9,fc,fe,ff,fh,fk,fm,fo,fq,fu,fA,fB,fC,fD,fE,fF,fG,fH,fI,fJ,fK,fL,fM,fN,fO,fP,fQ,fR,gu,gv,fS,fT,fU,fV,fW,fZ,ga,ir,iu,iw,iy,iz,iA,iB,iC,iD,iE,iF,iG,iX,iY,iZ,ja,jb,jc,jd,je],[]⟩ W')
  (H:∀(u8 bu bw bx bz bA bB bC bD bE bK bL bM bN bO bP u64 bQ bR bS bT bU bV bW bX bY bZ b5 b6 b7 b8 b9 cc cg ck cm cn cp dJ dK dL dM dN dO dP dQ cI cK cL cM cN cO cQ cR cS cT cU cV cW cZ c7 c8 dc dR dS dU dV dW dX dY dZ ec ee ef ei ej ek en eo ep er eu ew ey ez eA eB eC eD eE eF eG eH gh gi gj eL eM eN eO eP eR eS eT eU eV eW eX gl gm gn eY eZ e3 e4 e5 e6 e7 e8 e9 fc fe ff fh fk fm fo fq fu fA fB fC fD fE fF fG fH fI fJ fK fL fM fN fO fP fQ fR gu gv fS fT fU fV fW fZ ga ir iu iw iy iz iA iB iC iD iE iF iG:Value),(∀k,2<=k->k<(aA c2.cl d).length->jY c2 (ai (aA c2.cl d) k)= -1)->Q (.exit 4) ⟨#[.pointer (some ⟨G,0,none⟩),j7,lM,.int .i64 lit,.slice (some ⟨iR,0,none⟩) gU iT,.slice (some ⟨iR,0,none⟩) (kl) iT,.int .i64 (i:Int),.pointer (some ⟨cb d,0,none⟩),u8,kP,gG,gp,dm,gP,gr,gC,u16,dn,dr,dw,gd,dx,dy,dz,dA,dB,dD,dF,dG,cr,ct,cu,u32,cv,cw,cz,cA,cB,cC,cD,cE,cF,cG,cH,dH,dI,.slice (some ⟨iR,0,none⟩) gU iT,.int .i64 (gU:Int),.int .i64 (i:Int),bu,bw,bx,bz,bA,bB,bC,bD,bE,bK,bL,bM,bN,bO,bP,u64,bQ,bR,bS,bT,bU,bV,bW,bX,bY,bZ,b5,b6,b7,b8,b9,cc,cg,ck,cm,cn,cp,dJ,dK,dL,dM,dN,dO,dP,dQ,cI,cK,cL,cM,cN,cO,cQ,cR,cS,cT,cU,cV,cW,cZ,c7,c8,dc,dR,dS,dU,dV,dW,dX,dY,dZ,ec,ee,ef,ei,ej,ek,en,eo,ep,er,eu,ew,ey,ez,eA,eB,eC,eD,eE,eF,eG,eH,gh,gi,gj,eL,eM,eN,eO,eP,eR,eS,eT,eU,eV,eW,eX,gl,gm,gn,eY,eZ,e3,e4,e5,e6,e7,e8,e9,fc,fe,ff,fh,fk,fm,fo,fq,fu,fA,fB,fC,fD,fE,fF,fG,fH,fI,fJ,fK,fL,fM,fN,fO,fP,fQ,fR,gu,gv,fS,fT,fU,fV,fW,fZ,ga,ir,iu,iw,iy,iz,iA,iB,iC,iD,iE,iF,iG,iX,iY,iZ,ja,jb,jc,jd,je],[]⟩ W):
   g_ x_ (.loop Ls) Q ⟨#[.pointer (some ⟨G,0,none⟩),j7,lM,.int .i64 lit,.slice (some ⟨iR,0,none⟩) gU iT,.slice (some ⟨iR,0,none⟩) kl iT,.int .i64 (i:Int),.pointer (some ⟨cb d,0,none⟩),.int .i64 (2:Int),kP,gG,gp,dm,gP,gr,gC,u16,dn,dr,dw,gd,dx,dy,dz,dA,dB,dD,dF,dG,cr,ct,cu,u32,cv,cw,cz,cA,cB,cC,cD,cE,cF,cG,cH,dH,dI,.slice (some ⟨iR,0,none⟩) gU iT,.int .i64 (gU:Int),.int .i64 (i:Int),bu,bw,bx,bz,bA,bB,bC,bD,bE,bK,bL,bM,bN,bO,bP,u64,bQ,bR,bS,bT,bU,bV,bW,bX,bY,bZ,b5,b6,b7,b8,b9,cc,cg,ck,cm,cn,cp,dJ,dK,dL,dM,dN,dO,dP,dQ,cI,cK,cL,cM,cN,cO,cQ,cR,cS,cT,cU,cV,cW,cZ,c7,c8,dc,dR,dS,dU,dV,dW,dX,dY,dZ,ec,ee,ef,ei,ej,ek,en,eo,ep,er,eu,ew,ey,ez,eA,eB,eC,eD,eE,eF,eG,eH,gh,gi,gj,eL,eM,eN,eO,eP,eR,eS,eT,eU,eV,eW,eX,gl,gm,gn,eY,eZ,e3,e4,e5,e6,e7,e8,e9,fc,fe,ff,fh,fk,fm,fo,fq,fu,fA,fB,fC,fD,fE,fF,fG,fH,fI,fJ,fK,fL,fM,fN,fO,fP,fQ,fR,gu,gv,fS,fT,fU,fV,fW,fZ,ga,ir,iu,iw,iy,iz,iA,iB,iC,iD,iE,iF,iG,iX,iY,iZ,ja,jb,jc,jd,je],[]⟩ W:=by
 have hm:=hC.len;have I:=l.m C ag;have J:=l.rF ag;have L:2<=m:=by omega
 have M:=hC.cap;have ak:=hC.ag;have p:=U (z_ hm (z_ I (z_ J (z_ L M))));have M:(m:Int)<=(dh:Int):=by omega
 have qL:=U C;have q:=U l;have u:=U (z_ ag hw);have N:=U hC;have Z:=U E;have aa:=U H;clear C l ag hw hC E H hm I J L
 conv=>arg 2;arg 1;whnf
 conv=>arg 4;zeta
 go_loopw [8] (λ v ab=>ab=W/\∃k:Nat,v=.int .i64 k/\2<=k/\k<=m/\∀j,2<=j->j<k->jY c2 (ai (aA c2.cl d) j)= -1) (λ v _=>m-(intOf v).toNat)
 case atStart=>exact⟨rfl,2,rfl,m_ _,p.o.2.2.2.1,λ j h1 A=>absurd A (by omega)⟩
 case round=>
   obtain⟨rfl,k,rfl,O,P,hk⟩:=hrel;have r:=U (z_ O (z_ P hk));clear O P hk
   by_cases b:k<m
   ·have B:(k:Int)<(m:Int):=by omega
    have al:(0:Int)<=(k:Int):=by omega
    have ad:decide ((k:Int)<(m:Int))=true:=decide_eq_true B;have ao:n_.wrap ((k:Int)+1)=(k:Int)+1:=by rw[o_];have:=p.o;omega
    obtain⟨y,t⟩:∃y,ai (aA c2.cl d) k=y:=⟨_,rfl⟩
    have ae:=N.o.kB k b;rw[t] at ae;have R:gF s.c.n y:=by rw[<-t];exact q.o.ok qL.o u.o.1 (by have:=p.o;omega)
    obtain⟨z,D⟩:∃z,jY c2 y=z:=⟨_,rfl⟩
    have S:=U (q.o.is qL.o R D);have f:=U b;have g:=U (z_ t D);clear b t D R
    by_cases T:z= -1
    ·subst T
     go_wp2_with (go_at_call 152;refine S.o.mono ?_;rintro e af ⟨rfl,rfl⟩)
     go_roundw
     case rel=>exact⟨by trivial,k+1,by go_num,by have:=r.o;omega,by have:=f.o;omega,λ j h1 A=>by
      rcases Zr j k with h|h
      ·exact r.o.2.2 j h1 h
      ·obtain rfl:j=k:=by omega
       rw[g.o.1];exact g.o.2⟩
     case measure=>have:=f.o;simp[intOf];omega
    ·have ah:(0:Int)<=z:=by have:=g.o.2;have ar:=q.o.nY.gH.au.range y;omega
     have av:decide (0<=z)=true:=decide_eq_true ah
     go_upto_if 115 with(go_at_call 152;refine S.o.mono ?_;rintro e af ⟨rfl,rfl⟩)
     refine wp_cond_true rfl ?_;refine L3 qL.o q.o u.o.1 u.o.2 r.o.1 f.o (by rw[g.o.1,g.o.2];exact T) N.o ?_
     intros
     rename_i aj;apply Z.o;exact aj
   ·have B:¬(k:Int)<(m:Int):=by omega
    have ad:decide ((k:Int)<(m:Int))=false:=decide_eq_false B;have f:=U b;clear b
    go_wp2_with fail
    apply aa.o;intro j h1 A;exact r.o.2.2 j h1 (by have:=p.o;have:=f.o;omega)
theorem mB.app(b:mB K base w G cb F ax s c1 gB aL lit ls k0 i kl kept c2 jS W)(C:r0 G gB c1 s lit ls k0 g0 iR gU iT)(m:ls[i]? =some d):
  rH (W.alloc (.cells #[.pointer (some ⟨cb d,0,none⟩)] 164)) (some ⟨W.heap.size,0,none⟩) 1 1 [.pointer (some ⟨cb d,0,none⟩)]/\kl+1<=iT/\(∀j,j<1->((W.alloc (.cells #[.pointer (some ⟨cb d,0,none⟩)] 164)).cell? ⟨iR,kl+j,none⟩).isSome=true)/\(∀j,(W.alloc (.cells #[.pointer (some ⟨cb d,0,none⟩)] 164)).frozen? ⟨iR,j,none⟩=false)/\
  aP K base ((W.alloc (.cells #[.pointer (some ⟨cb d,0,none⟩)] 164)).setCells iR kl [.pointer (some ⟨cb d,0,none⟩)]) G jS cb {s with c:=kr c2 k0 ((kept++[d])++ls.drop (kl+1))}/\aF K W ((W.alloc (.cells #[.pointer (some ⟨cb d,0,none⟩)] 164)).setCells iR kl [.pointer (some ⟨cb d,0,none⟩)]):=by
 have o:i<ls.length:=(y_.1 m).1;have p:=b.BW;have q:=C.len;have r:=C.cap;have f:=b.gA.below (bg W (.cells #[.pointer (some ⟨cb d,0,none⟩)] 164));have hk:k0<c2.wt.length:=by rw[b.wm C];exact C.hk
 have g:aA (kr c2 k0 (kept++ls.drop kl)).wt k0=kept++ls.drop kl:=by show aA (c2.wt.set k0 _) k0=_;rw[qI,if_pos ⟨rfl,hk⟩]
 have hlen:(kept++ls.drop kl).length=ls.length:=by rw[r_,b.tA,h_];omega
 have l:=f.1.DM [d] (b.kZ C) (k:=k0) (by show k0<(kr c2 k0 (kept++ls.drop kl)).wt.length;rw[b.raw C];exact C.hk) kl;refine⟨rH.one (by go_simp),by omega,λ j t=>?_,λ j=>f.1.e.rows.free (b.kZ C) j,?_,f.2.trans l.2⟩
 ·obtain rfl:j=0:=by omega
  have n:kl<(kept++ls.drop kl).length:=by omega
  rw[Nat.add_zero,f.1.DP (b.kZ C) (j:=kl) (d:=(kept++ls.drop kl)[kl]) (by
   show(aA (kr c2 k0 (kept++ls.drop kl)).wt k0)[kl]? =_;rw[g];exact q_ n)]
  rfl
 ·have h1:=l.1;have e:(({s with c:=kr c2 k0 (kept++ls.drop kl)}:an).p6 k0 (tu (aA (({s with c:=kr c2 k0 (kept++ls.drop kl)}:an).c.wt) k0) kl [d]))={s with c:=kr c2 k0 ((kept++[d])++ls.drop (kl+1))}:=by
   show({s with c:=kr (kr c2 k0 (kept++ls.drop kl)) k0 (tu (aA (kr c2 k0 (kept++ls.drop kl)).wt k0) kl [d])}:an)=_;rw[g,DN];show({s with c:=kr c2 k0 ((kept++ls.drop kl).set kl d)}:an)=_;rw[Li b.tA (by omega)]
  rw[e] at h1;exact h1
theorem mB.rest(f:mB K base w G cb F ax s c1 gB aL lit ls k0 i kl kept c2 jS W)(C:r0 G gB c1 s lit ls k0 g0 iR gU iT)(n:ls[i]? =some d){jD:World}(g:aP K base jD G jS cb {s with c:=kr c2 k0 ((kept++[d])++ls.drop (kl+1))}):
  (∃off,(if iT=i+1 then some (⟨iR,0,none⟩:Addr) else some ⟨iR,i+1,none⟩)=some ⟨iR,off,none⟩/\∀c,rH jD (some ⟨iR,off,none⟩) (gU-(i+1)) c (kU cb (ls.drop (i+1))))/\kl+1+(gU-(i+1))<=iT/\(∀j,j<gU-(i+1)->(jD.cell? ⟨iR,kl+1+j,none⟩).isSome=true)/\(∀j,jD.frozen? ⟨iR,j,none⟩=false)/\
  ∃m:List Nat,m.take (kl+1+(gU-(i+1)))=aA c2.wt k0/\kl+1+(gU-(i+1))<=m.length/\aP K base (jD.setCells iR (kl+1) (kU cb (ls.drop (i+1)))) G jS cb {s with c:=kr c2 k0 m}/\aF K jD (jD.setCells iR (kl+1) (kU cb (ls.drop (i+1)))):=by
 have z:i<ls.length:=(y_.1 n).1;have A:ls[i]=d:=(y_.1 n).2;have N:=f.BW;have B:=C.len;have O:=C.cap;have hk:k0<c2.wt.length:=by rw[f.wm C];exact C.hk
 obtain⟨b,l⟩:∃r,(kept++[d])++ls.drop (kl+1)=r:=⟨_,rfl⟩
 rw[l] at g;have hlen:b.length=ls.length:=by rw[<-l];simp only[r_,List.length_singleton,h_,f.tA];omega
 have o:aA (kr c2 k0 b).wt k0=b:=by show aA (c2.wt.set k0 _) k0=_;rw[qI,if_pos ⟨rfl,hk⟩]
 have D:∀j,kl+1<=j->b[j]? =ls[j]? :=λ j E=>by
  have h1:(kept++[d]).length=kl+1:=by rw[r_,f.tA];rfl
  rw[<-l,b_ (by omega),h1,c_]
  congr 1;omega
 have p:∀j e,b[j]? =some e->jD.cell? ⟨iR,j,none⟩=some (.pointer (some ⟨cb e,0,none⟩)):=λ j e h=>g.DP (f.kZ C) (by
  show(aA (kr c2 k0 b).wt k0)[j]? =_;rw[o];exact h)
 have q:=g.DM (ls.drop (i+1)) (f.kZ C) (k:=k0) (by show k0<(kr c2 k0 b).wt.length;show k0<(c2.wt.set _ _).length;rw[i_];exact hk) (kl+1);have t:∀off c,(0<gU-(i+1)->off=i+1)->rH jD (some ⟨iR,off,none⟩) (gU-(i+1)) c (kU cb (ls.drop (i+1))):=λ off c H=>by
  refine⟨by simp[kU];omega,λ I=>⟨iR,off,rfl,λ j u hu=>?_⟩,λ u hu=>?_⟩
  ·simp only[kU,Zx,c_,Option.map_eq_some_iff] at hu;obtain⟨e,he,rfl⟩:=hu;rw[H I];exact p (i+1+j) e (by rw[D _ (by omega)];exact he)
  ·simp only[kU,List.mem_map] at hu;obtain⟨e,_,rfl⟩:=hu;exact⟨_,rfl⟩
 refine⟨?_,by omega,λ j E=>?_,λ j=>g.e.rows.free (f.kZ C) j,tu b (kl+1) (ls.drop (i+1)),?_,by rw[GB,hlen];omega,?_,q.2⟩
 ·by_cases v:iT=i+1
  ·exact⟨0,by rw[if_pos v],λ c=>t _ _ (by omega)⟩
  ·exact⟨i+1,by rw[if_neg v],λ c=>t _ _ (by omega)⟩
 ·have J:kl+1+j<b.length:=by omega
  rw[p (kl+1+j) b[kl+1+j] (q_ J)];rfl
 ·have L:kl+1+(gU-(i+1))=kl+1+(ls.drop (i+1)).length:=by rw[h_,B]
  have M:b.take (kl+1)=kept++[d]:=by
   rw[<-l,List.take_left' (by rw[r_,f.tA];rfl)]
  have y:=f.nY.wt;rw[C.kB,List.drop_eq_getElem_cons z,A] at y;rw[L,GC _ _ _ (by rw[h_];omega),M,y,List.append_assoc];rfl
 ·have h1:=q.1;have e:(({s with c:=kr c2 k0 b}:an).p6 k0 (tu (aA (({s with c:=kr c2 k0 b}:an).c.wt) k0) (kl+1) (ls.drop (i+1))))={s with c:=kr c2 k0 (tu b (kl+1) (ls.drop (i+1)))}:=by
   show({s with c:=kr (kr c2 k0 b) k0 (tu (aA (kr c2 k0 b).wt k0) (kl+1) (ls.drop (i+1)))}:an)=_;rw[o,DN]
  rw[e] at h1;exact h1
theorem L5(C:r0 G gB c1 s lit ls k0 g0 iR gU iT)(l:mB K base w G cb F ax s c1 gB aL lit ls k0 i kl kept c2 jS W)(ag:ls[i]? =some d)(hw:w1 c2 d= -lit)(az:∀k,2<=k->k<(aA c2.cl d).length->jY c2 (ai (aA c2.cl d) k)= -1)(P:jY c2 (w0 c2 d)≠1)
  (aB:∀(R S u8 bu bw bx bz bA bB bC bD bE bK bL bM bN bO bP u64 bQ bR bS bT bU bV bW bX bY bZ b5 b6 b7 b8 b9 cc cg ck cm cn cp dJ dK dL dM dN dO dP dQ cI cK cL cM cN cO cQ cR cS cT cU cV cW cZ c7 c8 dc dR dS dU dV dW dX dY dZ ec ee ef ei ej ek en eo ep er eu ew ey ez eA eB eC eD eE eF eG eH gh gi gj eL eM eN eO eP eR eS eT eU eV eW eX gl gm gn eY eZ e3 e4 e5 e6 e7 e8 e9 fc fe ff fh fk fm fo fq fu fA fB fC fD fE fF fG fH fI fJ fK fL fM fN fO fP fQ fR gu gv fS fT fU fV fW fZ ga ir iu iw iy iz iA iB iC iD iE iF iG:Value)(c3:Core)(T:Nat->aq)(W':World),mB K base w G cb F ax s c1 gB aL lit ls k0 (i+1) (kl+1) (kept++[d]) c3 T W'->Q .normal ⟨#[.pointer (some ⟨G,0,none⟩),j7,lM,.int .i64 lit,.slice (some ⟨iR,0,none⟩) gU iT,.slice (some ⟨iR,0,none⟩) (kl+1) iT,R,S,u8,kP,gG,gp,dm,gP,gr,gC,u16,dn,dr,dw,gd,dx,dy,dz,dA,dB,dD,dF,dG,cr,ct,cu,u32,cv,cw,cz,cA,cB,cC,cD,cE,cF,cG,cH,dH,dI,.slice (some ⟨iR,0,none⟩) gU iT,.int .i64 (gU:Int),.int .i64 (i:Int),bu,bw,bx,bz,bA,bB,bC,bD,bE,bK,bL,bM,bN,bO,bP,u64,bQ,bR,bS,bT,bU,bV,bW,bX,bY,bZ,b5,b6,b7,b8,b9,cc,cg,ck,cm,cn,cp,dJ,dK,dL,dM,dN,dO,dP,dQ,cI,cK,cL,cM,cN,cO,cQ,cR,cS,cT,cU,cV,cW,cZ,c7,c8,dc,dR,dS,dU,dV,dW,dX,dY,dZ,ec,ee,ef,ei,ej,ek,en,eo,ep,er,eu,ew,ey,ez,eA,eB,eC,eD,eE,eF,eG,eH,gh,gi,gj,eL,eM,eN,eO,eP,eR,eS,eT,eU,eV,eW,eX,gl,gm,gn,eY,eZ,e3,e4,e5,e6,e7,e8,e9,fc,fe,ff,fh,fk,fm,fo,fq,fu,fA,fB,fC,fD,fE,fF,fG,fH,fI,fJ,fK,fL,fM,fN,fO,fP,fQ,fR,gu,gv,fS,fT,fU,fV,fW,fZ,ga,ir,iu,iw,iy,iz,iA,iB,iC,iD,iE,iF,iG,iX,iY,iZ,ja,jb,jc,jd,je],[]⟩ W')
  (aC:∀(ba R S u8 bu bw bx bz bA bB bC bD bE bK bL bM bN bO bP u64 bQ bR bS bT bU bV bW bX bY bZ b5 b6 b7 b8 b9 cc cg ck cm cn cp dJ dK dL dM dN dO dP dQ cI cK cL cM cN cO cQ cR cS cT cU cV cW cZ c7 c8 dc dR dS dU dV dW dX dY dZ ec ee ef ei ej ek en eo ep er eu ew ey ez eA eB eC eD eE eF eG eH gh gi gj eL eM eN eO eP eR eS eT eU eV eW eX gl gm gn eY eZ e3 e4 e5 e6 e7 e8 e9 fc fe ff fh fk fm fo fq fu fA fB fC fD fE fF fG fH fI fJ fK fL fM fN fO fP fQ fR gu gv fS fT fU fV fW fZ ga ir iu iw iy iz iA iB iC iD iE iF iG:Value)(c3:Core)(T:Nat->aq)(W':World),kf F F c3 aL []->nK c3 ax->tY c1 c3->d<c3.cl.length->(∀x∈aA c3.cl d,-x∈c3.av)->aP K base W' G T cb {s with c:=c3}->aF K w W'->Q .ret ⟨#[.pointer (some ⟨G,0,none⟩),j7,.pointer (some ⟨cb d,0,none⟩),.int .i64 lit,.slice (some ⟨iR,0,none⟩) gU iT,ba,R,S,u8,kP,gG,gp,dm,gP,gr,gC,u16,dn,dr,dw,gd,dx,dy,dz,dA,dB,dD,dF,dG,cr,ct,cu,u32,cv,cw,cz,cA,cB,cC,cD,cE,cF,cG,cH,dH,dI,.slice (some ⟨iR,0,none⟩) gU iT,.int .i64 (gU:Int),.int .i64 (i:Int),bu,bw,bx,bz,bA,bB,bC,bD,bE,bK,bL,bM,bN,bO,bP,u64,bQ,bR,bS,bT,bU,bV,bW,bX,bY,bZ,b5,b6,b7,b8,b9,cc,cg,ck,cm,cn,cp,dJ,dK,dL,dM,dN,dO,dP,dQ,cI,cK,cL,cM,cN,cO,cQ,cR,cS,cT,cU,cV,cW,cZ,c7,c8,dc,dR,dS,dU,dV,dW,dX,dY,dZ,ec,ee,ef,ei,ej,ek,en,eo,ep,er,eu,ew,ey,ez,eA,eB,eC,eD,eE,eF,eG,eH,gh,gi,gj,eL,eM,eN,eO,eP,eR,eS,eT,eU,eV,eW,eX,gl,gm,gn,eY,eZ,e3,e4,e5,e6,e7,e8,e9,fc,fe,ff,fh,fk,fm,fo,fq,fu,fA,fB,fC,fD,fE,fF,fG,fH,fI,fJ,fK,fL,fM,fN,fO,fP,fQ,fR,gu,gv,fS,fT,fU,fV,fW,fZ,ga,ir,iu,iw,iy,iz,iA,iB,iC,iD,iE,iF,iG,iX,iY,iZ,ja,jb,jc,jd,je],[]⟩ W'):
   g_ x_ Lr Q ⟨#[.pointer (some ⟨G,0,none⟩),j7,lM,.int .i64 lit,.slice (some ⟨iR,0,none⟩) gU iT,.slice (some ⟨iR,0,none⟩) kl iT,.int .i64 (i:Int),.pointer (some ⟨cb d,0,none⟩),u8,kP,gG,gp,dm,gP,gr,gC,u16,dn,dr,dw,gd,dx,dy,dz,dA,dB,dD,dF,dG,cr,ct,cu,u32,cv,cw,cz,cA,cB,cC,cD,cE,cF,cG,cH,dH,dI,.slice (some ⟨iR,0,none⟩) gU iT,.int .i64 (gU:Int),.int .i64 (i:Int),bu,bw,bx,bz,bA,bB,bC,bD,bE,bK,bL,bM,bN,bO,bP,u64,bQ,bR,bS,bT,bU,bV,bW,bX,bY,bZ,b5,b6,b7,b8,b9,cc,cg,ck,cm,cn,cp,dJ,dK,dL,dM,dN,dO,dP,dQ,cI,cK,cL,cM,cN,cO,cQ,cR,cS,cT,cU,cV,cW,cZ,c7,c8,dc,dR,dS,dU,dV,dW,dX,dY,dZ,ec,ee,ef,ei,ej,ek,en,eo,ep,er,eu,ew,ey,ez,eA,eB,eC,eD,eE,eF,eG,eH,gh,gi,gj,eL,eM,eN,eO,eP,eR,eS,eT,eU,eV,eW,eX,gl,gm,gn,eY,eZ,e3,e4,e5,e6,e7,e8,e9,fc,fe,ff,fh,fk,fm,fo,fq,fu,fA,fB,fC,fD,fE,fF,fG,fH,fI,fJ,fK,fL,fM,fN,fO,fP,fQ,fR,gu,gv,fS,fT,fU,fV,fW,fZ,ga,ir,iu,iw,iy,iz,iA,iB,iC,iD,iE,iF,iG,iX,iY,iZ,ja,jb,jc,jd,je],[]⟩ W:=by
 have hm:=l.m C ag;have aD:=l.rF ag;have H:i<ls.length:=(y_.1 ag).1;have aE:=l.BW;have p:=U (l.app C ag);have aG:=C.len;have aH:=C.lb;have bq:kl<200000:=by omega
 obtain⟨b,I⟩:∃x,w0 c2 d=x:=⟨_,rfl⟩
 obtain⟨z,J⟩:∃z,jY c2 b=z:=⟨_,rfl⟩
 have X:gF s.c.n b:=by rw[<-I];exact l.ok C ag (by omega)
 have aJ: -60000<=b/\b<=60000:=by have:=X.2;have:=C.aj;unfold aI at*;omega
 have rg:=l.nY.gH.au.range b;rw[I,J] at P;rw[J] at rg;have D:=U (z_ C (z_ l (z_ ag (z_ hw (z_ az (z_ hm (z_ aD (z_ H (z_ aE (z_ aG (z_ aH (z_ I (z_ J (z_ X (z_ aJ (z_ P rg))))))))))))))));have bb:=U aB;have bc:=U aC;clear C l ag hw az hm aD H aE aG aH I J X aJ P rg aB aC
 conv=>arg 2;whnf
 conv=>arg 4;zeta
 go_upto_region 20 with(at_builtin;refine DL rfl (.tmp 170) (.tmp 172) rfl iR kl iT W.heap.size 0 1 1 _ rfl rfl p.o.1 p.o.2.1 p.o.2.2.1 p.o.2.2.2.1 ?_)
 have q:=p.o.2.2.2.2.1;have E:=p.o.2.2.2.2.2;have br:kl+1<=iT:=p.o.2.1;generalize (W.alloc (.cells #[.pointer (some ⟨cb d,0,none⟩)] 164)).setCells iR kl [.pointer (some ⟨cb d,0,none⟩)]=y at q E⊢;clear p;obtain⟨bk,m,bd,r⟩:=q.y9 (d:=d) D.o.2.2.2.2.2.2.1.1 (by have:=D.o.2.2.2.2.2.2.1.2;show 1<=(aA c2.cl d).length;omega);have r:y8 base y G jS cb d bk m bd (aA c2.cl d):=r;have bs:2<=m:=by have:=r.len;have:=D.o.2.2.2.2.2.2.1.2;omega
 have bg:=r.ag;have a0:=r.kB 0 (by omega);rw[show ai (aA c2.cl d) 0=b from D.o.2.2.2.2.2.2.2.2.2.2.2.1] at a0;have bt:(0:Int)<(m:Int):=by omega
 have q:=U q;have E:=U E;have r:=U r;have L:bF ((kr c2 k0 ((kept++[d])++ls.drop (kl+1))).n=s.c.n):=U (D.o.2.1.lD D.o.1);have Y:bF (Calls x_ 152 #[.pointer (some ⟨G,0,none⟩),.int .i64 b] y λ e w'=>e=.returned (.int .i8 z)/\y=w'):=U (by
   have h1:=BS q.o (DQ D.o.2.1.nY.gH.au) (show(kr c2 k0 ((kept++[d])++ls.drop (kl+1))).n<=60000 by rw[L.o];exact D.o.1.aj) (x:=b) (by show gF (kr c2 k0 ((kept++[d])++ls.drop (kl+1))).n b;rw[L.o];exact D.o.2.2.2.2.2.2.2.2.2.2.2.2.2.1);rw[show jY (({s with c:=kr c2 k0 ((kept++[d])++ls.drop (kl+1))}:an).c) b=z from D.o.2.2.2.2.2.2.2.2.2.2.2.2.1] at h1;exact h1)
 by_cases bh:z= -1
 · have Z:z<0:=by omega
   have bj:decide (z<0)=true:=decide_eq_true Z;have aK:=D.o.2.2.2.2.2.2.2.1;have aM:=D.o.2.2.2.2.2.2.2.2.2.1;have aN:=D.o.2.2.2.2.2.2.2.2.2.2.1;have aO:=D.o.1.cap;have li:(i:Int)+1<=(gU:Int):=by omega
   have lc:(gU:Int)<=(iT:Int):=by omega
   have bG:(0:Int)<=(i:Int)+1:=by omega
   have bH:n_.wrap ((i:Int)+1)=(i:Int)+1:=by rw[o_];omega
   have bI:=U (z_ aK (z_ aM (z_ aN aO)));clear aK aM aN aO;obtain⟨⟨off,aQ,aR⟩,aS,aT,aU,bJ,t⟩:=D.o.2.1.rest D.o.1 D.o.2.2.1 q.o;have aW:=U aR;have aa:=U (z_ aT aU);have t:=U t;have ab:=U aQ;clear aR aT aU aQ
   go_upto_region 22 with(first|(go_at_call 152;refine Y.o.mono ?_;rintro e aX ⟨rfl,rfl⟩;dsimp only)|(at_builtin;refine DL rfl (.tmp 183) (.tmp 187) rfl iR (kl+1) iT iR off (gU-(i+1)) (iT-(i+1)) _ rfl (congrArg (λ A=>Value.slice A (gU-(i+1)) (iT-(i+1))) ab.o) (aW.o _) aS aa.o.1 aa.o.2 ?_))
   rw[ab.o];have g:=U t.o.2.2.1;have B:=U (E.o.trans t.o.2.2.2);have ad:=U (z_ t.o.1 t.o.2.1);clear t aW aa ab;obtain⟨ae,af⟩:∃n,kl+1+(gU-(i+1))=n:=⟨_,rfl⟩
   rw[af] at ad aS⊢;have M:=D.o.2.1.bf D.o.1;have ah:=g.o.e.rE 1 M (g.o.e.jj.trans (by show(c2.wt.set _ _).length=2*s.c.n+2;rw[i_];exact D.o.2.1.wm D.o.1)) rfl;have f0:=g.o.e.rows.free M k0;have aY:bF (k0<c2.wt.length):=U (by rw[D.o.2.1.wm D.o.1];exact D.o.1.hk);have aZ:=D.o.2.1.hw.trans D.o.1.ag;have b0:(k0:Int)<2*(s.c.n:Int)+2:=by have:=D.o.1.hk;omega
   have a6:bF (∀w:World,Calls x_ 181 #[.int .i64 lit] w λ e w'=>e=.returned (.int .i64 (k0:Int))/\w=w'):=U (λ w=>by have:=GG D.o.1.ok D.o.1.aj w;rw[D.o.1.kB] at this;exact this);have N:=U (z_ M aZ);have b1:=U af;clear M aZ af;obtain⟨ak,a7⟩:∃ak,kU cb (ls.drop (i+1))=ak:=⟨_,rfl⟩
   rw[a7] at g B ah f0⊢;clear a7;obtain⟨u,a8⟩:∃u,World.setCells y iR (kl+1) ak=u:=⟨_,rfl⟩
   rw[a8] at g B ah f0⊢;have al:u.cell? ⟨g0,k0,none⟩=some (.slice (some ⟨iR,0,none⟩) gU iT):=by have:=g.o.e.x5 N.o.1 (k:=k0) (by show k0<(c2.wt.set _ _).length;rw[i_];exact aY.o);rw[N.o.2] at this;exact this
   clear a8 bg a0 q Y;refine w_ 8 (by kernel_rfl) (by kernel_rfl) ?_;simp only[v_,s_,u_,t_]
   iterate 5 still_step
   still_call ((a6.o _).mono (λ e w' h=>⟨h.1,h.2.symm⟩))
   iterate 2 still_step
   refine l_ ?_;change wpList _ _ _ _ _ u.drew;have f0:u.drew.frozen? ⟨g0,k0,none⟩=false:=f0;have al:u.drew.cell? ⟨g0,k0,none⟩=some (.slice (some ⟨iR,0,none⟩) gU iT):=al
   go_upto_region 23 with fail
   have f:=BU (c2:=c2) g.o N.o.1 aY.o N.o.2 ad.o.1 ad.o.2 rfl;have ao:=B.o.trans f.2;have f:=f.1;generalize (u.setCell ⟨g0,k0,none⟩ (.slice (some ⟨iR,0,none⟩) ae iT)).drew=a' at f ao⊢;clear f0 al ah a6 g B;obtain⟨bl,j8,c4,ar⟩:∃A n c,iH jS (ij k0) ⟨some ⟨iR,0,none⟩,ae,iT⟩ 4=⟨A,n,c⟩:=⟨_,_,_,rfl⟩
   have bn:j8=c2.av.length:=by have:=f.e.j8;rw[ar] at this;exact this
   have b2:a'.cell? ⟨G,5,none⟩=some (.slice bl j8 c4):=by have:=f.e.kA (k:=5) (v:=(iH jS (ij k0) ⟨some ⟨iR,0,none⟩,ae,iT⟩ 4).v) rfl;rw[ar] at this;exact this
   have f7:=f.e.free 7;have b3:a'.cell? ⟨G,7,none⟩=some (.int .i64 (c2.ag:Int)):=f.e.kA (k:=7) (v:=.int .i64 (c2.ag:Int)) rfl;have O:=f.BG j8;have bo:=U (ao.trans O.2);have O:=U O.1;have f:=U f;clear ar ao bn
   go_wp2_with fail
   have j:ls[i]'(D.o.2.2.2.2.2.2.2.1)=d:=(y_.1 D.o.2.2.1).2;have aw:=D.o.2.1.nY.Kz D.o.2.2.2.2.2.2.2.1 (by rw[j];exact D.o.2.2.2.1) (by rw[j];exact D.o.2.2.2.2.1) (by rw[j,D.o.2.2.2.2.2.2.2.2.2.2.2.1,D.o.2.2.2.2.2.2.2.2.2.2.2.2.1];exact bh);rw[j] at aw;have lT:=D.o.2.1.nY.sm;apply bc.o (c3:={c2 with ag:=j8});exact aw.1.y6 j8;exact D.o.2.1.nY.8.same rfl rfl rfl;exact⟨lT.n,lT.st,lT.len,lT.lC,lT.BC,lT.av,lT.cls,lT.v0,λ w=>lT.qO w⟩;exact D.o.2.2.2.2.2.2.1.1;exact aw.2;exact O.o;exact D.o.2.1.iQ.trans bo.o
 · have z0:bF (z=0):=U (by have:=D.o;omega);have Z:¬z<0:=by have:=z0.o;omega
   have bj:decide (z<0)=false:=decide_eq_false Z;have bp:bF (Calls x_ 156 #[.pointer (some ⟨G,0,none⟩),.int .i64 b,.pointer (some ⟨cb d,0,none⟩)] y λ e w'=>e=.returned (.tuple #[])/\∃h':aq,aP K base w' G (iH jS 4 h') cb {s with c:=k5 (kr c2 k0 ((kept++[d])++ls.drop (kl+1))) b (some d)}/\aF K y w'):=U (by
    have h1:=BR q.o b (some d) (DQ D.o.2.1.nY.gH.au) (by show gF (kr c2 k0 ((kept++[d])++ls.drop (kl+1))).n b;rw[L.o];exact D.o.2.2.2.2.2.2.2.2.2.2.2.2.2.1) (show(kr c2 k0 ((kept++[d])++ls.drop (kl+1))).n<=60000 by rw[L.o];exact D.o.1.aj) (by show c2.st.length<=1000000;rw[D.o.2.1.nY.sm.st,D.o.1.st];exact D.o.1.jq);exact h1)
   go_wp2_with (first|(go_at_call 152;refine Y.o.mono ?_;rintro e aX ⟨rfl,rfl⟩;dsimp only)|(go_at_call 156;refine bp.o.mono ?_;rintro e aX ⟨rfl,h',g,B⟩;dsimp only))
   apply bb.o;have H:=D.o.2.2.2.2.2.2.2.1;have j:ls[i]=d:=(y_.1 D.o.2.2.1).2;have V:=D.o.2.1.nY.set H (by rw[j];exact D.o.2.2.2.1) (by rw[j];exact D.o.2.2.2.2.1) (by rw[j,D.o.2.2.2.2.2.2.2.2.2.2.2.1,D.o.2.2.2.2.2.2.2.2.2.2.2.2.1];exact z0.o);rw[j,D.o.2.2.2.2.2.2.2.2.2.2.2.1] at V;exact⟨V,by rw[r_,D.o.2.1.tA];rfl,g,(aV _ _ (by unfold ij;omega)).trans D.o.2.1.hw,(aV _ _ (by omega)).trans D.o.2.1.ay,D.o.2.1.iQ.trans (E.o.trans B)⟩
noncomputable def L6:Code:=nw (nw GK)
theorem GX(C:r0 G gB c1 s lit ls k0 g0 iR gU iT)(b:mB K base w G cb F ax s c1 gB aL lit ls k0 i kl kept c2 jS W)(ag:ls[i]? =some d)(hw:w1 c2 d= -lit)
  (E:∀(k l u8 bu bw bx bz bA bB bC bD bE bK bL bM bN bO bP u64 bQ bR bS bT bU bV bW bX bY bZ b5 b6 b7 b8 b9 cc cg ck cm cn cp dJ dK dL dM dN dO dP dQ cI cK cL cM cN cO cQ cR cS cT cU cV cW cZ c7 c8 dc dR dS dU dV dW dX dY dZ ec ee ef ei ej ek en eo ep er eu ew ey ez eA eB eC eD eE eF eG eH gh gi gj eL eM eN eO eP eR eS eT eU eV eW eX gl gm gn eY eZ e3 e4 e5 e6 e7 e8 e9 fc fe ff fh fk fm fo fq fu fA fB fC fD fE fF fG fH fI fJ fK fL fM fN fO fP fQ fR gu gv fS fT fU fV fW fZ ga ir iu iw iy iz iA iB iC iD iE iF iG:Value)(H:Nat)(N:List Nat)(c3:Core)(p:Nat->aq)(W':World),mB K base w G cb F ax s c1 gB aL lit ls k0 (i+1) H N c3 p W'->Q (.exit 3) ⟨#[.pointer (some ⟨G,0,none⟩),j7,lM,.int .i64 lit,.slice (some ⟨iR,0,none⟩) gU iT,.slice (some ⟨iR,0,none⟩) (H) iT,k,l,u8,kP,gG,gp,dm,gP,gr,gC,u16,dn,dr,dw,gd,dx,dy,dz,dA,dB,dD,dF,dG,cr,ct,cu,u32,cv,cw,cz,cA,cB,cC,cD,cE,cF,cG,cH,dH,dI,.slice (some ⟨iR,0,none⟩) gU iT,.int .i64 (gU:Int),.int .i64 (i:Int),bu,bw,bx,bz,bA,bB,bC,bD,bE,bK,bL,bM,bN,bO,bP,u64,bQ,bR,bS,bT,bU,bV,bW,bX,bY,bZ,b5,b6,b7,b8,b9,cc,cg,ck,cm,cn,cp,dJ,dK,dL,dM,dN,dO,dP,dQ,cI,cK,cL,cM,cN,cO,cQ,cR,cS,cT,cU,cV,cW,cZ,c7,c8,dc,dR,dS,dU,dV,dW,dX,dY,dZ,ec,ee,ef,ei,ej,ek,en,eo,ep,er,eu,ew,ey,ez,eA,eB,eC,eD,eE,eF,eG,eH,gh,gi,gj,eL,eM,eN,eO,eP,eR,eS,eT,eU,eV,eW,eX,gl,gm,gn,eY,eZ,e3,e4,e5,e6,e7,e8,e9,fc,fe,ff,fh,fk,fm,fo,fq,fu,fA,fB,fC,fD,fE,fF,fG,fH,fI,fJ,fK,fL,fM,fN,fO,fP,fQ,fR,gu,gv,fS,fT,fU,fV,fW,fZ,ga,ir,iu,iw,iy,iz,iA,iB,iC,iD,iE,iF,iG,iX,iY,iZ,ja,jb,jc,jd,je],[]⟩ W')
  (I:∀(k l u8 bu bw bx bz bA bB bC bD bE bK bL bM bN bO bP u64 bQ bR bS bT bU bV bW bX bY bZ b5 b6 b7 b8 b9 cc cg ck cm cn cp dJ dK dL dM dN dO dP dQ cI cK cL cM cN cO cQ cR cS cT cU cV cW cZ c7 c8 dc dR dS dU dV dW dX dY dZ ec ee ef ei ej ek en eo ep er eu ew ey ez eA eB eC eD eE eF eG eH gh gi gj eL eM eN eO eP eR eS eT eU eV eW eX gl gm gn eY eZ e3 e4 e5 e6 e7 e8 e9 fc fe ff fh fk fm fo fq fu fA fB fC fD fE fF fG fH fI fJ fK fL fM fN fO fP fQ fR gu gv fS fT fU fV fW fZ ga ir iu iw iy iz iA iB iC iD iE iF iG:Value)(c3:Core)(p:Nat->aq)(W':World),mB K base w G cb F ax s c1 gB aL lit ls k0 (i+1) (kl+1) (kept++[d]) c3 p W'->Q .normal ⟨#[.pointer (some ⟨G,0,none⟩),j7,lM,.int .i64 lit,.slice (some ⟨iR,0,none⟩) gU iT,.slice (some ⟨iR,0,none⟩) (kl+1) iT,k,l,u8,kP,gG,gp,dm,gP,gr,gC,u16,dn,dr,dw,gd,dx,dy,dz,dA,dB,dD,dF,dG,cr,ct,cu,u32,cv,cw,cz,cA,cB,cC,cD,cE,cF,cG,cH,dH,dI,.slice (some ⟨iR,0,none⟩) gU iT,.int .i64 (gU:Int),.int .i64 (i:Int),bu,bw,bx,bz,bA,bB,bC,bD,bE,bK,bL,bM,bN,bO,bP,u64,bQ,bR,bS,bT,bU,bV,bW,bX,bY,bZ,b5,b6,b7,b8,b9,cc,cg,ck,cm,cn,cp,dJ,dK,dL,dM,dN,dO,dP,dQ,cI,cK,cL,cM,cN,cO,cQ,cR,cS,cT,cU,cV,cW,cZ,c7,c8,dc,dR,dS,dU,dV,dW,dX,dY,dZ,ec,ee,ef,ei,ej,ek,en,eo,ep,er,eu,ew,ey,ez,eA,eB,eC,eD,eE,eF,eG,eH,gh,gi,gj,eL,eM,eN,eO,eP,eR,eS,eT,eU,eV,eW,eX,gl,gm,gn,eY,eZ,e3,e4,e5,e6,e7,e8,e9,fc,fe,ff,fh,fk,fm,fo,fq,fu,fA,fB,fC,fD,fE,fF,fG,fH,fI,fJ,fK,fL,fM,fN,fO,fP,fQ,fR,gu,gv,fS,fT,fU,fV,fW,fZ,ga,ir,iu,iw,iy,iz,iA,iB,iC,iD,iE,iF,iG,iX,iY,iZ,ja,jb,jc,jd,je],[]⟩ W')
  (J:∀(O k l u8 bu bw bx bz bA bB bC bD bE bK bL bM bN bO bP u64 bQ bR bS bT bU bV bW bX bY bZ b5 b6 b7 b8 b9 cc cg ck cm cn cp dJ dK dL dM dN dO dP dQ cI cK cL cM cN cO cQ cR cS cT cU cV cW cZ c7 c8 dc dR dS dU dV dW dX dY dZ ec ee ef ei ej ek en eo ep er eu ew ey ez eA eB eC eD eE eF eG eH gh gi gj eL eM eN eO eP eR eS eT eU eV eW eX gl gm gn eY eZ e3 e4 e5 e6 e7 e8 e9 fc fe ff fh fk fm fo fq fu fA fB fC fD fE fF fG fH fI fJ fK fL fM fN fO fP fQ fR gu gv fS fT fU fV fW fZ ga ir iu iw iy iz iA iB iC iD iE iF iG:Value)(c3:Core)(p:Nat->aq)(W':World),kf F F c3 aL []->nK c3 ax->tY c1 c3->d<c3.cl.length->(∀x∈aA c3.cl d,-x∈c3.av)->aP K base W' G p cb {s with c:=c3}->aF K w W'->Q .ret ⟨#[.pointer (some ⟨G,0,none⟩),j7,.pointer (some ⟨cb d,0,none⟩),.int .i64 lit,.slice (some ⟨iR,0,none⟩) gU iT,O,k,l,u8,kP,gG,gp,dm,gP,gr,gC,u16,dn,dr,dw,gd,dx,dy,dz,dA,dB,dD,dF,dG,cr,ct,cu,u32,cv,cw,cz,cA,cB,cC,cD,cE,cF,cG,cH,dH,dI,.slice (some ⟨iR,0,none⟩) gU iT,.int .i64 (gU:Int),.int .i64 (i:Int),bu,bw,bx,bz,bA,bB,bC,bD,bE,bK,bL,bM,bN,bO,bP,u64,bQ,bR,bS,bT,bU,bV,bW,bX,bY,bZ,b5,b6,b7,b8,b9,cc,cg,ck,cm,cn,cp,dJ,dK,dL,dM,dN,dO,dP,dQ,cI,cK,cL,cM,cN,cO,cQ,cR,cS,cT,cU,cV,cW,cZ,c7,c8,dc,dR,dS,dU,dV,dW,dX,dY,dZ,ec,ee,ef,ei,ej,ek,en,eo,ep,er,eu,ew,ey,ez,eA,eB,eC,eD,eE,eF,eG,eH,gh,gi,gj,eL,eM,eN,eO,eP,eR,eS,eT,eU,eV,eW,eX,gl,gm,gn,eY,eZ,e3,e4,e5,e6,e7,e8,e9,fc,fe,ff,fh,fk,fm,fo,fq,fu,fA,fB,fC,fD,fE,fF,fG,fH,fI,fJ,fK,fL,fM,fN,fO,fP,fQ,fR,gu,gv,fS,fT,fU,fV,fW,fZ,ga,ir,iu,iw,iy,iz,iA,iB,iC,iD,iE,iF,iG,iX,iY,iZ,ja,jb,jc,jd,je],[]⟩ W'):
   g_ x_ L6 Q ⟨#[.pointer (some ⟨G,0,none⟩),j7,lM,.int .i64 lit,.slice (some ⟨iR,0,none⟩) gU iT,.slice (some ⟨iR,0,none⟩) kl iT,.int .i64 (i:Int),.pointer (some ⟨cb d,0,none⟩),u8,kP,gG,gp,dm,gP,gr,gC,u16,dn,dr,dw,gd,dx,dy,dz,dA,dB,dD,dF,dG,cr,ct,cu,u32,cv,cw,cz,cA,cB,cC,cD,cE,cF,cG,cH,dH,dI,.slice (some ⟨iR,0,none⟩) gU iT,.int .i64 (gU:Int),.int .i64 (i:Int),bu,bw,bx,bz,bA,bB,bC,bD,bE,bK,bL,bM,bN,bO,bP,u64,bQ,bR,bS,bT,bU,bV,bW,bX,bY,bZ,b5,b6,b7,b8,b9,cc,cg,ck,cm,cn,cp,dJ,dK,dL,dM,dN,dO,dP,dQ,cI,cK,cL,cM,cN,cO,cQ,cR,cS,cT,cU,cV,cW,cZ,c7,c8,dc,dR,dS,dU,dV,dW,dX,dY,dZ,ec,ee,ef,ei,ej,ek,en,eo,ep,er,eu,ew,ey,ez,eA,eB,eC,eD,eE,eF,eG,eH,gh,gi,gj,eL,eM,eN,eO,eP,eR,eS,eT,eU,eV,eW,eX,gl,gm,gn,eY,eZ,e3,e4,e5,e6,e7,e8,e9,fc,fe,ff,fh,fk,fm,fo,fq,fu,fA,fB,fC,fD,fE,fF,fG,fH,fI,fJ,fK,fL,fM,fN,fO,fP,fQ,fR,gu,gv,fS,fT,fU,fV,fW,fZ,ga,ir,iu,iw,iy,iz,iA,iB,iC,iD,iE,iF,iG,iX,iY,iZ,ja,jb,jc,jd,je],[]⟩ W:=by
 have u:=b.rF ag;have v:i<ls.length:=(y_.1 ag).1;have g:=U (b.app C ag);obtain⟨bk,m,P,f⟩:=b.gA.y9 (d:=d) u.1 (by show 1<=(aA c2.cl d).length;omega);have f:y8 base W G jS cb d bk m P (aA c2.cl d):=f;obtain⟨j,q⟩:∃x,w0 c2 d=x:=⟨_,rfl⟩
 obtain⟨z,r⟩:∃z,jY c2 j=z:=⟨_,rfl⟩
 have t:gF s.c.n j:=by rw[<-q];exact b.ok C ag (by omega)
 have rg:=b.nY.gH.au.range j;rw[r] at rg;have ab:2<=m:=by have:=f.len;omega
 have ad:=f.ag;have a0:=f.kB 0 (by omega);rw[show ai (aA c2.cl d) 0=j from q] at a0;have ae:(0:Int)<(m:Int):=by omega
 have L:=U ((b.is C t r).mono λ e w' h=>z_ h.1 h.2.symm);have f:=U f;have R:bF (z=1->mB K base w G cb F ax s c1 gB aL lit ls k0 (i+1) (kl+1) (kept++[d]) c2 jS ((W.alloc (.cells #[.pointer (some ⟨cb d,0,none⟩)] 164)).setCells iR kl [.pointer (some ⟨cb d,0,none⟩)])):=U (λ h1=>by
   have y:ls[i]=d:=(y_.1 ag).2;have hl:gF c2.n j:=by rw[b.lD C];exact t
   have V:=b.nY.keep v (by rw[y];exact hw) (by rw[y,q];exact(b.nY.gH.au.pos j hl).1 (r.trans h1));rw[y] at V;exact⟨V,by rw[r_,b.tA];rfl,g.o.2.2.2.2.1,b.hw,b.ay,b.iQ.trans g.o.2.2.2.2.2⟩)
 have D:=U (z_ C (z_ b (z_ ag (z_ hw (z_ u (z_ v (z_ q (z_ r (z_ t rg)))))))));have M:=U E;have S:=U I;have T:=U J;clear C b ag hw u v q r t rg E I J
 conv=>arg 2;whnf
 conv=>arg 4;zeta
 by_cases h1:z=1
 · have A:0<z:=by omega
   have X:decide (0<z)=true:=decide_eq_true A;have H1:=U h1;clear h1
   go_wp2_with (first|(go_at_call 152;refine L.o.mono ?_;rintro e Y ⟨rfl,rfl⟩;dsimp only)|(at_builtin;refine DL rfl (.tmp 93) (.tmp 95) rfl iR kl iT W.heap.size 0 1 1 _ rfl rfl g.o.1 g.o.2.1 g.o.2.2.1 g.o.2.2.2.1 ?_))
   apply M.o;exact R.o H1.o
 · have A:¬0<z:=by have:=D.o;omega
   have X:decide (0<z)=false:=decide_eq_false A;have H1:=U h1;clear h1
   go_upto_block 4 with(first|(go_at_call 152;refine L.o.mono ?_;rintro e Y ⟨rfl,rfl⟩;dsimp only))
   refine wp_block ?_;rename_i af Z;refine L4 D.o.1 D.o.2.1 D.o.2.2.1 D.o.2.2.2.1 f.o ?_ ?_
   ·intros
    rename_i B;apply M.o;exact B
   ·intros
    rename_i aa;refine Z _ _ ?_;refine L5 D.o.1 D.o.2.1 D.o.2.2.1 D.o.2.2.2.1 aa (by rw[D.o.2.2.2.2.2.2.1,D.o.2.2.2.2.2.2.2.1];exact H1.o) ?_ ?_
    ·intros
     rename_i B;apply S.o;exact B
    ·intros
     apply T.o<;>assumption
theorem L7{nA:Value}(C:r0 G gB c1 s lit ls k0 g0 iR gU iT)(e:mB K base w G cb F ax s c1 gB aL lit ls k0 i kl kept c2 jS W)
  (he:∀(mM nA u8 bu bw bx bz bA bB bC bD bE bK bL bM bN bO bP u64 bQ bR bS bT bU bV bW bX bY bZ b5 b6 b7 b8 b9 cc cg ck cm cn cp dJ dK dL dM dN dO dP dQ cI cK cL cM cN cO cQ cR cS cT cU cV cW cZ c7 c8 dc dR dS dU dV dW dX dY dZ ec ee ef ei ej ek en eo ep er eu ew ey ez eA eB eC eD eE eF eG eH gh gi gj eL eM eN eO eP eR eS eT eU eV eW eX gl gm gn eY eZ e3 e4 e5 e6 e7 e8 e9 fc fe ff fh fk fm fo fq fu fA fB fC fD fE fF fG fH fI fJ fK fL fM fN fO fP fQ fR gu gv fS fT fU fV fW fZ ga ir iu iw iy iz iA iB iC iD iE iF iG:Value),i=ls.length->Q (.exit 2) ⟨#[.pointer (some ⟨G,0,none⟩),j7,lM,.int .i64 lit,.slice (some ⟨iR,0,none⟩) gU iT,.slice (some ⟨iR,0,none⟩) (kl) iT,mM,nA,u8,kP,gG,gp,dm,gP,gr,gC,u16,dn,dr,dw,gd,dx,dy,dz,dA,dB,dD,dF,dG,cr,ct,cu,u32,cv,cw,cz,cA,cB,cC,cD,cE,cF,cG,cH,dH,dI,.slice (some ⟨iR,0,none⟩) gU iT,.int .i64 (gU:Int),.int .i64 (i:Int),bu,bw,bx,bz,bA,bB,bC,bD,bE,bK,bL,bM,bN,bO,bP,u64,bQ,bR,bS,bT,bU,bV,bW,bX,bY,bZ,b5,b6,b7,b8,b9,cc,cg,ck,cm,cn,cp,dJ,dK,dL,dM,dN,dO,dP,dQ,cI,cK,cL,cM,cN,cO,cQ,cR,cS,cT,cU,cV,cW,cZ,c7,c8,dc,dR,dS,dU,dV,dW,dX,dY,dZ,ec,ee,ef,ei,ej,ek,en,eo,ep,er,eu,ew,ey,ez,eA,eB,eC,eD,eE,eF,eG,eH,gh,gi,gj,eL,eM,eN,eO,eP,eR,eS,eT,eU,eV,eW,eX,gl,gm,gn,eY,eZ,e3,e4,e5,e6,e7,e8,e9,fc,fe,ff,fh,fk,fm,fo,fq,fu,fA,fB,fC,fD,fE,fF,fG,fH,fI,fJ,fK,fL,fM,fN,fO,fP,fQ,fR,gu,gv,fS,fT,fU,fV,fW,fZ,ga,ir,iu,iw,iy,iz,iA,iB,iC,iD,iE,iF,iG,iX,iY,iZ,ja,jb,jc,jd,je],[]⟩ W)
  (aj:∀(mM nA u8 bu bw bx bz bA bB bC bD bE bK bL bM bN bO bP u64 bQ bR bS bT bU bV bW bX bY bZ b5 b6 b7 b8 b9 cc cg ck cm cn cp dJ dK dL dM dN dO dP dQ cI cK cL cM cN cO cQ cR cS cT cU cV cW cZ c7 c8 dc dR dS dU dV dW dX dY dZ ec ee ef ei ej ek en eo ep er eu ew ey ez eA eB eC eD eE eF eG eH gh gi gj eL eM eN eO eP eR eS eT eU eV eW eX gl gm gn eY eZ e3 e4 e5 e6 e7 e8 e9 fc fe ff fh fk fm fo fq fu fA fB fC fD fE fF fG fH fI fJ fK fL fM fN fO fP fQ fR gu gv fS fT fU fV fW fZ ga ir iu iw iy iz iA iB iC iD iE iF iG:Value)(N:Nat)(af:List Nat)(c3:Core)(z:Nat->aq)(W':World),i<ls.length->mB K base w G cb F ax s c1 gB aL lit ls k0 (i+1) N af c3 z W'->Q .normal ⟨#[.pointer (some ⟨G,0,none⟩),j7,lM,.int .i64 lit,.slice (some ⟨iR,0,none⟩) gU iT,.slice (some ⟨iR,0,none⟩) (N) iT,mM,nA,u8,kP,gG,gp,dm,gP,gr,gC,u16,dn,dr,dw,gd,dx,dy,dz,dA,dB,dD,dF,dG,cr,ct,cu,u32,cv,cw,cz,cA,cB,cC,cD,cE,cF,cG,cH,dH,dI,.slice (some ⟨iR,0,none⟩) gU iT,.int .i64 (gU:Int),.int .i64 ((i:Int)+1),bu,bw,bx,bz,bA,bB,bC,bD,bE,bK,bL,bM,bN,bO,bP,u64,bQ,bR,bS,bT,bU,bV,bW,bX,bY,bZ,b5,b6,b7,b8,b9,cc,cg,ck,cm,cn,cp,dJ,dK,dL,dM,dN,dO,dP,dQ,cI,cK,cL,cM,cN,cO,cQ,cR,cS,cT,cU,cV,cW,cZ,c7,c8,dc,dR,dS,dU,dV,dW,dX,dY,dZ,ec,ee,ef,ei,ej,ek,en,eo,ep,er,eu,ew,ey,ez,eA,eB,eC,eD,eE,eF,eG,eH,gh,gi,gj,eL,eM,eN,eO,eP,eR,eS,eT,eU,eV,eW,eX,gl,gm,gn,eY,eZ,e3,e4,e5,e6,e7,e8,e9,fc,fe,ff,fh,fk,fm,fo,fq,fu,fA,fB,fC,fD,fE,fF,fG,fH,fI,fJ,fK,fL,fM,fN,fO,fP,fQ,fR,gu,gv,fS,fT,fU,fV,fW,fZ,ga,ir,iu,iw,iy,iz,iA,iB,iC,iD,iE,iF,iG,iX,iY,iZ,ja,jb,jc,jd,je],[]⟩ W')
  (O:∀(ah mM nA u8 bu bw bx bz bA bB bC bD bE bK bL bM bN bO bP u64 bQ bR bS bT bU bV bW bX bY bZ b5 b6 b7 b8 b9 cc cg ck cm cn cp dJ dK dL dM dN dO dP dQ cI cK cL cM cN cO cQ cR cS cT cU cV cW cZ c7 c8 dc dR dS dU dV dW dX dY dZ ec ee ef ei ej ek en eo ep er eu ew ey ez eA eB eC eD eE eF eG eH gh gi gj eL eM eN eO eP eR eS eT eU eV eW eX gl gm gn eY eZ e3 e4 e5 e6 e7 e8 e9 fc fe ff fh fk fm fo fq fu fA fB fC fD fE fF fG fH fI fJ fK fL fM fN fO fP fQ fR gu gv fS fT fU fV fW fZ ga ir iu iw iy iz iA iB iC iD iE iF iG:Value)(d:Nat)(c3:Core)(z:Nat->aq)(W':World),kf F F c3 aL []->nK c3 ax->tY c1 c3->d<c3.cl.length->(∀x∈aA c3.cl d,-x∈c3.av)->aP K base W' G z cb {s with c:=c3}->aF K w W'->Q .ret ⟨#[.pointer (some ⟨G,0,none⟩),j7,.pointer (some ⟨cb d,0,none⟩),.int .i64 lit,.slice (some ⟨iR,0,none⟩) gU iT,ah,mM,nA,u8,kP,gG,gp,dm,gP,gr,gC,u16,dn,dr,dw,gd,dx,dy,dz,dA,dB,dD,dF,dG,cr,ct,cu,u32,cv,cw,cz,cA,cB,cC,cD,cE,cF,cG,cH,dH,dI,.slice (some ⟨iR,0,none⟩) gU iT,.int .i64 (gU:Int),.int .i64 (i:Int),bu,bw,bx,bz,bA,bB,bC,bD,bE,bK,bL,bM,bN,bO,bP,u64,bQ,bR,bS,bT,bU,bV,bW,bX,bY,bZ,b5,b6,b7,b8,b9,cc,cg,ck,cm,cn,cp,dJ,dK,dL,dM,dN,dO,dP,dQ,cI,cK,cL,cM,cN,cO,cQ,cR,cS,cT,cU,cV,cW,cZ,c7,c8,dc,dR,dS,dU,dV,dW,dX,dY,dZ,ec,ee,ef,ei,ej,ek,en,eo,ep,er,eu,ew,ey,ez,eA,eB,eC,eD,eE,eF,eG,eH,gh,gi,gj,eL,eM,eN,eO,eP,eR,eS,eT,eU,eV,eW,eX,gl,gm,gn,eY,eZ,e3,e4,e5,e6,e7,e8,e9,fc,fe,ff,fh,fk,fm,fo,fq,fu,fA,fB,fC,fD,fE,fF,fG,fH,fI,fJ,fK,fL,fM,fN,fO,fP,fQ,fR,gu,gv,fS,fT,fU,fV,fW,fZ,ga,ir,iu,iw,iy,iz,iA,iB,iC,iD,iE,iF,iG,iX,iY,iZ,ja,jb,jc,jd,je],[]⟩ W'):
   g_ x_ runIn Q ⟨#[.pointer (some ⟨G,0,none⟩),j7,lM,.int .i64 lit,.slice (some ⟨iR,0,none⟩) gU iT,.slice (some ⟨iR,0,none⟩) kl iT,mM,nA,u8,kP,gG,gp,dm,gP,gr,gC,u16,dn,dr,dw,gd,dx,dy,dz,dA,dB,dD,dF,dG,cr,ct,cu,u32,cv,cw,cz,cA,cB,cC,cD,cE,cF,cG,cH,dH,dI,.slice (some ⟨iR,0,none⟩) gU iT,.int .i64 (gU:Int),.int .i64 (i:Int),bu,bw,bx,bz,bA,bB,bC,bD,bE,bK,bL,bM,bN,bO,bP,u64,bQ,bR,bS,bT,bU,bV,bW,bX,bY,bZ,b5,b6,b7,b8,b9,cc,cg,ck,cm,cn,cp,dJ,dK,dL,dM,dN,dO,dP,dQ,cI,cK,cL,cM,cN,cO,cQ,cR,cS,cT,cU,cV,cW,cZ,c7,c8,dc,dR,dS,dU,dV,dW,dX,dY,dZ,ec,ee,ef,ei,ej,ek,en,eo,ep,er,eu,ew,ey,ez,eA,eB,eC,eD,eE,eF,eG,eH,gh,gi,gj,eL,eM,eN,eO,eP,eR,eS,eT,eU,eV,eW,eX,gl,gm,gn,eY,eZ,e3,e4,e5,e6,e7,e8,e9,fc,fe,ff,fh,fk,fm,fo,fq,fu,fA,fB,fC,fD,fE,fF,fG,fH,fI,fJ,fK,fL,fM,fN,fO,fP,fQ,fR,gu,gv,fS,fT,fU,fV,fW,fZ,ga,ir,iu,iw,iy,iz,iA,iB,iC,iD,iE,iF,iG,iX,iY,iZ,ja,jb,jc,jd,je],[]⟩ W:=by
 have A:=e.BW;have P:=e.nY.Du;have B:=C.len;have R:=C.lb;have S:=C.cap;have aK:(gU:Int)<=(iT:Int):=by omega
 have aM:n_.wrap ((i:Int)+1)=(i:Int)+1:=by rw[o_];omega
 have ak:=U he;have t:=U aj;have T:=U O;clear he aj O
 by_cases p:i<ls.length
 · obtain⟨d,q⟩:∃d,ls[i]=d:=⟨_,rfl⟩
   have ag:ls[i]? =some d:=by rw[q_ p,q]
   have E:=e.rF ag;obtain⟨bk,m,k,g⟩:=e.gA.y9 (d:=d) E.1 (by show 1<=(aA c2.cl d).length;omega);have g:y8 base W G jS cb d bk m k (aA c2.cl d):=g;have X:lit= -(w0 c2 d)\/lit= -(w1 c2 d):=by rw[<-q];exact(e.nY.rF p).2.2
   have aN: -60000<=lit/\lit<=60000:=by have:=C.ok.2;have:=C.aj;unfold aI at*;omega
   have wn:n_.wrap (-lit)= -lit:=IntWalk.i64_in _ (by omega);have hk:k0<c2.wt.length:=by rw[e.wm C];exact C.hk
   have Y:aA (kr c2 k0 (kept++ls.drop kl)).wt k0=kept++ls.drop kl:=by show aA (c2.wt.set k0 _) k0=_;rw[qI,if_pos ⟨rfl,hk⟩]
   have aO:W.cell? ⟨iR,i,none⟩=some (.pointer (some ⟨cb d,0,none⟩)):=e.gA.DP (e.kZ C) (by
    show(aA (kr c2 k0 (kept++ls.drop kl)).wt k0)[i]? =some d;rw[Y,b_ (by rw[e.tA];exact A),c_,e.tA,show kl+(i-kl)=i by omega];exact ag)
   obtain⟨f,H⟩:∃x,w0 c2 d=x:=⟨_,rfl⟩
   have al:2<=m:=by have:=g.len;omega
   have ao:=g.cap;have ar:=g.ag;have a0:=g.kB 0 (by omega);rw[show ai (aA c2.cl d) 0=f from H] at a0;have au:(0:Int)<(m:Int):=by omega
   have Z:(1:Int)<(m:Int):=by omega
   have li:(i:Int)<(gU:Int):=by omega
   have aQ:(0:Int)<=(i:Int):=by omega
   have aw:decide ((i:Int)<(gU:Int))=true:=decide_eq_true li;have D:=U (z_ C (z_ e (z_ ag (z_ E (z_ p (z_ H (z_ X (z_ A (z_ B (z_ R S))))))))));have n:=U g;clear P q A B R S C e ag E p H X g Y hk ao
   conv=>arg 2;whnf
   conv=>arg 4;zeta
   by_cases h1:f= -lit
   ·have d1:decide (f= -lit)=true:=decide_eq_true h1;have d2:(f== -lit)=true:=beq_iff_eq.2 h1;have H1:=U h1;clear h1;obtain⟨y,I⟩:∃y,ai (aA c2.cl d) 1=y:=⟨_,rfl⟩
    have a1:=n.o.kB 1 (by omega);rw[I] at a1;have f0:=n.o.uV 0;have f1:=n.o.uV 1;have aR:=n.o.ne;have aS:=n.o.ne.symm;have az:bF (mB K base w G cb F ax s c1 gB aL lit ls k0 i kl kept (lF c2 d (kL (aA c2.cl d) 0 1)) jS (((W.setCell ⟨bk,0,none⟩ (.int .i64 y)).setCell ⟨bk,1,none⟩ (.int .i64 f)).drew)):=U (by
     have aa:=D.o.2.1.gA.GI (d:=d) (bk:=bk) (i:=0) (j:=1) n.o.b D.o.2.2.2.1.1 (x:=f) (y:=y) D.o.2.2.2.2.2.1 I;have q:ls[i]'(D.o.2.2.2.2.1)=d:=(y_.1 D.o.2.2.1).2;have V:=D.o.2.1.nY.swap D.o.2.2.2.2.1;rw[q] at V;exact⟨V,D.o.2.1.tA,aa.1,D.o.2.1.hw,D.o.2.1.ay,D.o.2.1.iQ.trans aa.2⟩)
    have aB:bF (w1 (lF c2 d (kL (aA c2.cl d) 0 1)) d= -lit):=U (by
     show ai (aA (c2.cl.set d _) d) 1= -lit;rw[qI,if_pos ⟨rfl,D.o.2.2.2.1.1⟩];unfold kL;rw[o9,if_pos ⟨rfl,by rw[i_];have:=D.o.2.2.2.1.2;omega⟩,show ai (aA c2.cl d) 0=f from D.o.2.2.2.2.2.1];exact H1.o)
    clear I al
    go_upto_if 61 with fail
    refine wp_cond_true rfl ?_;rename_i qi J;have aC:W.drew.cell? ⟨cb d,0,none⟩=some (.slice (some ⟨bk,0,none⟩) m k):=ar;have ab:W.drew.cell? ⟨bk,0,none⟩=some (.int .i64 f):=a0;have aD:W.drew.cell? ⟨bk,1,none⟩=some (.int .i64 y):=a1;have aE:W.drew.frozen? ⟨bk,0,none⟩=false:=f0;refine Ao (DK Tryz.f145 10) 23 21 22 224 [some 62,some 63,some 64,some 65,some 66,some 67,some 68,some 69,some 70,some 71,some 72,some 73,some 74,some 75,some 76,some 77,some 78,some 79,some 80,some 81,some 82,none,some 83,none] _ [(7,.pointer (some ⟨(cb d),0,none⟩))] (λ _=>True) [.pointer (some ⟨(cb d),0,none⟩),.pointer (some ⟨(cb d),0,none⟩),.pointer (some ⟨(cb d),0,none⟩),.slice (some ⟨bk,0,none⟩) m k,.pointer (some ⟨(cb d),0,none⟩),.pointer (some ⟨(cb d),0,none⟩),.pointer (some ⟨(cb d),0,none⟩),.slice (some ⟨bk,0,none⟩) m k,.pointer (some ⟨(cb d),0,none⟩),.pointer (some ⟨(cb d),0,none⟩),.pointer (some ⟨(cb d),0,none⟩),.slice (some ⟨bk,0,none⟩) m k,.pointer (some ⟨bk,1,none⟩),.int .i64 y,.pointer (some ⟨(cb d),0,none⟩),.pointer (some ⟨(cb d),0,none⟩),.pointer (some ⟨(cb d),0,none⟩),.slice (some ⟨bk,0,none⟩) m k,.pointer (some ⟨bk,0,none⟩),.int .i64 f,.pointer (some ⟨bk,0,none⟩),undef,undef] (W.drew.setCell ⟨bk,0,none⟩ (.int .i64 y)) (λ v w'=>v=.pointer (some ⟨bk,1,none⟩)/\w'=W.drew.setCell ⟨bk,0,none⟩ (.int .i64 y)) (by kernel_rfl) (by kernel_rfl) (by kernel_rfl) rfl (by kernel_rfl) (by kernel_rfl) rfl ⟨rfl,trivial⟩ trivial trivial (λ _ _ _=>trivial) (λ r ag L hp=>?_) (λ r ag L hp=>?_) ?_ ?_
    ·have h1:r (.tmp 82)=.pointer (some ⟨bk,0,none⟩):=ag.1 rfl (by decide) (by decide) _ rfl;have M:r (.tmp 75)=.int .i64 y:=ag.2.1 rfl (by decide) (by decide) _ rfl;show aZ _ _ (k_ _ _ _ _ _ _) _ _;simp[aZ,execOp,gE,go_sem,h1,M,ab,aE]
    ·have h1:r (.tmp 69)=.slice (some ⟨bk,0,none⟩) m k:=ag.1 rfl (by decide) (by decide) _ rfl;show aZ _ _ (k_ _ _ _ _ _ _) _ _;simp[aZ,execOp,gE,go_sem,h1,Z,hp.1]
    ·refine⟨?_,?_,?_,?_,?_,?_,?_,?_,?_,?_,?_,?_,?_,?_,?_,?_,?_,?_,?_,?_,?_,?_,?_,trivial⟩
     all_goals
      intro h1 M r w _ aG ag L hp
      first
       |exact absurd rfl h1
       |exact absurd rfl M
       |(obtain⟨aH,-⟩:=L;obtain rfl:=aG rfl;(try simp[pI,qq,f_] at ag);simp[aZ,execOp,gE,go_sem,aH,ag,aC,ab,aD,au,Z,hp.1,(show 0<m by omega)];done)
    rintro u v w' ⟨rfl,rfl⟩ aT ad;simp[oJ,Act.put,k6] at ad;subst ad;show aZ _ _ (k_ _ _ _ _ _ _) _ _;simp[aZ,execOp,gE,go_sem,Act.eval,a1,f1]
    iterate 1
     refine J _ _ ?_;refine GX D.o.1 az.o D.o.2.2.1 aB.o ?_ ?_ ?_
     ·intros
      rename_i l
      go_wp2_with fail
      apply t.o
      ·exact D.o.2.2.2.2.1
      ·exact l
     ·intros
      rename_i l
      go_wp2_with fail
      apply t.o
      ·exact D.o.2.2.2.2.1
      ·exact l
     ·intros
      apply T.o<;>assumption
   ·have d1:decide (f= -lit)=false:=decide_eq_false h1;have d2:(f== -lit)=false:=by rw[beq_eq_false_iff_ne];exact h1
    have H1:=U h1
    go_upto_if 61 with fail
    refine wp_cond_false rfl ?_;refine wp_skip ?_;rename_i qi J;refine J _ _ ?_;refine GX D.o.1 D.o.2.1 D.o.2.2.1 (by have:=D.o;have:=H1.o;omega) ?_ ?_ ?_
    ·intros
     rename_i l
     go_wp2_with fail
     apply t.o
     ·exact D.o.2.2.2.2.1
     ·exact l
    ·intros
     rename_i l
     go_wp2_with fail
     apply t.o
     ·exact D.o.2.2.2.2.1
     ·exact l
    ·intros
     apply T.o<;>assumption
 · have ae:i=ls.length:=by omega
   have li:¬(i:Int)<(gU:Int):=by omega
   have aw:decide ((i:Int)<(gU:Int))=false:=decide_eq_false li;have aJ:=U ae;clear ae p P B
   conv=>arg 2;whnf
   conv=>arg 4;zeta
   go_wp2_with fail
   apply ak.o;exact aJ.o
theorem L8(h:aP K base w G hs cb s)(L:kf F F s.c s.c.ag [])(A:nK s.c ax)(aH:s.c.n<=60000)(aZ:s.c.st.length<=1000000)(a6:s.c.cl.length<=100000):
  Calls x_ 145 #[.pointer (some ⟨G,0,none⟩)] w (Lh K base w G cb F ax s):=by
 have H:=U h;have ak:=U L;have a7:=U A;clear h L A;go_enter Tryz.func145,Tryz.ntmps145
 go_wp2_with fail
 go_loopw [3,4,5,6,7,8] (λ _ _ _ _ _ _ W=>∃(c1:Core)(p:Nat->aq),Ap F ax s.c c1 c1.ag/\aP K base W G p cb {s with c:=c1}/\aF K w W/\c1.ag<=s.c.n) (λ _ _ _ _ _ _ W=>s.c.n-DO W ⟨G,7,none⟩)
 case atStart=>exact⟨s.c,hs,⟨ak.o,a7.o,tY.refl _⟩,H.o,aF.refl,by have:=ak.o.hle;have:=ak.o.au.len;omega⟩
 case round=>
  obtain⟨c1,p,P,aI,hF,aJ⟩:=hrel;have E:=U aI;have aK:=U hF;have g:=U P;clear aI hF;have al:c1.n=s.c.n:=P.sm.n;have aL:c1.av.length<=s.c.n:=by have:=P.gH.au.len;rw[al] at this;exact this
  obtain⟨b,ao⟩:∃b,c1.ag=b:=⟨_,rfl⟩
  have B:=E.o.e.kA (k:=7) (v:=.int .i64 c1.ag) rfl;rw[ao] at B;obtain⟨aM,j8,c4,Q⟩:∃A n c,p 4=⟨A,n,c⟩:=⟨_,_,_,rfl⟩
  obtain⟨au,ar⟩:∃au,c1.av.length=au:=⟨_,rfl⟩
  have aw:j8=au:=by have:=E.o.e.j8;rw[Q] at this;exact this.trans ar
  have ay:wr.cell? ⟨G,5,none⟩=some (.slice aM au c4):=by have:=E.o.e.kA (k:=5) (v:=(p 4).v) rfl;rw[Q,aw] at this;exact this
  have D:=U (z_ al (z_ aL (z_ ao (z_ Q (z_ ar (z_ aw aJ))))));clear P al aL ao Q ar aw aJ
  by_cases C:b<au
  ·have a8:decide ((b:Int)<(au:Int))=true:=decide_eq_true (by omega);have a':(b:Int)<(au:Int):=by omega
   obtain⟨g4,R,az,-⟩:=E.o.e.wV (r:=4) (m:=au) (by rw[D.o.2.2.2.1];exact D.o.2.2.2.2.2.1) (by omega);rw[D.o.2.2.2.1] at R;have R:aM=some ⟨g4,0,none⟩:=R;subst R;obtain⟨lit,S⟩:∃x,ai c1.av b=x:=⟨_,rfl⟩
   have M:=E.o.e.z8 az (k:=b) (by show b<c1.av.length;rw[D.o.2.2.2.2.1];exact C);have M:wr.cell? ⟨g4,b,none⟩=some (.int .i64 lit):=by rw[<-S];exact M
   have T:gF s.c.n lit:=by rw[<-S,<-D.o.1];exact g.o.gH.au.lit _ (lY (by rw[D.o.2.2.2.2.1];exact C))
   obtain⟨k0,V⟩:∃k:Nat,jy lit=k:=⟨_,rfl⟩
   have aN:k0<2*s.c.n+2:=by rw[<-V];exact T.at
   have aO:c1.wt.length=2*s.c.n+2:=by have:=g.o.gH.wt.qW;rw[D.o.1] at this;exact this
   have Z:bF (∀w:World,Calls x_ 181 #[.int .i64 lit] w λ e w'=>e=.returned (.int .i64 (k0:Int))/\w=w'):=U (λ w=>by have:=GG T aH w;rw[V] at this;exact this);have bw:n_.wrap ((b:Int)+1)=(b:Int)+1:=by rw[o_];have:=D.o;omega
   have bx:b<60000:=by have:=D.o;omega
   have bz:(k0:Int)<2*(s.c.n:Int)+2:=by omega
   have X:=U (z_ S (z_ T (z_ V (z_ aN (z_ aO (z_ az C))))));have f7:=E.o.e.free 7;clear S T V aN aO az C
   go_wp2_with fail
   refine w_ 9 (by kernel_rfl) (by kernel_rfl) ?_;simp only[v_,s_,u_,t_]
   iterate 9 still_step
   refine l_ ?_;change wpList _ _ _ _ _ wr.drew;have ba:=U E.o.drew;have bb:=U (aK.o.trans (aF.drew (w:=wr)));have ay:wr.drew.cell? ⟨G,5,none⟩=some (.slice (some ⟨g4,0,none⟩) au c4):=ay;have B:wr.drew.cell? ⟨G,7,none⟩=some (.int .i64 (b:Int)):=B;have M:wr.drew.cell? ⟨g4,b,none⟩=some (.int .i64 lit):=M;clear f7;generalize wr.drew=aa at*
   go_wp2_with fail
   refine wp_scope_straight ?_
   go_wp2_with fail
   refine w_ 10 (by kernel_rfl) (by kernel_rfl) ?_;simp only[v_,s_,u_,t_]
   iterate 10 still_step
   refine l_ ?_;change wpList _ _ _ _ _ aa.drew;have B:aa.drew.cell? ⟨G,7,none⟩=some (.int .i64 (b:Int)):=B;have aQ:=U ba.o.drew;have f7:=aQ.o.e.free 7;have bc:=U (bb.o.trans (aF.drew (w:=aa)));clear ay M;generalize aa.drew=bd at*
   go_wp2_with fail
   have j:=aQ.o.BG (b+1);rw[show((b+1:Nat):Int)=(b:Int)+1 by omega] at j;have aR:=U (bc.o.trans j.2);have j:=U j.1;generalize bd.setCell ⟨G,7,none⟩ (.int .i64 ((b:Int)+1))=wc at j aR;obtain⟨g0,bf,ab,f0⟩:=j.o.e.lN 1 0 rfl (j.o.e.jj.trans X.o.2.2.2.2.1) (by omega);have u:=j.o.e.x5 bf (k:=k0) (by have:=X.o.2.2.2.1;have:=X.o.2.2.2.2.1;show k0<c1.wt.length;omega);obtain⟨ad,gU,y,ae⟩:∃A n c,p (ij k0)=⟨A,n,c⟩:=⟨_,_,_,rfl⟩
   rw[ae] at u;have af:wc.cell? ⟨g0,k0,none⟩=some (.slice ad gU y):=u;clear u;obtain⟨ls,N⟩:∃ls,aA c1.wt k0=ls:=⟨_,rfl⟩
   have aS:gU=ls.length:=by have:=j.o.e.Ak k0;rw[ae] at this;rw[<-N];exact this
   have bg:gU<=100000:=by
    have h1:=g.o.gH.wt.ov k0;have bA:=g.o.sm.len;rw[N] at h1;omega
   have aB:=ot.start g.o.gH g.o.2 (by have:=D.o;have:=X.o.2.2.2.2.2.2;omega);rw[D.o.2.2.1,X.o.1,X.o.2.2.1,N] at aB;have Y:=U (z_ bf (z_ ae (z_ N (z_ aS (z_ bg aB)))));clear bf ae N aS aB f0 B f7;refine w_ 8 (by kernel_rfl) (by kernel_rfl) ?_;simp only[v_,s_,u_,t_]
   iterate 5 still_step
   still_call ((Z.o _).mono (λ e w' h=>⟨h.1,h.2.symm⟩))
   iterate 2 still_step
   refine l_ ?_;change wpList _ _ _ _ _ wc.drew;have q:=U j.o.drew;have Fd:=U (aR.o.trans (aF.drew (w:=wc)));clear ab af;generalize wc.drew=wd at*;have ab:=q.o.e.rE 1 Y.o.1 (q.o.e.jj.trans X.o.2.2.2.2.1) rfl;have f0:=q.o.e.rows.free Y.o.1 k0;have I:bF (k0<c1.wt.length):=U (by have:=X.o.2.2.2.1;have:=X.o.2.2.2.2.1;omega);have u:=q.o.e.x5 Y.o.1 (k:=k0) I.o;rw[Y.o.2.1] at u;have af:wd.cell? ⟨g0,k0,none⟩=some (.slice ad gU y):=u;clear u
   by_cases aT:gU=0
   ·subst aT;have aU:ls=[]:=List.eq_nil_of_length_eq_zero (by have:=Y.o.2.2.2.1;omega);have J:=U aU;clear aU
    cases ad with
    |none=>
     go_wp2_with fail
     apply wp_label
     go_wp2_with fail
     refine wp_loop_rounds 1 ?_;rw[rounds_succ]
     go_wp2_with fail
     refine w_ 8 (by kernel_rfl) (by kernel_rfl) ?_;simp only[v_,s_,u_,t_]
     iterate 5 still_step
     still_call ((Z.o _).mono (λ e w' h=>⟨h.1,h.2.symm⟩))
     iterate 2 still_step
     refine l_ ?_;change wpList _ _ _ _ _ wd.drew;have f:=BU (c2:={c1 with ag:=b+1}) (raw:=[]) (kept:=[]) (kl:=0) (by rw[<-J.o,<-Y.o.2.2.1];have:=BQ (c:={c1 with ag:=b+1}) I.o;rw[show aA ({c1 with ag:=b+1}:Core).wt k0=aA c1.wt k0 from rfl] at this;rw[this];exact q.o) Y.o.1 I.o Y.o.2.1 rfl (m_ _) (by rw[<-J.o];exact Y.o.2.2.1);have z:Ap F ax s.c {c1 with ag:=b+1} (b+1):=by
      have t:=Y.o.2.2.2.2.2;rw[J.o] at t;exact⟨t.done.1,t.8,g.o.sm.trans t.sm⟩
     go_wp2_with fail
     go_roundw
     case rel=>
      repeat apply Zu
      exact⟨⟨_,_,z,f.1,Fd.o.trans f.2,by have:=D.o;have:=X.o;show b+1<=_;omega⟩,rfl⟩
     case measure=>
      rw[f.1.y7,E.o.y7];show s.c.n-(b+1)<s.c.n-c1.ag;have:=D.o;have:=X.o;omega
    |some bB=>
     go_wp2_with fail
     apply wp_label
     go_wp2_with fail
     refine wp_loop_rounds 1 ?_;rw[rounds_succ]
     go_wp2_with fail
     refine w_ 8 (by kernel_rfl) (by kernel_rfl) ?_;simp only[v_,s_,u_,t_]
     iterate 5 still_step
     still_call ((Z.o _).mono (λ e w' h=>⟨h.1,h.2.symm⟩))
     iterate 2 still_step
     refine l_ ?_;change wpList _ _ _ _ _ wd.drew;have f:=BU (c2:={c1 with ag:=b+1}) (raw:=[]) (kept:=[]) (kl:=0) (by rw[<-J.o,<-Y.o.2.2.1];have:=BQ (c:={c1 with ag:=b+1}) I.o;rw[show aA ({c1 with ag:=b+1}:Core).wt k0=aA c1.wt k0 from rfl] at this;rw[this];exact q.o) Y.o.1 I.o Y.o.2.1 rfl (m_ _) (by rw[<-J.o];exact Y.o.2.2.1);have z:Ap F ax s.c {c1 with ag:=b+1} (b+1):=by
      have t:=Y.o.2.2.2.2.2;rw[J.o] at t;exact⟨t.done.1,t.8,g.o.sm.trans t.sm⟩
     go_wp2_with fail
     go_roundw
     case rel=>
      repeat apply Zu
      exact⟨⟨_,_,z,f.1,Fd.o.trans f.2,by have:=D.o;have:=X.o;show b+1<=_;omega⟩,rfl⟩
     case measure=>
      rw[f.1.y7,E.o.y7];show s.c.n-(b+1)<s.c.n-c1.ag;have:=D.o;have:=X.o;omega
   ·obtain⟨ah,aj,aC,-⟩:=q.o.e.wV (r:=ij k0) (m:=gU) (by rw[Y.o.2.1]) aT;rw[Y.o.2.1] at aj;have aj:ad=some ⟨ah,0,none⟩:=aj;subst aj;have cap:=q.o.e.x2 aC;rw[Y.o.2.1] at cap;have cap:gU<=y:=cap;have bC:(0:Int)<=(y:Int):=by omega
    have bh:=U cap;have bD:=U aC;clear cap aC
    go_wp2_with fail
    apply wp_label
    go_wp2_with fail
    have l:bF (r0 G p c1 s lit ls k0 g0 ah gU y):=U ⟨Y.o.1,Y.o.2.1,Y.o.2.2.2.1,Y.o.2.2.2.2.1,bh.o,X.o.2.2.1,X.o.2.1,X.o.2.2.2.2.1,D.o.1,aH,aZ,X.o.2.2.2.1,g.o.sm.st,g.o.sm.len,a6⟩;clear f0 af ab
    go_loopw [5,6,7,8,48] (λ bj _ _ _ aD W=>∃(i kl:Nat)(kept:List Nat)(c2:Core)(aV:Nat->aq),aD=.int .i64 i/\bj=.slice (some ⟨ah,0,none⟩) kl y/\mB K base w G cb F ax s c1 p b lit ls k0 i kl kept c2 aV W) (λ _ _ _ _ aD _=>gU-(intOf aD).toNat)
    case atStart=>
     refine⟨0,0,[],{c1 with ag:=b+1},p,rfl,rfl,Y.o.2.2.2.2.2,rfl,?_,rfl,rfl,Fd.o⟩;rw[List.nil_append,t_,<-Y.o.2.2.1];have:=BQ (c:={c1 with ag:=b+1}) I.o;rw[show aA ({c1 with ag:=b+1}:Core).wt k0=aA c1.wt k0 from rfl] at this;rw[this];exact q.o
    case round=>
     obtain⟨i,kl,kept,c2,aV,rfl,rfl,d⟩:=hrel;refine L7 l.o d ?_ ?_ ?_
     ·intros
      rename_i aW
      conv=>zeta
      subst aW;have d:=U d;have O:=d.o.bf l.o;have ab:=d.o.gA.e.rE 1 O (d.o.gA.e.jj.trans (d.o.raw l.o)) rfl;have f0:=d.o.gA.e.rows.free O k0;have aE:=d.o.hw.trans l.o.ag;have af:wr.cell? ⟨g0,k0,none⟩=some (.slice (some ⟨ah,0,none⟩) gU y):=by have:=d.o.gA.e.x5 O (k:=k0) (by show k0<(kr c2 k0 _).wt.length;rw[d.o.raw l.o];exact l.o.hk);rw[aE] at this;exact this
      have bk:bF (k0<c2.wt.length):=U (by rw[d.o.wm l.o];exact l.o.hk);have aX:=U (z_ O aE);clear O aE
      go_upto_region 27 with fail
      refine w_ 8 (by kernel_rfl) (by kernel_rfl) ?_;simp only[v_,s_,u_,t_]
      iterate 5 still_step
      still_call ((Z.o _).mono (λ e w' h=>⟨h.1,h.2.symm⟩))
      iterate 2 still_step
      refine l_ ?_;change wpList _ _ _ _ _ wr.drew;have f:=BU (c2:=c2) (kl:=kl) (kept:=kept) d.o.gA aX.o.1 bk.o aX.o.2 (List.take_left' d.o.tA) (by rw[r_,d.o.tA];omega) (by have:=d.o.nY.done.2;rw[l.o.kB] at this;exact this);have aG:c2.ag=b+1:=d.o.nY.ag;have z:Ap F ax s.c c2 c2.ag:=by
       rw[aG];exact⟨d.o.nY.done.1,d.o.nY.8,g.o.sm.trans d.o.nY.sm⟩
      have aY:=U aG;have z:=U z;have f:=U f;clear aG
      go_wp2_with fail
      go_roundw
      case rel=>
       repeat apply Zu
       exact⟨⟨_,_,z.o,f.o.1,d.o.iQ.trans f.o.2,by rw[aY.o];have:=D.o;have:=X.o;omega⟩,rfl⟩
      case measure=>
       rw[f.o.1.y7,E.o.y7];show s.c.n-c2.ag<s.c.n-c1.ag;rw[aY.o];have:=D.o;have:=X.o;omega
     ·intros
      rename_i bl
      conv=>zeta
      go_roundw
      case rel=>
       repeat apply Zu
       exact⟨⟨i+1,_,_,_,_,by go_num,rfl,bl⟩,rfl⟩
      case measure=>
       have:=l.o.len;rename_i aW _;simp[intOf];omega
     ·intros
      rename_i bn bo bp bq br f bs
      conv=>zeta
      go_ret;exact⟨some _,_,_,b,rfl,⟨bn,bo,g.o.sm.trans bp⟩,f,bs,bq,br⟩
  ·have a8:decide ((b:Int)<(au:Int))=false:=decide_eq_false (by omega);have a':¬(b:Int)<(au:Int):=by omega
   have bt:=U C;clear C
   go_wp2_with fail
   refine w_ 9 (by kernel_rfl) (by kernel_rfl) ?_;simp only[v_,s_,u_,t_]
   iterate 9 still_step
   refine l_ ?_;change wpList _ _ _ _ _ wr.drew
   go_wp2_with fail
   go_ret;have hle:=g.o.gH.hle;have bu:=E.o.drew;have:=D.o;have:=bt.o;exact⟨none,c1,p,c1.ag,rfl,g.o,bu,aK.o.trans aF.drew,by omega,rfl⟩
end
section
open Go.RowKit Go.Shelf
structure vg(s:an):Prop where
 qO:pE s.c
 ww:∀k d,d∈aA s.c.wt k->d<s.c.cl.length
 wl:∀d∈s.aJ,d<s.c.cl.length
theorem GY(cb:Nat->Nat)(n b:Nat){l:List Nat}(h:∀d∈l,d<n):kU (iH cb n b) l=kU cb l:=by
 unfold kU;refine d_ (λ d c=>?_);unfold tj;rw[aV _ _ (by have:=h d c;omega)]
theorem L9(cb:Nat->Nat)(n b:Nat){l:List (Option Nat)}(h:∀v d,mw l v=some d->d<n):ux (iH cb n b) l=ux cb l:=by
 unfold ux;refine d_ (λ o c=>?_);obtain⟨k,hk,rfl⟩:=List.mem_iff_getElem.1 c
 cases e:l[k] with
 |none=>rfl
 |some d=>
  show tj _ d=tj _ d;unfold tj;rw[aV _ _ (by have:=h k d (by rw[FB hk,e]);omega)]
def an.sC(s:an)(l:List Int)(x:sq):an:={s with c:={s.c with cl:=s.c.cl++[l]},ci:=s.ci++[x]}
section
variable {K:Nat->Prop}{base:Nat}{w W:World}{G:Nat}{hs:Nat->aq}{cb:Nat->Nat}{s:an}
theorem aP.DX(h:aP K base w G hs cb s)(c:vg s)(b:Nat):aP K base w G hs (iH cb s.c.cl.length b) s:=by
 refine⟨?_,⟨h.s.lt,h.s.g,h.s.row,λ d f=>by rw[aV _ _ (by omega)];exact h.s.cl d f⟩⟩;refine⟨h.e.box,⟨λ r=>?_,h.e.rows.apart⟩,λ d f=>by rw[aV _ _ (by omega)];exact h.e.cls d f,λ d e f he=>by rw[aV _ _ (by omega),aV _ _ (by omega)];exact h.e.inj d e f he,h.e.rB,λ d f=>by rw[aV _ _ (by omega)];exact h.e.rW d f⟩;have h1:=h.e.rows.row r;have:cont hs (iH cb s.c.cl.length b) s r=cont hs cb s r:=by
  unfold cont;rw[L9 cb _ b c.qO,GY cb _ b c.wl,GY cb _ b (λ d f=>c.ww _ d f)]
 rw[this];exact h1
theorem Ma{d n:Nat}(h:d≠n):kz d≠kz n:=by unfold kz;omega
theorem aP.sC(h:aP K base w G hs cb s){hl:aq}{l:List Int}{x:sq}(hblk:aM w (cb s.c.cl.length) vB [hl.v,.bool x.kT,.int .i64 x.aS,.int .i64 x.ac])(u:base<=cb s.c.cl.length)(y:¬K (cb s.c.cl.length))(q:∀d,d<s.c.cl.length->cb d≠cb s.c.cl.length)
  (z:w.ownsRow base 3 1 hl.v hl.n (gT l)) (t:∀g,hl.b=some g->(∀r,(hs r).b≠some g)/\¬K g) (A:s.ci.length=s.c.cl.length):
  aP K base w G (iH hs (kz s.c.cl.length) hl) cb (s.sC l x):=by
 have hlen:(s.sC l x).c.cl.length=s.c.cl.length+1:=by simp[an.sC]
 have m:=h.e.Kv (r:=kz s.c.cl.length) (h':=hl) (ys:=gT l) (by rw[DH,BL];exact z) (λ g e r'=>(t g e).1 r');have f:∀r,r<13->iH hs (kz s.c.cl.length) hl r=hs r:=λ r f=>aV _ _ (by unfold kz;omega)
 have hw:∀k,iH hs (kz s.c.cl.length) hl (ij k)=hs (ij k):=λ k=>aV _ _ (by unfold kz ij;omega)
 have B:rA (iH hs (kz s.c.cl.length) hl) (s.sC l x)=rA hs s:=by
  unfold rA oc;rw[f 0 (by omega),f 1 (by omega),f 2 (by omega),f 3 (by omega),f 4 (by omega),f 5 (by omega),f 6 (by omega),f 7 (by omega),f 8 (by omega),f 9 (by omega),f 10 (by omega),f 11 (by omega),f 12 (by omega)];rfl
 refine⟨⟨by rw[B];exact m.box,⟨λ r=>?_,m.rows.apart⟩,λ d i=>?_,λ d e i he heq=>?_,h.e.rB,λ d i=>?_⟩,⟨h.s.lt,h.s.g,(h.s.iS (r:=kz s.c.cl.length) (h':=hl) (λ g e=>(t g e).2)).row,λ d i=>?_⟩⟩
 ·have h1:=m.rows.row r;have e:iH (cont hs cb s) (kz s.c.cl.length) (gT l) r=cont (iH hs (kz s.c.cl.length) hl) cb (s.sC l x) r:=by
   by_cases o:r=kz s.c.cl.length
   ·subst o;rw[jC,x4];show gT l=gT (aA (s.c.cl++[l]) s.c.cl.length);rw[uQ]
   ·rw[aV _ _ o];rcases Zr r 13 with C|C
    ·have:r=0\/r=1\/r=2\/r=3\/r=4\/r=5\/r=6\/r=7\/r=8\/r=9\/r=10\/r=11\/r=12:=by omega
     rcases this with rfl|rfl|rfl|rfl|rfl|rfl|rfl|rfl|rfl|rfl|rfl|rfl|rfl
     ·show(List.range s.c.wt.length).map _=(List.range s.c.wt.length).map _;refine d_ (λ k _=>?_);rw[hw]
     all_goals rfl
    ·have a0:¬r=0:=by omega
     have a1:¬r=1:=by omega
     have a2:¬r=2:=by omega
     have a3:¬r=3:=by omega
     have a4:¬r=4:=by omega
     have a5:¬r=5:=by omega
     have D:¬r=6:=by omega
     have E:¬r=7:=by omega
     have F:¬r=8:=by omega
     have a9:¬r=9:=by omega
     have H:¬r=10:=by omega
     have I:¬r=11:=by omega
     have a12:¬r=12:=by omega
     unfold cont;simp only[a0,a1,a2,a3,a4,a5,D,E,F,a9,H,I,a12,if_false]
     by_cases hm:r%3=1
     ·rw[if_pos hm,if_pos hm];rfl
     ·rw[if_neg hm,if_neg hm]
      by_cases j:r%3=2
      ·rw[if_pos j,if_pos j]
       congr 1
       show _=aA (s.c.cl++[l]) ((r-14)/3);rcases Zr ((r-14)/3) s.c.cl.length with J|M
       ·rw[Bm J]
       ·have N:(r-14)/3≠s.c.cl.length:=λ p=>o (by unfold kz;omega)
        unfold aA;rw[a_,a_,Zt (by omega),Zt (by simp;omega)]
      ·rw[if_neg j,if_neg j];rfl
  rw[<-e];exact h1
 ·rw[hlen] at i
  by_cases e:d=s.c.cl.length
  ·subst e;have:tU (iH hs (kz s.c.cl.length) hl) (s.sC l x) s.c.cl.length=[hl.v,.bool x.kT,.int .i64 x.aS,.int .i64 x.ac]:=by
    unfold tU;rw[jC];show [_,Value.bool ((s.ci++[x]).getD _ _).kT,Zq .i64 ((s.ci++[x]).getD _ _).aS,Zq .i64 ((s.ci++[x]).getD _ _).ac]=_;rw[yU,if_pos A.symm]
   rw[this];exact hblk
  ·have:tU (iH hs (kz s.c.cl.length) hl) (s.sC l x) d=tU hs s d:=by
    unfold tU;rw[aV _ _ (Ma e)];show [_,Value.bool ((s.ci++[x]).getD _ _).kT,Zq .i64 ((s.ci++[x]).getD _ _).aS,Zq .i64 ((s.ci++[x]).getD _ _).ac]=_;rw[yU,if_neg (by omega)]
   rw[this];exact h.e.cls d (by omega)
 ·rw[hlen] at i he
  by_cases L:d=s.c.cl.length
  ·by_cases p:e=s.c.cl.length
   ·omega
   ·subst L;exact absurd heq.symm (q e (by omega))
  ·by_cases p:e=s.c.cl.length
   ·subst p;exact absurd heq (q d (by omega))
   ·exact h.e.inj d e (by omega) (by omega) heq
 ·rw[hlen] at i
  by_cases e:d=s.c.cl.length
  ·subst e;exact u
  ·exact h.e.rW d (by omega)
 ·rw[hlen] at i
  by_cases e:d=s.c.cl.length
  ·subst e;exact y
  ·exact h.s.cl d (by omega)
end
end
end Go.Proofs.YtogdlkfacflmaaaGreat
