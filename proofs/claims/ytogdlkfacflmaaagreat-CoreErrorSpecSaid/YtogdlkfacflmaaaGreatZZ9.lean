/- Parts of the walk of the solver and its core; no condition. -/
import Derived.Test.YtogdlkfacflmaaaGreatZZ6
import Derived.Test.YtogdlkfacflmaaaGreatZZ1
namespace Go.Proofs.YtogdlkfacflmaaaGreat
set_option linter.unusedVariables false
set_option linter.unusedSimpArgs false
set_option maxRecDepth 1000000
set_option maxHeartbeats 8000000
open _root_.And renaming intro→z_
open _root_.List renaming getElem?_eq_some_iff→y_,length_append→x_,getElem?_eq_getElem→v_,length_drop→u_,length_set→s_,getElem?_drop→q_,getElem?_append_right→p_
open _root_.Go.Proofs.Tryz renaming prog→w_
open _root_.Go.Oper renaming mk→t_
open _root_.Go.IntKind renaming i64→r_,wrap_i64→m_
open _root_.Go.World renaming cell?_setCell_other→o_
open _root_.Go.Region renaming binds→n_
open _root_.Go.Code renaming wp→l_
variable{K:Nat->Prop}{base G g0 iZ ir jd i kl d bH m aV aS k0:Nat}{W w:World}{jQ gP:Nat->ax}{cb:Nat->Nat}{lit:Int}{gF iz nK u8 lF gV gH gn iy gI gT u16 gp gq gr gG gu gv gw gx gy gz gA gB fO fP fQ u32 fR fS fT fU fV fW fZ ga gb gd gh gC gD bP bQ bR bS bT bU bV bW bX bY bZ b5 b6 b7 b8 u64 b9 cc cg ck cm cn cp cr ct cu cv cw cz cA cB cC cD cE cF cG cH c9 dc de dh di dm dn dr cK cL cM cN cO cQ cR cS cT cU cV cW cZ c4 c5 c6 c7 dw dx dy dz dA dB dD dF dG dH dI dJ dK dL dM dN dO dP dQ dR dS dU dV dW dX dY dZ ec ee ef fG fH fI ei ej ek en eo ep er eu ew ey ez eA fJ fK fL eB eC eD eE eF eG eH eL eM eN eO eP eR eS eT eU eV eW eX eY eZ e3 e4 e5 e6 e7 e8 e9 fc fe ff fh fk fm fo fq gi gj fu fA fB fC fD fE fF iH iI iJ iK iL iM iN iO iP iQ iR iS jg jh ji jj jk jl jm jo:Value}{Q:Exit->Act->World->Prop}{s:aq}{F:List (List Int)}{ah:List Int}{c1 c2:Core}{ls kept:List Nat}
section
open Go.RowKit Go.Shelf
noncomputable def LF:Code:=mU Gs
theorem run_move{s2:aq}{y:Int}{ky yT:Nat}
  (E:aY K base W G jQ cb s2) (g:(jQ 0).b=some g0) (F:s2.c.wt.length=yT) (S:ky<yT) (H:jM (-y)=ky) (aJ: -60000<=y/\y<=60000) (t:d<s2.c.cl.length) (x:(jQ (kI d)).b=some bH) (T:W.cell? ⟨cb d,0,none⟩=some (.slice (some ⟨bH,0,none⟩) m aV)) (hm:2<=m) (aK:m<=aV) (V:W.cell? ⟨bH,1,none⟩=some (.int .i64 y)) (X:(ay s2.c.wt ky).length<=1000000)
  (Y:∀(nK ak u8 bP bQ bR bS bT bU bV bW bX bY bZ b5 b6 b7 b8 u64 b9 cc cg ck cm cn cp cr ct cu cv cw cz cA cB cC cD cE cF cG cH c9 dc de dh di dm dn dr cK cL cM cN cO cQ cR cS cT cU cV cW cZ c4 c5 c6 c7 dw dx dy dz dA dB dD dF dG dH dI dJ dK dL dM dN dO dP dQ dR dS dU dV dW dX dY dZ ec ee ef fG fH fI ei ej ek en eo ep er eu ew ey ez eA fJ fK fL eB eC eD eE eF eG eH eL eM eN eO eP eR eS eT eU eV eW eX eY eZ e3 e4 e5 e6 e7 e8 e9 fc fe ff fh fk fm fo fq gi gj fu fA fB fC fD fE fF iH iI iJ iK iL iM iN iO iP iQ iR iS:Value)(A':Option Addr)(al c':Nat)(W':World),aY K base W' G (iT jQ (iF ky) ⟨A',al,c'⟩) cb (s2.pR ky (ay s2.c.wt ky++[d]))->aG K W W'->Q (.exit 3) ⟨#[.pointer (some ⟨G,0,none⟩),gF,iz,.int .i64 lit,.slice (some ⟨iZ,0,none⟩) ir jd,.slice (some ⟨iZ,0,none⟩) (kl) jd,nK,ak,u8,lF,gV,gH,gn,iy,gI,gT,u16,gp,gq,gr,gG,gu,gv,gw,gx,gy,gz,gA,gB,fO,fP,fQ,u32,fR,fS,fT,fU,fV,fW,fZ,ga,gb,gd,gh,gC,gD,.slice (some ⟨iZ,0,none⟩) ir jd,.int .i64 (ir:Int),.int .i64 (i:Int),bP,bQ,bR,bS,bT,bU,bV,bW,bX,bY,bZ,b5,b6,b7,b8,u64,b9,cc,cg,ck,cm,cn,cp,cr,ct,cu,cv,cw,cz,cA,cB,cC,cD,cE,cF,cG,cH,c9,dc,de,dh,di,dm,dn,dr,cK,cL,cM,cN,cO,cQ,cR,cS,cT,cU,cV,cW,cZ,c4,c5,c6,c7,dw,dx,dy,dz,dA,dB,dD,dF,dG,dH,dI,dJ,dK,dL,dM,dN,dO,dP,dQ,dR,dS,dU,dV,dW,dX,dY,dZ,ec,ee,ef,fG,fH,fI,ei,ej,ek,en,eo,ep,er,eu,ew,ey,ez,eA,fJ,fK,fL,eB,eC,eD,eE,eF,eG,eH,eL,eM,eN,eO,eP,eR,eS,eT,eU,eV,eW,eX,eY,eZ,e3,e4,e5,e6,e7,e8,e9,fc,fe,ff,fh,fk,fm,fo,fq,gi,gj,fu,fA,fB,fC,fD,fE,fF,iH,iI,iJ,iK,iL,iM,iN,iO,iP,iQ,iR,iS,jg,jh,ji,jj,jk,jl,jm,jo],[]⟩ W'):
   l_ w_ LF Q ⟨#[.pointer (some ⟨G,0,none⟩),gF,iz,.int .i64 lit,.slice (some ⟨iZ,0,none⟩) ir jd,.slice (some ⟨iZ,0,none⟩) kl jd,nK,.pointer (some ⟨cb d,0,none⟩),u8,lF,gV,gH,gn,iy,gI,gT,u16,gp,gq,gr,gG,gu,gv,gw,gx,gy,gz,gA,gB,fO,fP,fQ,u32,fR,fS,fT,fU,fV,fW,fZ,ga,gb,gd,gh,gC,gD,.slice (some ⟨iZ,0,none⟩) ir jd,.int .i64 (ir:Int),.int .i64 (i:Int),bP,bQ,bR,bS,bT,bU,bV,bW,bX,bY,bZ,b5,b6,b7,b8,u64,b9,cc,cg,ck,cm,cn,cp,cr,ct,cu,cv,cw,cz,cA,cB,cC,cD,cE,cF,cG,cH,c9,dc,de,dh,di,dm,dn,dr,cK,cL,cM,cN,cO,cQ,cR,cS,cT,cU,cV,cW,cZ,c4,c5,c6,c7,dw,dx,dy,dz,dA,dB,dD,dF,dG,dH,dI,dJ,dK,dL,dM,dN,dO,dP,dQ,dR,dS,dU,dV,dW,dX,dY,dZ,ec,ee,ef,fG,fH,fI,ei,ej,ek,en,eo,ep,er,eu,ew,ey,ez,eA,fJ,fK,fL,eB,eC,eD,eE,eF,eG,eH,eL,eM,eN,eO,eP,eR,eS,eT,eU,eV,eW,eX,eY,eZ,e3,e4,e5,e6,e7,e8,e9,fc,fe,ff,fh,fk,fm,fo,fq,gi,gj,fu,fA,fB,fC,fD,fE,fF,iH,iI,iJ,iK,iL,iM,iN,iO,iP,iQ,iR,iS,jg,jh,ji,jj,jk,jl,jm,jo],[]⟩ W:=by
 have Z:=E.e.q5 1 g (E.e.kG.trans F) rfl;have f0:=E.e.rows.free g ky;have z:=E.e.xQ g (k:=ky) (by omega);obtain⟨j,a,l,B⟩:∃A n c,jQ (iF ky)=⟨A,n,c⟩:=⟨_,_,_,rfl⟩
 have aa:a=(ay s2.c.wt ky).length:=by have:=E.e.zV ky;rw[B] at this;exact this
 rw[B] at z;have z:W.cell? ⟨g0,ky,none⟩=some (.slice j a l):=z;have aL:a<=1000000:=by omega
 have wn:r_.wrap (-y)= -y:=IntWalk.i64_in _ (by omega);have an:(ky:Int)<(yT:Int):=by omega
 have ao:(1:Int)<(m:Int):=by omega
 have ab:bJ (ky<s2.c.wt.length):=U (by omega);have ar:bJ (∀w:World,Calls w_ 181 #[.int .i64 (-y)] w λ e w'=>e=.returned (.int .i64 (ky:Int))/\w=w'):=U (λ w=>by have:=C6 (-y) w (by omega) (by omega);rw[H] at this;exact this);have aM:G≠g0:=E.e.uc 0 g0 g;have aN:cb d≠g0:=E.e.xG t 0 g0 g;have aO:bH≠g0:=E.e.wH (r:=kI d) (r':=0) (by unfold kI;omega) x g;have I:=E.e.box.lt;have J:=(E.e.cls d t).lt;have L:=(E.e.rows.lt x).2;have ad:(jQ (iF ky)).b≠some G:=λ e=>E.e.uc _ _ e rfl
 have ae:(jQ (iF ky)).b≠some (cb d):=λ e=>E.e.xG t _ _ e rfl
 have af:(jQ (iF ky)).b≠some bH:=λ e=>E.e.wH (r:=kI d) (r':=iF ky) (by unfold kI iF;omega) x e rfl
 have p:=U (E.below ((bz W (.cells #[.pointer (some ⟨cb d,0,none⟩)] 164)).drew));have hp:((W.alloc (.cells #[.pointer (some ⟨cb d,0,none⟩)] 164)).drew).cell? ⟨W.heap.size,0,none⟩=some (.pointer (some ⟨cb d,0,none⟩)):=by go_simp
 have au:=U (q8.one hp);have av:bJ (((W.alloc (.cells #[.pointer (some ⟨cb d,0,none⟩)] 164)).drew).ownsRow base 164 1 (.slice j a l) a (k3 cb (ay s2.c.wt ky))):=U (by
   have:=p.o.1.e.rows.row (iF ky);rw[Dj,zU,B,vL] at this;exact this)
 have aw:=U (Nat.le_of_lt p.o.1.e.lt);clear hp;have s:∀b,b<W.heap.size->∀k,((W.alloc (.cells #[.pointer (some ⟨cb d,0,none⟩)] 164)).drew).cell? ⟨b,k,none⟩=W.cell? ⟨b,k,none⟩:=λ b az k=>World.cell?_of_block (((bz W (.cells #[.pointer (some ⟨cb d,0,none⟩)] 164)).drew).block b az)
 have M:=(s G I 1).trans Z;have ag:=(s (cb d) J 0).trans T;have ah:=(s bH L 1).trans V;have aA:=(s g0 (E.e.rows.lt g).2 ky).trans z;have D:=U (z_ E (z_ g (z_ F (z_ S (z_ H (z_ t (z_ x (z_ X (z_ B (z_ aa (z_ I (z_ J (z_ L (z_ ad (z_ ae af)))))))))))))));have aP:=U s;clear E g F S H t x X B aa I J L ad ae af s;have aB:=U Y;clear Y
 conv=>arg 2;whnf
 go_wp2_with fail
 refine z1 (Dn Tryz.f145 18) 30 27 28 224 [some 140,some 141,some 142,some 143,some 144,some 145,some 146,some 147,some 148,some 149,some 150,some 151,some 152,some 153,some 154,some 155,some 156,some 157,some 158,some 159,some 160,some 161,some 162,some 163,some 164,some 165,some 166,some 167,some 168,some 169,none] _ [(0,.pointer (some ⟨G,0,none⟩)),(7,.pointer (some ⟨(cb d),0,none⟩))] (λ w':World=>w'.cell? ⟨G,1,none⟩=some (.slice (some ⟨g0,0,none⟩) yT (jQ 0).c)/\w'.cell? ⟨cb d,0,none⟩=some (.slice (some ⟨bH,0,none⟩) m aV)/\w'.cell? ⟨bH,1,none⟩=some (.int .i64 y)/\w'.cell? ⟨g0,ky,none⟩=some (.slice j a l)) [.pointer (some ⟨G,0,none⟩),.pointer (some ⟨G,0,none⟩),.pointer (some ⟨G,1,none⟩),.slice (some ⟨g0,0,none⟩) yT (jQ 0).c,.pointer (some ⟨(cb d),0,none⟩),.pointer (some ⟨(cb d),0,none⟩),.pointer (some ⟨(cb d),0,none⟩),.slice (some ⟨bH,0,none⟩) m aV,.pointer (some ⟨bH,1,none⟩),.int .i64 y,.int .i64 (-y),.int .i64 (ky:Int),.pointer (some ⟨G,0,none⟩),.pointer (some ⟨G,0,none⟩),.pointer (some ⟨G,1,none⟩),.slice (some ⟨g0,0,none⟩) yT (jQ 0).c,.pointer (some ⟨(cb d),0,none⟩),.pointer (some ⟨(cb d),0,none⟩),.pointer (some ⟨(cb d),0,none⟩),.slice (some ⟨bH,0,none⟩) m aV,.pointer (some ⟨bH,1,none⟩),.int .i64 y,.int .i64 (-y),.int .i64 (ky:Int),.pointer (some ⟨g0,ky,none⟩),.slice j a l,.pointer (some ⟨(cb d),0,none⟩),.slice (some ⟨W.heap.size,0,none⟩) 1 1,undef,.pointer (some ⟨g0,ky,none⟩)] ((W.alloc (.cells #[.pointer (some ⟨cb d,0,none⟩)] 164)).drew) (λ v w'=>nj ((W.alloc (.cells #[.pointer (some ⟨cb d,0,none⟩)] 164)).drew) base 164 (.slice j a l) (a+1) (k3 cb (ay s2.c.wt ky)++[.pointer (some ⟨cb d,0,none⟩)]) v w') (by kernel_rfl) (by kernel_rfl) (by kernel_rfl) rfl (by kernel_rfl) (by kernel_rfl) rfl ⟨rfl,rfl,trivial⟩ ⟨Z,T,V,z⟩ ⟨M,ag,ah,aA⟩ (λ v w' N=>?_) (λ q f C hp=>?_) (λ q f C hp=>?_) ?_ ?_
 · obtain⟨A',c',rfl,ai,O,f9,P,-⟩:=aY.Gn (d:=d) p.o.1 D.o.2.1 ab.o D.o.2.2.2.2.2.2.2.2.1 D.o.2.2.2.2.2.2.2.2.2.1 M N;exact⟨ai,(P (cb d) (Nat.lt_of_lt_of_le D.o.2.2.2.2.2.2.2.2.2.2.2.1 p.o.2.size) D.o.2.2.2.2.2.2.2.2.2.2.2.2.2.2.1 0).trans ag,(P bH (Nat.lt_of_lt_of_le D.o.2.2.2.2.2.2.2.2.2.2.2.2.1 p.o.2.size) D.o.2.2.2.2.2.2.2.2.2.2.2.2.2.2.2 1).trans ah,O⟩
 · obtain⟨-,aQ,-⟩:=C;have f:q (.tmp 166)=.pointer (some ⟨(cb d),0,none⟩):=f.1 rfl (by decide) (by decide) _ rfl;show bD _ _ (t_ _ _ _ _ _ _) _ _;simp[bD,execOp,gL,go_sem,f]
 · have h1:q (.tmp 165)=.slice j a l:=f.1 rfl (by decide) (by decide) _ rfl;have R:q (.tmp 167)=.slice (some ⟨W.heap.size,0,none⟩) 1 1:=f.2.1 rfl (by decide) (by decide) _ rfl;obtain⟨v',w',g1,g2⟩:=Dd ((W.alloc (.cells #[.pointer (some ⟨cb d,0,none⟩)] 164)).drew) 160 base (.slice j a l) a (k3 cb (ay s2.c.wt ky)) av.o (some ⟨W.heap.size,0,none⟩) 1 1 _ au.o (by omega) aw.o;show bD _ _ (t_ _ _ _ _ _ _) _ _;simp only[bD,execOp,resolve,invoke,builtin,Sem.run_bind,Sem.run_pure,Result.andThen_ok,List.map_toArray,List.map_cons,List.map_nil,h1,R,g1,gL];exact g2
 · refine⟨?_,?_,?_,?_,?_,?_,?_,?_,?_,?_,?_,?_,?_,?_,?_,?_,?_,?_,?_,?_,?_,?_,?_,?_,?_,?_,?_,?_,?_,?_,trivial⟩
   all_goals
    intro h1 R q w aC _ f C hp
    first
     |exact absurd rfl h1
     |exact absurd rfl R
     |(obtain⟨aD,aE,-⟩:=C;obtain⟨s1,s2,s3,iY⟩:=aC;(try simp[oW,qY,n_] at f);simp[bD,execOp,gL,go_sem,aD,aE,f,s1,s2,s3,iY,wn,an,ao,hp.1];done)
     |((try simp[oW,qY,n_] at f);(first|refine tD 181 #[.tmp 150] #[3] rfl Bt hp ?_|refine tD 181 #[.tmp 162] #[3] rfl Bt hp ?_);(first|rw[show(#[Operand.tmp 150].map q)= #[.int .i64 (-y)] by simp[f]]|rw[show(#[Operand.tmp 162].map q)= #[.int .i64 (-y)] by simp[f]]);exact(ar.o w).mono λ e w' h=>⟨_,h.1,rfl,h.2.symm⟩)
 intro u v9 bM N aR aj;obtain⟨A',c',rfl,ai,O,f9,P,aF,aH⟩:=aY.Gn (d:=d) p.o.1 D.o.2.1 ab.o D.o.2.2.2.2.2.2.2.2.1 D.o.2.2.2.2.2.2.2.2.2.1 M N;have aI:=f9 ky;simp[ot,Act.put,kU] at aj;subst aj;show bD _ _ (t_ _ _ _ _ _ _) _ _;simp[bD,execOp,gL,go_sem,Act.eval,O,aI];go_wp2;apply aB.o
 · exact aF
 · exact p.o.2.trans aH
theorem LG{k:Nat}(C:rJ G gP c1 s lit ls k0 g0 iZ ir jd)(a:mC K base w G cb F ah s c1 gP aS lit ls k0 i kl kept c2 jQ W)(ag:ls[i]? =some d)(hw:w1 c2 d= -lit)(hk:2<=k)(P:k<m)(R:j9 c2 (aj (ay c2.cl d) k)≠-1)(hC:yK base W G jQ cb d bH m aV (ay c2.cl d))
  (S:∀(nK ao u8 bP bQ bR bS bT bU bV bW bX bY bZ b5 b6 b7 b8 u64 b9 cc cg ck cm cn cp cr ct cu cv cw cz cA cB cC cD cE cF cG cH c9 dc de dh di dm dn dr cK cL cM cN cO cQ cR cS cT cU cV cW cZ c4 c5 c6 c7 dw dx dy dz dA dB dD dF dG dH dI dJ dK dL dM dN dO dP dQ dR dS dU dV dW dX dY dZ ec ee ef fG fH fI ei ej ek en eo ep er eu ew ey ez eA fJ fK fL eB eC eD eE eF eG eH eL eM eN eO eP eR eS eT eU eV eW eX eY eZ e3 e4 e5 e6 e7 e8 e9 fc fe ff fh fk fm fo fq gi gj fu fA fB fC fD fE fF iH iI iJ iK iL iM iN iO iP iQ iR iS:Value)(c3:Core)(ar:Nat->ax)(W':World),mC K base w G cb F ah s c1 gP aS lit ls k0 (i+1) kl kept c3 ar W'->Q (.exit 3) ⟨#[.pointer (some ⟨G,0,none⟩),gF,iz,.int .i64 lit,.slice (some ⟨iZ,0,none⟩) ir jd,.slice (some ⟨iZ,0,none⟩) (kl) jd,nK,ao,u8,lF,gV,gH,gn,iy,gI,gT,u16,gp,gq,gr,gG,gu,gv,gw,gx,gy,gz,gA,gB,fO,fP,fQ,u32,fR,fS,fT,fU,fV,fW,fZ,ga,gb,gd,gh,gC,gD,.slice (some ⟨iZ,0,none⟩) ir jd,.int .i64 (ir:Int),.int .i64 (i:Int),bP,bQ,bR,bS,bT,bU,bV,bW,bX,bY,bZ,b5,b6,b7,b8,u64,b9,cc,cg,ck,cm,cn,cp,cr,ct,cu,cv,cw,cz,cA,cB,cC,cD,cE,cF,cG,cH,c9,dc,de,dh,di,dm,dn,dr,cK,cL,cM,cN,cO,cQ,cR,cS,cT,cU,cV,cW,cZ,c4,c5,c6,c7,dw,dx,dy,dz,dA,dB,dD,dF,dG,dH,dI,dJ,dK,dL,dM,dN,dO,dP,dQ,dR,dS,dU,dV,dW,dX,dY,dZ,ec,ee,ef,fG,fH,fI,ei,ej,ek,en,eo,ep,er,eu,ew,ey,ez,eA,fJ,fK,fL,eB,eC,eD,eE,eF,eG,eH,eL,eM,eN,eO,eP,eR,eS,eT,eU,eV,eW,eX,eY,eZ,e3,e4,e5,e6,e7,e8,e9,fc,fe,ff,fh,fk,fm,fo,fq,gi,gj,fu,fA,fB,fC,fD,fE,fF,iH,iI,iJ,iK,iL,iM,iN,iO,iP,iQ,iR,iS,jg,jh,ji,jj,jk,jl,jm,jo],[]⟩ W'):
   l_ w_ Gs Q ⟨#[.pointer (some ⟨G,0,none⟩),gF,iz,.int .i64 lit,.slice (some ⟨iZ,0,none⟩) ir jd,.slice (some ⟨iZ,0,none⟩) kl jd,nK,.pointer (some ⟨cb d,0,none⟩),.int .i64 (k:Int),lF,gV,gH,gn,iy,gI,gT,u16,gp,gq,gr,gG,gu,gv,gw,gx,gy,gz,gA,gB,fO,fP,fQ,u32,fR,fS,fT,fU,fV,fW,fZ,ga,gb,gd,gh,gC,gD,.slice (some ⟨iZ,0,none⟩) ir jd,.int .i64 (ir:Int),.int .i64 (i:Int),bP,bQ,bR,bS,bT,bU,bV,bW,bX,bY,bZ,b5,b6,b7,b8,u64,b9,cc,cg,ck,cm,cn,cp,cr,ct,cu,cv,cw,cz,cA,cB,cC,cD,cE,cF,cG,cH,c9,dc,de,dh,di,dm,dn,dr,cK,cL,cM,cN,cO,cQ,cR,cS,cT,cU,cV,cW,cZ,c4,c5,c6,c7,dw,dx,dy,dz,dA,dB,dD,dF,dG,dH,dI,dJ,dK,dL,dM,dN,dO,dP,dQ,dR,dS,dU,dV,dW,dX,dY,dZ,ec,ee,ef,fG,fH,fI,ei,ej,ek,en,eo,ep,er,eu,ew,ey,ez,eA,fJ,fK,fL,eB,eC,eD,eE,eF,eG,eH,eL,eM,eN,eO,eP,eR,eS,eT,eU,eV,eW,eX,eY,eZ,e3,e4,e5,e6,e7,e8,e9,fc,fe,ff,fh,fk,fm,fo,fq,gi,gj,fu,fA,fB,fC,fD,fE,fF,iH,iI,iJ,iK,iL,iM,iN,iO,iP,iQ,iR,iS,jg,jh,ji,jj,jk,jl,jm,jo],[]⟩ W:=by
 have hm:=hC.len;have av:=a.m C ag;have A:=a.q6 ag;have aw:2<=m:=by omega
 have T:=hC.cap;have D:aj (ay c2.cl d) 1= -lit:=hw;obtain⟨y,p⟩:∃y,aj (ay c2.cl d) k=y:=⟨_,rfl⟩
 have H:gK s.c.n y:=by rw[<-p];exact a.ok C ag (by omega)
 have aT: -60000<=lit/\lit<=60000:=by have:=C.ok.2;have:=C.au;unfold aC at*;omega
 have V: -60000<=y/\y<=60000:=by have:=H.2;have:=C.au;unfold aC at*;omega
 obtain⟨ky,t⟩:∃k:Nat,jM (-y)=k:=⟨_,rfl⟩
 have X:ky<2*s.c.n+2:=by rw[<-t];exact H.neg.at
 have Y:i<ls.length:=(y_.1 ag).1;have z:ls[i]=d:=(y_.1 ag).2;have q:=a.nI.move Y (by rw[z];exact hw) hk (by rw[z];omega) (by rw[z];exact R);rw[z,p,t,C.kL] at q;have Z:=hC.ag;have a1:=hC.kL 1 (by omega);rw[D] at a1;have I:=hC.kL k P;rw[p] at I;have f1:=hC.mB 1;have az:=hC.mB k;have aa:=hC.ne;have aU:=hC.ne.symm;have ab:(k:Int)<(m:Int):=by omega
 have aA:(1:Int)<(m:Int):=by omega
 have ad:¬1=k:=by omega
 have aB:¬k=1:=by omega
 have ae:=a.fN.Gp (d:=d) (bH:=bH) (i:=1) (j:=k) hC.b A.1 (x:= -lit) (y:=y) D p;have aD:(kH c2 k0 (kept++ls.drop kl)).cl=c2.cl:=rfl;have J:ay (lJ (kH c2 k0 (kept++ls.drop kl)) d (kQ (ay c2.cl d) 1 k)).wt ky=ay c2.wt ky:=by
   show ay (c2.wt.set k0 _) ky=_;rw[qy,if_neg (λ h=>q.2 h.1.symm)]
 have af:(ay c2.wt ky).length<=1000000:=by have h1:=a.nI.gR.wt.nt ky;have l:=a.K7 C;omega
 have key:∀(A':Option Addr)(L c':Nat)(g W':World),aG K W g->aY K base W' G (iT jQ (iF ky) ⟨A',L,c'⟩) cb ((({s with c:=kH c2 k0 (kept++ls.drop kl)}:aq).su d (kQ (ay c2.cl d) 1 k)).pR ky (ay ((({s with c:=kH c2 k0 (kept++ls.drop kl)}:aq).su d (kQ (ay c2.cl d) 1 k)).c.wt) ky++[d]))->aG K g W'->
    mC K base w G cb F ah s c1 gP aS lit ls k0 (i+1) kl kept (rQ c2 d k (kept++ls.drop (i+1))) (iT jQ (iF ky) ⟨A',L,c'⟩) W':=λ A' L c' g W' aE E aF=>by
   refine⟨q.1,a.sZ,?_,(bk _ _ (by have:=q.2;unfold iF;omega)).trans a.hw,(bk _ _ (by unfold iF;omega)).trans a.an,a.jr.trans (aE.trans aF)⟩;rw[KW (k0:=k0) (ky:=ky) (by rw[hw,Int.neg_neg];exact C.kL) (by rw[p];exact t) q.2,<-J];exact E
 have ai:aj (kQ (ay c2.cl d) 1 k) 1=y:=by
   unfold kQ;rw[oP,if_neg (by omega),oP,if_pos ⟨rfl,by omega⟩,p]
 have M:ay (lJ (kH c2 k0 (kept++ls.drop kl)) d (kQ (ay c2.cl d) 1 k)).cl d=kQ (ay c2.cl d) 1 k:=by
   show ay (c2.cl.set d _) d=_;rw[qy,if_pos ⟨rfl,A.1⟩]
 have aH:bJ (∀g:World,aY K base g G jQ cb (({s with c:=kH c2 k0 (kept++ls.drop kl)}:aq).su d (kQ (ay c2.cl d) 1 k))->g.cell? ⟨bH,1,none⟩=some (.int .i64 y)):=U (λ g N=>by
   have h1:=N.e.xR hC.b (k:=1) (by show 1<(ay (lJ (kH c2 k0 (kept++ls.drop kl)) d (kQ (ay c2.cl d) 1 k)).cl d).length;rw[M];simp[kQ];omega);have l:aj (ay (({s with c:=kH c2 k0 (kept++ls.drop kl)}:aq).su d (kQ (ay c2.cl d) 1 k)).c.cl d) 1=y:=by
    show aj (ay (lJ (kH c2 k0 (kept++ls.drop kl)) d (kQ (ay c2.cl d) 1 k)).cl d) 1=y;rw[M];exact ai
   rw[l] at h1;exact h1)
 have aI:=U (λ(g:World)(N:aY K base g G jQ cb (({s with c:=kH c2 k0 (kept++ls.drop kl)}:aq).su d (kQ (ay c2.cl d) 1 k)))=>z_ N (z_ (a.cI C) (z_ ((show(lJ (kH c2 k0 (kept++ls.drop kl)) d (kQ (ay c2.cl d) 1 k)).wt.length=_ from a.raw C)) (z_ X (z_ t (z_ V (z_ (show d<(lJ (kH c2 k0 (kept++ls.drop kl)) d (kQ (ay c2.cl d) 1 k)).cl.length by rw[qU];exact A.1) (z_ hC.b (z_ aw (z_ T (show(ay (lJ (kH c2 k0 (kept++ls.drop kl)) d (kQ (ay c2.cl d) 1 k)).wt ky).length<=1000000 by rw[J];exact af)))))))))));have aJ:=U key;have B:=U ae;have aK:=U S;clear S ae key ai M af J aD q C a ag hw hk P R hm av A T D p H V hC t X Y z;obtain⟨x,ak⟩:∃x,-lit=x:=⟨_,rfl⟩
 rw[ak] at a1;rw[ak] at B
 conv=>arg 2;whnf
 go_wp2_with fail
 rename_i aW aL;refine z1 (Dn Tryz.f145 17) 25 23 24 224 [some 116,some 117,some 118,some 119,some 120,some 121,some 122,some 123,some 124,some 125,some 126,some 127,some 128,some 129,some 130,some 131,some 132,some 133,some 134,some 135,some 136,some 137,some 138,none,some 139,none] _ [(7,.pointer (some ⟨(cb d),0,none⟩)),(8,.int .i64 (k:Int))] (λ _=>True) [.pointer (some ⟨(cb d),0,none⟩),.pointer (some ⟨(cb d),0,none⟩),.pointer (some ⟨(cb d),0,none⟩),.slice (some ⟨bH,0,none⟩) m aV,.pointer (some ⟨(cb d),0,none⟩),.pointer (some ⟨(cb d),0,none⟩),.pointer (some ⟨(cb d),0,none⟩),.slice (some ⟨bH,0,none⟩) m aV,.int .i64 (k:Int),.pointer (some ⟨(cb d),0,none⟩),.pointer (some ⟨(cb d),0,none⟩),.pointer (some ⟨(cb d),0,none⟩),.slice (some ⟨bH,0,none⟩) m aV,.int .i64 (k:Int),.pointer (some ⟨bH,k,none⟩),.int .i64 y,.pointer (some ⟨(cb d),0,none⟩),.pointer (some ⟨(cb d),0,none⟩),.pointer (some ⟨(cb d),0,none⟩),.slice (some ⟨bH,0,none⟩) m aV,.pointer (some ⟨bH,1,none⟩),.int .i64 x,.pointer (some ⟨bH,1,none⟩),undef,undef] (W.drew.setCell ⟨bH,1,none⟩ (.int .i64 y)) (λ v w'=>v=.pointer (some ⟨bH,k,none⟩)/\w'=(W.drew.setCell ⟨bH,1,none⟩ (.int .i64 y))) (by kernel_rfl) (by kernel_rfl) (by kernel_rfl) rfl (by kernel_rfl) (by kernel_rfl) rfl ⟨rfl,rfl,trivial⟩ trivial trivial (λ _ _ _=>trivial) (λ r ag O hp=>?_) (λ r ag O hp=>?_) ?_ ?_
 · have h1:r (.tmp 138)=.pointer (some ⟨bH,1,none⟩):=ag.1 rfl (by decide) (by decide) _ rfl;have l:r (.tmp 131)=.int .i64 y:=ag.2.1 rfl (by decide) (by decide) _ rfl;show bD _ _ (t_ _ _ _ _ _ _) _ _;simp[bD,execOp,gL,go_sem,h1,l,a1,f1]
 · have h1:r (.tmp 123)=.slice (some ⟨bH,0,none⟩) m aV:=ag.1 rfl (by decide) (by decide) _ rfl;have l:r (.tmp 124)=.int .i64 (k:Int):=ag.2.1 rfl (by decide) (by decide) _ rfl;show bD _ _ (t_ _ _ _ _ _ _) _ _;simp[bD,execOp,gL,go_sem,h1,l,ab]
 · refine⟨?_,?_,?_,?_,?_,?_,?_,?_,?_,?_,?_,?_,?_,?_,?_,?_,?_,?_,?_,?_,?_,?_,?_,?_,?_,trivial⟩
   all_goals
    intro h1 l r w _ aM ag O hp
    first
     |exact absurd rfl h1
     |exact absurd rfl l
     |(obtain⟨aN,aO,-⟩:=O;(try obtain rfl:=aM rfl);(try simp[oW,qY,n_] at ag);simp[bD,execOp,gL,go_sem,aN,aO,ag,Z,a1,I,ab,aA,hp.1];done)
 rintro u v w' ⟨rfl,rfl⟩ aX al;simp[ot,Act.put,kU] at al;subst al;show bD _ _ (t_ _ _ _ _ _ _) _ _;have aZ:¬(1=k):=ad;simp[bD,execOp,gL,go_sem,Act.eval,I,az,ad,aB]
 iterate 1
   have f:=aI.o _ B.o.1;have aP:(((W.setCell ⟨bH,1,none⟩ (.int .i64 y)).setCell ⟨bH,k,none⟩ (.int .i64 x)).drew).cell? ⟨cb d,0,none⟩=some (.slice (some ⟨bH,0,none⟩) m aV):=by
    show((W.setCell ⟨bH,1,none⟩ (.int .i64 y)).setCell ⟨bH,k,none⟩ (.int .i64 x)).cell? ⟨cb d,0,none⟩=_;rw[o_ _ _ _ _ (by simp[aa]),o_ _ _ _ _ (by simp[aa])];exact Z
   have c1:=aH.o _ B.o.1;refine aL _ _ ?_;refine run_move f.1 f.2.1 f.2.2.1 f.2.2.2.1 f.2.2.2.2.1 f.2.2.2.2.2.1 f.2.2.2.2.2.2.1 f.2.2.2.2.2.2.2.1 aP f.2.2.2.2.2.2.2.2.1 f.2.2.2.2.2.2.2.2.2.1 c1 f.2.2.2.2.2.2.2.2.2.2 ?_
   intros
   rename_i aQ aR;apply aK.o;exact aJ.o _ _ _ _ _ B.o.2 aQ aR
theorem mC.is(a:mC K base w G cb F ah s c1 gP aS lit ls k0 i kl kept c2 jQ W)(C:rJ G gP c1 s lit ls k0 g0 iZ ir jd){y z:Int}(b:gK s.c.n y)(d:j9 c2 y=z):Calls w_ 152 #[.pointer (some ⟨G,0,none⟩),.int .i64 y] W λ e w'=>e=.returned (.int .i8 z)/\w'=W:=by
 have e:(kH c2 k0 (kept++ls.drop kl)).n=s.c.n:=a.kj C;have:=Bw a.fN (Du a.nI.gR.aK) (show(kH c2 k0 (kept++ls.drop kl)).n<=60000 by rw[e];exact C.au) (x:=y) (by show gK (kH c2 k0 (kept++ls.drop kl)).n y;rw[e];exact b);rw[show j9 (({s with c:=kH c2 k0 (kept++ls.drop kl)}:aq).c) y=z from d] at this;exact this.mono λ e w' h=>⟨h.1,h.2.symm⟩
theorem LH(C:rJ G gP c1 s lit ls k0 g0 iZ ir jd)(g:mC K base w G cb F ah s c1 gP aS lit ls k0 i kl kept c2 jQ W)(ag:ls[i]? =some d)(hw:w1 c2 d= -lit)(hC:yK base W G jQ cb d bH m aV (ay c2.cl d))
  (B:∀(S T u8 bP bQ bR bS bT bU bV bW bX bY bZ b5 b6 b7 b8 u64 b9 cc cg ck cm cn cp cr ct cu cv cw cz cA cB cC cD cE cF cG cH c9 dc de dh di dm dn dr cK cL cM cN cO cQ cR cS cT cU cV cW cZ c4 c5 c6 c7 dw dx dy dz dA dB dD dF dG dH dI dJ dK dL dM dN dO dP dQ dR dS dU dV dW dX dY dZ ec ee ef fG fH fI ei ej ek en eo ep er eu ew ey ez eA fJ fK fL eB eC eD eE eF eG eH eL eM eN eO eP eR eS eT eU eV eW eX eY eZ e3 e4 e5 e6 e7 e8 e9 fc fe ff fh fk fm fo fq gi gj fu fA fB fC fD fE fF iH iI iJ iK iL iM iN iO iP iQ iR iS:Value)(c3:Core)(V:Nat->ax)(W':World),mC K base w G cb F ah s c1 gP aS lit ls k0 (i+1) kl kept c3 V W'->Q (.exit 3) ⟨#[.pointer (some ⟨G,0,none⟩),gF,iz,.int .i64 lit,.slice (some ⟨iZ,0,none⟩) ir jd,.slice (some ⟨iZ,0,none⟩) (kl) jd,S,T,u8,lF,gV,gH,gn,iy,gI,gT,u16,gp,gq,gr,gG,gu,gv,gw,gx,gy,gz,gA,gB,fO,fP,fQ,u32,fR,fS,fT,fU,fV,fW,fZ,ga,gb,gd,gh,gC,gD,.slice (some ⟨iZ,0,none⟩) ir jd,.int .i64 (ir:Int),.int .i64 (i:Int),bP,bQ,bR,bS,bT,bU,bV,bW,bX,bY,bZ,b5,b6,b7,b8,u64,b9,cc,cg,ck,cm,cn,cp,cr,ct,cu,cv,cw,cz,cA,cB,cC,cD,cE,cF,cG,cH,c9,dc,de,dh,di,dm,dn,dr,cK,cL,cM,cN,cO,cQ,cR,cS,cT,cU,cV,cW,cZ,c4,c5,c6,c7,dw,dx,dy,dz,dA,dB,dD,dF,dG,dH,dI,dJ,dK,dL,dM,dN,dO,dP,dQ,dR,dS,dU,dV,dW,dX,dY,dZ,ec,ee,ef,fG,fH,fI,ei,ej,ek,en,eo,ep,er,eu,ew,ey,ez,eA,fJ,fK,fL,eB,eC,eD,eE,eF,eG,eH,eL,eM,eN,eO,eP,eR,eS,eT,eU,eV,eW,eX,eY,eZ,e3,e4,e5,e6,e7,e8,e9,fc,fe,ff,fh,fk,fm,fo,fq,gi,gj,fu,fA,fB,fC,fD,fE,fF,iH,iI,iJ,iK,iL,iM,iN,iO,iP,iQ,iR,iS,jg,jh,ji,jj,jk,jl,jm,jo],[]⟩ W')
  (D:∀(u8 bP bQ bR bS bT bU bV bW bX bY bZ b5 b6 b7 b8 u64 b9 cc cg ck cm cn cp cr ct cu cv cw cz cA cB cC cD cE cF cG cH c9 dc de dh di dm dn dr cK cL cM cN cO cQ cR cS cT cU cV cW cZ c4 c5 c6 c7 dw dx dy dz dA dB dD dF dG dH dI dJ dK dL dM dN dO dP dQ dR dS dU dV dW dX dY dZ ec ee ef fG fH fI ei ej ek en eo ep er eu ew ey ez eA fJ fK fL eB eC eD eE eF eG eH eL eM eN eO eP eR eS eT eU eV eW eX eY eZ e3 e4 e5 e6 e7 e8 e9 fc fe ff fh fk fm fo fq gi gj fu fA fB fC fD fE fF iH iI iJ iK iL iM iN iO iP iQ iR iS:Value),(∀k,2<=k->k<(ay c2.cl d).length->j9 c2 (aj (ay c2.cl d) k)= -1)->Q (.exit 4) ⟨#[.pointer (some ⟨G,0,none⟩),gF,iz,.int .i64 lit,.slice (some ⟨iZ,0,none⟩) ir jd,.slice (some ⟨iZ,0,none⟩) (kl) jd,.int .i64 (i:Int),.pointer (some ⟨cb d,0,none⟩),u8,lF,gV,gH,gn,iy,gI,gT,u16,gp,gq,gr,gG,gu,gv,gw,gx,gy,gz,gA,gB,fO,fP,fQ,u32,fR,fS,fT,fU,fV,fW,fZ,ga,gb,gd,gh,gC,gD,.slice (some ⟨iZ,0,none⟩) ir jd,.int .i64 (ir:Int),.int .i64 (i:Int),bP,bQ,bR,bS,bT,bU,bV,bW,bX,bY,bZ,b5,b6,b7,b8,u64,b9,cc,cg,ck,cm,cn,cp,cr,ct,cu,cv,cw,cz,cA,cB,cC,cD,cE,cF,cG,cH,c9,dc,de,dh,di,dm,dn,dr,cK,cL,cM,cN,cO,cQ,cR,cS,cT,cU,cV,cW,cZ,c4,c5,c6,c7,dw,dx,dy,dz,dA,dB,dD,dF,dG,dH,dI,dJ,dK,dL,dM,dN,dO,dP,dQ,dR,dS,dU,dV,dW,dX,dY,dZ,ec,ee,ef,fG,fH,fI,ei,ej,ek,en,eo,ep,er,eu,ew,ey,ez,eA,fJ,fK,fL,eB,eC,eD,eE,eF,eG,eH,eL,eM,eN,eO,eP,eR,eS,eT,eU,eV,eW,eX,eY,eZ,e3,e4,e5,e6,e7,e8,e9,fc,fe,ff,fh,fk,fm,fo,fq,gi,gj,fu,fA,fB,fC,fD,fE,fF,iH,iI,iJ,iK,iL,iM,iN,iO,iP,iQ,iR,iS,jg,jh,ji,jj,jk,jl,jm,jo],[]⟩ W):
   l_ w_ (.loop K6) Q ⟨#[.pointer (some ⟨G,0,none⟩),gF,iz,.int .i64 lit,.slice (some ⟨iZ,0,none⟩) ir jd,.slice (some ⟨iZ,0,none⟩) kl jd,.int .i64 (i:Int),.pointer (some ⟨cb d,0,none⟩),.int .i64 (2:Int),lF,gV,gH,gn,iy,gI,gT,u16,gp,gq,gr,gG,gu,gv,gw,gx,gy,gz,gA,gB,fO,fP,fQ,u32,fR,fS,fT,fU,fV,fW,fZ,ga,gb,gd,gh,gC,gD,.slice (some ⟨iZ,0,none⟩) ir jd,.int .i64 (ir:Int),.int .i64 (i:Int),bP,bQ,bR,bS,bT,bU,bV,bW,bX,bY,bZ,b5,b6,b7,b8,u64,b9,cc,cg,ck,cm,cn,cp,cr,ct,cu,cv,cw,cz,cA,cB,cC,cD,cE,cF,cG,cH,c9,dc,de,dh,di,dm,dn,dr,cK,cL,cM,cN,cO,cQ,cR,cS,cT,cU,cV,cW,cZ,c4,c5,c6,c7,dw,dx,dy,dz,dA,dB,dD,dF,dG,dH,dI,dJ,dK,dL,dM,dN,dO,dP,dQ,dR,dS,dU,dV,dW,dX,dY,dZ,ec,ee,ef,fG,fH,fI,ei,ej,ek,en,eo,ep,er,eu,ew,ey,ez,eA,fJ,fK,fL,eB,eC,eD,eE,eF,eG,eH,eL,eM,eN,eO,eP,eR,eS,eT,eU,eV,eW,eX,eY,eZ,e3,e4,e5,e6,e7,e8,e9,fc,fe,ff,fh,fk,fm,fo,fq,gi,gj,fu,fA,fB,fC,fD,fE,fF,iH,iI,iJ,iK,iL,iM,iN,iO,iP,iQ,iR,iS,jg,jh,ji,jj,jk,jl,jm,jo],[]⟩ W:=by
 have hm:=hC.len;have E:=g.m C ag;have H:=g.q6 ag;have I:2<=m:=by omega
 have J:=hC.cap;have ai:=hC.ag;have l:=U (z_ hm (z_ E (z_ H (z_ I J))));have J:(m:Int)<=(aV:Int):=by omega
 have qB:=U C;have p:=U g;have t:=U (z_ ag hw);have L:=U hC;have X:=U B;have Y:=U D;clear C g ag hw hC B D hm E H I
 conv=>arg 2;arg 1;whnf
 conv=>arg 4;zeta
 go_loopw [8] (λ u Z=>Z=W/\∃k:Nat,u=.int .i64 k/\2<=k/\k<=m/\∀j,2<=j->j<k->j9 c2 (aj (ay c2.cl d) j)= -1) (λ u _=>m-(intOf u).toNat)
 case atStart=>exact⟨rfl,2,rfl,Nat.le_refl _,l.o.2.2.2.1,λ j h1 v=>absurd v (by omega)⟩
 case round=>
   obtain⟨rfl,k,rfl,M,N,hk⟩:=hrel;have q:=U (z_ M (z_ N hk));clear M N hk
   by_cases a:k<m
   ·have x:(k:Int)<(m:Int):=by omega
    have ak:(0:Int)<=(k:Int):=by omega
    have aa:decide ((k:Int)<(m:Int))=true:=decide_eq_true x;have al:r_.wrap ((k:Int)+1)=(k:Int)+1:=by rw[m_];have:=l.o;omega
    obtain⟨y,r⟩:∃y,aj (ay c2.cl d) k=y:=⟨_,rfl⟩
    have ab:=L.o.kL k a;rw[r] at ab;have O:gK s.c.n y:=by rw[<-r];exact p.o.ok qB.o t.o.1 (by have:=l.o;omega)
    obtain⟨z,A⟩:∃z,j9 c2 y=z:=⟨_,rfl⟩
    have P:=U (p.o.is qB.o O A);have b:=U a;have f:=U (z_ r A);clear a r A O
    by_cases R:z= -1
    ·subst R
     go_wp2_with (go_at_call 152;refine P.o.mono ?_;rintro e ad ⟨rfl,rfl⟩)
     go_roundw
     case rel=>exact⟨by trivial,k+1,by go_num,by have:=q.o;omega,by have:=b.o;omega,λ j h1 v=>by
      rcases Nat.lt_or_ge j k with h|h
      ·exact q.o.2.2 j h1 h
      ·obtain rfl:j=k:=by omega
       rw[f.o.1];exact f.o.2⟩
     case measure=>have:=b.o;simp[intOf];omega
    ·have ae:(0:Int)<=z:=by have:=f.o.2;have an:=p.o.nI.gR.aK.range y;omega
     have ao:decide (0<=z)=true:=decide_eq_true ae
     go_upto_if 115 with(go_at_call 152;refine P.o.mono ?_;rintro e ad ⟨rfl,rfl⟩)
     refine wp_cond_true rfl ?_;refine LG qB.o p.o t.o.1 t.o.2 q.o.1 b.o (by rw[f.o.1,f.o.2];exact R) L.o ?_
     intros
     rename_i af;apply X.o;exact af
   ·have x:¬(k:Int)<(m:Int):=by omega
    have aa:decide ((k:Int)<(m:Int))=false:=decide_eq_false x;have b:=U a;clear a
    go_wp2_with fail
    apply Y.o;intro j h1 v;exact q.o.2.2 j h1 (by have:=l.o;have:=b.o;omega)
theorem mC.app(a:mC K base w G cb F ah s c1 gP aS lit ls k0 i kl kept c2 jQ W)(C:rJ G gP c1 s lit ls k0 g0 iZ ir jd)(h:ls[i]? =some d):
  q8 (W.alloc (.cells #[.pointer (some ⟨cb d,0,none⟩)] 164)) (some ⟨W.heap.size,0,none⟩) 1 1 [.pointer (some ⟨cb d,0,none⟩)]/\kl+1<=jd/\(∀j,j<1->((W.alloc (.cells #[.pointer (some ⟨cb d,0,none⟩)] 164)).cell? ⟨iZ,kl+j,none⟩).isSome=true)/\(∀j,(W.alloc (.cells #[.pointer (some ⟨cb d,0,none⟩)] 164)).frozen? ⟨iZ,j,none⟩=false)/\
  aY K base ((W.alloc (.cells #[.pointer (some ⟨cb d,0,none⟩)] 164)).setCells iZ kl [.pointer (some ⟨cb d,0,none⟩)]) G jQ cb {s with c:=kH c2 k0 ((kept++[d])++ls.drop (kl+1))}/\aG K W ((W.alloc (.cells #[.pointer (some ⟨cb d,0,none⟩)] 164)).setCells iZ kl [.pointer (some ⟨cb d,0,none⟩)]):=by
 have m:i<ls.length:=(y_.1 h).1;have n:=a.Bz;have o:=C.len;have p:=C.cap;have b:=a.fN.below (bz W (.cells #[.pointer (some ⟨cb d,0,none⟩)] 164));have hk:k0<c2.wt.length:=by rw[a.vM C];exact C.hk
 have f:ay (kH c2 k0 (kept++ls.drop kl)).wt k0=kept++ls.drop kl:=by show ay (c2.wt.set k0 _) k0=_;rw[qy,if_pos ⟨rfl,hk⟩]
 have hlen:(kept++ls.drop kl).length=ls.length:=by rw[x_,a.sZ,u_];omega
 have g:=b.1.Dq [d] (a.kD C) (k:=k0) (by show k0<(kH c2 k0 (kept++ls.drop kl)).wt.length;rw[a.raw C];exact C.hk) kl;refine⟨q8.one (by go_simp),by omega,λ j q=>?_,λ j=>b.1.e.rows.free (a.kD C) j,?_,b.2.trans g.2⟩
 ·obtain rfl:j=0:=by omega
  have l:kl<(kept++ls.drop kl).length:=by omega
  rw[Nat.add_zero,b.1.Dt (a.kD C) (j:=kl) (d:=(kept++ls.drop kl)[kl]) (by
   show(ay (kH c2 k0 (kept++ls.drop kl)).wt k0)[kl]? =_;rw[f];exact v_ l)]
  rfl
 ·have h1:=g.1;have e:(({s with c:=kH c2 k0 (kept++ls.drop kl)}:aq).pR k0 (sW (ay (({s with c:=kH c2 k0 (kept++ls.drop kl)}:aq).c.wt) k0) kl [d]))={s with c:=kH c2 k0 ((kept++[d])++ls.drop (kl+1))}:=by
   show({s with c:=kH (kH c2 k0 (kept++ls.drop kl)) k0 (sW (ay (kH c2 k0 (kept++ls.drop kl)).wt k0) kl [d])}:aq)=_;rw[f,Dr];show({s with c:=kH c2 k0 ((kept++ls.drop kl).set kl d)}:aq)=_;rw[KY a.sZ (by omega)]
  rw[e] at h1;exact h1
theorem mC.rest(b:mC K base w G cb F ah s c1 gP aS lit ls k0 i kl kept c2 jQ W)(C:rJ G gP c1 s lit ls k0 g0 iZ ir jd)(m:ls[i]? =some d){ki:World}(f:aY K base ki G jQ cb {s with c:=kH c2 k0 ((kept++[d])++ls.drop (kl+1))}):
  (∃off,(if jd=i+1 then some (⟨iZ,0,none⟩:Addr) else some ⟨iZ,i+1,none⟩)=some ⟨iZ,off,none⟩/\∀c,q8 ki (some ⟨iZ,off,none⟩) (ir-(i+1)) c (k3 cb (ls.drop (i+1))))/\kl+1+(ir-(i+1))<=jd/\(∀j,j<ir-(i+1)->(ki.cell? ⟨iZ,kl+1+j,none⟩).isSome=true)/\(∀j,ki.frozen? ⟨iZ,j,none⟩=false)/\
  ∃l:List Nat,l.take (kl+1+(ir-(i+1)))=ay c2.wt k0/\kl+1+(ir-(i+1))<=l.length/\aY K base (ki.setCells iZ (kl+1) (k3 cb (ls.drop (i+1)))) G jQ cb {s with c:=kH c2 k0 l}/\aG K ki (ki.setCells iZ (kl+1) (k3 cb (ls.drop (i+1)))):=by
 have x:i<ls.length:=(y_.1 m).1;have y:ls[i]=d:=(y_.1 m).2;have L:=b.Bz;have z:=C.len;have M:=C.cap;have hk:k0<c2.wt.length:=by rw[b.vM C];exact C.hk
 obtain⟨a,g⟩:∃r,(kept++[d])++ls.drop (kl+1)=r:=⟨_,rfl⟩
 rw[g] at f;have hlen:a.length=ls.length:=by rw[<-g];simp only[x_,List.length_singleton,u_,b.sZ];omega
 have n:ay (kH c2 k0 a).wt k0=a:=by show ay (c2.wt.set k0 _) k0=_;rw[qy,if_pos ⟨rfl,hk⟩]
 have A:∀j,kl+1<=j->a[j]? =ls[j]? :=λ j B=>by
  have h1:(kept++[d]).length=kl+1:=by rw[x_,b.sZ];rfl
  rw[<-g,p_ (by omega),h1,q_]
  congr 1;omega
 have o:∀j e,a[j]? =some e->ki.cell? ⟨iZ,j,none⟩=some (.pointer (some ⟨cb e,0,none⟩)):=λ j e h=>f.Dt (b.kD C) (by
  show(ay (kH c2 k0 a).wt k0)[j]? =_;rw[n];exact h)
 have p:=f.Dq (ls.drop (i+1)) (b.kD C) (k:=k0) (by show k0<(kH c2 k0 a).wt.length;show k0<(c2.wt.set _ _).length;rw[s_];exact hk) (kl+1);have q:∀off c,(0<ir-(i+1)->off=i+1)->q8 ki (some ⟨iZ,off,none⟩) (ir-(i+1)) c (k3 cb (ls.drop (i+1))):=λ off c D=>by
  refine⟨by simp[k3];omega,λ E=>⟨iZ,off,rfl,λ j u hu=>?_⟩,λ u hu=>?_⟩
  ·simp only[k3,List.getElem?_map,q_,Option.map_eq_some_iff] at hu;obtain⟨e,he,rfl⟩:=hu;rw[D E];exact o (i+1+j) e (by rw[A _ (by omega)];exact he)
  ·simp only[k3,List.mem_map] at hu;obtain⟨e,_,rfl⟩:=hu;exact⟨_,rfl⟩
 refine⟨?_,by omega,λ j B=>?_,λ j=>f.e.rows.free (b.kD C) j,sW a (kl+1) (ls.drop (i+1)),?_,by rw[Gi,hlen];omega,?_,p.2⟩
 ·by_cases t:jd=i+1
  ·exact⟨0,by rw[if_pos t],λ c=>q _ _ (by omega)⟩
  ·exact⟨i+1,by rw[if_neg t],λ c=>q _ _ (by omega)⟩
 ·have H:kl+1+j<a.length:=by omega
  rw[o (kl+1+j) a[kl+1+j] (v_ H)];rfl
 ·have I:kl+1+(ir-(i+1))=kl+1+(ls.drop (i+1)).length:=by rw[u_,z]
  have J:a.take (kl+1)=kept++[d]:=by
   rw[<-g,List.take_left' (by rw[x_,b.sZ];rfl)]
  have v:=b.nI.wt;rw[C.kL,List.drop_eq_getElem_cons x,y] at v;rw[I,Gj _ _ _ (by rw[u_];omega),J,v,List.append_assoc];rfl
 ·have h1:=p.1;have e:(({s with c:=kH c2 k0 a}:aq).pR k0 (sW (ay (({s with c:=kH c2 k0 a}:aq).c.wt) k0) (kl+1) (ls.drop (i+1))))={s with c:=kH c2 k0 (sW a (kl+1) (ls.drop (i+1)))}:=by
   show({s with c:=kH (kH c2 k0 a) k0 (sW (ay (kH c2 k0 a).wt k0) (kl+1) (ls.drop (i+1)))}:aq)=_;rw[n,Dr]
  rw[e] at h1;exact h1
theorem LI(C:rJ G gP c1 s lit ls k0 g0 iZ ir jd)(j:mC K base w G cb F ah s c1 gP aS lit ls k0 i kl kept c2 jQ W)(ag:ls[i]? =some d)(hw:w1 c2 d= -lit)(aw:∀k,2<=k->k<(ay c2.cl d).length->j9 c2 (aj (ay c2.cl d) k)= -1)(O:j9 c2 (w0 c2 d)≠1)
  (az:∀(P R u8 bP bQ bR bS bT bU bV bW bX bY bZ b5 b6 b7 b8 u64 b9 cc cg ck cm cn cp cr ct cu cv cw cz cA cB cC cD cE cF cG cH c9 dc de dh di dm dn dr cK cL cM cN cO cQ cR cS cT cU cV cW cZ c4 c5 c6 c7 dw dx dy dz dA dB dD dF dG dH dI dJ dK dL dM dN dO dP dQ dR dS dU dV dW dX dY dZ ec ee ef fG fH fI ei ej ek en eo ep er eu ew ey ez eA fJ fK fL eB eC eD eE eF eG eH eL eM eN eO eP eR eS eT eU eV eW eX eY eZ e3 e4 e5 e6 e7 e8 e9 fc fe ff fh fk fm fo fq gi gj fu fA fB fC fD fE fF iH iI iJ iK iL iM iN iO iP iQ iR iS:Value)(c3:Core)(S:Nat->ax)(W':World),mC K base w G cb F ah s c1 gP aS lit ls k0 (i+1) (kl+1) (kept++[d]) c3 S W'->Q .normal ⟨#[.pointer (some ⟨G,0,none⟩),gF,iz,.int .i64 lit,.slice (some ⟨iZ,0,none⟩) ir jd,.slice (some ⟨iZ,0,none⟩) (kl+1) jd,P,R,u8,lF,gV,gH,gn,iy,gI,gT,u16,gp,gq,gr,gG,gu,gv,gw,gx,gy,gz,gA,gB,fO,fP,fQ,u32,fR,fS,fT,fU,fV,fW,fZ,ga,gb,gd,gh,gC,gD,.slice (some ⟨iZ,0,none⟩) ir jd,.int .i64 (ir:Int),.int .i64 (i:Int),bP,bQ,bR,bS,bT,bU,bV,bW,bX,bY,bZ,b5,b6,b7,b8,u64,b9,cc,cg,ck,cm,cn,cp,cr,ct,cu,cv,cw,cz,cA,cB,cC,cD,cE,cF,cG,cH,c9,dc,de,dh,di,dm,dn,dr,cK,cL,cM,cN,cO,cQ,cR,cS,cT,cU,cV,cW,cZ,c4,c5,c6,c7,dw,dx,dy,dz,dA,dB,dD,dF,dG,dH,dI,dJ,dK,dL,dM,dN,dO,dP,dQ,dR,dS,dU,dV,dW,dX,dY,dZ,ec,ee,ef,fG,fH,fI,ei,ej,ek,en,eo,ep,er,eu,ew,ey,ez,eA,fJ,fK,fL,eB,eC,eD,eE,eF,eG,eH,eL,eM,eN,eO,eP,eR,eS,eT,eU,eV,eW,eX,eY,eZ,e3,e4,e5,e6,e7,e8,e9,fc,fe,ff,fh,fk,fm,fo,fq,gi,gj,fu,fA,fB,fC,fD,fE,fF,iH,iI,iJ,iK,iL,iM,iN,iO,iP,iQ,iR,iS,jg,jh,ji,jj,jk,jl,jm,jo],[]⟩ W')
  (aA:∀(a8 P R u8 bP bQ bR bS bT bU bV bW bX bY bZ b5 b6 b7 b8 u64 b9 cc cg ck cm cn cp cr ct cu cv cw cz cA cB cC cD cE cF cG cH c9 dc de dh di dm dn dr cK cL cM cN cO cQ cR cS cT cU cV cW cZ c4 c5 c6 c7 dw dx dy dz dA dB dD dF dG dH dI dJ dK dL dM dN dO dP dQ dR dS dU dV dW dX dY dZ ec ee ef fG fH fI ei ej ek en eo ep er eu ew ey ez eA fJ fK fL eB eC eD eE eF eG eH eL eM eN eO eP eR eS eT eU eV eW eX eY eZ e3 e4 e5 e6 e7 e8 e9 fc fe ff fh fk fm fo fq gi gj fu fA fB fC fD fE fF iH iI iJ iK iL iM iN iO iP iQ iR iS:Value)(c3:Core)(S:Nat->ax)(W':World),kC F F c3 aS []->nr c3 ah->tA c1 c3->d<c3.cl.length->(∀x∈ay c3.cl d,-x∈c3.av)->aY K base W' G S cb {s with c:=c3}->aG K w W'->Q .ret ⟨#[.pointer (some ⟨G,0,none⟩),gF,.pointer (some ⟨cb d,0,none⟩),.int .i64 lit,.slice (some ⟨iZ,0,none⟩) ir jd,a8,P,R,u8,lF,gV,gH,gn,iy,gI,gT,u16,gp,gq,gr,gG,gu,gv,gw,gx,gy,gz,gA,gB,fO,fP,fQ,u32,fR,fS,fT,fU,fV,fW,fZ,ga,gb,gd,gh,gC,gD,.slice (some ⟨iZ,0,none⟩) ir jd,.int .i64 (ir:Int),.int .i64 (i:Int),bP,bQ,bR,bS,bT,bU,bV,bW,bX,bY,bZ,b5,b6,b7,b8,u64,b9,cc,cg,ck,cm,cn,cp,cr,ct,cu,cv,cw,cz,cA,cB,cC,cD,cE,cF,cG,cH,c9,dc,de,dh,di,dm,dn,dr,cK,cL,cM,cN,cO,cQ,cR,cS,cT,cU,cV,cW,cZ,c4,c5,c6,c7,dw,dx,dy,dz,dA,dB,dD,dF,dG,dH,dI,dJ,dK,dL,dM,dN,dO,dP,dQ,dR,dS,dU,dV,dW,dX,dY,dZ,ec,ee,ef,fG,fH,fI,ei,ej,ek,en,eo,ep,er,eu,ew,ey,ez,eA,fJ,fK,fL,eB,eC,eD,eE,eF,eG,eH,eL,eM,eN,eO,eP,eR,eS,eT,eU,eV,eW,eX,eY,eZ,e3,e4,e5,e6,e7,e8,e9,fc,fe,ff,fh,fk,fm,fo,fq,gi,gj,fu,fA,fB,fC,fD,fE,fF,iH,iI,iJ,iK,iL,iM,iN,iO,iP,iQ,iR,iS,jg,jh,ji,jj,jk,jl,jm,jo],[]⟩ W'):
   l_ w_ K5 Q ⟨#[.pointer (some ⟨G,0,none⟩),gF,iz,.int .i64 lit,.slice (some ⟨iZ,0,none⟩) ir jd,.slice (some ⟨iZ,0,none⟩) kl jd,.int .i64 (i:Int),.pointer (some ⟨cb d,0,none⟩),u8,lF,gV,gH,gn,iy,gI,gT,u16,gp,gq,gr,gG,gu,gv,gw,gx,gy,gz,gA,gB,fO,fP,fQ,u32,fR,fS,fT,fU,fV,fW,fZ,ga,gb,gd,gh,gC,gD,.slice (some ⟨iZ,0,none⟩) ir jd,.int .i64 (ir:Int),.int .i64 (i:Int),bP,bQ,bR,bS,bT,bU,bV,bW,bX,bY,bZ,b5,b6,b7,b8,u64,b9,cc,cg,ck,cm,cn,cp,cr,ct,cu,cv,cw,cz,cA,cB,cC,cD,cE,cF,cG,cH,c9,dc,de,dh,di,dm,dn,dr,cK,cL,cM,cN,cO,cQ,cR,cS,cT,cU,cV,cW,cZ,c4,c5,c6,c7,dw,dx,dy,dz,dA,dB,dD,dF,dG,dH,dI,dJ,dK,dL,dM,dN,dO,dP,dQ,dR,dS,dU,dV,dW,dX,dY,dZ,ec,ee,ef,fG,fH,fI,ei,ej,ek,en,eo,ep,er,eu,ew,ey,ez,eA,fJ,fK,fL,eB,eC,eD,eE,eF,eG,eH,eL,eM,eN,eO,eP,eR,eS,eT,eU,eV,eW,eX,eY,eZ,e3,e4,e5,e6,e7,e8,e9,fc,fe,ff,fh,fk,fm,fo,fq,gi,gj,fu,fA,fB,fC,fD,fE,fF,iH,iI,iJ,iK,iL,iM,iN,iO,iP,iQ,iR,iS,jg,jh,ji,jj,jk,jl,jm,jo],[]⟩ W:=by
 have hm:=j.m C ag;have aB:=j.q6 ag;have E:i<ls.length:=(y_.1 ag).1;have aD:=j.Bz;have l:=U (j.app C ag);have aE:=C.len;have aF:=C.lb;have bo:kl<200000:=by omega
 obtain⟨a,H⟩:∃x,w0 c2 d=x:=⟨_,rfl⟩
 obtain⟨z,I⟩:∃z,j9 c2 a=z:=⟨_,rfl⟩
 have T:gK s.c.n a:=by rw[<-H];exact j.ok C ag (by omega)
 have aH: -60000<=a/\a<=60000:=by have:=T.2;have:=C.au;unfold aC at*;omega
 have rg:=j.nI.gR.aK.range a;rw[H,I] at O;rw[I] at rg;have D:=U (z_ C (z_ j (z_ ag (z_ hw (z_ aw (z_ hm (z_ aB (z_ E (z_ aD (z_ aE (z_ aF (z_ H (z_ I (z_ T (z_ aH (z_ O rg))))))))))))))));have a':=U az;have ba:=U aA;clear C j ag hw aw hm aB E aD aE aF H I T aH O rg az aA
 conv=>arg 2;whnf
 conv=>arg 4;zeta
 go_upto_region 20 with(at_builtin;refine Dp rfl (.tmp 170) (.tmp 172) rfl iZ kl jd W.heap.size 0 1 1 _ rfl rfl l.o.1 l.o.2.1 l.o.2.2.1 l.o.2.2.2.1 ?_)
 have p:=l.o.2.2.2.2.1;have B:=l.o.2.2.2.2.2;have bp:kl+1<=jd:=l.o.2.1;generalize (W.alloc (.cells #[.pointer (some ⟨cb d,0,none⟩)] 164)).setCells iZ kl [.pointer (some ⟨cb d,0,none⟩)]=u at p B⊢;clear l;obtain⟨bH,m,bb,q⟩:=p.yL (d:=d) D.o.2.2.2.2.2.2.1.1 (by have:=D.o.2.2.2.2.2.2.1.2;show 1<=(ay c2.cl d).length;omega);have q:yK base u G jQ cb d bH m bb (ay c2.cl d):=q;have bq:2<=m:=by have:=q.len;have:=D.o.2.2.2.2.2.2.1.2;omega
 have bc:=q.ag;have a0:=q.kL 0 (by omega);rw[show aj (ay c2.cl d) 0=a from D.o.2.2.2.2.2.2.2.2.2.2.2.1] at a0;have br:(0:Int)<(m:Int):=by omega
 have p:=U p;have B:=U B;have q:=U q;have J:bJ ((kH c2 k0 ((kept++[d])++ls.drop (kl+1))).n=s.c.n):=U (D.o.2.1.kj D.o.1);have X:bJ (Calls w_ 152 #[.pointer (some ⟨G,0,none⟩),.int .i64 a] u λ e w'=>e=.returned (.int .i8 z)/\u=w'):=U (by
   have h1:=Bw p.o (Du D.o.2.1.nI.gR.aK) (show(kH c2 k0 ((kept++[d])++ls.drop (kl+1))).n<=60000 by rw[J.o];exact D.o.1.au) (x:=a) (by show gK (kH c2 k0 ((kept++[d])++ls.drop (kl+1))).n a;rw[J.o];exact D.o.2.2.2.2.2.2.2.2.2.2.2.2.2.1);rw[show j9 (({s with c:=kH c2 k0 ((kept++[d])++ls.drop (kl+1))}:aq).c) a=z from D.o.2.2.2.2.2.2.2.2.2.2.2.2.1] at h1;exact h1)
 by_cases bd:z= -1
 · have Y:z<0:=by omega
   have bf:decide (z<0)=true:=decide_eq_true Y;have aI:=D.o.2.2.2.2.2.2.2.1;have aJ:=D.o.2.2.2.2.2.2.2.2.2.1;have aL:=D.o.2.2.2.2.2.2.2.2.2.2.1;have aM:=D.o.1.cap;have li:(i:Int)+1<=(ir:Int):=by omega
   have lc:(ir:Int)<=(jd:Int):=by omega
   have bs:(0:Int)<=(i:Int)+1:=by omega
   have bt:r_.wrap ((i:Int)+1)=(i:Int)+1:=by rw[m_];omega
   have bu:=U (z_ aI (z_ aJ (z_ aL aM)));clear aI aJ aL aM;obtain⟨⟨off,aN,aO⟩,aP,aQ,aR,bw,r⟩:=D.o.2.1.rest D.o.1 D.o.2.2.1 p.o;have aT:=U aO;have Z:=U (z_ aQ aR);have r:=U r;have aa:=U aN;clear aO aQ aR aN
   go_upto_region 22 with(first|(go_at_call 152;refine X.o.mono ?_;rintro e aU ⟨rfl,rfl⟩;dsimp only)|(at_builtin;refine Dp rfl (.tmp 183) (.tmp 187) rfl iZ (kl+1) jd iZ off (ir-(i+1)) (jd-(i+1)) _ rfl (congrArg (λ A=>Value.slice A (ir-(i+1)) (jd-(i+1))) aa.o) (aT.o _) aP Z.o.1 Z.o.2 ?_))
   rw[aa.o];have f:=U r.o.2.2.1;have y:=U (B.o.trans r.o.2.2.2);have ab:=U (z_ r.o.1 r.o.2.1);clear r aT Z aa;obtain⟨ad,ae⟩:∃n,kl+1+(ir-(i+1))=n:=⟨_,rfl⟩
   rw[ae] at ab aP⊢;have L:=D.o.2.1.cI D.o.1;have af:=f.o.e.q5 1 L (f.o.e.kG.trans (by show(c2.wt.set _ _).length=2*s.c.n+2;rw[s_];exact D.o.2.1.vM D.o.1)) rfl;have f0:=f.o.e.rows.free L k0;have aV:bJ (k0<c2.wt.length):=U (by rw[D.o.2.1.vM D.o.1];exact D.o.1.hk);have aW:=D.o.2.1.hw.trans D.o.1.ag;have bx:(k0:Int)<2*(s.c.n:Int)+2:=by have:=D.o.1.hk;omega
   have aX:bJ (∀w:World,Calls w_ 181 #[.int .i64 lit] w λ e w'=>e=.returned (.int .i64 (k0:Int))/\w=w'):=U (λ w=>by have:=Gm D.o.1.ok D.o.1.au w;rw[D.o.1.kL] at this;exact this);have M:=U (z_ L aW);have bz:=U ae;clear L aW ae;obtain⟨ai,aZ⟩:∃ai,k3 cb (ls.drop (i+1))=ai:=⟨_,rfl⟩
   rw[aZ] at f y af f0⊢;clear aZ;obtain⟨t,a6⟩:∃t,World.setCells u iZ (kl+1) ai=t:=⟨_,rfl⟩
   rw[a6] at f y af f0⊢;have ak:t.cell? ⟨g0,k0,none⟩=some (.slice (some ⟨iZ,0,none⟩) ir jd):=by have:=f.o.e.xQ M.o.1 (k:=k0) (by show k0<(c2.wt.set _ _).length;rw[s_];exact aV.o);rw[M.o.2] at this;exact this
   clear a6 bc a0 p X;refine wp_region_still_tail 8 (by kernel_rfl) (by kernel_rfl) ?_;simp only[List.take_succ_cons,List.take_zero,List.drop_succ_cons,List.drop_zero]
   iterate 5 still_step
   still_call ((aX.o _).mono (λ e w' h=>⟨h.1,h.2.symm⟩))
   iterate 2 still_step
   refine wpStill_nil ?_;change wpList _ _ _ _ _ t.drew;have f0:t.drew.frozen? ⟨g0,k0,none⟩=false:=f0;have ak:t.drew.cell? ⟨g0,k0,none⟩=some (.slice (some ⟨iZ,0,none⟩) ir jd):=ak
   go_upto_region 23 with fail
   have b:=Bx (c2:=c2) f.o M.o.1 aV.o M.o.2 ab.o.1 ab.o.2 rfl;have al:=y.o.trans b.2;have b:=b.1;generalize (t.setCell ⟨g0,k0,none⟩ (.slice (some ⟨iZ,0,none⟩) ad jd)).drew=a7 at b al⊢;clear f0 ak af aX f y;obtain⟨bg,kA,bh,ao⟩:∃A n c,iT jQ (iF k0) ⟨some ⟨iZ,0,none⟩,ad,jd⟩ 4=⟨A,n,c⟩:=⟨_,_,_,rfl⟩
   have bj:kA=c2.av.length:=by have:=b.e.kA;rw[ao] at this;exact this
   have bA:a7.cell? ⟨G,5,none⟩=some (.slice bg kA bh):=by have:=b.e.kJ (k:=5) (v:=(iT jQ (iF k0) ⟨some ⟨iZ,0,none⟩,ad,jd⟩ 4).v) rfl;rw[ao] at this;exact this
   have f7:=b.e.free 7;have bB:a7.cell? ⟨G,7,none⟩=some (.int .i64 (c2.ag:Int)):=b.e.kJ (k:=7) (v:=.int .i64 (c2.ag:Int)) rfl;have N:=b.Bj kA;have bl:=U (al.trans N.2);have N:=U N.1;have b:=U b;clear ao al bj
   go_wp2_with fail
   have g:ls[i]'(D.o.2.2.2.2.2.2.2.1)=d:=(y_.1 D.o.2.2.1).2;have ar:=D.o.2.1.nI.Ke D.o.2.2.2.2.2.2.2.1 (by rw[g];exact D.o.2.2.2.1) (by rw[g];exact D.o.2.2.2.2.1) (by rw[g,D.o.2.2.2.2.2.2.2.2.2.2.2.1,D.o.2.2.2.2.2.2.2.2.2.2.2.2.1];exact bd);rw[g] at ar;have lY:=D.o.2.1.nI.sm;apply ba.o (c3:={c2 with ag:=kA});exact ar.1.yI kA;exact D.o.2.1.nI.8.same rfl rfl rfl;exact⟨lY.n,lY.st,lY.len,lY.l9,lY.Bf,lY.av,lY.cls,lY.v0,λ w=>lY.qE w⟩;exact D.o.2.2.2.2.2.2.1.1;exact ar.2;exact N.o;exact D.o.2.1.jr.trans bl.o
 · have z0:bJ (z=0):=U (by have:=D.o;omega);have Y:¬z<0:=by have:=z0.o;omega
   have bf:decide (z<0)=false:=decide_eq_false Y;have bn:bJ (Calls w_ 156 #[.pointer (some ⟨G,0,none⟩),.int .i64 a,.pointer (some ⟨cb d,0,none⟩)] u λ e w'=>e=.returned (.tuple #[])/\∃h':ax,aY K base w' G (iT jQ 4 h') cb {s with c:=lp (kH c2 k0 ((kept++[d])++ls.drop (kl+1))) a (some d)}/\aG K u w'):=U (by
    have h1:=Bv p.o a (some d) (Du D.o.2.1.nI.gR.aK) (by show gK (kH c2 k0 ((kept++[d])++ls.drop (kl+1))).n a;rw[J.o];exact D.o.2.2.2.2.2.2.2.2.2.2.2.2.2.1) (show(kH c2 k0 ((kept++[d])++ls.drop (kl+1))).n<=60000 by rw[J.o];exact D.o.1.au) (by show c2.st.length<=1000000;rw[D.o.2.1.nI.sm.st,D.o.1.st];exact D.o.1.jH);exact h1)
   go_wp2_with (first|(go_at_call 152;refine X.o.mono ?_;rintro e aU ⟨rfl,rfl⟩;dsimp only)|(go_at_call 156;refine bn.o.mono ?_;rintro e aU ⟨rfl,h',f,y⟩;dsimp only))
   apply a'.o;have E:=D.o.2.2.2.2.2.2.2.1;have g:ls[i]=d:=(y_.1 D.o.2.2.1).2;have V:=D.o.2.1.nI.set E (by rw[g];exact D.o.2.2.2.1) (by rw[g];exact D.o.2.2.2.2.1) (by rw[g,D.o.2.2.2.2.2.2.2.2.2.2.2.1,D.o.2.2.2.2.2.2.2.2.2.2.2.2.1];exact z0.o);rw[g,D.o.2.2.2.2.2.2.2.2.2.2.2.1] at V;exact⟨V,by rw[x_,D.o.2.1.sZ];rfl,f,(bk _ _ (by unfold iF;omega)).trans D.o.2.1.hw,(bk _ _ (by omega)).trans D.o.2.1.an,D.o.2.1.jr.trans (B.o.trans y)⟩
noncomputable def LJ:Code:=mU (mU Gr)
theorem GG(C:rJ G gP c1 s lit ls k0 g0 iZ ir jd)(a:mC K base w G cb F ah s c1 gP aS lit ls k0 i kl kept c2 jQ W)(ag:ls[i]? =some d)(hw:w1 c2 d= -lit)
  (B:∀(j k u8 bP bQ bR bS bT bU bV bW bX bY bZ b5 b6 b7 b8 u64 b9 cc cg ck cm cn cp cr ct cu cv cw cz cA cB cC cD cE cF cG cH c9 dc de dh di dm dn dr cK cL cM cN cO cQ cR cS cT cU cV cW cZ c4 c5 c6 c7 dw dx dy dz dA dB dD dF dG dH dI dJ dK dL dM dN dO dP dQ dR dS dU dV dW dX dY dZ ec ee ef fG fH fI ei ej ek en eo ep er eu ew ey ez eA fJ fK fL eB eC eD eE eF eG eH eL eM eN eO eP eR eS eT eU eV eW eX eY eZ e3 e4 e5 e6 e7 e8 e9 fc fe ff fh fk fm fo fq gi gj fu fA fB fC fD fE fF iH iI iJ iK iL iM iN iO iP iQ iR iS:Value)(E:Nat)(M:List Nat)(c3:Core)(l:Nat->ax)(W':World),mC K base w G cb F ah s c1 gP aS lit ls k0 (i+1) E M c3 l W'->Q (.exit 3) ⟨#[.pointer (some ⟨G,0,none⟩),gF,iz,.int .i64 lit,.slice (some ⟨iZ,0,none⟩) ir jd,.slice (some ⟨iZ,0,none⟩) (E) jd,j,k,u8,lF,gV,gH,gn,iy,gI,gT,u16,gp,gq,gr,gG,gu,gv,gw,gx,gy,gz,gA,gB,fO,fP,fQ,u32,fR,fS,fT,fU,fV,fW,fZ,ga,gb,gd,gh,gC,gD,.slice (some ⟨iZ,0,none⟩) ir jd,.int .i64 (ir:Int),.int .i64 (i:Int),bP,bQ,bR,bS,bT,bU,bV,bW,bX,bY,bZ,b5,b6,b7,b8,u64,b9,cc,cg,ck,cm,cn,cp,cr,ct,cu,cv,cw,cz,cA,cB,cC,cD,cE,cF,cG,cH,c9,dc,de,dh,di,dm,dn,dr,cK,cL,cM,cN,cO,cQ,cR,cS,cT,cU,cV,cW,cZ,c4,c5,c6,c7,dw,dx,dy,dz,dA,dB,dD,dF,dG,dH,dI,dJ,dK,dL,dM,dN,dO,dP,dQ,dR,dS,dU,dV,dW,dX,dY,dZ,ec,ee,ef,fG,fH,fI,ei,ej,ek,en,eo,ep,er,eu,ew,ey,ez,eA,fJ,fK,fL,eB,eC,eD,eE,eF,eG,eH,eL,eM,eN,eO,eP,eR,eS,eT,eU,eV,eW,eX,eY,eZ,e3,e4,e5,e6,e7,e8,e9,fc,fe,ff,fh,fk,fm,fo,fq,gi,gj,fu,fA,fB,fC,fD,fE,fF,iH,iI,iJ,iK,iL,iM,iN,iO,iP,iQ,iR,iS,jg,jh,ji,jj,jk,jl,jm,jo],[]⟩ W')
  (H:∀(j k u8 bP bQ bR bS bT bU bV bW bX bY bZ b5 b6 b7 b8 u64 b9 cc cg ck cm cn cp cr ct cu cv cw cz cA cB cC cD cE cF cG cH c9 dc de dh di dm dn dr cK cL cM cN cO cQ cR cS cT cU cV cW cZ c4 c5 c6 c7 dw dx dy dz dA dB dD dF dG dH dI dJ dK dL dM dN dO dP dQ dR dS dU dV dW dX dY dZ ec ee ef fG fH fI ei ej ek en eo ep er eu ew ey ez eA fJ fK fL eB eC eD eE eF eG eH eL eM eN eO eP eR eS eT eU eV eW eX eY eZ e3 e4 e5 e6 e7 e8 e9 fc fe ff fh fk fm fo fq gi gj fu fA fB fC fD fE fF iH iI iJ iK iL iM iN iO iP iQ iR iS:Value)(c3:Core)(l:Nat->ax)(W':World),mC K base w G cb F ah s c1 gP aS lit ls k0 (i+1) (kl+1) (kept++[d]) c3 l W'->Q .normal ⟨#[.pointer (some ⟨G,0,none⟩),gF,iz,.int .i64 lit,.slice (some ⟨iZ,0,none⟩) ir jd,.slice (some ⟨iZ,0,none⟩) (kl+1) jd,j,k,u8,lF,gV,gH,gn,iy,gI,gT,u16,gp,gq,gr,gG,gu,gv,gw,gx,gy,gz,gA,gB,fO,fP,fQ,u32,fR,fS,fT,fU,fV,fW,fZ,ga,gb,gd,gh,gC,gD,.slice (some ⟨iZ,0,none⟩) ir jd,.int .i64 (ir:Int),.int .i64 (i:Int),bP,bQ,bR,bS,bT,bU,bV,bW,bX,bY,bZ,b5,b6,b7,b8,u64,b9,cc,cg,ck,cm,cn,cp,cr,ct,cu,cv,cw,cz,cA,cB,cC,cD,cE,cF,cG,cH,c9,dc,de,dh,di,dm,dn,dr,cK,cL,cM,cN,cO,cQ,cR,cS,cT,cU,cV,cW,cZ,c4,c5,c6,c7,dw,dx,dy,dz,dA,dB,dD,dF,dG,dH,dI,dJ,dK,dL,dM,dN,dO,dP,dQ,dR,dS,dU,dV,dW,dX,dY,dZ,ec,ee,ef,fG,fH,fI,ei,ej,ek,en,eo,ep,er,eu,ew,ey,ez,eA,fJ,fK,fL,eB,eC,eD,eE,eF,eG,eH,eL,eM,eN,eO,eP,eR,eS,eT,eU,eV,eW,eX,eY,eZ,e3,e4,e5,e6,e7,e8,e9,fc,fe,ff,fh,fk,fm,fo,fq,gi,gj,fu,fA,fB,fC,fD,fE,fF,iH,iI,iJ,iK,iL,iM,iN,iO,iP,iQ,iR,iS,jg,jh,ji,jj,jk,jl,jm,jo],[]⟩ W')
  (I:∀(N j k u8 bP bQ bR bS bT bU bV bW bX bY bZ b5 b6 b7 b8 u64 b9 cc cg ck cm cn cp cr ct cu cv cw cz cA cB cC cD cE cF cG cH c9 dc de dh di dm dn dr cK cL cM cN cO cQ cR cS cT cU cV cW cZ c4 c5 c6 c7 dw dx dy dz dA dB dD dF dG dH dI dJ dK dL dM dN dO dP dQ dR dS dU dV dW dX dY dZ ec ee ef fG fH fI ei ej ek en eo ep er eu ew ey ez eA fJ fK fL eB eC eD eE eF eG eH eL eM eN eO eP eR eS eT eU eV eW eX eY eZ e3 e4 e5 e6 e7 e8 e9 fc fe ff fh fk fm fo fq gi gj fu fA fB fC fD fE fF iH iI iJ iK iL iM iN iO iP iQ iR iS:Value)(c3:Core)(l:Nat->ax)(W':World),kC F F c3 aS []->nr c3 ah->tA c1 c3->d<c3.cl.length->(∀x∈ay c3.cl d,-x∈c3.av)->aY K base W' G l cb {s with c:=c3}->aG K w W'->Q .ret ⟨#[.pointer (some ⟨G,0,none⟩),gF,.pointer (some ⟨cb d,0,none⟩),.int .i64 lit,.slice (some ⟨iZ,0,none⟩) ir jd,N,j,k,u8,lF,gV,gH,gn,iy,gI,gT,u16,gp,gq,gr,gG,gu,gv,gw,gx,gy,gz,gA,gB,fO,fP,fQ,u32,fR,fS,fT,fU,fV,fW,fZ,ga,gb,gd,gh,gC,gD,.slice (some ⟨iZ,0,none⟩) ir jd,.int .i64 (ir:Int),.int .i64 (i:Int),bP,bQ,bR,bS,bT,bU,bV,bW,bX,bY,bZ,b5,b6,b7,b8,u64,b9,cc,cg,ck,cm,cn,cp,cr,ct,cu,cv,cw,cz,cA,cB,cC,cD,cE,cF,cG,cH,c9,dc,de,dh,di,dm,dn,dr,cK,cL,cM,cN,cO,cQ,cR,cS,cT,cU,cV,cW,cZ,c4,c5,c6,c7,dw,dx,dy,dz,dA,dB,dD,dF,dG,dH,dI,dJ,dK,dL,dM,dN,dO,dP,dQ,dR,dS,dU,dV,dW,dX,dY,dZ,ec,ee,ef,fG,fH,fI,ei,ej,ek,en,eo,ep,er,eu,ew,ey,ez,eA,fJ,fK,fL,eB,eC,eD,eE,eF,eG,eH,eL,eM,eN,eO,eP,eR,eS,eT,eU,eV,eW,eX,eY,eZ,e3,e4,e5,e6,e7,e8,e9,fc,fe,ff,fh,fk,fm,fo,fq,gi,gj,fu,fA,fB,fC,fD,fE,fF,iH,iI,iJ,iK,iL,iM,iN,iO,iP,iQ,iR,iS,jg,jh,ji,jj,jk,jl,jm,jo],[]⟩ W'):
   l_ w_ LJ Q ⟨#[.pointer (some ⟨G,0,none⟩),gF,iz,.int .i64 lit,.slice (some ⟨iZ,0,none⟩) ir jd,.slice (some ⟨iZ,0,none⟩) kl jd,.int .i64 (i:Int),.pointer (some ⟨cb d,0,none⟩),u8,lF,gV,gH,gn,iy,gI,gT,u16,gp,gq,gr,gG,gu,gv,gw,gx,gy,gz,gA,gB,fO,fP,fQ,u32,fR,fS,fT,fU,fV,fW,fZ,ga,gb,gd,gh,gC,gD,.slice (some ⟨iZ,0,none⟩) ir jd,.int .i64 (ir:Int),.int .i64 (i:Int),bP,bQ,bR,bS,bT,bU,bV,bW,bX,bY,bZ,b5,b6,b7,b8,u64,b9,cc,cg,ck,cm,cn,cp,cr,ct,cu,cv,cw,cz,cA,cB,cC,cD,cE,cF,cG,cH,c9,dc,de,dh,di,dm,dn,dr,cK,cL,cM,cN,cO,cQ,cR,cS,cT,cU,cV,cW,cZ,c4,c5,c6,c7,dw,dx,dy,dz,dA,dB,dD,dF,dG,dH,dI,dJ,dK,dL,dM,dN,dO,dP,dQ,dR,dS,dU,dV,dW,dX,dY,dZ,ec,ee,ef,fG,fH,fI,ei,ej,ek,en,eo,ep,er,eu,ew,ey,ez,eA,fJ,fK,fL,eB,eC,eD,eE,eF,eG,eH,eL,eM,eN,eO,eP,eR,eS,eT,eU,eV,eW,eX,eY,eZ,e3,e4,e5,e6,e7,e8,e9,fc,fe,ff,fh,fk,fm,fo,fq,gi,gj,fu,fA,fB,fC,fD,fE,fF,iH,iI,iJ,iK,iL,iM,iN,iO,iP,iQ,iR,iS,jg,jh,ji,jj,jk,jl,jm,jo],[]⟩ W:=by
 have t:=a.q6 ag;have u:i<ls.length:=(y_.1 ag).1;have f:=U (a.app C ag);obtain⟨bH,m,O,b⟩:=a.fN.yL (d:=d) t.1 (by show 1<=(ay c2.cl d).length;omega);have b:yK base W G jQ cb d bH m O (ay c2.cl d):=b;obtain⟨g,p⟩:∃x,w0 c2 d=x:=⟨_,rfl⟩
 obtain⟨z,q⟩:∃z,j9 c2 g=z:=⟨_,rfl⟩
 have r:gK s.c.n g:=by rw[<-p];exact a.ok C ag (by omega)
 have rg:=a.nI.gR.aK.range g;rw[q] at rg;have aa:2<=m:=by have:=b.len;omega
 have ab:=b.ag;have a0:=b.kL 0 (by omega);rw[show aj (ay c2.cl d) 0=g from p] at a0;have ad:(0:Int)<(m:Int):=by omega
 have J:=U ((a.is C r q).mono λ e w' h=>z_ h.1 h.2.symm);have b:=U b;have P:bJ (z=1->mC K base w G cb F ah s c1 gP aS lit ls k0 (i+1) (kl+1) (kept++[d]) c2 jQ ((W.alloc (.cells #[.pointer (some ⟨cb d,0,none⟩)] 164)).setCells iZ kl [.pointer (some ⟨cb d,0,none⟩)])):=U (λ h1=>by
   have v:ls[i]=d:=(y_.1 ag).2;have hl:gK c2.n g:=by rw[a.kj C];exact r
   have V:=a.nI.keep u (by rw[v];exact hw) (by rw[v,p];exact(a.nI.gR.aK.pos g hl).1 (q.trans h1));rw[v] at V;exact⟨V,by rw[x_,a.sZ];rfl,f.o.2.2.2.2.1,a.hw,a.an,a.jr.trans f.o.2.2.2.2.2⟩)
 have D:=U (z_ C (z_ a (z_ ag (z_ hw (z_ t (z_ u (z_ p (z_ q (z_ r rg)))))))));have L:=U B;have R:=U H;have S:=U I;clear C a ag hw t u p q r rg B H I
 conv=>arg 2;whnf
 conv=>arg 4;zeta
 by_cases h1:z=1
 · have y:0<z:=by omega
   have T:decide (0<z)=true:=decide_eq_true y;have H1:=U h1;clear h1
   go_wp2_with (first|(go_at_call 152;refine J.o.mono ?_;rintro e X ⟨rfl,rfl⟩;dsimp only)|(at_builtin;refine Dp rfl (.tmp 93) (.tmp 95) rfl iZ kl jd W.heap.size 0 1 1 _ rfl rfl f.o.1 f.o.2.1 f.o.2.2.1 f.o.2.2.2.1 ?_))
   apply L.o;exact P.o H1.o
 · have y:¬0<z:=by have:=D.o;omega
   have T:decide (0<z)=false:=decide_eq_false y;have H1:=U h1;clear h1
   go_upto_block 4 with(first|(go_at_call 152;refine J.o.mono ?_;rintro e X ⟨rfl,rfl⟩;dsimp only))
   refine wp_block ?_;rename_i ae Y;refine LH D.o.1 D.o.2.1 D.o.2.2.1 D.o.2.2.2.1 b.o ?_ ?_
   ·intros
    rename_i A;apply L.o;exact A
   ·intros
    rename_i Z;refine Y _ _ ?_;refine LI D.o.1 D.o.2.1 D.o.2.2.1 D.o.2.2.2.1 Z (by rw[D.o.2.2.2.2.2.2.1,D.o.2.2.2.2.2.2.2.1];exact H1.o) ?_ ?_
    ·intros
     rename_i A;apply R.o;exact A
    ·intros
     apply S.o<;>assumption
theorem LK{ow:Value}(C:rJ G gP c1 s lit ls k0 g0 iZ ir jd)(a:mC K base w G cb F ah s c1 gP aS lit ls k0 i kl kept c2 jQ W)
  (he:∀(nK ow u8 bP bQ bR bS bT bU bV bW bX bY bZ b5 b6 b7 b8 u64 b9 cc cg ck cm cn cp cr ct cu cv cw cz cA cB cC cD cE cF cG cH c9 dc de dh di dm dn dr cK cL cM cN cO cQ cR cS cT cU cV cW cZ c4 c5 c6 c7 dw dx dy dz dA dB dD dF dG dH dI dJ dK dL dM dN dO dP dQ dR dS dU dV dW dX dY dZ ec ee ef fG fH fI ei ej ek en eo ep er eu ew ey ez eA fJ fK fL eB eC eD eE eF eG eH eL eM eN eO eP eR eS eT eU eV eW eX eY eZ e3 e4 e5 e6 e7 e8 e9 fc fe ff fh fk fm fo fq gi gj fu fA fB fC fD fE fF iH iI iJ iK iL iM iN iO iP iQ iR iS:Value),i=ls.length->Q (.exit 2) ⟨#[.pointer (some ⟨G,0,none⟩),gF,iz,.int .i64 lit,.slice (some ⟨iZ,0,none⟩) ir jd,.slice (some ⟨iZ,0,none⟩) (kl) jd,nK,ow,u8,lF,gV,gH,gn,iy,gI,gT,u16,gp,gq,gr,gG,gu,gv,gw,gx,gy,gz,gA,gB,fO,fP,fQ,u32,fR,fS,fT,fU,fV,fW,fZ,ga,gb,gd,gh,gC,gD,.slice (some ⟨iZ,0,none⟩) ir jd,.int .i64 (ir:Int),.int .i64 (i:Int),bP,bQ,bR,bS,bT,bU,bV,bW,bX,bY,bZ,b5,b6,b7,b8,u64,b9,cc,cg,ck,cm,cn,cp,cr,ct,cu,cv,cw,cz,cA,cB,cC,cD,cE,cF,cG,cH,c9,dc,de,dh,di,dm,dn,dr,cK,cL,cM,cN,cO,cQ,cR,cS,cT,cU,cV,cW,cZ,c4,c5,c6,c7,dw,dx,dy,dz,dA,dB,dD,dF,dG,dH,dI,dJ,dK,dL,dM,dN,dO,dP,dQ,dR,dS,dU,dV,dW,dX,dY,dZ,ec,ee,ef,fG,fH,fI,ei,ej,ek,en,eo,ep,er,eu,ew,ey,ez,eA,fJ,fK,fL,eB,eC,eD,eE,eF,eG,eH,eL,eM,eN,eO,eP,eR,eS,eT,eU,eV,eW,eX,eY,eZ,e3,e4,e5,e6,e7,e8,e9,fc,fe,ff,fh,fk,fm,fo,fq,gi,gj,fu,fA,fB,fC,fD,fE,fF,iH,iI,iJ,iK,iL,iM,iN,iO,iP,iQ,iR,iS,jg,jh,ji,jj,jk,jl,jm,jo],[]⟩ W)
  (au:∀(nK ow u8 bP bQ bR bS bT bU bV bW bX bY bZ b5 b6 b7 b8 u64 b9 cc cg ck cm cn cp cr ct cu cv cw cz cA cB cC cD cE cF cG cH c9 dc de dh di dm dn dr cK cL cM cN cO cQ cR cS cT cU cV cW cZ c4 c5 c6 c7 dw dx dy dz dA dB dD dF dG dH dI dJ dK dL dM dN dO dP dQ dR dS dU dV dW dX dY dZ ec ee ef fG fH fI ei ej ek en eo ep er eu ew ey ez eA fJ fK fL eB eC eD eE eF eG eH eL eM eN eO eP eR eS eT eU eV eW eX eY eZ e3 e4 e5 e6 e7 e8 e9 fc fe ff fh fk fm fo fq gi gj fu fA fB fC fD fE fF iH iI iJ iK iL iM iN iO iP iQ iR iS:Value)(L:Nat)(ad:List Nat)(c3:Core)(r:Nat->ax)(W':World),i<ls.length->mC K base w G cb F ah s c1 gP aS lit ls k0 (i+1) L ad c3 r W'->Q .normal ⟨#[.pointer (some ⟨G,0,none⟩),gF,iz,.int .i64 lit,.slice (some ⟨iZ,0,none⟩) ir jd,.slice (some ⟨iZ,0,none⟩) (L) jd,nK,ow,u8,lF,gV,gH,gn,iy,gI,gT,u16,gp,gq,gr,gG,gu,gv,gw,gx,gy,gz,gA,gB,fO,fP,fQ,u32,fR,fS,fT,fU,fV,fW,fZ,ga,gb,gd,gh,gC,gD,.slice (some ⟨iZ,0,none⟩) ir jd,.int .i64 (ir:Int),.int .i64 ((i:Int)+1),bP,bQ,bR,bS,bT,bU,bV,bW,bX,bY,bZ,b5,b6,b7,b8,u64,b9,cc,cg,ck,cm,cn,cp,cr,ct,cu,cv,cw,cz,cA,cB,cC,cD,cE,cF,cG,cH,c9,dc,de,dh,di,dm,dn,dr,cK,cL,cM,cN,cO,cQ,cR,cS,cT,cU,cV,cW,cZ,c4,c5,c6,c7,dw,dx,dy,dz,dA,dB,dD,dF,dG,dH,dI,dJ,dK,dL,dM,dN,dO,dP,dQ,dR,dS,dU,dV,dW,dX,dY,dZ,ec,ee,ef,fG,fH,fI,ei,ej,ek,en,eo,ep,er,eu,ew,ey,ez,eA,fJ,fK,fL,eB,eC,eD,eE,eF,eG,eH,eL,eM,eN,eO,eP,eR,eS,eT,eU,eV,eW,eX,eY,eZ,e3,e4,e5,e6,e7,e8,e9,fc,fe,ff,fh,fk,fm,fo,fq,gi,gj,fu,fA,fB,fC,fD,fE,fF,iH,iI,iJ,iK,iL,iM,iN,iO,iP,iQ,iR,iS,jg,jh,ji,jj,jk,jl,jm,jo],[]⟩ W')
  (M:∀(ae nK ow u8 bP bQ bR bS bT bU bV bW bX bY bZ b5 b6 b7 b8 u64 b9 cc cg ck cm cn cp cr ct cu cv cw cz cA cB cC cD cE cF cG cH c9 dc de dh di dm dn dr cK cL cM cN cO cQ cR cS cT cU cV cW cZ c4 c5 c6 c7 dw dx dy dz dA dB dD dF dG dH dI dJ dK dL dM dN dO dP dQ dR dS dU dV dW dX dY dZ ec ee ef fG fH fI ei ej ek en eo ep er eu ew ey ez eA fJ fK fL eB eC eD eE eF eG eH eL eM eN eO eP eR eS eT eU eV eW eX eY eZ e3 e4 e5 e6 e7 e8 e9 fc fe ff fh fk fm fo fq gi gj fu fA fB fC fD fE fF iH iI iJ iK iL iM iN iO iP iQ iR iS:Value)(d:Nat)(c3:Core)(r:Nat->ax)(W':World),kC F F c3 aS []->nr c3 ah->tA c1 c3->d<c3.cl.length->(∀x∈ay c3.cl d,-x∈c3.av)->aY K base W' G r cb {s with c:=c3}->aG K w W'->Q .ret ⟨#[.pointer (some ⟨G,0,none⟩),gF,.pointer (some ⟨cb d,0,none⟩),.int .i64 lit,.slice (some ⟨iZ,0,none⟩) ir jd,ae,nK,ow,u8,lF,gV,gH,gn,iy,gI,gT,u16,gp,gq,gr,gG,gu,gv,gw,gx,gy,gz,gA,gB,fO,fP,fQ,u32,fR,fS,fT,fU,fV,fW,fZ,ga,gb,gd,gh,gC,gD,.slice (some ⟨iZ,0,none⟩) ir jd,.int .i64 (ir:Int),.int .i64 (i:Int),bP,bQ,bR,bS,bT,bU,bV,bW,bX,bY,bZ,b5,b6,b7,b8,u64,b9,cc,cg,ck,cm,cn,cp,cr,ct,cu,cv,cw,cz,cA,cB,cC,cD,cE,cF,cG,cH,c9,dc,de,dh,di,dm,dn,dr,cK,cL,cM,cN,cO,cQ,cR,cS,cT,cU,cV,cW,cZ,c4,c5,c6,c7,dw,dx,dy,dz,dA,dB,dD,dF,dG,dH,dI,dJ,dK,dL,dM,dN,dO,dP,dQ,dR,dS,dU,dV,dW,dX,dY,dZ,ec,ee,ef,fG,fH,fI,ei,ej,ek,en,eo,ep,er,eu,ew,ey,ez,eA,fJ,fK,fL,eB,eC,eD,eE,eF,eG,eH,eL,eM,eN,eO,eP,eR,eS,eT,eU,eV,eW,eX,eY,eZ,e3,e4,e5,e6,e7,e8,e9,fc,fe,ff,fh,fk,fm,fo,fq,gi,gj,fu,fA,fB,fC,fD,fE,fF,iH,iI,iJ,iK,iL,iM,iN,iO,iP,iQ,iR,iS,jg,jh,ji,jj,jk,jl,jm,jo],[]⟩ W'):
   l_ w_ runIn Q ⟨#[.pointer (some ⟨G,0,none⟩),gF,iz,.int .i64 lit,.slice (some ⟨iZ,0,none⟩) ir jd,.slice (some ⟨iZ,0,none⟩) kl jd,nK,ow,u8,lF,gV,gH,gn,iy,gI,gT,u16,gp,gq,gr,gG,gu,gv,gw,gx,gy,gz,gA,gB,fO,fP,fQ,u32,fR,fS,fT,fU,fV,fW,fZ,ga,gb,gd,gh,gC,gD,.slice (some ⟨iZ,0,none⟩) ir jd,.int .i64 (ir:Int),.int .i64 (i:Int),bP,bQ,bR,bS,bT,bU,bV,bW,bX,bY,bZ,b5,b6,b7,b8,u64,b9,cc,cg,ck,cm,cn,cp,cr,ct,cu,cv,cw,cz,cA,cB,cC,cD,cE,cF,cG,cH,c9,dc,de,dh,di,dm,dn,dr,cK,cL,cM,cN,cO,cQ,cR,cS,cT,cU,cV,cW,cZ,c4,c5,c6,c7,dw,dx,dy,dz,dA,dB,dD,dF,dG,dH,dI,dJ,dK,dL,dM,dN,dO,dP,dQ,dR,dS,dU,dV,dW,dX,dY,dZ,ec,ee,ef,fG,fH,fI,ei,ej,ek,en,eo,ep,er,eu,ew,ey,ez,eA,fJ,fK,fL,eB,eC,eD,eE,eF,eG,eH,eL,eM,eN,eO,eP,eR,eS,eT,eU,eV,eW,eX,eY,eZ,e3,e4,e5,e6,e7,e8,e9,fc,fe,ff,fh,fk,fm,fo,fq,gi,gj,fu,fA,fB,fC,fD,fE,fF,iH,iI,iJ,iK,iL,iM,iN,iO,iP,iQ,iR,iS,jg,jh,ji,jj,jk,jl,jm,jo],[]⟩ W:=by
 have t:=a.Bz;have N:=a.nI.C7;have z:=C.len;have O:=C.lb;have P:=C.cap;have aI:(ir:Int)<=(jd:Int):=by omega
 have aJ:r_.wrap ((i:Int)+1)=(i:Int)+1:=by rw[m_];omega
 have af:=U he;have q:=U au;have R:=U M;clear he au M
 by_cases l:i<ls.length
 · obtain⟨d,n⟩:∃d,ls[i]=d:=⟨_,rfl⟩
   have ag:ls[i]? =some d:=by rw[v_ l,n]
   have A:=a.q6 ag;obtain⟨bH,m,g,f⟩:=a.fN.yL (d:=d) A.1 (by show 1<=(ay c2.cl d).length;omega);have f:yK base W G jQ cb d bH m g (ay c2.cl d):=f;have S:lit= -(w0 c2 d)\/lit= -(w1 c2 d):=by rw[<-n];exact(a.nI.q6 l).2.2
   have aK: -60000<=lit/\lit<=60000:=by have:=C.ok.2;have:=C.au;unfold aC at*;omega
   have wn:r_.wrap (-lit)= -lit:=IntWalk.i64_in _ (by omega);have hk:k0<c2.wt.length:=by rw[a.vM C];exact C.hk
   have T:ay (kH c2 k0 (kept++ls.drop kl)).wt k0=kept++ls.drop kl:=by show ay (c2.wt.set k0 _) k0=_;rw[qy,if_pos ⟨rfl,hk⟩]
   have aL:W.cell? ⟨iZ,i,none⟩=some (.pointer (some ⟨cb d,0,none⟩)):=a.fN.Dt (a.kD C) (by
    show(ay (kH c2 k0 (kept++ls.drop kl)).wt k0)[i]? =some d;rw[T,p_ (by rw[a.sZ];exact t),q_,a.sZ,show kl+(i-kl)=i by omega];exact ag)
   obtain⟨e,B⟩:∃x,w0 c2 d=x:=⟨_,rfl⟩
   have ai:2<=m:=by have:=f.len;omega
   have ak:=f.cap;have al:=f.ag;have a0:=f.kL 0 (by omega);rw[show aj (ay c2.cl d) 0=e from B] at a0;have ao:(0:Int)<(m:Int):=by omega
   have X:(1:Int)<(m:Int):=by omega
   have li:(i:Int)<(ir:Int):=by omega
   have aM:(0:Int)<=(i:Int):=by omega
   have ar:decide ((i:Int)<(ir:Int))=true:=decide_eq_true li;have D:=U (z_ C (z_ a (z_ ag (z_ A (z_ l (z_ B (z_ S (z_ t (z_ z (z_ O P))))))))));have k:=U f;clear N n t z O P C a ag A l B S f T hk ak
   conv=>arg 2;whnf
   conv=>arg 4;zeta
   by_cases h1:e= -lit
   ·have d1:decide (e= -lit)=true:=decide_eq_true h1;have d2:(e== -lit)=true:=beq_iff_eq.2 h1;have H1:=U h1;clear h1;obtain⟨y,E⟩:∃y,aj (ay c2.cl d) 1=y:=⟨_,rfl⟩
    have a1:=k.o.kL 1 (by omega);rw[E] at a1;have f0:=k.o.mB 0;have f1:=k.o.mB 1;have aN:=k.o.ne;have aO:=k.o.ne.symm;have aw:bJ (mC K base w G cb F ah s c1 gP aS lit ls k0 i kl kept (lJ c2 d (kQ (ay c2.cl d) 0 1)) jQ (((W.setCell ⟨bH,0,none⟩ (.int .i64 y)).setCell ⟨bH,1,none⟩ (.int .i64 e)).drew)):=U (by
     have Y:=D.o.2.1.fN.Gp (d:=d) (bH:=bH) (i:=0) (j:=1) k.o.b D.o.2.2.2.1.1 (x:=e) (y:=y) D.o.2.2.2.2.2.1 E;have n:ls[i]'(D.o.2.2.2.2.1)=d:=(y_.1 D.o.2.2.1).2;have V:=D.o.2.1.nI.swap D.o.2.2.2.2.1;rw[n] at V;exact⟨V,D.o.2.1.sZ,Y.1,D.o.2.1.hw,D.o.2.1.an,D.o.2.1.jr.trans Y.2⟩)
    have az:bJ (w1 (lJ c2 d (kQ (ay c2.cl d) 0 1)) d= -lit):=U (by
     show aj (ay (c2.cl.set d _) d) 1= -lit;rw[qy,if_pos ⟨rfl,D.o.2.2.2.1.1⟩];unfold kQ;rw[oP,if_pos ⟨rfl,by rw[s_];have:=D.o.2.2.2.1.2;omega⟩,show aj (ay c2.cl d) 0=e from D.o.2.2.2.2.2.1];exact H1.o)
    clear E ai
    go_upto_if 61 with fail
    refine wp_cond_true rfl ?_;rename_i sY H;have aA:W.drew.cell? ⟨cb d,0,none⟩=some (.slice (some ⟨bH,0,none⟩) m g):=al;have Z:W.drew.cell? ⟨bH,0,none⟩=some (.int .i64 e):=a0;have aB:W.drew.cell? ⟨bH,1,none⟩=some (.int .i64 y):=a1;have aD:W.drew.frozen? ⟨bH,0,none⟩=false:=f0;refine z1 (Dn Tryz.f145 10) 23 21 22 224 [some 62,some 63,some 64,some 65,some 66,some 67,some 68,some 69,some 70,some 71,some 72,some 73,some 74,some 75,some 76,some 77,some 78,some 79,some 80,some 81,some 82,none,some 83,none] _ [(7,.pointer (some ⟨(cb d),0,none⟩))] (λ _=>True) [.pointer (some ⟨(cb d),0,none⟩),.pointer (some ⟨(cb d),0,none⟩),.pointer (some ⟨(cb d),0,none⟩),.slice (some ⟨bH,0,none⟩) m g,.pointer (some ⟨(cb d),0,none⟩),.pointer (some ⟨(cb d),0,none⟩),.pointer (some ⟨(cb d),0,none⟩),.slice (some ⟨bH,0,none⟩) m g,.pointer (some ⟨(cb d),0,none⟩),.pointer (some ⟨(cb d),0,none⟩),.pointer (some ⟨(cb d),0,none⟩),.slice (some ⟨bH,0,none⟩) m g,.pointer (some ⟨bH,1,none⟩),.int .i64 y,.pointer (some ⟨(cb d),0,none⟩),.pointer (some ⟨(cb d),0,none⟩),.pointer (some ⟨(cb d),0,none⟩),.slice (some ⟨bH,0,none⟩) m g,.pointer (some ⟨bH,0,none⟩),.int .i64 e,.pointer (some ⟨bH,0,none⟩),undef,undef] (W.drew.setCell ⟨bH,0,none⟩ (.int .i64 y)) (λ v w'=>v=.pointer (some ⟨bH,1,none⟩)/\w'=W.drew.setCell ⟨bH,0,none⟩ (.int .i64 y)) (by kernel_rfl) (by kernel_rfl) (by kernel_rfl) rfl (by kernel_rfl) (by kernel_rfl) rfl ⟨rfl,trivial⟩ trivial trivial (λ _ _ _=>trivial) (λ p ag I hp=>?_) (λ p ag I hp=>?_) ?_ ?_
    ·have h1:p (.tmp 82)=.pointer (some ⟨bH,0,none⟩):=ag.1 rfl (by decide) (by decide) _ rfl;have J:p (.tmp 75)=.int .i64 y:=ag.2.1 rfl (by decide) (by decide) _ rfl;show bD _ _ (t_ _ _ _ _ _ _) _ _;simp[bD,execOp,gL,go_sem,h1,J,Z,aD]
    ·have h1:p (.tmp 69)=.slice (some ⟨bH,0,none⟩) m g:=ag.1 rfl (by decide) (by decide) _ rfl;show bD _ _ (t_ _ _ _ _ _ _) _ _;simp[bD,execOp,gL,go_sem,h1,X,hp.1]
    ·refine⟨?_,?_,?_,?_,?_,?_,?_,?_,?_,?_,?_,?_,?_,?_,?_,?_,?_,?_,?_,?_,?_,?_,?_,trivial⟩
     all_goals
      intro h1 J p w _ aE ag I hp
      first
       |exact absurd rfl h1
       |exact absurd rfl J
       |(obtain⟨aF,-⟩:=I;obtain rfl:=aE rfl;(try simp[oW,qY,n_] at ag);simp[bD,execOp,gL,go_sem,aF,ag,aA,Z,aB,ao,X,hp.1,(show 0<m by omega)];done)
    rintro u v w' ⟨rfl,rfl⟩ aP aa;simp[ot,Act.put,kU] at aa;subst aa;show bD _ _ (t_ _ _ _ _ _ _) _ _;simp[bD,execOp,gL,go_sem,Act.eval,a1,f1]
    iterate 1
     refine H _ _ ?_;refine GG D.o.1 aw.o D.o.2.2.1 az.o ?_ ?_ ?_
     ·intros
      rename_i h
      go_wp2_with fail
      apply q.o
      ·exact D.o.2.2.2.2.1
      ·exact h
     ·intros
      rename_i h
      go_wp2_with fail
      apply q.o
      ·exact D.o.2.2.2.2.1
      ·exact h
     ·intros
      apply R.o<;>assumption
   ·have d1:decide (e= -lit)=false:=decide_eq_false h1;have d2:(e== -lit)=false:=by rw[beq_eq_false_iff_ne];exact h1
    have H1:=U h1
    go_upto_if 61 with fail
    refine wp_cond_false rfl ?_;refine wp_skip ?_;rename_i sY H;refine H _ _ ?_;refine GG D.o.1 D.o.2.1 D.o.2.2.1 (by have:=D.o;have:=H1.o;omega) ?_ ?_ ?_
    ·intros
     rename_i h
     go_wp2_with fail
     apply q.o
     ·exact D.o.2.2.2.2.1
     ·exact h
    ·intros
     rename_i h
     go_wp2_with fail
     apply q.o
     ·exact D.o.2.2.2.2.1
     ·exact h
    ·intros
     apply R.o<;>assumption
 · have ab:i=ls.length:=by omega
   have li:¬(i:Int)<(ir:Int):=by omega
   have ar:decide ((i:Int)<(ir:Int))=false:=decide_eq_false li;have aH:=U ab;clear ab l N z
   conv=>arg 2;whnf
   conv=>arg 4;zeta
   go_wp2_with fail
   apply af.o;exact aH.o
end
end Go.Proofs.YtogdlkfacflmaaaGreat
