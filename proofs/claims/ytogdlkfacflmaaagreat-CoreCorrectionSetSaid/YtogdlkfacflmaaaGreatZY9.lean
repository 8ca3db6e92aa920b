/- Parts of the walk of the solver and its core; no condition. -/
import Derived.Test.YtogdlkfacflmaaaGreatZY6
import Derived.Test.YtogdlkfacflmaaaGreatZY1
namespace Go.Proofs.YtogdlkfacflmaaaGreat
set_option linter.unusedVariables false
set_option linter.unusedSimpArgs false
set_option maxRecDepth 1000000
set_option maxHeartbeats 8000000
open _root_.And renaming intro→z_
open _root_.List renaming getElem?_eq_some_iff→y_,length_append→x_,getElem?_eq_getElem→v_,length_drop→u_,length_set→s_,getElem?_drop→q_,getElem?_append_right→p_
open _root_.Go.Proofs.Tryz renaming prog→w_
open _root_.Go.Oper renaming mk→t_
open _root_.Go.IntKind renaming i64→r_,wrap_i64→m_
open _root_.Go.World renaming cell?_setCell_other→o_
open _root_.Go.Region renaming binds→n_
open _root_.Go.Code renaming wp→l_
variable{K:Nat->Prop}{base G g0 jh iD jk i kl d bL m aM aT k0:Nat}{W w:World}{jQ gR:Nat->ay}{cb:Nat->Nat}{lit:Int}{fK ig nQ u8 lK gY gJ gu iF gL gW u16 gv gw gx gI gy gz gA gB gC gD gE gF fS fT fU u32 fV fW fZ ga gb gd gh gi gj gl gm gG gH bT bU bV bW bX bY bZ b5 b6 b7 b8 b9 cc cg ck u64 cm cn cp cr ct cu cv cw cz cA cB cC cD cE cF cG cH cI cK cL cM di dm dn dr dw dx dy dz cN cO cQ cR cS cT cU cV cW cZ c4 c5 c6 c7 c8 c9 dc dA dB dD dF dG dH dI dJ dK dL dM dN dO dP dQ dR dS dU dV dW dX dY dZ ec ee ef ei ej ek en fL fM fN eo ep er eu ew ey ez eA eB eC eD eE fO fP fQ eF eG eH eL eM eN eO eP eR eS eT eU eV eW eX eY eZ e3 e4 e5 e6 e7 e8 e9 fc fe ff fh fk fm fo fq fu fA fB fC gn gp fD fE fF fG fH fI fJ iJ iK iL iM iN iO iP iQ iR iS iT iU jq jr js jt jv jw jx jy:Value}{Q:Exit->Act->World->Prop}{s:au}{F:List (List Int)}{ah:List Int}{c1 c2:Core}{ls kept:List Nat}
section
open Go.RowKit Go.Shelf
noncomputable def L0:Code:=ng GL
theorem run_move{s2:au}{y:Int}{ky zk:Nat}
  (E:bf K base W G jQ cb s2) (j:(jQ 0).b=some g0) (I:s2.c.wt.length=zk) (V:ky<zk) (J:jR (-y)=ky) (aL: -60000<=y/\y<=60000) (z:d<s2.c.cl.length) (B:(jQ (kO d)).b=some bL) (X:W.cell? ⟨cb d,0,none⟩=some (.slice (some ⟨bL,0,none⟩) m aM)) (hm:2<=m) (aN:m<=aM) (Y:W.cell? ⟨bL,1,none⟩=some (.int .i64 y)) (Z:(az s2.c.wt ky).length<=1000000)
  (aa:∀(nQ an u8 bT bU bV bW bX bY bZ b5 b6 b7 b8 b9 cc cg ck u64 cm cn cp cr ct cu cv cw cz cA cB cC cD cE cF cG cH cI cK cL cM di dm dn dr dw dx dy dz cN cO cQ cR cS cT cU cV cW cZ c4 c5 c6 c7 c8 c9 dc dA dB dD dF dG dH dI dJ dK dL dM dN dO dP dQ dR dS dU dV dW dX dY dZ ec ee ef ei ej ek en fL fM fN eo ep er eu ew ey ez eA eB eC eD eE fO fP fQ eF eG eH eL eM eN eO eP eR eS eT eU eV eW eX eY eZ e3 e4 e5 e6 e7 e8 e9 fc fe ff fh fk fm fo fq fu fA fB fC gn gp fD fE fF fG fH fI fJ iJ iK iL iM iN iO iP iQ iR iS iT iU:Value)(A':Option Addr)(ao c':Nat)(W':World),bf K base W' G (iV jQ (iI ky) ⟨A',ao,c'⟩) cb (s2.pY ky (az s2.c.wt ky++[d]))->aG K W W'->Q (.exit 3) ⟨#[.pointer (some ⟨G,0,none⟩),fK,ig,.int .i64 lit,.slice (some ⟨jh,0,none⟩) iD jk,.slice (some ⟨jh,0,none⟩) (kl) jk,nQ,an,u8,lK,gY,gJ,gu,iF,gL,gW,u16,gv,gw,gx,gI,gy,gz,gA,gB,gC,gD,gE,gF,fS,fT,fU,u32,fV,fW,fZ,ga,gb,gd,gh,gi,gj,gl,gm,gG,gH,.slice (some ⟨jh,0,none⟩) iD jk,.int .i64 (iD:Int),.int .i64 (i:Int),bT,bU,bV,bW,bX,bY,bZ,b5,b6,b7,b8,b9,cc,cg,ck,u64,cm,cn,cp,cr,ct,cu,cv,cw,cz,cA,cB,cC,cD,cE,cF,cG,cH,cI,cK,cL,cM,di,dm,dn,dr,dw,dx,dy,dz,cN,cO,cQ,cR,cS,cT,cU,cV,cW,cZ,c4,c5,c6,c7,c8,c9,dc,dA,dB,dD,dF,dG,dH,dI,dJ,dK,dL,dM,dN,dO,dP,dQ,dR,dS,dU,dV,dW,dX,dY,dZ,ec,ee,ef,ei,ej,ek,en,fL,fM,fN,eo,ep,er,eu,ew,ey,ez,eA,eB,eC,eD,eE,fO,fP,fQ,eF,eG,eH,eL,eM,eN,eO,eP,eR,eS,eT,eU,eV,eW,eX,eY,eZ,e3,e4,e5,e6,e7,e8,e9,fc,fe,ff,fh,fk,fm,fo,fq,fu,fA,fB,fC,gn,gp,fD,fE,fF,fG,fH,fI,fJ,iJ,iK,iL,iM,iN,iO,iP,iQ,iR,iS,iT,iU,jq,jr,js,jt,jv,jw,jx,jy],[]⟩ W'):
   l_ w_ L0 Q ⟨#[.pointer (some ⟨G,0,none⟩),fK,ig,.int .i64 lit,.slice (some ⟨jh,0,none⟩) iD jk,.slice (some ⟨jh,0,none⟩) kl jk,nQ,.pointer (some ⟨cb d,0,none⟩),u8,lK,gY,gJ,gu,iF,gL,gW,u16,gv,gw,gx,gI,gy,gz,gA,gB,gC,gD,gE,gF,fS,fT,fU,u32,fV,fW,fZ,ga,gb,gd,gh,gi,gj,gl,gm,gG,gH,.slice (some ⟨jh,0,none⟩) iD jk,.int .i64 (iD:Int),.int .i64 (i:Int),bT,bU,bV,bW,bX,bY,bZ,b5,b6,b7,b8,b9,cc,cg,ck,u64,cm,cn,cp,cr,ct,cu,cv,cw,cz,cA,cB,cC,cD,cE,cF,cG,cH,cI,cK,cL,cM,di,dm,dn,dr,dw,dx,dy,dz,cN,cO,cQ,cR,cS,cT,cU,cV,cW,cZ,c4,c5,c6,c7,c8,c9,dc,dA,dB,dD,dF,dG,dH,dI,dJ,dK,dL,dM,dN,dO,dP,dQ,dR,dS,dU,dV,dW,dX,dY,dZ,ec,ee,ef,ei,ej,ek,en,fL,fM,fN,eo,ep,er,eu,ew,ey,ez,eA,eB,eC,eD,eE,fO,fP,fQ,eF,eG,eH,eL,eM,eN,eO,eP,eR,eS,eT,eU,eV,eW,eX,eY,eZ,e3,e4,e5,e6,e7,e8,e9,fc,fe,ff,fh,fk,fm,fo,fq,fu,fA,fB,fC,gn,gp,fD,fE,fF,fG,fH,fI,fJ,iJ,iK,iL,iM,iN,iO,iP,iQ,iR,iS,iT,iU,jq,jr,js,jt,jv,jw,jx,jy],[]⟩ W:=by
 have ab:=E.e.ri 1 j (E.e.kL.trans I) rfl;have f0:=E.e.rows.free j ky;have C:=E.e.ye j (k:=ky) (by omega);obtain⟨l,f,p,F⟩:∃A n c,jQ (iI ky)=⟨A,n,c⟩:=⟨_,_,_,rfl⟩
 have ad:f=(az s2.c.wt ky).length:=by have:=E.e.Am ky;rw[F] at this;exact this
 rw[F] at C;have C:W.cell? ⟨g0,ky,none⟩=some (.slice l f p):=C;have aO:f<=1000000:=by omega
 have wn:r_.wrap (-y)= -y:=IntWalk.i64_in _ (by omega);have aq:(ky:Int)<(zk:Int):=by omega
 have ar:(1:Int)<(m:Int):=by omega
 have ae:bF (ky<s2.c.wt.length):=U (by omega);have av:bF (∀w:World,Calls w_ 181 #[.int .i64 (-y)] w λ e w'=>e=.returned (.int .i64 (ky:Int))/\w=w'):=U (λ w=>by have:=Dm (-y) w (by omega) (by omega);rw[J] at this;exact this);have aP:G≠g0:=E.e.ux 0 g0 j;have aQ:cb d≠g0:=E.e.x4 z 0 g0 j;have aR:bL≠g0:=E.e.xe (r:=kO d) (r':=0) (by unfold kO;omega) B j;have L:=E.e.box.lt;have M:=(E.e.cls d z).lt;have N:=(E.e.rows.lt B).2;have af:(jQ (iI ky)).b≠some G:=λ e=>E.e.ux _ _ e rfl
 have ag:(jQ (iI ky)).b≠some (cb d):=λ e=>E.e.x4 z _ _ e rfl
 have ah:(jQ (iI ky)).b≠some bL:=λ e=>E.e.xe (r:=kO d) (r':=iI ky) (by unfold kO iI;omega) B e rfl
 have q:=U (E.below ((bC W (.cells #[.pointer (some ⟨cb d,0,none⟩)] 164)).drew));have hp:((W.alloc (.cells #[.pointer (some ⟨cb d,0,none⟩)] 164)).drew).cell? ⟨W.heap.size,0,none⟩=some (.pointer (some ⟨cb d,0,none⟩)):=by go_simp
 have aw:=U (rq.one hp);have ax:bF (((W.alloc (.cells #[.pointer (some ⟨cb d,0,none⟩)] 164)).drew).ownsRow base 164 1 (.slice l f p) f (k7 cb (az s2.c.wt ky))):=U (by
   have:=q.o.1.e.rows.row (iI ky);rw[Dz,Al,F,wk] at this;exact this)
 have aA:=U (Nat.le_of_lt q.o.1.e.lt);clear hp;have t:∀b,b<W.heap.size->∀k,((W.alloc (.cells #[.pointer (some ⟨cb d,0,none⟩)] 164)).drew).cell? ⟨b,k,none⟩=W.cell? ⟨b,k,none⟩:=λ b aB k=>World.cell?_of_block (((bC W (.cells #[.pointer (some ⟨cb d,0,none⟩)] 164)).drew).block b aB)
 have O:=(t G L 1).trans ab;have ai:=(t (cb d) M 0).trans X;have aj:=(t bL N 1).trans Y;have aC:=(t g0 (E.e.rows.lt j).2 ky).trans C;have D:=U (z_ E (z_ j (z_ I (z_ V (z_ J (z_ z (z_ B (z_ Z (z_ F (z_ ad (z_ L (z_ M (z_ N (z_ af (z_ ag ah)))))))))))))));have aS:=U t;clear E j I V J z B Z F ad L M N af ag ah t;have aD:=U aa;clear aa
 conv=>arg 2;whnf
 go_wp2_with fail
 refine Ap (DD Tryz.f145 18) 30 27 28 224 [some 140,some 141,some 142,some 143,some 144,some 145,some 146,some 147,some 148,some 149,some 150,some 151,some 152,some 153,some 154,some 155,some 156,some 157,some 158,some 159,some 160,some 161,some 162,some 163,some 164,some 165,some 166,some 167,some 168,some 169,none] _ [(0,.pointer (some ⟨G,0,none⟩)),(7,.pointer (some ⟨(cb d),0,none⟩))] (λ w':World=>w'.cell? ⟨G,1,none⟩=some (.slice (some ⟨g0,0,none⟩) zk (jQ 0).c)/\w'.cell? ⟨cb d,0,none⟩=some (.slice (some ⟨bL,0,none⟩) m aM)/\w'.cell? ⟨bL,1,none⟩=some (.int .i64 y)/\w'.cell? ⟨g0,ky,none⟩=some (.slice l f p)) [.pointer (some ⟨G,0,none⟩),.pointer (some ⟨G,0,none⟩),.pointer (some ⟨G,1,none⟩),.slice (some ⟨g0,0,none⟩) zk (jQ 0).c,.pointer (some ⟨(cb d),0,none⟩),.pointer (some ⟨(cb d),0,none⟩),.pointer (some ⟨(cb d),0,none⟩),.slice (some ⟨bL,0,none⟩) m aM,.pointer (some ⟨bL,1,none⟩),.int .i64 y,.int .i64 (-y),.int .i64 (ky:Int),.pointer (some ⟨G,0,none⟩),.pointer (some ⟨G,0,none⟩),.pointer (some ⟨G,1,none⟩),.slice (some ⟨g0,0,none⟩) zk (jQ 0).c,.pointer (some ⟨(cb d),0,none⟩),.pointer (some ⟨(cb d),0,none⟩),.pointer (some ⟨(cb d),0,none⟩),.slice (some ⟨bL,0,none⟩) m aM,.pointer (some ⟨bL,1,none⟩),.int .i64 y,.int .i64 (-y),.int .i64 (ky:Int),.pointer (some ⟨g0,ky,none⟩),.slice l f p,.pointer (some ⟨(cb d),0,none⟩),.slice (some ⟨W.heap.size,0,none⟩) 1 1,undef,.pointer (some ⟨g0,ky,none⟩)] ((W.alloc (.cells #[.pointer (some ⟨cb d,0,none⟩)] 164)).drew) (λ v w'=>mY ((W.alloc (.cells #[.pointer (some ⟨cb d,0,none⟩)] 164)).drew) base 164 (.slice l f p) (f+1) (k7 cb (az s2.c.wt ky)++[.pointer (some ⟨cb d,0,none⟩)]) v w') (by kernel_rfl) (by kernel_rfl) (by kernel_rfl) rfl (by kernel_rfl) (by kernel_rfl) rfl ⟨rfl,rfl,trivial⟩ ⟨ab,X,Y,C⟩ ⟨O,ai,aj,aC⟩ (λ v w' P=>?_) (λ s g H hp=>?_) (λ s g H hp=>?_) ?_ ?_
 · obtain⟨A',c',rfl,ak,R,f9,S,-⟩:=bf.GH (d:=d) q.o.1 D.o.2.1 ae.o D.o.2.2.2.2.2.2.2.2.1 D.o.2.2.2.2.2.2.2.2.2.1 O P;exact⟨ak,(S (cb d) (Nat.lt_of_lt_of_le D.o.2.2.2.2.2.2.2.2.2.2.2.1 q.o.2.size) D.o.2.2.2.2.2.2.2.2.2.2.2.2.2.2.1 0).trans ai,(S bL (Nat.lt_of_lt_of_le D.o.2.2.2.2.2.2.2.2.2.2.2.2.1 q.o.2.size) D.o.2.2.2.2.2.2.2.2.2.2.2.2.2.2.2 1).trans aj,R⟩
 · obtain⟨-,aT,-⟩:=H;have g:s (.tmp 166)=.pointer (some ⟨(cb d),0,none⟩):=g.1 rfl (by decide) (by decide) _ rfl;show bh _ _ (t_ _ _ _ _ _ _) _ _;simp[bh,execOp,bQ,go_sem,g]
 · have h1:s (.tmp 165)=.slice l f p:=g.1 rfl (by decide) (by decide) _ rfl;have T:s (.tmp 167)=.slice (some ⟨W.heap.size,0,none⟩) 1 1:=g.2.1 rfl (by decide) (by decide) _ rfl;obtain⟨v',w',g1,g2⟩:=Dt ((W.alloc (.cells #[.pointer (some ⟨cb d,0,none⟩)] 164)).drew) 160 base (.slice l f p) f (k7 cb (az s2.c.wt ky)) ax.o (some ⟨W.heap.size,0,none⟩) 1 1 _ aw.o (by omega) aA.o;show bh _ _ (t_ _ _ _ _ _ _) _ _;simp only[bh,execOp,resolve,invoke,builtin,Sem.run_bind,Sem.run_pure,Result.andThen_ok,List.map_toArray,List.map_cons,List.map_nil,h1,T,g1,bQ];exact g2
 · refine⟨?_,?_,?_,?_,?_,?_,?_,?_,?_,?_,?_,?_,?_,?_,?_,?_,?_,?_,?_,?_,?_,?_,?_,?_,?_,?_,?_,?_,?_,?_,trivial⟩
   all_goals
    intro h1 T s w aE _ g H hp
    first
     |exact absurd rfl h1
     |exact absurd rfl T
     |(obtain⟨aF,aH,-⟩:=H;obtain⟨s1,s2,s3,jf⟩:=aE;(try simp[mz,p9,n_] at g);simp[bh,execOp,bQ,go_sem,aF,aH,g,s1,s2,s3,jf,wn,aq,ar,hp.1];done)
     |((try simp[mz,p9,n_] at g);(first|refine rP 181 #[.tmp 150] #[3] rfl BP hp ?_|refine rP 181 #[.tmp 162] #[3] rfl BP hp ?_);(first|rw[show(#[Operand.tmp 150].map s)= #[.int .i64 (-y)] by simp[g]]|rw[show(#[Operand.tmp 162].map s)= #[.int .i64 (-y)] by simp[g]]);exact(av.o w).mono λ e w' h=>⟨_,h.1,rfl,h.2.symm⟩)
 intro u v9 bE P aU al;obtain⟨A',c',rfl,ak,R,f9,S,aI,aJ⟩:=bf.GH (d:=d) q.o.1 D.o.2.1 ae.o D.o.2.2.2.2.2.2.2.2.1 D.o.2.2.2.2.2.2.2.2.2.1 O P;have aK:=f9 ky;simp[mJ,Act.put,kH] at al;subst al;show bh _ _ (t_ _ _ _ _ _ _) _ _;simp[bh,execOp,bQ,go_sem,Act.eval,R,aK];go_wp2;apply aD.o
 · exact aI
 · exact q.o.2.trans aJ
theorem L1{k:Nat}(C:rR G gR c1 s lit ls k0 g0 jh iD jk)(f:mK K base w G cb F ah s c1 gR aT lit ls k0 i kl kept c2 jQ W)(ag:ls[i]? =some d)(hw:w1 c2 d= -lit)(hk:2<=k)(R:k<m)(S:ki c2 (ak (az c2.cl d) k)≠-1)(hC:za base W G jQ cb d bL m aM (az c2.cl d))
  (T:∀(nQ aq u8 bT bU bV bW bX bY bZ b5 b6 b7 b8 b9 cc cg ck u64 cm cn cp cr ct cu cv cw cz cA cB cC cD cE cF cG cH cI cK cL cM di dm dn dr dw dx dy dz cN cO cQ cR cS cT cU cV cW cZ c4 c5 c6 c7 c8 c9 dc dA dB dD dF dG dH dI dJ dK dL dM dN dO dP dQ dR dS dU dV dW dX dY dZ ec ee ef ei ej ek en fL fM fN eo ep er eu ew ey ez eA eB eC eD eE fO fP fQ eF eG eH eL eM eN eO eP eR eS eT eU eV eW eX eY eZ e3 e4 e5 e6 e7 e8 e9 fc fe ff fh fk fm fo fq fu fA fB fC gn gp fD fE fF fG fH fI fJ iJ iK iL iM iN iO iP iQ iR iS iT iU:Value)(c3:Core)(ar:Nat->ay)(W':World),mK K base w G cb F ah s c1 gR aT lit ls k0 (i+1) kl kept c3 ar W'->Q (.exit 3) ⟨#[.pointer (some ⟨G,0,none⟩),fK,ig,.int .i64 lit,.slice (some ⟨jh,0,none⟩) iD jk,.slice (some ⟨jh,0,none⟩) (kl) jk,nQ,aq,u8,lK,gY,gJ,gu,iF,gL,gW,u16,gv,gw,gx,gI,gy,gz,gA,gB,gC,gD,gE,gF,fS,fT,fU,u32,fV,fW,fZ,ga,gb,gd,gh,gi,gj,gl,gm,gG,gH,.slice (some ⟨jh,0,none⟩) iD jk,.int .i64 (iD:Int),.int .i64 (i:Int),bT,bU,bV,bW,bX,bY,bZ,b5,b6,b7,b8,b9,cc,cg,ck,u64,cm,cn,cp,cr,ct,cu,cv,cw,cz,cA,cB,cC,cD,cE,cF,cG,cH,cI,cK,cL,cM,di,dm,dn,dr,dw,dx,dy,dz,cN,cO,cQ,cR,cS,cT,cU,cV,cW,cZ,c4,c5,c6,c7,c8,c9,dc,dA,dB,dD,dF,dG,dH,dI,dJ,dK,dL,dM,dN,dO,dP,dQ,dR,dS,dU,dV,dW,dX,dY,dZ,ec,ee,ef,ei,ej,ek,en,fL,fM,fN,eo,ep,er,eu,ew,ey,ez,eA,eB,eC,eD,eE,fO,fP,fQ,eF,eG,eH,eL,eM,eN,eO,eP,eR,eS,eT,eU,eV,eW,eX,eY,eZ,e3,e4,e5,e6,e7,e8,e9,fc,fe,ff,fh,fk,fm,fo,fq,fu,fA,fB,fC,gn,gp,fD,fE,fF,fG,fH,fI,fJ,iJ,iK,iL,iM,iN,iO,iP,iQ,iR,iS,iT,iU,jq,jr,js,jt,jv,jw,jx,jy],[]⟩ W'):
   l_ w_ GL Q ⟨#[.pointer (some ⟨G,0,none⟩),fK,ig,.int .i64 lit,.slice (some ⟨jh,0,none⟩) iD jk,.slice (some ⟨jh,0,none⟩) kl jk,nQ,.pointer (some ⟨cb d,0,none⟩),.int .i64 (k:Int),lK,gY,gJ,gu,iF,gL,gW,u16,gv,gw,gx,gI,gy,gz,gA,gB,gC,gD,gE,gF,fS,fT,fU,u32,fV,fW,fZ,ga,gb,gd,gh,gi,gj,gl,gm,gG,gH,.slice (some ⟨jh,0,none⟩) iD jk,.int .i64 (iD:Int),.int .i64 (i:Int),bT,bU,bV,bW,bX,bY,bZ,b5,b6,b7,b8,b9,cc,cg,ck,u64,cm,cn,cp,cr,ct,cu,cv,cw,cz,cA,cB,cC,cD,cE,cF,cG,cH,cI,cK,cL,cM,di,dm,dn,dr,dw,dx,dy,dz,cN,cO,cQ,cR,cS,cT,cU,cV,cW,cZ,c4,c5,c6,c7,c8,c9,dc,dA,dB,dD,dF,dG,dH,dI,dJ,dK,dL,dM,dN,dO,dP,dQ,dR,dS,dU,dV,dW,dX,dY,dZ,ec,ee,ef,ei,ej,ek,en,fL,fM,fN,eo,ep,er,eu,ew,ey,ez,eA,eB,eC,eD,eE,fO,fP,fQ,eF,eG,eH,eL,eM,eN,eO,eP,eR,eS,eT,eU,eV,eW,eX,eY,eZ,e3,e4,e5,e6,e7,e8,e9,fc,fe,ff,fh,fk,fm,fo,fq,fu,fA,fB,fC,gn,gp,fD,fE,fF,fG,fH,fI,fJ,iJ,iK,iL,iM,iN,iO,iP,iQ,iR,iS,iT,iU,jq,jr,js,jt,jv,jw,jx,jy],[]⟩ W:=by
 have hm:=hC.len;have aw:=f.m C ag;have B:=f.rj ag;have ax:2<=m:=by omega
 have V:=hC.cap;have H:ak (az c2.cl d) 1= -lit:=hw;obtain⟨y,q⟩:∃y,ak (az c2.cl d) k=y:=⟨_,rfl⟩
 have I:gP s.c.n y:=by rw[<-q];exact f.ok C ag (by omega)
 have aV: -60000<=lit/\lit<=60000:=by have:=C.ok.2;have:=C.av;unfold aD at*;omega
 have X: -60000<=y/\y<=60000:=by have:=I.2;have:=C.av;unfold aD at*;omega
 obtain⟨ky,z⟩:∃k:Nat,jR (-y)=k:=⟨_,rfl⟩
 have Y:ky<2*s.c.n+2:=by rw[<-z];exact I.neg.at
 have Z:i<ls.length:=(y_.1 ag).1;have A:ls[i]=d:=(y_.1 ag).2;have r:=f.nO.move Z (by rw[A];exact hw) hk (by rw[A];omega) (by rw[A];exact S);rw[A,q,z,C.kR] at r;have aa:=hC.ag;have a1:=hC.kR 1 (by omega);rw[H] at a1;have J:=hC.kR k R;rw[q] at J;have f1:=hC.lJ 1;have aA:=hC.lJ k;have ab:=hC.ne;have aW:=hC.ne.symm;have ad:(k:Int)<(m:Int):=by omega
 have aB:(1:Int)<(m:Int):=by omega
 have ae:¬1=k:=by omega
 have aC:¬k=1:=by omega
 have af:=f.gK.GI (d:=d) (bL:=bL) (i:=1) (j:=k) hC.b B.1 (x:= -lit) (y:=y) H q;have aE:(kM c2 k0 (kept++ls.drop kl)).cl=c2.cl:=rfl;have L:az (lT (kM c2 k0 (kept++ls.drop kl)) d (kX (az c2.cl d) 1 k)).wt ky=az c2.wt ky:=by
   show az (c2.wt.set k0 _) ky=_;rw[qE,if_neg (λ h=>r.2 h.1.symm)]
 have ai:(az c2.wt ky).length<=1000000:=by have h1:=f.nO.gV.wt.nA ky;have p:=f.Lt C;omega
 have key:∀(A':Option Addr)(M c':Nat)(l W':World),aG K W l->bf K base W' G (iV jQ (iI ky) ⟨A',M,c'⟩) cb ((({s with c:=kM c2 k0 (kept++ls.drop kl)}:au).sy d (kX (az c2.cl d) 1 k)).pY ky (az ((({s with c:=kM c2 k0 (kept++ls.drop kl)}:au).sy d (kX (az c2.cl d) 1 k)).c.wt) ky++[d]))->aG K l W'->
    mK K base w G cb F ah s c1 gR aT lit ls k0 (i+1) kl kept (rY c2 d k (kept++ls.drop (i+1))) (iV jQ (iI ky) ⟨A',M,c'⟩) W':=λ A' M c' l W' aF E aH=>by
   refine⟨r.1,f.tg,?_,(bq _ _ (by have:=r.2;unfold iI;omega)).trans f.hw,(bq _ _ (by unfold iI;omega)).trans f.an,f.jB.trans (aF.trans aH)⟩;rw[Lg (k0:=k0) (ky:=ky) (by rw[hw,Int.neg_neg];exact C.kR) (by rw[q];exact z) r.2,<-L];exact E
 have aj:ak (kX (az c2.cl d) 1 k) 1=y:=by
   unfold kX;rw[oZ,if_neg (by omega),oZ,if_pos ⟨rfl,by omega⟩,q]
 have N:az (lT (kM c2 k0 (kept++ls.drop kl)) d (kX (az c2.cl d) 1 k)).cl d=kX (az c2.cl d) 1 k:=by
   show az (c2.cl.set d _) d=_;rw[qE,if_pos ⟨rfl,B.1⟩]
 have aI:bF (∀l:World,bf K base l G jQ cb (({s with c:=kM c2 k0 (kept++ls.drop kl)}:au).sy d (kX (az c2.cl d) 1 k))->l.cell? ⟨bL,1,none⟩=some (.int .i64 y)):=U (λ l O=>by
   have h1:=O.e.yf hC.b (k:=1) (by show 1<(az (lT (kM c2 k0 (kept++ls.drop kl)) d (kX (az c2.cl d) 1 k)).cl d).length;rw[N];simp[kX];omega);have p:ak (az (({s with c:=kM c2 k0 (kept++ls.drop kl)}:au).sy d (kX (az c2.cl d) 1 k)).c.cl d) 1=y:=by
    show ak (az (lT (kM c2 k0 (kept++ls.drop kl)) d (kX (az c2.cl d) 1 k)).cl d) 1=y;rw[N];exact aj
   rw[p] at h1;exact h1)
 have aJ:=U (λ(l:World)(O:bf K base l G jQ cb (({s with c:=kM c2 k0 (kept++ls.drop kl)}:au).sy d (kX (az c2.cl d) 1 k)))=>z_ O (z_ (f.de C) (z_ ((show(lT (kM c2 k0 (kept++ls.drop kl)) d (kX (az c2.cl d) 1 k)).wt.length=_ from f.raw C)) (z_ Y (z_ z (z_ X (z_ (show d<(lT (kM c2 k0 (kept++ls.drop kl)) d (kX (az c2.cl d) 1 k)).cl.length by rw[q3];exact B.1) (z_ hC.b (z_ ax (z_ V (show(az (lT (kM c2 k0 (kept++ls.drop kl)) d (kX (az c2.cl d) 1 k)).wt ky).length<=1000000 by rw[L];exact ai)))))))))));have aK:=U key;have D:=U af;have aL:=U T;clear T af key aj N ai L aE r C f ag hw hk R S hm aw B V H q I X hC z Y Z A;obtain⟨x,al⟩:∃x,-lit=x:=⟨_,rfl⟩
 rw[al] at a1;rw[al] at D
 conv=>arg 2;whnf
 go_wp2_with fail
 rename_i aX aN;refine Ap (DD Tryz.f145 17) 25 23 24 224 [some 116,some 117,some 118,some 119,some 120,some 121,some 122,some 123,some 124,some 125,some 126,some 127,some 128,some 129,some 130,some 131,some 132,some 133,some 134,some 135,some 136,some 137,some 138,none,some 139,none] _ [(7,.pointer (some ⟨(cb d),0,none⟩)),(8,.int .i64 (k:Int))] (λ _=>True) [.pointer (some ⟨(cb d),0,none⟩),.pointer (some ⟨(cb d),0,none⟩),.pointer (some ⟨(cb d),0,none⟩),.slice (some ⟨bL,0,none⟩) m aM,.pointer (some ⟨(cb d),0,none⟩),.pointer (some ⟨(cb d),0,none⟩),.pointer (some ⟨(cb d),0,none⟩),.slice (some ⟨bL,0,none⟩) m aM,.int .i64 (k:Int),.pointer (some ⟨(cb d),0,none⟩),.pointer (some ⟨(cb d),0,none⟩),.pointer (some ⟨(cb d),0,none⟩),.slice (some ⟨bL,0,none⟩) m aM,.int .i64 (k:Int),.pointer (some ⟨bL,k,none⟩),.int .i64 y,.pointer (some ⟨(cb d),0,none⟩),.pointer (some ⟨(cb d),0,none⟩),.pointer (some ⟨(cb d),0,none⟩),.slice (some ⟨bL,0,none⟩) m aM,.pointer (some ⟨bL,1,none⟩),.int .i64 x,.pointer (some ⟨bL,1,none⟩),undef,undef] (W.drew.setCell ⟨bL,1,none⟩ (.int .i64 y)) (λ v w'=>v=.pointer (some ⟨bL,k,none⟩)/\w'=(W.drew.setCell ⟨bL,1,none⟩ (.int .i64 y))) (by kernel_rfl) (by kernel_rfl) (by kernel_rfl) rfl (by kernel_rfl) (by kernel_rfl) rfl ⟨rfl,rfl,trivial⟩ trivial trivial (λ _ _ _=>trivial) (λ t ag P hp=>?_) (λ t ag P hp=>?_) ?_ ?_
 · have h1:t (.tmp 138)=.pointer (some ⟨bL,1,none⟩):=ag.1 rfl (by decide) (by decide) _ rfl;have p:t (.tmp 131)=.int .i64 y:=ag.2.1 rfl (by decide) (by decide) _ rfl;show bh _ _ (t_ _ _ _ _ _ _) _ _;simp[bh,execOp,bQ,go_sem,h1,p,a1,f1]
 · have h1:t (.tmp 123)=.slice (some ⟨bL,0,none⟩) m aM:=ag.1 rfl (by decide) (by decide) _ rfl;have p:t (.tmp 124)=.int .i64 (k:Int):=ag.2.1 rfl (by decide) (by decide) _ rfl;show bh _ _ (t_ _ _ _ _ _ _) _ _;simp[bh,execOp,bQ,go_sem,h1,p,ad]
 · refine⟨?_,?_,?_,?_,?_,?_,?_,?_,?_,?_,?_,?_,?_,?_,?_,?_,?_,?_,?_,?_,?_,?_,?_,?_,?_,trivial⟩
   all_goals
    intro h1 p t w _ aO ag P hp
    first
     |exact absurd rfl h1
     |exact absurd rfl p
     |(obtain⟨aP,aQ,-⟩:=P;(try obtain rfl:=aO rfl);(try simp[mz,p9,n_] at ag);simp[bh,execOp,bQ,go_sem,aP,aQ,ag,aa,a1,J,ad,aB,hp.1];done)
 rintro u v w' ⟨rfl,rfl⟩ aY ao;simp[mJ,Act.put,kH] at ao;subst ao;show bh _ _ (t_ _ _ _ _ _ _) _ _;have aZ:¬(1=k):=ae;simp[bh,execOp,bQ,go_sem,Act.eval,J,aA,ae,aC]
 iterate 1
   have g:=aJ.o _ D.o.1;have aR:(((W.setCell ⟨bL,1,none⟩ (.int .i64 y)).setCell ⟨bL,k,none⟩ (.int .i64 x)).drew).cell? ⟨cb d,0,none⟩=some (.slice (some ⟨bL,0,none⟩) m aM):=by
    show((W.setCell ⟨bL,1,none⟩ (.int .i64 y)).setCell ⟨bL,k,none⟩ (.int .i64 x)).cell? ⟨cb d,0,none⟩=_;rw[o_ _ _ _ _ (by simp[ab]),o_ _ _ _ _ (by simp[ab])];exact aa
   have c1:=aI.o _ D.o.1;refine aN _ _ ?_;refine run_move g.1 g.2.1 g.2.2.1 g.2.2.2.1 g.2.2.2.2.1 g.2.2.2.2.2.1 g.2.2.2.2.2.2.1 g.2.2.2.2.2.2.2.1 aR g.2.2.2.2.2.2.2.2.1 g.2.2.2.2.2.2.2.2.2.1 c1 g.2.2.2.2.2.2.2.2.2.2 ?_
   intros
   rename_i aS aU;apply aL.o;exact aK.o _ _ _ _ _ D.o.2 aS aU
theorem mK.is(b:mK K base w G cb F ah s c1 gR aT lit ls k0 i kl kept c2 jQ W)(C:rR G gR c1 s lit ls k0 g0 jh iD jk){y z:Int}(d:gP s.c.n y)(f:ki c2 y=z):Calls w_ 152 #[.pointer (some ⟨G,0,none⟩),.int .i64 y] W λ e w'=>e=.returned (.int .i8 z)/\w'=W:=by
 have e:(kM c2 k0 (kept++ls.drop kl)).n=s.c.n:=b.kJ C;have:=BS b.gK (DJ b.nO.gV.aN) (show(kM c2 k0 (kept++ls.drop kl)).n<=60000 by rw[e];exact C.av) (x:=y) (by show gP (kM c2 k0 (kept++ls.drop kl)).n y;rw[e];exact d);rw[show ki (({s with c:=kM c2 k0 (kept++ls.drop kl)}:au).c) y=z from f] at this;exact this.mono λ e w' h=>⟨h.1,h.2.symm⟩
theorem L2(C:rR G gR c1 s lit ls k0 g0 jh iD jk)(l:mK K base w G cb F ah s c1 gR aT lit ls k0 i kl kept c2 jQ W)(ag:ls[i]? =some d)(hw:w1 c2 d= -lit)(hC:za base W G jQ cb d bL m aM (az c2.cl d))
  (E:∀(V X u8 bT bU bV bW bX bY bZ b5 b6 b7 b8 b9 cc cg ck u64 cm cn cp cr ct cu cv cw cz cA cB cC cD cE cF cG cH cI cK cL cM di dm dn dr dw dx dy dz cN cO cQ cR cS cT cU cV cW cZ c4 c5 c6 c7 c8 c9 dc dA dB dD dF dG dH dI dJ dK dL dM dN dO dP dQ dR dS dU dV dW dX dY dZ ec ee ef ei ej ek en fL fM fN eo ep er eu ew ey ez eA eB eC eD eE fO fP fQ eF eG eH eL eM eN eO eP eR eS eT eU eV eW eX eY eZ e3 e4 e5 e6 e7 e8 e9 fc fe ff fh fk fm fo fq fu fA fB fC gn gp fD fE fF fG fH fI fJ iJ iK iL iM iN iO iP iQ iR iS iT iU:Value)(c3:Core)(Y:Nat->ay)(W':World),mK K base w G cb F ah s c1 gR aT lit ls k0 (i+1) kl kept c3 Y W'->Q (.exit 3) ⟨#[.pointer (some ⟨G,0,none⟩),fK,ig,.int .i64 lit,.slice (some ⟨jh,0,none⟩) iD jk,.slice (some ⟨jh,0,none⟩) (kl) jk,V,X,u8,lK,gY,gJ,gu,iF,gL,gW,u16,gv,gw,gx,gI,gy,gz,gA,gB,gC,gD,gE,gF,fS,fT,fU,u32,fV,fW,fZ,ga,gb,gd,gh,gi,gj,gl,gm,gG,gH,.slice (some ⟨jh,0,none⟩) iD jk,.int .i64 (iD:Int),.int .i64 (i:Int),bT,bU,bV,bW,bX,bY,bZ,b5,b6,b7,b8,b9,cc,cg,ck,u64,cm,cn,cp,cr,ct,cu,cv,cw,cz,cA,cB,cC,cD,cE,cF,cG,cH,cI,cK,cL,cM,di,dm,dn,dr,dw,dx,dy,dz,cN,cO,cQ,cR,cS,cT,cU,cV,cW,cZ,c4,c5,c6,c7,c8,c9,dc,dA,dB,dD,dF,dG,dH,dI,dJ,dK,dL,dM,dN,dO,dP,dQ,dR,dS,dU,dV,dW,dX,dY,dZ,ec,ee,ef,ei,ej,ek,en,fL,fM,fN,eo,ep,er,eu,ew,ey,ez,eA,eB,eC,eD,eE,fO,fP,fQ,eF,eG,eH,eL,eM,eN,eO,eP,eR,eS,eT,eU,eV,eW,eX,eY,eZ,e3,e4,e5,e6,e7,e8,e9,fc,fe,ff,fh,fk,fm,fo,fq,fu,fA,fB,fC,gn,gp,fD,fE,fF,fG,fH,fI,fJ,iJ,iK,iL,iM,iN,iO,iP,iQ,iR,iS,iT,iU,jq,jr,js,jt,jv,jw,jx,jy],[]⟩ W')
  (H:∀(u8 bT bU bV bW bX bY bZ b5 b6 b7 b8 b9 cc cg ck u64 cm cn cp cr ct cu cv cw cz cA cB cC cD cE cF cG cH cI cK cL cM di dm dn dr dw dx dy dz cN cO cQ cR cS cT cU cV cW cZ c4 c5 c6 c7 c8 c9 dc dA dB dD dF dG dH dI dJ dK dL dM dN dO dP dQ dR dS dU dV dW dX dY dZ ec ee ef ei ej ek en fL fM fN eo ep er eu ew ey ez eA eB eC eD eE fO fP fQ eF eG eH eL eM eN eO eP eR eS eT eU eV eW eX eY eZ e3 e4 e5 e6 e7 e8 e9 fc fe ff fh fk fm fo fq fu fA fB fC gn gp fD fE fF fG fH fI fJ iJ iK iL iM iN iO iP iQ iR iS iT iU:Value),(∀k,2<=k->k<(az c2.cl d).length->ki c2 (ak (az c2.cl d) k)= -1)->Q (.exit 4) ⟨#[.pointer (some ⟨G,0,none⟩),fK,ig,.int .i64 lit,.slice (some ⟨jh,0,none⟩) iD jk,.slice (some ⟨jh,0,none⟩) (kl) jk,.int .i64 (i:Int),.pointer (some ⟨cb d,0,none⟩),u8,lK,gY,gJ,gu,iF,gL,gW,u16,gv,gw,gx,gI,gy,gz,gA,gB,gC,gD,gE,gF,fS,fT,fU,u32,fV,fW,fZ,ga,gb,gd,gh,gi,gj,gl,gm,gG,gH,.slice (some ⟨jh,0,none⟩) iD jk,.int .i64 (iD:Int),.int .i64 (i:Int),bT,bU,bV,bW,bX,bY,bZ,b5,b6,b7,b8,b9,cc,cg,ck,u64,cm,cn,cp,cr,ct,cu,cv,cw,cz,cA,cB,cC,cD,cE,cF,cG,cH,cI,cK,cL,cM,di,dm,dn,dr,dw,dx,dy,dz,cN,cO,cQ,cR,cS,cT,cU,cV,cW,cZ,c4,c5,c6,c7,c8,c9,dc,dA,dB,dD,dF,dG,dH,dI,dJ,dK,dL,dM,dN,dO,dP,dQ,dR,dS,dU,dV,dW,dX,dY,dZ,ec,ee,ef,ei,ej,ek,en,fL,fM,fN,eo,ep,er,eu,ew,ey,ez,eA,eB,eC,eD,eE,fO,fP,fQ,eF,eG,eH,eL,eM,eN,eO,eP,eR,eS,eT,eU,eV,eW,eX,eY,eZ,e3,e4,e5,e6,e7,e8,e9,fc,fe,ff,fh,fk,fm,fo,fq,fu,fA,fB,fC,gn,gp,fD,fE,fF,fG,fH,fI,fJ,iJ,iK,iL,iM,iN,iO,iP,iQ,iR,iS,iT,iU,jq,jr,js,jt,jv,jw,jx,jy],[]⟩ W):
   l_ w_ (.loop Ls) Q ⟨#[.pointer (some ⟨G,0,none⟩),fK,ig,.int .i64 lit,.slice (some ⟨jh,0,none⟩) iD jk,.slice (some ⟨jh,0,none⟩) kl jk,.int .i64 (i:Int),.pointer (some ⟨cb d,0,none⟩),.int .i64 (2:Int),lK,gY,gJ,gu,iF,gL,gW,u16,gv,gw,gx,gI,gy,gz,gA,gB,gC,gD,gE,gF,fS,fT,fU,u32,fV,fW,fZ,ga,gb,gd,gh,gi,gj,gl,gm,gG,gH,.slice (some ⟨jh,0,none⟩) iD jk,.int .i64 (iD:Int),.int .i64 (i:Int),bT,bU,bV,bW,bX,bY,bZ,b5,b6,b7,b8,b9,cc,cg,ck,u64,cm,cn,cp,cr,ct,cu,cv,cw,cz,cA,cB,cC,cD,cE,cF,cG,cH,cI,cK,cL,cM,di,dm,dn,dr,dw,dx,dy,dz,cN,cO,cQ,cR,cS,cT,cU,cV,cW,cZ,c4,c5,c6,c7,c8,c9,dc,dA,dB,dD,dF,dG,dH,dI,dJ,dK,dL,dM,dN,dO,dP,dQ,dR,dS,dU,dV,dW,dX,dY,dZ,ec,ee,ef,ei,ej,ek,en,fL,fM,fN,eo,ep,er,eu,ew,ey,ez,eA,eB,eC,eD,eE,fO,fP,fQ,eF,eG,eH,eL,eM,eN,eO,eP,eR,eS,eT,eU,eV,eW,eX,eY,eZ,e3,e4,e5,e6,e7,e8,e9,fc,fe,ff,fh,fk,fm,fo,fq,fu,fA,fB,fC,gn,gp,fD,fE,fF,fG,fH,fI,fJ,iJ,iK,iL,iM,iN,iO,iP,iQ,iR,iS,iT,iU,jq,jr,js,jt,jv,jw,jx,jy],[]⟩ W:=by
 have hm:=hC.len;have I:=l.m C ag;have J:=l.rj ag;have L:2<=m:=by omega
 have M:=hC.cap;have al:=hC.ag;have p:=U (z_ hm (z_ I (z_ J (z_ L M))));have M:(m:Int)<=(aM:Int):=by omega
 have qH:=U C;have q:=U l;have u:=U (z_ ag hw);have N:=U hC;have Z:=U E;have aa:=U H;clear C l ag hw hC E H hm I J L
 conv=>arg 2;arg 1;whnf
 conv=>arg 4;zeta
 go_loopw [8] (λ v ab=>ab=W/\∃k:Nat,v=.int .i64 k/\2<=k/\k<=m/\∀j,2<=j->j<k->ki c2 (ak (az c2.cl d) j)= -1) (λ v _=>m-(intOf v).toNat)
 case atStart=>exact⟨rfl,2,rfl,Nat.le_refl _,p.o.2.2.2.1,λ j h1 A=>absurd A (by omega)⟩
 case round=>
   obtain⟨rfl,k,rfl,O,P,hk⟩:=hrel;have r:=U (z_ O (z_ P hk));clear O P hk
   by_cases b:k<m
   ·have B:(k:Int)<(m:Int):=by omega
    have an:(0:Int)<=(k:Int):=by omega
    have ad:decide ((k:Int)<(m:Int))=true:=decide_eq_true B;have ao:r_.wrap ((k:Int)+1)=(k:Int)+1:=by rw[m_];have:=p.o;omega
    obtain⟨y,t⟩:∃y,ak (az c2.cl d) k=y:=⟨_,rfl⟩
    have ae:=N.o.kR k b;rw[t] at ae;have R:gP s.c.n y:=by rw[<-t];exact q.o.ok qH.o u.o.1 (by have:=p.o;omega)
    obtain⟨z,D⟩:∃z,ki c2 y=z:=⟨_,rfl⟩
    have S:=U (q.o.is qH.o R D);have f:=U b;have g:=U (z_ t D);clear b t D R
    by_cases T:z= -1
    ·subst T
     go_wp2_with (go_at_call 152;refine S.o.mono ?_;rintro e af ⟨rfl,rfl⟩)
     go_roundw
     case rel=>exact⟨by trivial,k+1,by go_num,by have:=r.o;omega,by have:=f.o;omega,λ j h1 A=>by
      rcases Nat.lt_or_ge j k with h|h
      ·exact r.o.2.2 j h1 h
      ·obtain rfl:j=k:=by omega
       rw[g.o.1];exact g.o.2⟩
     case measure=>have:=f.o;simp[intOf];omega
    ·have ai:(0:Int)<=z:=by have:=g.o.2;have aq:=q.o.nO.gV.aN.range y;omega
     have ar:decide (0<=z)=true:=decide_eq_true ai
     go_upto_if 115 with(go_at_call 152;refine S.o.mono ?_;rintro e af ⟨rfl,rfl⟩)
     refine wp_cond_true rfl ?_;refine L1 qH.o q.o u.o.1 u.o.2 r.o.1 f.o (by rw[g.o.1,g.o.2];exact T) N.o ?_
     intros
     rename_i aj;apply Z.o;exact aj
   ·have B:¬(k:Int)<(m:Int):=by omega
    have ad:decide ((k:Int)<(m:Int))=false:=decide_eq_false B;have f:=U b;clear b
    go_wp2_with fail
    apply aa.o;intro j h1 A;exact r.o.2.2 j h1 (by have:=p.o;have:=f.o;omega)
theorem mK.app(b:mK K base w G cb F ah s c1 gR aT lit ls k0 i kl kept c2 jQ W)(C:rR G gR c1 s lit ls k0 g0 jh iD jk)(m:ls[i]? =some d):
  rq (W.alloc (.cells #[.pointer (some ⟨cb d,0,none⟩)] 164)) (some ⟨W.heap.size,0,none⟩) 1 1 [.pointer (some ⟨cb d,0,none⟩)]/\kl+1<=jk/\(∀j,j<1->((W.alloc (.cells #[.pointer (some ⟨cb d,0,none⟩)] 164)).cell? ⟨jh,kl+j,none⟩).isSome=true)/\(∀j,(W.alloc (.cells #[.pointer (some ⟨cb d,0,none⟩)] 164)).frozen? ⟨jh,j,none⟩=false)/\
  bf K base ((W.alloc (.cells #[.pointer (some ⟨cb d,0,none⟩)] 164)).setCells jh kl [.pointer (some ⟨cb d,0,none⟩)]) G jQ cb {s with c:=kM c2 k0 ((kept++[d])++ls.drop (kl+1))}/\aG K W ((W.alloc (.cells #[.pointer (some ⟨cb d,0,none⟩)] 164)).setCells jh kl [.pointer (some ⟨cb d,0,none⟩)]):=by
 have o:i<ls.length:=(y_.1 m).1;have p:=b.BW;have q:=C.len;have r:=C.cap;have f:=b.gK.below (bC W (.cells #[.pointer (some ⟨cb d,0,none⟩)] 164));have hk:k0<c2.wt.length:=by rw[b.wo C];exact C.hk
 have g:az (kM c2 k0 (kept++ls.drop kl)).wt k0=kept++ls.drop kl:=by show az (c2.wt.set k0 _) k0=_;rw[qE,if_pos ⟨rfl,hk⟩]
 have hlen:(kept++ls.drop kl).length=ls.length:=by rw[x_,b.tg,u_];omega
 have l:=f.1.DF [d] (b.jU C) (k:=k0) (by show k0<(kM c2 k0 (kept++ls.drop kl)).wt.length;rw[b.raw C];exact C.hk) kl;refine⟨rq.one (by go_simp),by omega,λ j t=>?_,λ j=>f.1.e.rows.free (b.jU C) j,?_,f.2.trans l.2⟩
 ·obtain rfl:j=0:=by omega
  have n:kl<(kept++ls.drop kl).length:=by omega
  rw[Nat.add_zero,f.1.DI (b.jU C) (j:=kl) (d:=(kept++ls.drop kl)[kl]) (by
   show(az (kM c2 k0 (kept++ls.drop kl)).wt k0)[kl]? =_;rw[g];exact v_ n)]
  rfl
 ·have h1:=l.1;have e:(({s with c:=kM c2 k0 (kept++ls.drop kl)}:au).pY k0 (tc (az (({s with c:=kM c2 k0 (kept++ls.drop kl)}:au).c.wt) k0) kl [d]))={s with c:=kM c2 k0 ((kept++[d])++ls.drop (kl+1))}:=by
   show({s with c:=kM (kM c2 k0 (kept++ls.drop kl)) k0 (tc (az (kM c2 k0 (kept++ls.drop kl)).wt k0) kl [d])}:au)=_;rw[g,DG];show({s with c:=kM c2 k0 ((kept++ls.drop kl).set kl d)}:au)=_;rw[Li b.tg (by omega)]
  rw[e] at h1;exact h1
theorem mK.rest(f:mK K base w G cb F ah s c1 gR aT lit ls k0 i kl kept c2 jQ W)(C:rR G gR c1 s lit ls k0 g0 jh iD jk)(n:ls[i]? =some d){kq:World}(g:bf K base kq G jQ cb {s with c:=kM c2 k0 ((kept++[d])++ls.drop (kl+1))}):
  (∃off,(if jk=i+1 then some (⟨jh,0,none⟩:Addr) else some ⟨jh,i+1,none⟩)=some ⟨jh,off,none⟩/\∀c,rq kq (some ⟨jh,off,none⟩) (iD-(i+1)) c (k7 cb (ls.drop (i+1))))/\kl+1+(iD-(i+1))<=jk/\(∀j,j<iD-(i+1)->(kq.cell? ⟨jh,kl+1+j,none⟩).isSome=true)/\(∀j,kq.frozen? ⟨jh,j,none⟩=false)/\
  ∃m:List Nat,m.take (kl+1+(iD-(i+1)))=az c2.wt k0/\kl+1+(iD-(i+1))<=m.length/\bf K base (kq.setCells jh (kl+1) (k7 cb (ls.drop (i+1)))) G jQ cb {s with c:=kM c2 k0 m}/\aG K kq (kq.setCells jh (kl+1) (k7 cb (ls.drop (i+1)))):=by
 have z:i<ls.length:=(y_.1 n).1;have A:ls[i]=d:=(y_.1 n).2;have N:=f.BW;have B:=C.len;have O:=C.cap;have hk:k0<c2.wt.length:=by rw[f.wo C];exact C.hk
 obtain⟨b,l⟩:∃r,(kept++[d])++ls.drop (kl+1)=r:=⟨_,rfl⟩
 rw[l] at g;have hlen:b.length=ls.length:=by rw[<-l];simp only[x_,List.length_singleton,u_,f.tg];omega
 have o:az (kM c2 k0 b).wt k0=b:=by show az (c2.wt.set k0 _) k0=_;rw[qE,if_pos ⟨rfl,hk⟩]
 have D:∀j,kl+1<=j->b[j]? =ls[j]? :=λ j E=>by
  have h1:(kept++[d]).length=kl+1:=by rw[x_,f.tg];rfl
  rw[<-l,p_ (by omega),h1,q_]
  congr 1;omega
 have p:∀j e,b[j]? =some e->kq.cell? ⟨jh,j,none⟩=some (.pointer (some ⟨cb e,0,none⟩)):=λ j e h=>g.DI (f.jU C) (by
  show(az (kM c2 k0 b).wt k0)[j]? =_;rw[o];exact h)
 have q:=g.DF (ls.drop (i+1)) (f.jU C) (k:=k0) (by show k0<(kM c2 k0 b).wt.length;show k0<(c2.wt.set _ _).length;rw[s_];exact hk) (kl+1);have t:∀off c,(0<iD-(i+1)->off=i+1)->rq kq (some ⟨jh,off,none⟩) (iD-(i+1)) c (k7 cb (ls.drop (i+1))):=λ off c H=>by
  refine⟨by simp[k7];omega,λ I=>⟨jh,off,rfl,λ j u hu=>?_⟩,λ u hu=>?_⟩
  ·simp only[k7,List.getElem?_map,q_,Option.map_eq_some_iff] at hu;obtain⟨e,he,rfl⟩:=hu;rw[H I];exact p (i+1+j) e (by rw[D _ (by omega)];exact he)
  ·simp only[k7,List.mem_map] at hu;obtain⟨e,_,rfl⟩:=hu;exact⟨_,rfl⟩
 refine⟨?_,by omega,λ j E=>?_,λ j=>g.e.rows.free (f.jU C) j,tc b (kl+1) (ls.drop (i+1)),?_,by rw[GB,hlen];omega,?_,q.2⟩
 ·by_cases v:jk=i+1
  ·exact⟨0,by rw[if_pos v],λ c=>t _ _ (by omega)⟩
  ·exact⟨i+1,by rw[if_neg v],λ c=>t _ _ (by omega)⟩
 ·have J:kl+1+j<b.length:=by omega
  rw[p (kl+1+j) b[kl+1+j] (v_ J)];rfl
 ·have L:kl+1+(iD-(i+1))=kl+1+(ls.drop (i+1)).length:=by rw[u_,B]
  have M:b.take (kl+1)=kept++[d]:=by
   rw[<-l,List.take_left' (by rw[x_,f.tg];rfl)]
  have y:=f.nO.wt;rw[C.kR,List.drop_eq_getElem_cons z,A] at y;rw[L,GC _ _ _ (by rw[u_];omega),M,y,List.append_assoc];rfl
 ·have h1:=q.1;have e:(({s with c:=kM c2 k0 b}:au).pY k0 (tc (az (({s with c:=kM c2 k0 b}:au).c.wt) k0) (kl+1) (ls.drop (i+1))))={s with c:=kM c2 k0 (tc b (kl+1) (ls.drop (i+1)))}:=by
   show({s with c:=kM (kM c2 k0 b) k0 (tc (az (kM c2 k0 b).wt k0) (kl+1) (ls.drop (i+1)))}:au)=_;rw[o,DG]
  rw[e] at h1;exact h1
theorem L3(C:rR G gR c1 s lit ls k0 g0 jh iD jk)(l:mK K base w G cb F ah s c1 gR aT lit ls k0 i kl kept c2 jQ W)(ag:ls[i]? =some d)(hw:w1 c2 d= -lit)(aw:∀k,2<=k->k<(az c2.cl d).length->ki c2 (ak (az c2.cl d) k)= -1)(P:ki c2 (w0 c2 d)≠1)
  (aA:∀(R S u8 bT bU bV bW bX bY bZ b5 b6 b7 b8 b9 cc cg ck u64 cm cn cp cr ct cu cv cw cz cA cB cC cD cE cF cG cH cI cK cL cM di dm dn dr dw dx dy dz cN cO cQ cR cS cT cU cV cW cZ c4 c5 c6 c7 c8 c9 dc dA dB dD dF dG dH dI dJ dK dL dM dN dO dP dQ dR dS dU dV dW dX dY dZ ec ee ef ei ej ek en fL fM fN eo ep er eu ew ey ez eA eB eC eD eE fO fP fQ eF eG eH eL eM eN eO eP eR eS eT eU eV eW eX eY eZ e3 e4 e5 e6 e7 e8 e9 fc fe ff fh fk fm fo fq fu fA fB fC gn gp fD fE fF fG fH fI fJ iJ iK iL iM iN iO iP iQ iR iS iT iU:Value)(c3:Core)(T:Nat->ay)(W':World),mK K base w G cb F ah s c1 gR aT lit ls k0 (i+1) (kl+1) (kept++[d]) c3 T W'->Q .normal ⟨#[.pointer (some ⟨G,0,none⟩),fK,ig,.int .i64 lit,.slice (some ⟨jh,0,none⟩) iD jk,.slice (some ⟨jh,0,none⟩) (kl+1) jk,R,S,u8,lK,gY,gJ,gu,iF,gL,gW,u16,gv,gw,gx,gI,gy,gz,gA,gB,gC,gD,gE,gF,fS,fT,fU,u32,fV,fW,fZ,ga,gb,gd,gh,gi,gj,gl,gm,gG,gH,.slice (some ⟨jh,0,none⟩) iD jk,.int .i64 (iD:Int),.int .i64 (i:Int),bT,bU,bV,bW,bX,bY,bZ,b5,b6,b7,b8,b9,cc,cg,ck,u64,cm,cn,cp,cr,ct,cu,cv,cw,cz,cA,cB,cC,cD,cE,cF,cG,cH,cI,cK,cL,cM,di,dm,dn,dr,dw,dx,dy,dz,cN,cO,cQ,cR,cS,cT,cU,cV,cW,cZ,c4,c5,c6,c7,c8,c9,dc,dA,dB,dD,dF,dG,dH,dI,dJ,dK,dL,dM,dN,dO,dP,dQ,dR,dS,dU,dV,dW,dX,dY,dZ,ec,ee,ef,ei,ej,ek,en,fL,fM,fN,eo,ep,er,eu,ew,ey,ez,eA,eB,eC,eD,eE,fO,fP,fQ,eF,eG,eH,eL,eM,eN,eO,eP,eR,eS,eT,eU,eV,eW,eX,eY,eZ,e3,e4,e5,e6,e7,e8,e9,fc,fe,ff,fh,fk,fm,fo,fq,fu,fA,fB,fC,gn,gp,fD,fE,fF,fG,fH,fI,fJ,iJ,iK,iL,iM,iN,iO,iP,iQ,iR,iS,iT,iU,jq,jr,js,jt,jv,jw,jx,jy],[]⟩ W')
  (aB:∀(a8 R S u8 bT bU bV bW bX bY bZ b5 b6 b7 b8 b9 cc cg ck u64 cm cn cp cr ct cu cv cw cz cA cB cC cD cE cF cG cH cI cK cL cM di dm dn dr dw dx dy dz cN cO cQ cR cS cT cU cV cW cZ c4 c5 c6 c7 c8 c9 dc dA dB dD dF dG dH dI dJ dK dL dM dN dO dP dQ dR dS dU dV dW dX dY dZ ec ee ef ei ej ek en fL fM fN eo ep er eu ew ey ez eA eB eC eD eE fO fP fQ eF eG eH eL eM eN eO eP eR eS eT eU eV eW eX eY eZ e3 e4 e5 e6 e7 e8 e9 fc fe ff fh fk fm fo fq fu fA fB fC gn gp fD fE fF fG fH fI fJ iJ iK iL iM iN iO iP iQ iR iS iT iU:Value)(c3:Core)(T:Nat->ay)(W':World),kG F F c3 aT []->ny c3 ah->tO c1 c3->d<c3.cl.length->(∀x∈az c3.cl d,-x∈c3.ax)->bf K base W' G T cb {s with c:=c3}->aG K w W'->Q .ret ⟨#[.pointer (some ⟨G,0,none⟩),fK,.pointer (some ⟨cb d,0,none⟩),.int .i64 lit,.slice (some ⟨jh,0,none⟩) iD jk,a8,R,S,u8,lK,gY,gJ,gu,iF,gL,gW,u16,gv,gw,gx,gI,gy,gz,gA,gB,gC,gD,gE,gF,fS,fT,fU,u32,fV,fW,fZ,ga,gb,gd,gh,gi,gj,gl,gm,gG,gH,.slice (some ⟨jh,0,none⟩) iD jk,.int .i64 (iD:Int),.int .i64 (i:Int),bT,bU,bV,bW,bX,bY,bZ,b5,b6,b7,b8,b9,cc,cg,ck,u64,cm,cn,cp,cr,ct,cu,cv,cw,cz,cA,cB,cC,cD,cE,cF,cG,cH,cI,cK,cL,cM,di,dm,dn,dr,dw,dx,dy,dz,cN,cO,cQ,cR,cS,cT,cU,cV,cW,cZ,c4,c5,c6,c7,c8,c9,dc,dA,dB,dD,dF,dG,dH,dI,dJ,dK,dL,dM,dN,dO,dP,dQ,dR,dS,dU,dV,dW,dX,dY,dZ,ec,ee,ef,ei,ej,ek,en,fL,fM,fN,eo,ep,er,eu,ew,ey,ez,eA,eB,eC,eD,eE,fO,fP,fQ,eF,eG,eH,eL,eM,eN,eO,eP,eR,eS,eT,eU,eV,eW,eX,eY,eZ,e3,e4,e5,e6,e7,e8,e9,fc,fe,ff,fh,fk,fm,fo,fq,fu,fA,fB,fC,gn,gp,fD,fE,fF,fG,fH,fI,fJ,iJ,iK,iL,iM,iN,iO,iP,iQ,iR,iS,iT,iU,jq,jr,js,jt,jv,jw,jx,jy],[]⟩ W'):
   l_ w_ Lr Q ⟨#[.pointer (some ⟨G,0,none⟩),fK,ig,.int .i64 lit,.slice (some ⟨jh,0,none⟩) iD jk,.slice (some ⟨jh,0,none⟩) kl jk,.int .i64 (i:Int),.pointer (some ⟨cb d,0,none⟩),u8,lK,gY,gJ,gu,iF,gL,gW,u16,gv,gw,gx,gI,gy,gz,gA,gB,gC,gD,gE,gF,fS,fT,fU,u32,fV,fW,fZ,ga,gb,gd,gh,gi,gj,gl,gm,gG,gH,.slice (some ⟨jh,0,none⟩) iD jk,.int .i64 (iD:Int),.int .i64 (i:Int),bT,bU,bV,bW,bX,bY,bZ,b5,b6,b7,b8,b9,cc,cg,ck,u64,cm,cn,cp,cr,ct,cu,cv,cw,cz,cA,cB,cC,cD,cE,cF,cG,cH,cI,cK,cL,cM,di,dm,dn,dr,dw,dx,dy,dz,cN,cO,cQ,cR,cS,cT,cU,cV,cW,cZ,c4,c5,c6,c7,c8,c9,dc,dA,dB,dD,dF,dG,dH,dI,dJ,dK,dL,dM,dN,dO,dP,dQ,dR,dS,dU,dV,dW,dX,dY,dZ,ec,ee,ef,ei,ej,ek,en,fL,fM,fN,eo,ep,er,eu,ew,ey,ez,eA,eB,eC,eD,eE,fO,fP,fQ,eF,eG,eH,eL,eM,eN,eO,eP,eR,eS,eT,eU,eV,eW,eX,eY,eZ,e3,e4,e5,e6,e7,e8,e9,fc,fe,ff,fh,fk,fm,fo,fq,fu,fA,fB,fC,gn,gp,fD,fE,fF,fG,fH,fI,fJ,iJ,iK,iL,iM,iN,iO,iP,iQ,iR,iS,iT,iU,jq,jr,js,jt,jv,jw,jx,jy],[]⟩ W:=by
 have hm:=l.m C ag;have aC:=l.rj ag;have H:i<ls.length:=(y_.1 ag).1;have aE:=l.BW;have p:=U (l.app C ag);have aF:=C.len;have aH:=C.lb;have bo:kl<200000:=by omega
 obtain⟨b,I⟩:∃x,w0 c2 d=x:=⟨_,rfl⟩
 obtain⟨z,J⟩:∃z,ki c2 b=z:=⟨_,rfl⟩
 have X:gP s.c.n b:=by rw[<-I];exact l.ok C ag (by omega)
 have aI: -60000<=b/\b<=60000:=by have:=X.2;have:=C.av;unfold aD at*;omega
 have rg:=l.nO.gV.aN.range b;rw[I,J] at P;rw[J] at rg;have D:=U (z_ C (z_ l (z_ ag (z_ hw (z_ aw (z_ hm (z_ aC (z_ H (z_ aE (z_ aF (z_ aH (z_ I (z_ J (z_ X (z_ aI (z_ P rg))))))))))))))));have a':=U aA;have ba:=U aB;clear C l ag hw aw hm aC H aE aF aH I J X aI P rg aA aB
 conv=>arg 2;whnf
 conv=>arg 4;zeta
 go_upto_region 20 with(at_builtin;refine DE rfl (.tmp 170) (.tmp 172) rfl jh kl jk W.heap.size 0 1 1 _ rfl rfl p.o.1 p.o.2.1 p.o.2.2.1 p.o.2.2.2.1 ?_)
 have q:=p.o.2.2.2.2.1;have E:=p.o.2.2.2.2.2;have bp:kl+1<=jk:=p.o.2.1;generalize (W.alloc (.cells #[.pointer (some ⟨cb d,0,none⟩)] 164)).setCells jh kl [.pointer (some ⟨cb d,0,none⟩)]=y at q E⊢;clear p;obtain⟨bL,m,bb,r⟩:=q.zb (d:=d) D.o.2.2.2.2.2.2.1.1 (by have:=D.o.2.2.2.2.2.2.1.2;show 1<=(az c2.cl d).length;omega);have r:za base y G jQ cb d bL m bb (az c2.cl d):=r;have br:2<=m:=by have:=r.len;have:=D.o.2.2.2.2.2.2.1.2;omega
 have bc:=r.ag;have a0:=r.kR 0 (by omega);rw[show ak (az c2.cl d) 0=b from D.o.2.2.2.2.2.2.2.2.2.2.2.1] at a0;have bs:(0:Int)<(m:Int):=by omega
 have q:=U q;have E:=U E;have r:=U r;have L:bF ((kM c2 k0 ((kept++[d])++ls.drop (kl+1))).n=s.c.n):=U (D.o.2.1.kJ D.o.1);have Y:bF (Calls w_ 152 #[.pointer (some ⟨G,0,none⟩),.int .i64 b] y λ e w'=>e=.returned (.int .i8 z)/\y=w'):=U (by
   have h1:=BS q.o (DJ D.o.2.1.nO.gV.aN) (show(kM c2 k0 ((kept++[d])++ls.drop (kl+1))).n<=60000 by rw[L.o];exact D.o.1.av) (x:=b) (by show gP (kM c2 k0 ((kept++[d])++ls.drop (kl+1))).n b;rw[L.o];exact D.o.2.2.2.2.2.2.2.2.2.2.2.2.2.1);rw[show ki (({s with c:=kM c2 k0 ((kept++[d])++ls.drop (kl+1))}:au).c) b=z from D.o.2.2.2.2.2.2.2.2.2.2.2.2.1] at h1;exact h1)
 by_cases bd:z= -1
 · have Z:z<0:=by omega
   have bg:decide (z<0)=true:=decide_eq_true Z;have aJ:=D.o.2.2.2.2.2.2.2.1;have aK:=D.o.2.2.2.2.2.2.2.2.2.1;have aL:=D.o.2.2.2.2.2.2.2.2.2.2.1;have aM:=D.o.1.cap;have li:(i:Int)+1<=(iD:Int):=by omega
   have lc:(iD:Int)<=(jk:Int):=by omega
   have bt:(0:Int)<=(i:Int)+1:=by omega
   have bu:r_.wrap ((i:Int)+1)=(i:Int)+1:=by rw[m_];omega
   have bw:=U (z_ aJ (z_ aK (z_ aL aM)));clear aJ aK aL aM;obtain⟨⟨off,aO,aP⟩,aQ,aR,aS,bx,t⟩:=D.o.2.1.rest D.o.1 D.o.2.2.1 q.o;have aU:=U aP;have aa:=U (z_ aR aS);have t:=U t;have ab:=U aO;clear aP aR aS aO
   go_upto_region 22 with(first|(go_at_call 152;refine Y.o.mono ?_;rintro e aV ⟨rfl,rfl⟩;dsimp only)|(at_builtin;refine DE rfl (.tmp 183) (.tmp 187) rfl jh (kl+1) jk jh off (iD-(i+1)) (jk-(i+1)) _ rfl (congrArg (λ A=>Value.slice A (iD-(i+1)) (jk-(i+1))) ab.o) (aU.o _) aQ aa.o.1 aa.o.2 ?_))
   rw[ab.o];have g:=U t.o.2.2.1;have B:=U (E.o.trans t.o.2.2.2);have ad:=U (z_ t.o.1 t.o.2.1);clear t aU aa ab;obtain⟨ae,af⟩:∃n,kl+1+(iD-(i+1))=n:=⟨_,rfl⟩
   rw[af] at ad aQ⊢;have M:=D.o.2.1.de D.o.1;have ai:=g.o.e.ri 1 M (g.o.e.kL.trans (by show(c2.wt.set _ _).length=2*s.c.n+2;rw[s_];exact D.o.2.1.wo D.o.1)) rfl;have f0:=g.o.e.rows.free M k0;have aW:bF (k0<c2.wt.length):=U (by rw[D.o.2.1.wo D.o.1];exact D.o.1.hk);have aX:=D.o.2.1.hw.trans D.o.1.ag;have bz:(k0:Int)<2*(s.c.n:Int)+2:=by have:=D.o.1.hk;omega
   have aY:bF (∀w:World,Calls w_ 181 #[.int .i64 lit] w λ e w'=>e=.returned (.int .i64 (k0:Int))/\w=w'):=U (λ w=>by have:=GG D.o.1.ok D.o.1.av w;rw[D.o.1.kR] at this;exact this);have N:=U (z_ M aX);have bA:=U af;clear M aX af;obtain⟨aj,aZ⟩:∃aj,k7 cb (ls.drop (i+1))=aj:=⟨_,rfl⟩
   rw[aZ] at g B ai f0⊢;clear aZ;obtain⟨u,a6⟩:∃u,World.setCells y jh (kl+1) aj=u:=⟨_,rfl⟩
   rw[a6] at g B ai f0⊢;have al:u.cell? ⟨g0,k0,none⟩=some (.slice (some ⟨jh,0,none⟩) iD jk):=by have:=g.o.e.ye N.o.1 (k:=k0) (by show k0<(c2.wt.set _ _).length;rw[s_];exact aW.o);rw[N.o.2] at this;exact this
   clear a6 bc a0 q Y;refine wp_region_still_tail 8 (by kernel_rfl) (by kernel_rfl) ?_;simp only[List.take_succ_cons,List.take_zero,List.drop_succ_cons,List.drop_zero]
   iterate 5 still_step
   still_call ((aY.o _).mono (λ e w' h=>⟨h.1,h.2.symm⟩))
   iterate 2 still_step
   refine wpStill_nil ?_;change wpList _ _ _ _ _ u.drew;have f0:u.drew.frozen? ⟨g0,k0,none⟩=false:=f0;have al:u.drew.cell? ⟨g0,k0,none⟩=some (.slice (some ⟨jh,0,none⟩) iD jk):=al
   go_upto_region 23 with fail
   have f:=BU (c2:=c2) g.o N.o.1 aW.o N.o.2 ad.o.1 ad.o.2 rfl;have ao:=B.o.trans f.2;have f:=f.1;generalize (u.setCell ⟨g0,k0,none⟩ (.slice (some ⟨jh,0,none⟩) ae jk)).drew=a7 at f ao⊢;clear f0 al ai aY g B;obtain⟨bh,kD,bj,aq⟩:∃A n c,iV jQ (iI k0) ⟨some ⟨jh,0,none⟩,ae,jk⟩ 4=⟨A,n,c⟩:=⟨_,_,_,rfl⟩
   have bk:kD=c2.ax.length:=by have:=f.e.kD;rw[aq] at this;exact this
   have bB:a7.cell? ⟨G,5,none⟩=some (.slice bh kD bj):=by have:=f.e.kP (k:=5) (v:=(iV jQ (iI k0) ⟨some ⟨jh,0,none⟩,ae,jk⟩ 4).v) rfl;rw[aq] at this;exact this
   have f7:=f.e.free 7;have bC:a7.cell? ⟨G,7,none⟩=some (.int .i64 (c2.ag:Int)):=f.e.kP (k:=7) (v:=.int .i64 (c2.ag:Int)) rfl;have O:=f.BG kD;have bl:=U (ao.trans O.2);have O:=U O.1;have f:=U f;clear aq ao bk
   go_wp2_with fail
   have j:ls[i]'(D.o.2.2.2.2.2.2.2.1)=d:=(y_.1 D.o.2.2.1).2;have ar:=D.o.2.1.nO.Kz D.o.2.2.2.2.2.2.2.1 (by rw[j];exact D.o.2.2.2.1) (by rw[j];exact D.o.2.2.2.2.1) (by rw[j,D.o.2.2.2.2.2.2.2.2.2.2.2.1,D.o.2.2.2.2.2.2.2.2.2.2.2.2.1];exact bd);rw[j] at ar;have mb:=D.o.2.1.nO.sm;apply ba.o (c3:={c2 with ag:=kD});exact ar.1.y8 kD;exact D.o.2.1.nO.8.same rfl rfl rfl;exact⟨mb.n,mb.st,mb.len,mb.mm,mb.BC,mb.ax,mb.cls,mb.v0,λ w=>mb.qK w⟩;exact D.o.2.2.2.2.2.2.1.1;exact ar.2;exact O.o;exact D.o.2.1.jB.trans bl.o
 · have z0:bF (z=0):=U (by have:=D.o;omega);have Z:¬z<0:=by have:=z0.o;omega
   have bg:decide (z<0)=false:=decide_eq_false Z;have bn:bF (Calls w_ 156 #[.pointer (some ⟨G,0,none⟩),.int .i64 b,.pointer (some ⟨cb d,0,none⟩)] y λ e w'=>e=.returned (.tuple #[])/\∃h':ay,bf K base w' G (iV jQ 4 h') cb {s with c:=lC (kM c2 k0 ((kept++[d])++ls.drop (kl+1))) b (some d)}/\aG K y w'):=U (by
    have h1:=BR q.o b (some d) (DJ D.o.2.1.nO.gV.aN) (by show gP (kM c2 k0 ((kept++[d])++ls.drop (kl+1))).n b;rw[L.o];exact D.o.2.2.2.2.2.2.2.2.2.2.2.2.2.1) (show(kM c2 k0 ((kept++[d])++ls.drop (kl+1))).n<=60000 by rw[L.o];exact D.o.1.av) (by show c2.st.length<=1000000;rw[D.o.2.1.nO.sm.st,D.o.1.st];exact D.o.1.jA);exact h1)
   go_wp2_with (first|(go_at_call 152;refine Y.o.mono ?_;rintro e aV ⟨rfl,rfl⟩;dsimp only)|(go_at_call 156;refine bn.o.mono ?_;rintro e aV ⟨rfl,h',g,B⟩;dsimp only))
   apply a'.o;have H:=D.o.2.2.2.2.2.2.2.1;have j:ls[i]=d:=(y_.1 D.o.2.2.1).2;have V:=D.o.2.1.nO.set H (by rw[j];exact D.o.2.2.2.1) (by rw[j];exact D.o.2.2.2.2.1) (by rw[j,D.o.2.2.2.2.2.2.2.2.2.2.2.1,D.o.2.2.2.2.2.2.2.2.2.2.2.2.1];exact z0.o);rw[j,D.o.2.2.2.2.2.2.2.2.2.2.2.1] at V;exact⟨V,by rw[x_,D.o.2.1.tg];rfl,g,(bq _ _ (by unfold iI;omega)).trans D.o.2.1.hw,(bq _ _ (by omega)).trans D.o.2.1.an,D.o.2.1.jB.trans (E.o.trans B)⟩
noncomputable def L4:Code:=ng (ng GK)
theorem GZ(C:rR G gR c1 s lit ls k0 g0 jh iD jk)(b:mK K base w G cb F ah s c1 gR aT lit ls k0 i kl kept c2 jQ W)(ag:ls[i]? =some d)(hw:w1 c2 d= -lit)
  (E:∀(k l u8 bT bU bV bW bX bY bZ b5 b6 b7 b8 b9 cc cg ck u64 cm cn cp cr ct cu cv cw cz cA cB cC cD cE cF cG cH cI cK cL cM di dm dn dr dw dx dy dz cN cO cQ cR cS cT cU cV cW cZ c4 c5 c6 c7 c8 c9 dc dA dB dD dF dG dH dI dJ dK dL dM dN dO dP dQ dR dS dU dV dW dX dY dZ ec ee ef ei ej ek en fL fM fN eo ep er eu ew ey ez eA eB eC eD eE fO fP fQ eF eG eH eL eM eN eO eP eR eS eT eU eV eW eX eY eZ e3 e4 e5 e6 e7 e8 e9 fc fe ff fh fk fm fo fq fu fA fB fC gn gp fD fE fF fG fH fI fJ iJ iK iL iM iN iO iP iQ iR iS iT iU:Value)(H:Nat)(N:List Nat)(c3:Core)(p:Nat->ay)(W':World),mK K base w G cb F ah s c1 gR aT lit ls k0 (i+1) H N c3 p W'->Q (.exit 3) ⟨#[.pointer (some ⟨G,0,none⟩),fK,ig,.int .i64 lit,.slice (some ⟨jh,0,none⟩) iD jk,.slice (some ⟨jh,0,none⟩) (H) jk,k,l,u8,lK,gY,gJ,gu,iF,gL,gW,u16,gv,gw,gx,gI,gy,gz,gA,gB,gC,gD,gE,gF,fS,fT,fU,u32,fV,fW,fZ,ga,gb,gd,gh,gi,gj,gl,gm,gG,gH,.slice (some ⟨jh,0,none⟩) iD jk,.int .i64 (iD:Int),.int .i64 (i:Int),bT,bU,bV,bW,bX,bY,bZ,b5,b6,b7,b8,b9,cc,cg,ck,u64,cm,cn,cp,cr,ct,cu,cv,cw,cz,cA,cB,cC,cD,cE,cF,cG,cH,cI,cK,cL,cM,di,dm,dn,dr,dw,dx,dy,dz,cN,cO,cQ,cR,cS,cT,cU,cV,cW,cZ,c4,c5,c6,c7,c8,c9,dc,dA,dB,dD,dF,dG,dH,dI,dJ,dK,dL,dM,dN,dO,dP,dQ,dR,dS,dU,dV,dW,dX,dY,dZ,ec,ee,ef,ei,ej,ek,en,fL,fM,fN,eo,ep,er,eu,ew,ey,ez,eA,eB,eC,eD,eE,fO,fP,fQ,eF,eG,eH,eL,eM,eN,eO,eP,eR,eS,eT,eU,eV,eW,eX,eY,eZ,e3,e4,e5,e6,e7,e8,e9,fc,fe,ff,fh,fk,fm,fo,fq,fu,fA,fB,fC,gn,gp,fD,fE,fF,fG,fH,fI,fJ,iJ,iK,iL,iM,iN,iO,iP,iQ,iR,iS,iT,iU,jq,jr,js,jt,jv,jw,jx,jy],[]⟩ W')
  (I:∀(k l u8 bT bU bV bW bX bY bZ b5 b6 b7 b8 b9 cc cg ck u64 cm cn cp cr ct cu cv cw cz cA cB cC cD cE cF cG cH cI cK cL cM di dm dn dr dw dx dy dz cN cO cQ cR cS cT cU cV cW cZ c4 c5 c6 c7 c8 c9 dc dA dB dD dF dG dH dI dJ dK dL dM dN dO dP dQ dR dS dU dV dW dX dY dZ ec ee ef ei ej ek en fL fM fN eo ep er eu ew ey ez eA eB eC eD eE fO fP fQ eF eG eH eL eM eN eO eP eR eS eT eU eV eW eX eY eZ e3 e4 e5 e6 e7 e8 e9 fc fe ff fh fk fm fo fq fu fA fB fC gn gp fD fE fF fG fH fI fJ iJ iK iL iM iN iO iP iQ iR iS iT iU:Value)(c3:Core)(p:Nat->ay)(W':World),mK K base w G cb F ah s c1 gR aT lit ls k0 (i+1) (kl+1) (kept++[d]) c3 p W'->Q .normal ⟨#[.pointer (some ⟨G,0,none⟩),fK,ig,.int .i64 lit,.slice (some ⟨jh,0,none⟩) iD jk,.slice (some ⟨jh,0,none⟩) (kl+1) jk,k,l,u8,lK,gY,gJ,gu,iF,gL,gW,u16,gv,gw,gx,gI,gy,gz,gA,gB,gC,gD,gE,gF,fS,fT,fU,u32,fV,fW,fZ,ga,gb,gd,gh,gi,gj,gl,gm,gG,gH,.slice (some ⟨jh,0,none⟩) iD jk,.int .i64 (iD:Int),.int .i64 (i:Int),bT,bU,bV,bW,bX,bY,bZ,b5,b6,b7,b8,b9,cc,cg,ck,u64,cm,cn,cp,cr,ct,cu,cv,cw,cz,cA,cB,cC,cD,cE,cF,cG,cH,cI,cK,cL,cM,di,dm,dn,dr,dw,dx,dy,dz,cN,cO,cQ,cR,cS,cT,cU,cV,cW,cZ,c4,c5,c6,c7,c8,c9,dc,dA,dB,dD,dF,dG,dH,dI,dJ,dK,dL,dM,dN,dO,dP,dQ,dR,dS,dU,dV,dW,dX,dY,dZ,ec,ee,ef,ei,ej,ek,en,fL,fM,fN,eo,ep,er,eu,ew,ey,ez,eA,eB,eC,eD,eE,fO,fP,fQ,eF,eG,eH,eL,eM,eN,eO,eP,eR,eS,eT,eU,eV,eW,eX,eY,eZ,e3,e4,e5,e6,e7,e8,e9,fc,fe,ff,fh,fk,fm,fo,fq,fu,fA,fB,fC,gn,gp,fD,fE,fF,fG,fH,fI,fJ,iJ,iK,iL,iM,iN,iO,iP,iQ,iR,iS,iT,iU,jq,jr,js,jt,jv,jw,jx,jy],[]⟩ W')
  (J:∀(O k l u8 bT bU bV bW bX bY bZ b5 b6 b7 b8 b9 cc cg ck u64 cm cn cp cr ct cu cv cw cz cA cB cC cD cE cF cG cH cI cK cL cM di dm dn dr dw dx dy dz cN cO cQ cR cS cT cU cV cW cZ c4 c5 c6 c7 c8 c9 dc dA dB dD dF dG dH dI dJ dK dL dM dN dO dP dQ dR dS dU dV dW dX dY dZ ec ee ef ei ej ek en fL fM fN eo ep er eu ew ey ez eA eB eC eD eE fO fP fQ eF eG eH eL eM eN eO eP eR eS eT eU eV eW eX eY eZ e3 e4 e5 e6 e7 e8 e9 fc fe ff fh fk fm fo fq fu fA fB fC gn gp fD fE fF fG fH fI fJ iJ iK iL iM iN iO iP iQ iR iS iT iU:Value)(c3:Core)(p:Nat->ay)(W':World),kG F F c3 aT []->ny c3 ah->tO c1 c3->d<c3.cl.length->(∀x∈az c3.cl d,-x∈c3.ax)->bf K base W' G p cb {s with c:=c3}->aG K w W'->Q .ret ⟨#[.pointer (some ⟨G,0,none⟩),fK,.pointer (some ⟨cb d,0,none⟩),.int .i64 lit,.slice (some ⟨jh,0,none⟩) iD jk,O,k,l,u8,lK,gY,gJ,gu,iF,gL,gW,u16,gv,gw,gx,gI,gy,gz,gA,gB,gC,gD,gE,gF,fS,fT,fU,u32,fV,fW,fZ,ga,gb,gd,gh,gi,gj,gl,gm,gG,gH,.slice (some ⟨jh,0,none⟩) iD jk,.int .i64 (iD:Int),.int .i64 (i:Int),bT,bU,bV,bW,bX,bY,bZ,b5,b6,b7,b8,b9,cc,cg,ck,u64,cm,cn,cp,cr,ct,cu,cv,cw,cz,cA,cB,cC,cD,cE,cF,cG,cH,cI,cK,cL,cM,di,dm,dn,dr,dw,dx,dy,dz,cN,cO,cQ,cR,cS,cT,cU,cV,cW,cZ,c4,c5,c6,c7,c8,c9,dc,dA,dB,dD,dF,dG,dH,dI,dJ,dK,dL,dM,dN,dO,dP,dQ,dR,dS,dU,dV,dW,dX,dY,dZ,ec,ee,ef,ei,ej,ek,en,fL,fM,fN,eo,ep,er,eu,ew,ey,ez,eA,eB,eC,eD,eE,fO,fP,fQ,eF,eG,eH,eL,eM,eN,eO,eP,eR,eS,eT,eU,eV,eW,eX,eY,eZ,e3,e4,e5,e6,e7,e8,e9,fc,fe,ff,fh,fk,fm,fo,fq,fu,fA,fB,fC,gn,gp,fD,fE,fF,fG,fH,fI,fJ,iJ,iK,iL,iM,iN,iO,iP,iQ,iR,iS,iT,iU,jq,jr,js,jt,jv,jw,jx,jy],[]⟩ W'):
   l_ w_ L4 Q ⟨#[.pointer (some ⟨G,0,none⟩),fK,ig,.int .i64 lit,.slice (some ⟨jh,0,none⟩) iD jk,.slice (some ⟨jh,0,none⟩) kl jk,.int .i64 (i:Int),.pointer (some ⟨cb d,0,none⟩),u8,lK,gY,gJ,gu,iF,gL,gW,u16,gv,gw,gx,gI,gy,gz,gA,gB,gC,gD,gE,gF,fS,fT,fU,u32,fV,fW,fZ,ga,gb,gd,gh,gi,gj,gl,gm,gG,gH,.slice (some ⟨jh,0,none⟩) iD jk,.int .i64 (iD:Int),.int .i64 (i:Int),bT,bU,bV,bW,bX,bY,bZ,b5,b6,b7,b8,b9,cc,cg,ck,u64,cm,cn,cp,cr,ct,cu,cv,cw,cz,cA,cB,cC,cD,cE,cF,cG,cH,cI,cK,cL,cM,di,dm,dn,dr,dw,dx,dy,dz,cN,cO,cQ,cR,cS,cT,cU,cV,cW,cZ,c4,c5,c6,c7,c8,c9,dc,dA,dB,dD,dF,dG,dH,dI,dJ,dK,dL,dM,dN,dO,dP,dQ,dR,dS,dU,dV,dW,dX,dY,dZ,ec,ee,ef,ei,ej,ek,en,fL,fM,fN,eo,ep,er,eu,ew,ey,ez,eA,eB,eC,eD,eE,fO,fP,fQ,eF,eG,eH,eL,eM,eN,eO,eP,eR,eS,eT,eU,eV,eW,eX,eY,eZ,e3,e4,e5,e6,e7,e8,e9,fc,fe,ff,fh,fk,fm,fo,fq,fu,fA,fB,fC,gn,gp,fD,fE,fF,fG,fH,fI,fJ,iJ,iK,iL,iM,iN,iO,iP,iQ,iR,iS,iT,iU,jq,jr,js,jt,jv,jw,jx,jy],[]⟩ W:=by
 have u:=b.rj ag;have v:i<ls.length:=(y_.1 ag).1;have g:=U (b.app C ag);obtain⟨bL,m,P,f⟩:=b.gK.zb (d:=d) u.1 (by show 1<=(az c2.cl d).length;omega);have f:za base W G jQ cb d bL m P (az c2.cl d):=f;obtain⟨j,q⟩:∃x,w0 c2 d=x:=⟨_,rfl⟩
 obtain⟨z,r⟩:∃z,ki c2 j=z:=⟨_,rfl⟩
 have t:gP s.c.n j:=by rw[<-q];exact b.ok C ag (by omega)
 have rg:=b.nO.gV.aN.range j;rw[r] at rg;have ab:2<=m:=by have:=f.len;omega
 have ad:=f.ag;have a0:=f.kR 0 (by omega);rw[show ak (az c2.cl d) 0=j from q] at a0;have ae:(0:Int)<(m:Int):=by omega
 have L:=U ((b.is C t r).mono λ e w' h=>z_ h.1 h.2.symm);have f:=U f;have R:bF (z=1->mK K base w G cb F ah s c1 gR aT lit ls k0 (i+1) (kl+1) (kept++[d]) c2 jQ ((W.alloc (.cells #[.pointer (some ⟨cb d,0,none⟩)] 164)).setCells jh kl [.pointer (some ⟨cb d,0,none⟩)])):=U (λ h1=>by
   have y:ls[i]=d:=(y_.1 ag).2;have hl:gP c2.n j:=by rw[b.kJ C];exact t
   have V:=b.nO.keep v (by rw[y];exact hw) (by rw[y,q];exact(b.nO.gV.aN.pos j hl).1 (r.trans h1));rw[y] at V;exact⟨V,by rw[x_,b.tg];rfl,g.o.2.2.2.2.1,b.hw,b.an,b.jB.trans g.o.2.2.2.2.2⟩)
 have D:=U (z_ C (z_ b (z_ ag (z_ hw (z_ u (z_ v (z_ q (z_ r (z_ t rg)))))))));have M:=U E;have S:=U I;have T:=U J;clear C b ag hw u v q r t rg E I J
 conv=>arg 2;whnf
 conv=>arg 4;zeta
 by_cases h1:z=1
 · have A:0<z:=by omega
   have X:decide (0<z)=true:=decide_eq_true A;have H1:=U h1;clear h1
   go_wp2_with (first|(go_at_call 152;refine L.o.mono ?_;rintro e Y ⟨rfl,rfl⟩;dsimp only)|(at_builtin;refine DE rfl (.tmp 93) (.tmp 95) rfl jh kl jk W.heap.size 0 1 1 _ rfl rfl g.o.1 g.o.2.1 g.o.2.2.1 g.o.2.2.2.1 ?_))
   apply M.o;exact R.o H1.o
 · have A:¬0<z:=by have:=D.o;omega
   have X:decide (0<z)=false:=decide_eq_false A;have H1:=U h1;clear h1
   go_upto_block 4 with(first|(go_at_call 152;refine L.o.mono ?_;rintro e Y ⟨rfl,rfl⟩;dsimp only))
   refine wp_block ?_;rename_i af Z;refine L2 D.o.1 D.o.2.1 D.o.2.2.1 D.o.2.2.2.1 f.o ?_ ?_
   ·intros
    rename_i B;apply M.o;exact B
   ·intros
    rename_i aa;refine Z _ _ ?_;refine L3 D.o.1 D.o.2.1 D.o.2.2.1 D.o.2.2.2.1 aa (by rw[D.o.2.2.2.2.2.2.1,D.o.2.2.2.2.2.2.2.1];exact H1.o) ?_ ?_
    ·intros
     rename_i B;apply S.o;exact B
    ·intros
     apply T.o<;>assumption
theorem L5{oG:Value}(C:rR G gR c1 s lit ls k0 g0 jh iD jk)(e:mK K base w G cb F ah s c1 gR aT lit ls k0 i kl kept c2 jQ W)
  (he:∀(nQ oG u8 bT bU bV bW bX bY bZ b5 b6 b7 b8 b9 cc cg ck u64 cm cn cp cr ct cu cv cw cz cA cB cC cD cE cF cG cH cI cK cL cM di dm dn dr dw dx dy dz cN cO cQ cR cS cT cU cV cW cZ c4 c5 c6 c7 c8 c9 dc dA dB dD dF dG dH dI dJ dK dL dM dN dO dP dQ dR dS dU dV dW dX dY dZ ec ee ef ei ej ek en fL fM fN eo ep er eu ew ey ez eA eB eC eD eE fO fP fQ eF eG eH eL eM eN eO eP eR eS eT eU eV eW eX eY eZ e3 e4 e5 e6 e7 e8 e9 fc fe ff fh fk fm fo fq fu fA fB fC gn gp fD fE fF fG fH fI fJ iJ iK iL iM iN iO iP iQ iR iS iT iU:Value),i=ls.length->Q (.exit 2) ⟨#[.pointer (some ⟨G,0,none⟩),fK,ig,.int .i64 lit,.slice (some ⟨jh,0,none⟩) iD jk,.slice (some ⟨jh,0,none⟩) (kl) jk,nQ,oG,u8,lK,gY,gJ,gu,iF,gL,gW,u16,gv,gw,gx,gI,gy,gz,gA,gB,gC,gD,gE,gF,fS,fT,fU,u32,fV,fW,fZ,ga,gb,gd,gh,gi,gj,gl,gm,gG,gH,.slice (some ⟨jh,0,none⟩) iD jk,.int .i64 (iD:Int),.int .i64 (i:Int),bT,bU,bV,bW,bX,bY,bZ,b5,b6,b7,b8,b9,cc,cg,ck,u64,cm,cn,cp,cr,ct,cu,cv,cw,cz,cA,cB,cC,cD,cE,cF,cG,cH,cI,cK,cL,cM,di,dm,dn,dr,dw,dx,dy,dz,cN,cO,cQ,cR,cS,cT,cU,cV,cW,cZ,c4,c5,c6,c7,c8,c9,dc,dA,dB,dD,dF,dG,dH,dI,dJ,dK,dL,dM,dN,dO,dP,dQ,dR,dS,dU,dV,dW,dX,dY,dZ,ec,ee,ef,ei,ej,ek,en,fL,fM,fN,eo,ep,er,eu,ew,ey,ez,eA,eB,eC,eD,eE,fO,fP,fQ,eF,eG,eH,eL,eM,eN,eO,eP,eR,eS,eT,eU,eV,eW,eX,eY,eZ,e3,e4,e5,e6,e7,e8,e9,fc,fe,ff,fh,fk,fm,fo,fq,fu,fA,fB,fC,gn,gp,fD,fE,fF,fG,fH,fI,fJ,iJ,iK,iL,iM,iN,iO,iP,iQ,iR,iS,iT,iU,jq,jr,js,jt,jv,jw,jx,jy],[]⟩ W)
  (av:∀(nQ oG u8 bT bU bV bW bX bY bZ b5 b6 b7 b8 b9 cc cg ck u64 cm cn cp cr ct cu cv cw cz cA cB cC cD cE cF cG cH cI cK cL cM di dm dn dr dw dx dy dz cN cO cQ cR cS cT cU cV cW cZ c4 c5 c6 c7 c8 c9 dc dA dB dD dF dG dH dI dJ dK dL dM dN dO dP dQ dR dS dU dV dW dX dY dZ ec ee ef ei ej ek en fL fM fN eo ep er eu ew ey ez eA eB eC eD eE fO fP fQ eF eG eH eL eM eN eO eP eR eS eT eU eV eW eX eY eZ e3 e4 e5 e6 e7 e8 e9 fc fe ff fh fk fm fo fq fu fA fB fC gn gp fD fE fF fG fH fI fJ iJ iK iL iM iN iO iP iQ iR iS iT iU:Value)(N:Nat)(af:List Nat)(c3:Core)(z:Nat->ay)(W':World),i<ls.length->mK K base w G cb F ah s c1 gR aT lit ls k0 (i+1) N af c3 z W'->Q .normal ⟨#[.pointer (some ⟨G,0,none⟩),fK,ig,.int .i64 lit,.slice (some ⟨jh,0,none⟩) iD jk,.slice (some ⟨jh,0,none⟩) (N) jk,nQ,oG,u8,lK,gY,gJ,gu,iF,gL,gW,u16,gv,gw,gx,gI,gy,gz,gA,gB,gC,gD,gE,gF,fS,fT,fU,u32,fV,fW,fZ,ga,gb,gd,gh,gi,gj,gl,gm,gG,gH,.slice (some ⟨jh,0,none⟩) iD jk,.int .i64 (iD:Int),.int .i64 ((i:Int)+1),bT,bU,bV,bW,bX,bY,bZ,b5,b6,b7,b8,b9,cc,cg,ck,u64,cm,cn,cp,cr,ct,cu,cv,cw,cz,cA,cB,cC,cD,cE,cF,cG,cH,cI,cK,cL,cM,di,dm,dn,dr,dw,dx,dy,dz,cN,cO,cQ,cR,cS,cT,cU,cV,cW,cZ,c4,c5,c6,c7,c8,c9,dc,dA,dB,dD,dF,dG,dH,dI,dJ,dK,dL,dM,dN,dO,dP,dQ,dR,dS,dU,dV,dW,dX,dY,dZ,ec,ee,ef,ei,ej,ek,en,fL,fM,fN,eo,ep,er,eu,ew,ey,ez,eA,eB,eC,eD,eE,fO,fP,fQ,eF,eG,eH,eL,eM,eN,eO,eP,eR,eS,eT,eU,eV,eW,eX,eY,eZ,e3,e4,e5,e6,e7,e8,e9,fc,fe,ff,fh,fk,fm,fo,fq,fu,fA,fB,fC,gn,gp,fD,fE,fF,fG,fH,fI,fJ,iJ,iK,iL,iM,iN,iO,iP,iQ,iR,iS,iT,iU,jq,jr,js,jt,jv,jw,jx,jy],[]⟩ W')
  (O:∀(ai nQ oG u8 bT bU bV bW bX bY bZ b5 b6 b7 b8 b9 cc cg ck u64 cm cn cp cr ct cu cv cw cz cA cB cC cD cE cF cG cH cI cK cL cM di dm dn dr dw dx dy dz cN cO cQ cR cS cT cU cV cW cZ c4 c5 c6 c7 c8 c9 dc dA dB dD dF dG dH dI dJ dK dL dM dN dO dP dQ dR dS dU dV dW dX dY dZ ec ee ef ei ej ek en fL fM fN eo ep er eu ew ey ez eA eB eC eD eE fO fP fQ eF eG eH eL eM eN eO eP eR eS eT eU eV eW eX eY eZ e3 e4 e5 e6 e7 e8 e9 fc fe ff fh fk fm fo fq fu fA fB fC gn gp fD fE fF fG fH fI fJ iJ iK iL iM iN iO iP iQ iR iS iT iU:Value)(d:Nat)(c3:Core)(z:Nat->ay)(W':World),kG F F c3 aT []->ny c3 ah->tO c1 c3->d<c3.cl.length->(∀x∈az c3.cl d,-x∈c3.ax)->bf K base W' G z cb {s with c:=c3}->aG K w W'->Q .ret ⟨#[.pointer (some ⟨G,0,none⟩),fK,.pointer (some ⟨cb d,0,none⟩),.int .i64 lit,.slice (some ⟨jh,0,none⟩) iD jk,ai,nQ,oG,u8,lK,gY,gJ,gu,iF,gL,gW,u16,gv,gw,gx,gI,gy,gz,gA,gB,gC,gD,gE,gF,fS,fT,fU,u32,fV,fW,fZ,ga,gb,gd,gh,gi,gj,gl,gm,gG,gH,.slice (some ⟨jh,0,none⟩) iD jk,.int .i64 (iD:Int),.int .i64 (i:Int),bT,bU,bV,bW,bX,bY,bZ,b5,b6,b7,b8,b9,cc,cg,ck,u64,cm,cn,cp,cr,ct,cu,cv,cw,cz,cA,cB,cC,cD,cE,cF,cG,cH,cI,cK,cL,cM,di,dm,dn,dr,dw,dx,dy,dz,cN,cO,cQ,cR,cS,cT,cU,cV,cW,cZ,c4,c5,c6,c7,c8,c9,dc,dA,dB,dD,dF,dG,dH,dI,dJ,dK,dL,dM,dN,dO,dP,dQ,dR,dS,dU,dV,dW,dX,dY,dZ,ec,ee,ef,ei,ej,ek,en,fL,fM,fN,eo,ep,er,eu,ew,ey,ez,eA,eB,eC,eD,eE,fO,fP,fQ,eF,eG,eH,eL,eM,eN,eO,eP,eR,eS,eT,eU,eV,eW,eX,eY,eZ,e3,e4,e5,e6,e7,e8,e9,fc,fe,ff,fh,fk,fm,fo,fq,fu,fA,fB,fC,gn,gp,fD,fE,fF,fG,fH,fI,fJ,iJ,iK,iL,iM,iN,iO,iP,iQ,iR,iS,iT,iU,jq,jr,js,jt,jv,jw,jx,jy],[]⟩ W'):
   l_ w_ runIn Q ⟨#[.pointer (some ⟨G,0,none⟩),fK,ig,.int .i64 lit,.slice (some ⟨jh,0,none⟩) iD jk,.slice (some ⟨jh,0,none⟩) kl jk,nQ,oG,u8,lK,gY,gJ,gu,iF,gL,gW,u16,gv,gw,gx,gI,gy,gz,gA,gB,gC,gD,gE,gF,fS,fT,fU,u32,fV,fW,fZ,ga,gb,gd,gh,gi,gj,gl,gm,gG,gH,.slice (some ⟨jh,0,none⟩) iD jk,.int .i64 (iD:Int),.int .i64 (i:Int),bT,bU,bV,bW,bX,bY,bZ,b5,b6,b7,b8,b9,cc,cg,ck,u64,cm,cn,cp,cr,ct,cu,cv,cw,cz,cA,cB,cC,cD,cE,cF,cG,cH,cI,cK,cL,cM,di,dm,dn,dr,dw,dx,dy,dz,cN,cO,cQ,cR,cS,cT,cU,cV,cW,cZ,c4,c5,c6,c7,c8,c9,dc,dA,dB,dD,dF,dG,dH,dI,dJ,dK,dL,dM,dN,dO,dP,dQ,dR,dS,dU,dV,dW,dX,dY,dZ,ec,ee,ef,ei,ej,ek,en,fL,fM,fN,eo,ep,er,eu,ew,ey,ez,eA,eB,eC,eD,eE,fO,fP,fQ,eF,eG,eH,eL,eM,eN,eO,eP,eR,eS,eT,eU,eV,eW,eX,eY,eZ,e3,e4,e5,e6,e7,e8,e9,fc,fe,ff,fh,fk,fm,fo,fq,fu,fA,fB,fC,gn,gp,fD,fE,fF,fG,fH,fI,fJ,iJ,iK,iL,iM,iN,iO,iP,iQ,iR,iS,iT,iU,jq,jr,js,jt,jv,jw,jx,jy],[]⟩ W:=by
 have A:=e.BW;have P:=e.nO.Dn;have B:=C.len;have R:=C.lb;have S:=C.cap;have aK:(iD:Int)<=(jk:Int):=by omega
 have aL:r_.wrap ((i:Int)+1)=(i:Int)+1:=by rw[m_];omega
 have aj:=U he;have t:=U av;have T:=U O;clear he av O
 by_cases p:i<ls.length
 · obtain⟨d,q⟩:∃d,ls[i]=d:=⟨_,rfl⟩
   have ag:ls[i]? =some d:=by rw[v_ p,q]
   have E:=e.rj ag;obtain⟨bL,m,k,g⟩:=e.gK.zb (d:=d) E.1 (by show 1<=(az c2.cl d).length;omega);have g:za base W G jQ cb d bL m k (az c2.cl d):=g;have X:lit= -(w0 c2 d)\/lit= -(w1 c2 d):=by rw[<-q];exact(e.nO.rj p).2.2
   have aM: -60000<=lit/\lit<=60000:=by have:=C.ok.2;have:=C.av;unfold aD at*;omega
   have wn:r_.wrap (-lit)= -lit:=IntWalk.i64_in _ (by omega);have hk:k0<c2.wt.length:=by rw[e.wo C];exact C.hk
   have Y:az (kM c2 k0 (kept++ls.drop kl)).wt k0=kept++ls.drop kl:=by show az (c2.wt.set k0 _) k0=_;rw[qE,if_pos ⟨rfl,hk⟩]
   have aN:W.cell? ⟨jh,i,none⟩=some (.pointer (some ⟨cb d,0,none⟩)):=e.gK.DI (e.jU C) (by
    show(az (kM c2 k0 (kept++ls.drop kl)).wt k0)[i]? =some d;rw[Y,p_ (by rw[e.tg];exact A),q_,e.tg,show kl+(i-kl)=i by omega];exact ag)
   obtain⟨f,H⟩:∃x,w0 c2 d=x:=⟨_,rfl⟩
   have al:2<=m:=by have:=g.len;omega
   have ao:=g.cap;have aq:=g.ag;have a0:=g.kR 0 (by omega);rw[show ak (az c2.cl d) 0=f from H] at a0;have ar:(0:Int)<(m:Int):=by omega
   have Z:(1:Int)<(m:Int):=by omega
   have li:(i:Int)<(iD:Int):=by omega
   have aO:(0:Int)<=(i:Int):=by omega
   have aw:decide ((i:Int)<(iD:Int))=true:=decide_eq_true li;have D:=U (z_ C (z_ e (z_ ag (z_ E (z_ p (z_ H (z_ X (z_ A (z_ B (z_ R S))))))))));have n:=U g;clear P q A B R S C e ag E p H X g Y hk ao
   conv=>arg 2;whnf
   conv=>arg 4;zeta
   by_cases h1:f= -lit
   ·have d1:decide (f= -lit)=true:=decide_eq_true h1;have d2:(f== -lit)=true:=beq_iff_eq.2 h1;have H1:=U h1;clear h1;obtain⟨y,I⟩:∃y,ak (az c2.cl d) 1=y:=⟨_,rfl⟩
    have a1:=n.o.kR 1 (by omega);rw[I] at a1;have f0:=n.o.lJ 0;have f1:=n.o.lJ 1;have aP:=n.o.ne;have aQ:=n.o.ne.symm;have aA:bF (mK K base w G cb F ah s c1 gR aT lit ls k0 i kl kept (lT c2 d (kX (az c2.cl d) 0 1)) jQ (((W.setCell ⟨bL,0,none⟩ (.int .i64 y)).setCell ⟨bL,1,none⟩ (.int .i64 f)).drew)):=U (by
     have aa:=D.o.2.1.gK.GI (d:=d) (bL:=bL) (i:=0) (j:=1) n.o.b D.o.2.2.2.1.1 (x:=f) (y:=y) D.o.2.2.2.2.2.1 I;have q:ls[i]'(D.o.2.2.2.2.1)=d:=(y_.1 D.o.2.2.1).2;have V:=D.o.2.1.nO.swap D.o.2.2.2.2.1;rw[q] at V;exact⟨V,D.o.2.1.tg,aa.1,D.o.2.1.hw,D.o.2.1.an,D.o.2.1.jB.trans aa.2⟩)
    have aB:bF (w1 (lT c2 d (kX (az c2.cl d) 0 1)) d= -lit):=U (by
     show ak (az (c2.cl.set d _) d) 1= -lit;rw[qE,if_pos ⟨rfl,D.o.2.2.2.1.1⟩];unfold kX;rw[oZ,if_pos ⟨rfl,by rw[s_];have:=D.o.2.2.2.1.2;omega⟩,show ak (az c2.cl d) 0=f from D.o.2.2.2.2.2.1];exact H1.o)
    clear I al
    go_upto_if 61 with fail
    refine wp_cond_true rfl ?_;rename_i tf J;have aC:W.drew.cell? ⟨cb d,0,none⟩=some (.slice (some ⟨bL,0,none⟩) m k):=aq;have ab:W.drew.cell? ⟨bL,0,none⟩=some (.int .i64 f):=a0;have aE:W.drew.cell? ⟨bL,1,none⟩=some (.int .i64 y):=a1;have aF:W.drew.frozen? ⟨bL,0,none⟩=false:=f0;refine Ap (DD Tryz.f145 10) 23 21 22 224 [some 62,some 63,some 64,some 65,some 66,some 67,some 68,some 69,some 70,some 71,some 72,some 73,some 74,some 75,some 76,some 77,some 78,some 79,some 80,some 81,some 82,none,some 83,none] _ [(7,.pointer (some ⟨(cb d),0,none⟩))] (λ _=>True) [.pointer (some ⟨(cb d),0,none⟩),.pointer (some ⟨(cb d),0,none⟩),.pointer (some ⟨(cb d),0,none⟩),.slice (some ⟨bL,0,none⟩) m k,.pointer (some ⟨(cb d),0,none⟩),.pointer (some ⟨(cb d),0,none⟩),.pointer (some ⟨(cb d),0,none⟩),.slice (some ⟨bL,0,none⟩) m k,.pointer (some ⟨(cb d),0,none⟩),.pointer (some ⟨(cb d),0,none⟩),.pointer (some ⟨(cb d),0,none⟩),.slice (some ⟨bL,0,none⟩) m k,.pointer (some ⟨bL,1,none⟩),.int .i64 y,.pointer (some ⟨(cb d),0,none⟩),.pointer (some ⟨(cb d),0,none⟩),.pointer (some ⟨(cb d),0,none⟩),.slice (some ⟨bL,0,none⟩) m k,.pointer (some ⟨bL,0,none⟩),.int .i64 f,.pointer (some ⟨bL,0,none⟩),undef,undef] (W.drew.setCell ⟨bL,0,none⟩ (.int .i64 y)) (λ v w'=>v=.pointer (some ⟨bL,1,none⟩)/\w'=W.drew.setCell ⟨bL,0,none⟩ (.int .i64 y)) (by kernel_rfl) (by kernel_rfl) (by kernel_rfl) rfl (by kernel_rfl) (by kernel_rfl) rfl ⟨rfl,trivial⟩ trivial trivial (λ _ _ _=>trivial) (λ r ag L hp=>?_) (λ r ag L hp=>?_) ?_ ?_
    ·have h1:r (.tmp 82)=.pointer (some ⟨bL,0,none⟩):=ag.1 rfl (by decide) (by decide) _ rfl;have M:r (.tmp 75)=.int .i64 y:=ag.2.1 rfl (by decide) (by decide) _ rfl;show bh _ _ (t_ _ _ _ _ _ _) _ _;simp[bh,execOp,bQ,go_sem,h1,M,ab,aF]
    ·have h1:r (.tmp 69)=.slice (some ⟨bL,0,none⟩) m k:=ag.1 rfl (by decide) (by decide) _ rfl;show bh _ _ (t_ _ _ _ _ _ _) _ _;simp[bh,execOp,bQ,go_sem,h1,Z,hp.1]
    ·refine⟨?_,?_,?_,?_,?_,?_,?_,?_,?_,?_,?_,?_,?_,?_,?_,?_,?_,?_,?_,?_,?_,?_,?_,trivial⟩
     all_goals
      intro h1 M r w _ aH ag L hp
      first
       |exact absurd rfl h1
       |exact absurd rfl M
       |(obtain⟨aI,-⟩:=L;obtain rfl:=aH rfl;(try simp[mz,p9,n_] at ag);simp[bh,execOp,bQ,go_sem,aI,ag,aC,ab,aE,ar,Z,hp.1,(show 0<m by omega)];done)
    rintro u v w' ⟨rfl,rfl⟩ aR ad;simp[mJ,Act.put,kH] at ad;subst ad;show bh _ _ (t_ _ _ _ _ _ _) _ _;simp[bh,execOp,bQ,go_sem,Act.eval,a1,f1]
    iterate 1
     refine J _ _ ?_;refine GZ D.o.1 aA.o D.o.2.2.1 aB.o ?_ ?_ ?_
     ·intros
      rename_i l
      go_wp2_with fail
      apply t.o
      ·exact D.o.2.2.2.2.1
      ·exact l
     ·intros
      rename_i l
      go_wp2_with fail
      apply t.o
      ·exact D.o.2.2.2.2.1
      ·exact l
     ·intros
      apply T.o<;>assumption
   ·have d1:decide (f= -lit)=false:=decide_eq_false h1;have d2:(f== -lit)=false:=by rw[beq_eq_false_iff_ne];exact h1
    have H1:=U h1
    go_upto_if 61 with fail
    refine wp_cond_false rfl ?_;refine wp_skip ?_;rename_i tf J;refine J _ _ ?_;refine GZ D.o.1 D.o.2.1 D.o.2.2.1 (by have:=D.o;have:=H1.o;omega) ?_ ?_ ?_
    ·intros
     rename_i l
     go_wp2_with fail
     apply t.o
     ·exact D.o.2.2.2.2.1
     ·exact l
    ·intros
     rename_i l
     go_wp2_with fail
     apply t.o
     ·exact D.o.2.2.2.2.1
     ·exact l
    ·intros
     apply T.o<;>assumption
 · have ae:i=ls.length:=by omega
   have li:¬(i:Int)<(iD:Int):=by omega
   have aw:decide ((i:Int)<(iD:Int))=false:=decide_eq_false li;have aJ:=U ae;clear ae p P B
   conv=>arg 2;whnf
   conv=>arg 4;zeta
   go_wp2_with fail
   apply aj.o;exact aJ.o
end
end Go.Proofs.YtogdlkfacflmaaaGreat
