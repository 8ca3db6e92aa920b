/- Parts of the walk of the solver and its core; no condition. -/
import Derived.Test.YtogdlkfacflmaaaGreatZQ3
import Derived.Shelf.SlicesE.Compact
import Derived.Shelf.SlicesE.Clone
import Derived.Shelf.SlicesE.DeleteFunc
import Derived.Shelf.SlSortCmp.Whole1
import Derived.Shelf.SlSortCmp.NoneTotal
import Derived.Test.YtogdlkfacflmaaaGreatProg
import Derived.Lib.OwnBridge
import Derived.Lib.AppendIntMem
import Derived.IntWalk
import Derived.Deep.QuietTactic
import Derived.BigQuiet
import Derived.Test.YtogdlkfacflmaaaGreatZQ2
import Derived.Test.YtogdlkfacflmaaaGreatZQ1
namespace Go.Proofs.YtogdlkfacflmaaaGreat
set_option linter.unusedVariables false
set_option linter.unusedSimpArgs false
set_option maxRecDepth 1000000
set_option maxHeartbeats 8000000
open _root_.And renaming intro→z_
open _root_.Go.Proofs.Tryz renaming prog→y_,underlying25→l_,zeroValue3→c_,sizeOf3→Zx,underlying4→Zr,zeroValue25→Zq,isAgg3→Zp,zeroValue4→Zo,sizeOf25→Ze,underlying0→Zc,underlying3→Z0,zeroValue0→Z8,sizeOf4→Z9,isAgg25→Z_,isAgg4→ZT,underlying45→ZL,sizeOf0→ZH,isAgg0→ZB
open _root_.List renaming getElem?_eq_some_iff→x_,length_append→w_,take_succ_cons→u_,drop_succ_cons→t_,drop_zero→s_,eq_nil_of_length_eq_zero→r_,take_zero→p_,getElem?_eq_getElem→m_,length_singleton→h_,mem_cons→g_,map_cons→d_,pairwise_cons→b_,mem_singleton→a_,length_filter_le→Zw,map_toArray→Zt,map_nil→Zl,getElem?_cons_zero→Zg,length_drop→Zd,length_set→Z4,mem_map→Z5,take_left'→Z6,length_map→ZZ,map_congr_left→ZY,length_pos_iff→ZX,replicate→ZV,getElem?_drop→ZS,getElem?_append_right→ZQ,getD_eq_getElem?_getD→ZP,getElem?_map→ZO,getElem?_cons_succ→ZE,map_append→ZD,mem_append→ZC,getElem?_eq_none→Yy,mem_iff_getElem→Yw,pairwise_append→Yv,mem_append_left→Yu
open _root_.Go renaming wp_region_still_tail→v_,wpStill_nil→i_,wp_loop_rounds→ZU,rounds_succ→Yz
open _root_.Bool renaming false_ne_true→q_,noConfusion→Z3,not_eq_true'→ZN
open _root_.Or renaming inr→o_,inl→k_
open _root_.Go.IntKind renaming i64→n_,wrap_i64→j_
open _root_.Go.World renaming cell?_of_block→f_,drewN_drewN→ZM,cell?_setCell_other→ZK
open _root_.Nat renaming le_refl→e_,le_trans→Zv,le_of_lt→Zn,lt_of_lt_of_le→Zm,lt_or_ge→Zj,eq_zero_or_pos→ZR,zero_le→ZA,zero_add→Yr
open _root_.Go.Value renaming int→Zu,slice→Zf
open _root_.Go.Region renaming binds→Zk
open _root_.Go.Oper renaming mk→Zi
open _root_.Go.RowKit.Below renaming refl→Zh
open _root_.Go.Shelf renaming Ren→Z7
open _root_.Go.IntWalk renaming i64_in→ZW
open _root_.Go.Code renaming wp→ZJ
open _root_.Exists renaming intro→ZI
open _root_.Go.Lib renaming compactUpTo_succ→ZG,holds_of_ownsRow→ZF,ownsRow_putRow→Yx
open _root_.Go.Addr renaming add_lit→Yt
open _root_.Go.Value.slice renaming injEq→Yq
open _root_.Option.some renaming injEq→Yp
variable{K kW bw gP:Nat->Prop}{base G g0 iQ iU i kl d bu gL aK k0 k g n cap gx jr ia jA aZ:Nat}{W w':World}{jU gD hs:Nat->aq}{cb:Nat->Nat}{y a x:Int}{j8 lZ nC u8 kP gG gq dn gT gr gE u16 dr dw dx gh dy dz dA dB dD dF dG dH cu cv cw u32 cz cA cB cC cD cE cF cG cH cI cK dI dJ bx bz bA bB bC bD bE bF bG bL bM bN bO bP bQ u64 bR bS bT bU bV bW bX bY bZ b5 b6 b7 b8 b9 cc cg ck cm cn cp cr dK dL dM dN dO dP dQ dR cL cM cN cO cQ cR cS cT cU cV cW cZ c7 c8 dc de dh dS dU dV dW dX dY dZ ec ee ef ei ej ek en eo ep er eu ew ey ez eA eB eC eD eE eF eG eH eL gi gj gl eM eN eO eP eR eS eT eU eV eW eX eY gm gn gp eZ e3 e4 e5 e6 e7 e8 e9 fc fe ff fh fk fm fo fq fu fA fB fC fD fE fF fG fH fI fJ fK fL fM fN fO fP fQ fR fS gu gv fT fU fV fW fZ ga gb ir iu iw iy iz iA iB iC iD iE iF iG iY iZ ja jb jc jd je jf:Value}{Q:Exit->Act->World->Prop}{s aF:aj}{F:List (List Int)}{aC l ah:List Int}{c2:Core}{ls:List Nat}{A jy:Option Addr}{p:mS}
section
open Go.RowKit Go.Shelf
noncomputable def Lk:Code:=nu Gd
theorem run_move{s2:aj}{lit:Int}{gY m ky zc:Nat}
  (E:aU K base W G jU cb s2) (j:(jU 0).b=some g0) (I:s2.c.wt.length=zc) (V:ky<zc) (J:jD (-y)=ky) (aL: -60000<=y/\y<=60000) (z:d<s2.c.cl.length) (B:(jU (kz d)).b=some bu) (X:W.cell? ⟨cb d,0,none⟩=some (.slice (some ⟨bu,0,none⟩) m gL)) (hm:2<=m) (aM:m<=gL) (Y:W.cell? ⟨bu,1,none⟩=some (.int .i64 y)) (Z:(ax s2.c.wt ky).length<=1000000)
  (aa:∀(nC ao u8 bx bz bA bB bC bD bE bF bG bL bM bN bO bP bQ u64 bR bS bT bU bV bW bX bY bZ b5 b6 b7 b8 b9 cc cg ck cm cn cp cr dK dL dM dN dO dP dQ dR cL cM cN cO cQ cR cS cT cU cV cW cZ c7 c8 dc de dh dS dU dV dW dX dY dZ ec ee ef ei ej ek en eo ep er eu ew ey ez eA eB eC eD eE eF eG eH eL gi gj gl eM eN eO eP eR eS eT eU eV eW eX eY gm gn gp eZ e3 e4 e5 e6 e7 e8 e9 fc fe ff fh fk fm fo fq fu fA fB fC fD fE fF fG fH fI fJ fK fL fM fN fO fP fQ fR fS gu gv fT fU fV fW fZ ga gb ir iu iw iy iz iA iB iC iD iE iF iG:Value)(A':Option Addr)(ar c':Nat)(W':World),aU K base W' G (iH jU (ij ky) ⟨A',ar,c'⟩) cb (s2.pZ ky (ax s2.c.wt ky++[d]))->aD K W W'->Q (.exit 3) ⟨#[.pointer (some ⟨G,0,none⟩),j8,lZ,.int .i64 lit,.slice (some ⟨iQ,0,none⟩) gY iU,.slice (some ⟨iQ,0,none⟩) (kl) iU,nC,ao,u8,kP,gG,gq,dn,gT,gr,gE,u16,dr,dw,dx,gh,dy,dz,dA,dB,dD,dF,dG,dH,cu,cv,cw,u32,cz,cA,cB,cC,cD,cE,cF,cG,cH,cI,cK,dI,dJ,.slice (some ⟨iQ,0,none⟩) gY iU,.int .i64 (gY:Int),.int .i64 (i:Int),bx,bz,bA,bB,bC,bD,bE,bF,bG,bL,bM,bN,bO,bP,bQ,u64,bR,bS,bT,bU,bV,bW,bX,bY,bZ,b5,b6,b7,b8,b9,cc,cg,ck,cm,cn,cp,cr,dK,dL,dM,dN,dO,dP,dQ,dR,cL,cM,cN,cO,cQ,cR,cS,cT,cU,cV,cW,cZ,c7,c8,dc,de,dh,dS,dU,dV,dW,dX,dY,dZ,ec,ee,ef,ei,ej,ek,en,eo,ep,er,eu,ew,ey,ez,eA,eB,eC,eD,eE,eF,eG,eH,eL,gi,gj,gl,eM,eN,eO,eP,eR,eS,eT,eU,eV,eW,eX,eY,gm,gn,gp,eZ,e3,e4,e5,e6,e7,e8,e9,fc,fe,ff,fh,fk,fm,fo,fq,fu,fA,fB,fC,fD,fE,fF,fG,fH,fI,fJ,fK,fL,fM,fN,fO,fP,fQ,fR,fS,gu,gv,fT,fU,fV,fW,fZ,ga,gb,ir,iu,iw,iy,iz,iA,iB,iC,iD,iE,iF,iG,iY,iZ,ja,jb,jc,jd,je,jf],[]⟩ W'):
   ZJ y_ Lk Q ⟨#[.pointer (some ⟨G,0,none⟩),j8,lZ,.int .i64 lit,.slice (some ⟨iQ,0,none⟩) gY iU,.slice (some ⟨iQ,0,none⟩) kl iU,nC,.pointer (some ⟨cb d,0,none⟩),u8,kP,gG,gq,dn,gT,gr,gE,u16,dr,dw,dx,gh,dy,dz,dA,dB,dD,dF,dG,dH,cu,cv,cw,u32,cz,cA,cB,cC,cD,cE,cF,cG,cH,cI,cK,dI,dJ,.slice (some ⟨iQ,0,none⟩) gY iU,.int .i64 (gY:Int),.int .i64 (i:Int),bx,bz,bA,bB,bC,bD,bE,bF,bG,bL,bM,bN,bO,bP,bQ,u64,bR,bS,bT,bU,bV,bW,bX,bY,bZ,b5,b6,b7,b8,b9,cc,cg,ck,cm,cn,cp,cr,dK,dL,dM,dN,dO,dP,dQ,dR,cL,cM,cN,cO,cQ,cR,cS,cT,cU,cV,cW,cZ,c7,c8,dc,de,dh,dS,dU,dV,dW,dX,dY,dZ,ec,ee,ef,ei,ej,ek,en,eo,ep,er,eu,ew,ey,ez,eA,eB,eC,eD,eE,eF,eG,eH,eL,gi,gj,gl,eM,eN,eO,eP,eR,eS,eT,eU,eV,eW,eX,eY,gm,gn,gp,eZ,e3,e4,e5,e6,e7,e8,e9,fc,fe,ff,fh,fk,fm,fo,fq,fu,fA,fB,fC,fD,fE,fF,fG,fH,fI,fJ,fK,fL,fM,fN,fO,fP,fQ,fR,fS,gu,gv,fT,fU,fV,fW,fZ,ga,gb,ir,iu,iw,iy,iz,iA,iB,iC,iD,iE,iF,iG,iY,iZ,ja,jb,jc,jd,je,jf],[]⟩ W:=by
 have ab:=E.e.rA 1 j (E.e.jw.trans I) rfl;have f0:=E.e.rows.free j ky;have C:=E.e.xY j (k:=ky) (by omega);obtain⟨l,f,p,F⟩:∃A n c,jU (ij ky)=⟨A,n,c⟩:=⟨_,_,_,rfl⟩
 have ad:f=(ax s2.c.wt ky).length:=by have:=E.e.Ae ky;rw[F] at this;exact this
 rw[F] at C;have C:W.cell? ⟨g0,ky,none⟩=some (.slice l f p):=C;have aN:f<=1000000:=by omega
 have wn:n_.wrap (-y)= -y:=ZW _ (by omega);have au:(ky:Int)<(zc:Int):=by omega
 have av:(1:Int)<(m:Int):=by omega
 have ae:bI (ky<s2.c.wt.length):=U (by omega);have aw:bI (∀w:World,Calls y_ 181 #[.int .i64 (-y)] w λ e w'=>e=.returned (.int .i64 (ky:Int))/\w=w'):=U (λ w=>by have:=Dl (-y) w (by omega) (by omega);rw[J] at this;exact this);have aO:G≠g0:=E.e.uy 0 g0 j;have aP:cb d≠g0:=E.e.xP z 0 g0 j;have aQ:bu≠g0:=E.e.wT (r:=kz d) (r':=0) (by unfold kz;omega) B j;have L:=E.e.box.lt;have M:=(E.e.cls d z).lt;have N:=(E.e.rows.lt B).2;have af:(jU (ij ky)).b≠some G:=λ e=>E.e.uy _ _ e rfl
 have ag:(jU (ij ky)).b≠some (cb d):=λ e=>E.e.xP z _ _ e rfl
 have ah:(jU (ij ky)).b≠some bu:=λ e=>E.e.wT (r:=kz d) (r':=ij ky) (by unfold kz ij;omega) B e rfl
 have q:=U (E.below ((bK W (.cells #[.pointer (some ⟨cb d,0,none⟩)] 164)).drew));have hp:((W.alloc (.cells #[.pointer (some ⟨cb d,0,none⟩)] 164)).drew).cell? ⟨W.heap.size,0,none⟩=some (.pointer (some ⟨cb d,0,none⟩)):=by go_simp
 have ay:=U (rD.one hp);have az:bI (((W.alloc (.cells #[.pointer (some ⟨cb d,0,none⟩)] 164)).drew).ownsRow base 164 1 (.slice l f p) f (kV cb (ax s2.c.wt ky))):=U (by
   have:=q.o.1.e.rows.row (ij ky);rw[Dz,Ad,F,v8] at this;exact this)
 have aA:=U (Zn q.o.1.e.lt);clear hp;have t:∀b,b<W.heap.size->∀k,((W.alloc (.cells #[.pointer (some ⟨cb d,0,none⟩)] 164)).drew).cell? ⟨b,k,none⟩=W.cell? ⟨b,k,none⟩:=λ b aB k=>f_ (((bK W (.cells #[.pointer (some ⟨cb d,0,none⟩)] 164)).drew).block b aB)
 have O:=(t G L 1).trans ab;have ai:=(t (cb d) M 0).trans X;have ak:=(t bu N 1).trans Y;have aC:=(t g0 (E.e.rows.lt j).2 ky).trans C;have D:=U (z_ E (z_ j (z_ I (z_ V (z_ J (z_ z (z_ B (z_ Z (z_ F (z_ ad (z_ L (z_ M (z_ N (z_ af (z_ ag ah)))))))))))))));have aR:=U t;clear E j I V J z B Z F ad L M N af ag ah t;have aE:=U aa;clear aa
 conv=>arg 2;whnf
 go_wp2_with fail
 refine Ai (DD Tryz.f145 18) 30 27 28 224 [some 140,some 141,some 142,some 143,some 144,some 145,some 146,some 147,some 148,some 149,some 150,some 151,some 152,some 153,some 154,some 155,some 156,some 157,some 158,some 159,some 160,some 161,some 162,some 163,some 164,some 165,some 166,some 167,some 168,some 169,none] _ [(0,.pointer (some ⟨G,0,none⟩)),(7,.pointer (some ⟨(cb d),0,none⟩))] (λ w':World=>w'.cell? ⟨G,1,none⟩=some (.slice (some ⟨g0,0,none⟩) zc (jU 0).c)/\w'.cell? ⟨cb d,0,none⟩=some (.slice (some ⟨bu,0,none⟩) m gL)/\w'.cell? ⟨bu,1,none⟩=some (.int .i64 y)/\w'.cell? ⟨g0,ky,none⟩=some (.slice l f p)) [.pointer (some ⟨G,0,none⟩),.pointer (some ⟨G,0,none⟩),.pointer (some ⟨G,1,none⟩),.slice (some ⟨g0,0,none⟩) zc (jU 0).c,.pointer (some ⟨(cb d),0,none⟩),.pointer (some ⟨(cb d),0,none⟩),.pointer (some ⟨(cb d),0,none⟩),.slice (some ⟨bu,0,none⟩) m gL,.pointer (some ⟨bu,1,none⟩),.int .i64 y,.int .i64 (-y),.int .i64 (ky:Int),.pointer (some ⟨G,0,none⟩),.pointer (some ⟨G,0,none⟩),.pointer (some ⟨G,1,none⟩),.slice (some ⟨g0,0,none⟩) zc (jU 0).c,.pointer (some ⟨(cb d),0,none⟩),.pointer (some ⟨(cb d),0,none⟩),.pointer (some ⟨(cb d),0,none⟩),.slice (some ⟨bu,0,none⟩) m gL,.pointer (some ⟨bu,1,none⟩),.int .i64 y,.int .i64 (-y),.int .i64 (ky:Int),.pointer (some ⟨g0,ky,none⟩),.slice l f p,.pointer (some ⟨(cb d),0,none⟩),.slice (some ⟨W.heap.size,0,none⟩) 1 1,undef,.pointer (some ⟨g0,ky,none⟩)] ((W.alloc (.cells #[.pointer (some ⟨cb d,0,none⟩)] 164)).drew) (λ v w'=>oa ((W.alloc (.cells #[.pointer (some ⟨cb d,0,none⟩)] 164)).drew) base 164 (.slice l f p) (f+1) (kV cb (ax s2.c.wt ky)++[.pointer (some ⟨cb d,0,none⟩)]) v w') (by kernel_rfl) (by kernel_rfl) (by kernel_rfl) rfl (by kernel_rfl) (by kernel_rfl) rfl ⟨rfl,rfl,trivial⟩ ⟨ab,X,Y,C⟩ ⟨O,ai,ak,aC⟩ (λ v w' P=>?_) (λ s g H hp=>?_) (λ s g H hp=>?_) ?_ ?_
 · obtain⟨A',c',rfl,al,R,f9,S,-⟩:=aU.F9 (d:=d) q.o.1 D.o.2.1 ae.o D.o.2.2.2.2.2.2.2.2.1 D.o.2.2.2.2.2.2.2.2.2.1 O P;exact⟨al,(S (cb d) (Zm D.o.2.2.2.2.2.2.2.2.2.2.2.1 q.o.2.size) D.o.2.2.2.2.2.2.2.2.2.2.2.2.2.2.1 0).trans ai,(S bu (Zm D.o.2.2.2.2.2.2.2.2.2.2.2.2.1 q.o.2.size) D.o.2.2.2.2.2.2.2.2.2.2.2.2.2.2.2 1).trans ak,R⟩
 · obtain⟨-,aS,-⟩:=H;have g:s (.tmp 166)=.pointer (some ⟨(cb d),0,none⟩):=g.1 rfl (by decide) (by decide) _ rfl;show bn _ _ (Zi _ _ _ _ _ _) _ _;simp[bn,execOp,gF,go_sem,g]
 · have h1:s (.tmp 165)=.slice l f p:=g.1 rfl (by decide) (by decide) _ rfl;have T:s (.tmp 167)=.slice (some ⟨W.heap.size,0,none⟩) 1 1:=g.2.1 rfl (by decide) (by decide) _ rfl;obtain⟨v',w',g1,g2⟩:=Dt ((W.alloc (.cells #[.pointer (some ⟨cb d,0,none⟩)] 164)).drew) 160 base (.slice l f p) f (kV cb (ax s2.c.wt ky)) az.o (some ⟨W.heap.size,0,none⟩) 1 1 _ ay.o (by omega) aA.o;show bn _ _ (Zi _ _ _ _ _ _) _ _;simp only[bn,execOp,resolve,invoke,builtin,Sem.run_bind,Sem.run_pure,Result.andThen_ok,Zt,d_,Zl,h1,T,g1,gF];exact g2
 · refine⟨?_,?_,?_,?_,?_,?_,?_,?_,?_,?_,?_,?_,?_,?_,?_,?_,?_,?_,?_,?_,?_,?_,?_,?_,?_,?_,?_,?_,?_,?_,trivial⟩
   all_goals
    intro h1 T s w aF _ g H hp
    first
     |exact absurd rfl h1
     |exact absurd rfl T
     |(obtain⟨aG,aH,-⟩:=H;obtain⟨s1,s2,s3,iK⟩:=aF;(try simp[pG,qn,Zk] at g);simp[bn,execOp,gF,go_sem,aG,aH,g,s1,s2,s3,iK,wn,au,av,hp.1];done)
     |((try simp[pG,qn,Zk] at g);(first|refine va 181 #[.tmp 150] #[3] rfl BF hp ?_|refine va 181 #[.tmp 162] #[3] rfl BF hp ?_);(first|rw[show(#[Operand.tmp 150].map s)= #[.int .i64 (-y)] by simp[g]]|rw[show(#[Operand.tmp 162].map s)= #[.int .i64 (-y)] by simp[g]]);exact(aw.o w).mono λ e w' h=>⟨_,h.1,rfl,h.2.symm⟩)
 intro u v9 di P aT an;obtain⟨A',c',rfl,al,R,f9,S,aI,aJ⟩:=aU.F9 (d:=d) q.o.1 D.o.2.1 ae.o D.o.2.2.2.2.2.2.2.2.1 D.o.2.2.2.2.2.2.2.2.2.1 O P;have aK:=f9 ky;simp[oI,Act.put,k6] at an;subst an;show bn _ _ (Zi _ _ _ _ _ _) _ _;simp[bn,execOp,gF,go_sem,Act.eval,R,aK];go_wp2;apply aE.o
 · exact aI
 · exact q.o.2.trans aJ
theorem Ll{w:World}{c1:Core}{lit:Int}{gY:Nat}{kept:List Nat}{m:Nat}(C:rY G gD c1 s lit ls k0 g0 iQ gY iU)(f:mH K base w G cb F aC s c1 gD aK lit ls k0 i kl kept c2 jU W)(ag:ls[i]? =some d)(hw:w1 c2 d= -lit)(hk:2<=k)(R:k<m)(S:jZ c2 (ai (ax c2.cl d) k)≠-1)(hC:yY base W G jU cb d bu m gL (ax c2.cl d))
  (T:∀(nC ar u8 bx bz bA bB bC bD bE bF bG bL bM bN bO bP bQ u64 bR bS bT bU bV bW bX bY bZ b5 b6 b7 b8 b9 cc cg ck cm cn cp cr dK dL dM dN dO dP dQ dR cL cM cN cO cQ cR cS cT cU cV cW cZ c7 c8 dc de dh dS dU dV dW dX dY dZ ec ee ef ei ej ek en eo ep er eu ew ey ez eA eB eC eD eE eF eG eH eL gi gj gl eM eN eO eP eR eS eT eU eV eW eX eY gm gn gp eZ e3 e4 e5 e6 e7 e8 e9 fc fe ff fh fk fm fo fq fu fA fB fC fD fE fF fG fH fI fJ fK fL fM fN fO fP fQ fR fS gu gv fT fU fV fW fZ ga gb ir iu iw iy iz iA iB iC iD iE iF iG:Value)(c3:Core)(au:Nat->aq)(W':World),mH K base w G cb F aC s c1 gD aK lit ls k0 (i+1) kl kept c3 au W'->Q (.exit 3) ⟨#[.pointer (some ⟨G,0,none⟩),j8,lZ,.int .i64 lit,.slice (some ⟨iQ,0,none⟩) gY iU,.slice (some ⟨iQ,0,none⟩) (kl) iU,nC,ar,u8,kP,gG,gq,dn,gT,gr,gE,u16,dr,dw,dx,gh,dy,dz,dA,dB,dD,dF,dG,dH,cu,cv,cw,u32,cz,cA,cB,cC,cD,cE,cF,cG,cH,cI,cK,dI,dJ,.slice (some ⟨iQ,0,none⟩) gY iU,.int .i64 (gY:Int),.int .i64 (i:Int),bx,bz,bA,bB,bC,bD,bE,bF,bG,bL,bM,bN,bO,bP,bQ,u64,bR,bS,bT,bU,bV,bW,bX,bY,bZ,b5,b6,b7,b8,b9,cc,cg,ck,cm,cn,cp,cr,dK,dL,dM,dN,dO,dP,dQ,dR,cL,cM,cN,cO,cQ,cR,cS,cT,cU,cV,cW,cZ,c7,c8,dc,de,dh,dS,dU,dV,dW,dX,dY,dZ,ec,ee,ef,ei,ej,ek,en,eo,ep,er,eu,ew,ey,ez,eA,eB,eC,eD,eE,eF,eG,eH,eL,gi,gj,gl,eM,eN,eO,eP,eR,eS,eT,eU,eV,eW,eX,eY,gm,gn,gp,eZ,e3,e4,e5,e6,e7,e8,e9,fc,fe,ff,fh,fk,fm,fo,fq,fu,fA,fB,fC,fD,fE,fF,fG,fH,fI,fJ,fK,fL,fM,fN,fO,fP,fQ,fR,fS,gu,gv,fT,fU,fV,fW,fZ,ga,gb,ir,iu,iw,iy,iz,iA,iB,iC,iD,iE,iF,iG,iY,iZ,ja,jb,jc,jd,je,jf],[]⟩ W'):
   ZJ y_ Gd Q ⟨#[.pointer (some ⟨G,0,none⟩),j8,lZ,.int .i64 lit,.slice (some ⟨iQ,0,none⟩) gY iU,.slice (some ⟨iQ,0,none⟩) kl iU,nC,.pointer (some ⟨cb d,0,none⟩),.int .i64 (k:Int),kP,gG,gq,dn,gT,gr,gE,u16,dr,dw,dx,gh,dy,dz,dA,dB,dD,dF,dG,dH,cu,cv,cw,u32,cz,cA,cB,cC,cD,cE,cF,cG,cH,cI,cK,dI,dJ,.slice (some ⟨iQ,0,none⟩) gY iU,.int .i64 (gY:Int),.int .i64 (i:Int),bx,bz,bA,bB,bC,bD,bE,bF,bG,bL,bM,bN,bO,bP,bQ,u64,bR,bS,bT,bU,bV,bW,bX,bY,bZ,b5,b6,b7,b8,b9,cc,cg,ck,cm,cn,cp,cr,dK,dL,dM,dN,dO,dP,dQ,dR,cL,cM,cN,cO,cQ,cR,cS,cT,cU,cV,cW,cZ,c7,c8,dc,de,dh,dS,dU,dV,dW,dX,dY,dZ,ec,ee,ef,ei,ej,ek,en,eo,ep,er,eu,ew,ey,ez,eA,eB,eC,eD,eE,eF,eG,eH,eL,gi,gj,gl,eM,eN,eO,eP,eR,eS,eT,eU,eV,eW,eX,eY,gm,gn,gp,eZ,e3,e4,e5,e6,e7,e8,e9,fc,fe,ff,fh,fk,fm,fo,fq,fu,fA,fB,fC,fD,fE,fF,fG,fH,fI,fJ,fK,fL,fM,fN,fO,fP,fQ,fR,fS,gu,gv,fT,fU,fV,fW,fZ,ga,gb,ir,iu,iw,iy,iz,iA,iB,iC,iD,iE,iF,iG,iY,iZ,ja,jb,jc,jd,je,jf],[]⟩ W:=by
 have hm:=hC.len;have aw:=f.m C ag;have B:=f.rB ag;have ay:2<=m:=by omega
 have V:=hC.cap;have H:ai (ax c2.cl d) 1= -lit:=hw;obtain⟨y,q⟩:∃y,ai (ax c2.cl d) k=y:=⟨_,rfl⟩
 have I:gU s.c.n y:=by rw[<-q];exact f.ok C ag (by omega)
 have aT: -60000<=lit/\lit<=60000:=by have:=C.ok.2;have:=C.ak;unfold aH at*;omega
 have X: -60000<=y/\y<=60000:=by have:=I.2;have:=C.ak;unfold aH at*;omega
 obtain⟨ky,z⟩:∃k:Nat,jD (-y)=k:=⟨_,rfl⟩
 have Y:ky<2*s.c.n+2:=by rw[<-z];exact I.neg.at
 have Z:i<ls.length:=(x_.1 ag).1;have A:ls[i]=d:=(x_.1 ag).2;have r:=f.nX.move Z (by rw[A];exact hw) hk (by rw[A];omega) (by rw[A];exact S);rw[A,q,z,C.kB] at r;have aa:=hC.ag;have a1:=hC.kB 1 (by omega);rw[H] at a1;have J:=hC.kB k R;rw[q] at J;have f1:=hC.uW 1;have az:=hC.uW k;have ab:=hC.ne;have aV:=hC.ne.symm;have ad:(k:Int)<(m:Int):=by omega
 have aA:(1:Int)<(m:Int):=by omega
 have ae:¬1=k:=by omega
 have aB:¬k=1:=by omega
 have af:=f.gz.Ga (d:=d) (bu:=bu) (i:=1) (j:=k) hC.b B.1 (x:= -lit) (y:=y) H q;have aE:(ku c2 k0 (kept++ls.drop kl)).cl=c2.cl:=rfl;have L:ax (lN (ku c2 k0 (kept++ls.drop kl)) d (kL (ax c2.cl d) 1 k)).wt ky=ax c2.wt ky:=by
   show ax (c2.wt.set k0 _) ky=_;rw[qE,if_neg (λ h=>r.2 h.1.symm)]
 have ah:(ax c2.wt ky).length<=1000000:=by have h1:=f.nX.gK.wt.nW ky;have p:=f.KN C;omega
 have key:∀(A':Option Addr)(M c':Nat)(l W':World),aD K W l->aU K base W' G (iH jU (ij ky) ⟨A',M,c'⟩) cb ((({s with c:=ku c2 k0 (kept++ls.drop kl)}:aj).sQ d (kL (ax c2.cl d) 1 k)).pZ ky (ax ((({s with c:=ku c2 k0 (kept++ls.drop kl)}:aj).sQ d (kL (ax c2.cl d) 1 k)).c.wt) ky++[d]))->aD K l W'->
    mH K base w G cb F aC s c1 gD aK lit ls k0 (i+1) kl kept (se c2 d k (kept++ls.drop (i+1))) (iH jU (ij ky) ⟨A',M,c'⟩) W':=λ A' M c' l W' aF E aG=>by
   refine⟨r.1,f.tB,?_,(aX _ _ (by have:=r.2;unfold ij;omega)).trans f.hw,(aX _ _ (by unfold ij;omega)).trans f.av,f.iP.trans (aF.trans aG)⟩;rw[KB (k0:=k0) (ky:=ky) (by rw[hw,Int.neg_neg];exact C.kB) (by rw[q];exact z) r.2,<-L];exact E
 have al:ai (kL (ax c2.cl d) 1 k) 1=y:=by
   unfold kL;rw[o7,if_neg (by omega),o7,if_pos ⟨rfl,by omega⟩,q]
 have N:ax (lN (ku c2 k0 (kept++ls.drop kl)) d (kL (ax c2.cl d) 1 k)).cl d=kL (ax c2.cl d) 1 k:=by
   show ax (c2.cl.set d _) d=_;rw[qE,if_pos ⟨rfl,B.1⟩]
 have aI:bI (∀l:World,aU K base l G jU cb (({s with c:=ku c2 k0 (kept++ls.drop kl)}:aj).sQ d (kL (ax c2.cl d) 1 k))->l.cell? ⟨bu,1,none⟩=some (.int .i64 y)):=U (λ l O=>by
   have h1:=O.e.xZ hC.b (k:=1) (by show 1<(ax (lN (ku c2 k0 (kept++ls.drop kl)) d (kL (ax c2.cl d) 1 k)).cl d).length;rw[N];simp[kL];omega);have p:ai (ax (({s with c:=ku c2 k0 (kept++ls.drop kl)}:aj).sQ d (kL (ax c2.cl d) 1 k)).c.cl d) 1=y:=by
    show ai (ax (lN (ku c2 k0 (kept++ls.drop kl)) d (kL (ax c2.cl d) 1 k)).cl d) 1=y;rw[N];exact al
   rw[p] at h1;exact h1)
 have aJ:=U (λ(l:World)(O:aU K base l G jU cb (({s with c:=ku c2 k0 (kept++ls.drop kl)}:aj).sQ d (kL (ax c2.cl d) 1 k)))=>z_ O (z_ (f.bp C) (z_ ((show(lN (ku c2 k0 (kept++ls.drop kl)) d (kL (ax c2.cl d) 1 k)).wt.length=_ from f.raw C)) (z_ Y (z_ z (z_ X (z_ (show d<(lN (ku c2 k0 (kept++ls.drop kl)) d (kL (ax c2.cl d) 1 k)).cl.length by rw[rj];exact B.1) (z_ hC.b (z_ ay (z_ V (show(ax (lN (ku c2 k0 (kept++ls.drop kl)) d (kL (ax c2.cl d) 1 k)).wt ky).length<=1000000 by rw[L];exact ah)))))))))));have aL:=U key;have D:=U af;have aM:=U T;clear T af key al N ah L aE r C f ag hw hk R S hm aw B V H q I X hC z Y Z A;obtain⟨x,an⟩:∃x,-lit=x:=⟨_,rfl⟩
 rw[an] at a1;rw[an] at D
 conv=>arg 2;whnf
 go_wp2_with fail
 rename_i aW aN;refine Ai (DD Tryz.f145 17) 25 23 24 224 [some 116,some 117,some 118,some 119,some 120,some 121,some 122,some 123,some 124,some 125,some 126,some 127,some 128,some 129,some 130,some 131,some 132,some 133,some 134,some 135,some 136,some 137,some 138,none,some 139,none] _ [(7,.pointer (some ⟨(cb d),0,none⟩)),(8,.int .i64 (k:Int))] (λ _=>True) [.pointer (some ⟨(cb d),0,none⟩),.pointer (some ⟨(cb d),0,none⟩),.pointer (some ⟨(cb d),0,none⟩),.slice (some ⟨bu,0,none⟩) m gL,.pointer (some ⟨(cb d),0,none⟩),.pointer (some ⟨(cb d),0,none⟩),.pointer (some ⟨(cb d),0,none⟩),.slice (some ⟨bu,0,none⟩) m gL,.int .i64 (k:Int),.pointer (some ⟨(cb d),0,none⟩),.pointer (some ⟨(cb d),0,none⟩),.pointer (some ⟨(cb d),0,none⟩),.slice (some ⟨bu,0,none⟩) m gL,.int .i64 (k:Int),.pointer (some ⟨bu,k,none⟩),.int .i64 y,.pointer (some ⟨(cb d),0,none⟩),.pointer (some ⟨(cb d),0,none⟩),.pointer (some ⟨(cb d),0,none⟩),.slice (some ⟨bu,0,none⟩) m gL,.pointer (some ⟨bu,1,none⟩),.int .i64 x,.pointer (some ⟨bu,1,none⟩),undef,undef] (W.drew.setCell ⟨bu,1,none⟩ (.int .i64 y)) (λ v w'=>v=.pointer (some ⟨bu,k,none⟩)/\w'=(W.drew.setCell ⟨bu,1,none⟩ (.int .i64 y))) (by kernel_rfl) (by kernel_rfl) (by kernel_rfl) rfl (by kernel_rfl) (by kernel_rfl) rfl ⟨rfl,rfl,trivial⟩ trivial trivial (λ _ _ _=>trivial) (λ t ag P hp=>?_) (λ t ag P hp=>?_) ?_ ?_
 · have h1:t (.tmp 138)=.pointer (some ⟨bu,1,none⟩):=ag.1 rfl (by decide) (by decide) _ rfl;have p:t (.tmp 131)=.int .i64 y:=ag.2.1 rfl (by decide) (by decide) _ rfl;show bn _ _ (Zi _ _ _ _ _ _) _ _;simp[bn,execOp,gF,go_sem,h1,p,a1,f1]
 · have h1:t (.tmp 123)=.slice (some ⟨bu,0,none⟩) m gL:=ag.1 rfl (by decide) (by decide) _ rfl;have p:t (.tmp 124)=.int .i64 (k:Int):=ag.2.1 rfl (by decide) (by decide) _ rfl;show bn _ _ (Zi _ _ _ _ _ _) _ _;simp[bn,execOp,gF,go_sem,h1,p,ad]
 · refine⟨?_,?_,?_,?_,?_,?_,?_,?_,?_,?_,?_,?_,?_,?_,?_,?_,?_,?_,?_,?_,?_,?_,?_,?_,?_,trivial⟩
   all_goals
    intro h1 p t w _ aO ag P hp
    first
     |exact absurd rfl h1
     |exact absurd rfl p
     |(obtain⟨aP,aQ,-⟩:=P;(try obtain rfl:=aO rfl);(try simp[pG,qn,Zk] at ag);simp[bn,execOp,gF,go_sem,aP,aQ,ag,aa,a1,J,ad,aA,hp.1];done)
 rintro u v w' ⟨rfl,rfl⟩ aY ao;simp[oI,Act.put,k6] at ao;subst ao;show bn _ _ (Zi _ _ _ _ _ _) _ _;have aZ:¬(1=k):=ae;simp[bn,execOp,gF,go_sem,Act.eval,J,az,ae,aB]
 iterate 1
   have g:=aJ.o _ D.o.1;have c0:(((W.setCell ⟨bu,1,none⟩ (.int .i64 y)).setCell ⟨bu,k,none⟩ (.int .i64 x)).drew).cell? ⟨cb d,0,none⟩=some (.slice (some ⟨bu,0,none⟩) m gL):=by
    show((W.setCell ⟨bu,1,none⟩ (.int .i64 y)).setCell ⟨bu,k,none⟩ (.int .i64 x)).cell? ⟨cb d,0,none⟩=_;rw[ZK _ _ _ _ (by simp[ab]),ZK _ _ _ _ (by simp[ab])];exact aa
   have c1:=aI.o _ D.o.1;refine aN _ _ ?_;refine run_move g.1 g.2.1 g.2.2.1 g.2.2.2.1 g.2.2.2.2.1 g.2.2.2.2.2.1 g.2.2.2.2.2.2.1 g.2.2.2.2.2.2.2.1 c0 g.2.2.2.2.2.2.2.2.1 g.2.2.2.2.2.2.2.2.2.1 c1 g.2.2.2.2.2.2.2.2.2.2 ?_
   intros
   rename_i aR aS;apply aM.o;exact aL.o _ _ _ _ _ D.o.2 aR aS
theorem mH.is{w:World}{c1:Core}{lit:Int}{gY:Nat}{kept:List Nat}(b:mH K base w G cb F aC s c1 gD aK lit ls k0 i kl kept c2 jU W)(C:rY G gD c1 s lit ls k0 g0 iQ gY iU){y z:Int}(d:gU s.c.n y)(f:jZ c2 y=z):Calls y_ 152 #[.pointer (some ⟨G,0,none⟩),.int .i64 y] W λ e w'=>e=.returned (.int .i8 z)/\w'=W:=by
 have e:(ku c2 k0 (kept++ls.drop kl)).n=s.c.n:=b.mb C;have:=BI b.gz (DJ b.nX.gK.aL) (show(ku c2 k0 (kept++ls.drop kl)).n<=60000 by rw[e];exact C.ak) (x:=y) (by show gU (ku c2 k0 (kept++ls.drop kl)).n y;rw[e];exact d);rw[show jZ (({s with c:=ku c2 k0 (kept++ls.drop kl)}:aj).c) y=z from f] at this;exact this.mono λ e w' h=>⟨h.1,h.2.symm⟩
theorem Lm{w:World}{c1:Core}{lit:Int}{gY:Nat}{kept:List Nat}{m:Nat}(C:rY G gD c1 s lit ls k0 g0 iQ gY iU)(l:mH K base w G cb F aC s c1 gD aK lit ls k0 i kl kept c2 jU W)(ag:ls[i]? =some d)(hw:w1 c2 d= -lit)(hC:yY base W G jU cb d bu m gL (ax c2.cl d))
  (E:∀(V X u8 bx bz bA bB bC bD bE bF bG bL bM bN bO bP bQ u64 bR bS bT bU bV bW bX bY bZ b5 b6 b7 b8 b9 cc cg ck cm cn cp cr dK dL dM dN dO dP dQ dR cL cM cN cO cQ cR cS cT cU cV cW cZ c7 c8 dc de dh dS dU dV dW dX dY dZ ec ee ef ei ej ek en eo ep er eu ew ey ez eA eB eC eD eE eF eG eH eL gi gj gl eM eN eO eP eR eS eT eU eV eW eX eY gm gn gp eZ e3 e4 e5 e6 e7 e8 e9 fc fe ff fh fk fm fo fq fu fA fB fC fD fE fF fG fH fI fJ fK fL fM fN fO fP fQ fR fS gu gv fT fU fV fW fZ ga gb ir iu iw iy iz iA iB iC iD iE iF iG:Value)(c3:Core)(Y:Nat->aq)(W':World),mH K base w G cb F aC s c1 gD aK lit ls k0 (i+1) kl kept c3 Y W'->Q (.exit 3) ⟨#[.pointer (some ⟨G,0,none⟩),j8,lZ,.int .i64 lit,.slice (some ⟨iQ,0,none⟩) gY iU,.slice (some ⟨iQ,0,none⟩) (kl) iU,V,X,u8,kP,gG,gq,dn,gT,gr,gE,u16,dr,dw,dx,gh,dy,dz,dA,dB,dD,dF,dG,dH,cu,cv,cw,u32,cz,cA,cB,cC,cD,cE,cF,cG,cH,cI,cK,dI,dJ,.slice (some ⟨iQ,0,none⟩) gY iU,.int .i64 (gY:Int),.int .i64 (i:Int),bx,bz,bA,bB,bC,bD,bE,bF,bG,bL,bM,bN,bO,bP,bQ,u64,bR,bS,bT,bU,bV,bW,bX,bY,bZ,b5,b6,b7,b8,b9,cc,cg,ck,cm,cn,cp,cr,dK,dL,dM,dN,dO,dP,dQ,dR,cL,cM,cN,cO,cQ,cR,cS,cT,cU,cV,cW,cZ,c7,c8,dc,de,dh,dS,dU,dV,dW,dX,dY,dZ,ec,ee,ef,ei,ej,ek,en,eo,ep,er,eu,ew,ey,ez,eA,eB,eC,eD,eE,eF,eG,eH,eL,gi,gj,gl,eM,eN,eO,eP,eR,eS,eT,eU,eV,eW,eX,eY,gm,gn,gp,eZ,e3,e4,e5,e6,e7,e8,e9,fc,fe,ff,fh,fk,fm,fo,fq,fu,fA,fB,fC,fD,fE,fF,fG,fH,fI,fJ,fK,fL,fM,fN,fO,fP,fQ,fR,fS,gu,gv,fT,fU,fV,fW,fZ,ga,gb,ir,iu,iw,iy,iz,iA,iB,iC,iD,iE,iF,iG,iY,iZ,ja,jb,jc,jd,je,jf],[]⟩ W')
  (H:∀(u8 bx bz bA bB bC bD bE bF bG bL bM bN bO bP bQ u64 bR bS bT bU bV bW bX bY bZ b5 b6 b7 b8 b9 cc cg ck cm cn cp cr dK dL dM dN dO dP dQ dR cL cM cN cO cQ cR cS cT cU cV cW cZ c7 c8 dc de dh dS dU dV dW dX dY dZ ec ee ef ei ej ek en eo ep er eu ew ey ez eA eB eC eD eE eF eG eH eL gi gj gl eM eN eO eP eR eS eT eU eV eW eX eY gm gn gp eZ e3 e4 e5 e6 e7 e8 e9 fc fe ff fh fk fm fo fq fu fA fB fC fD fE fF fG fH fI fJ fK fL fM fN fO fP fQ fR fS gu gv fT fU fV fW fZ ga gb ir iu iw iy iz iA iB iC iD iE iF iG:Value),(∀k,2<=k->k<(ax c2.cl d).length->jZ c2 (ai (ax c2.cl d) k)= -1)->Q (.exit 4) ⟨#[.pointer (some ⟨G,0,none⟩),j8,lZ,.int .i64 lit,.slice (some ⟨iQ,0,none⟩) gY iU,.slice (some ⟨iQ,0,none⟩) (kl) iU,.int .i64 (i:Int),.pointer (some ⟨cb d,0,none⟩),u8,kP,gG,gq,dn,gT,gr,gE,u16,dr,dw,dx,gh,dy,dz,dA,dB,dD,dF,dG,dH,cu,cv,cw,u32,cz,cA,cB,cC,cD,cE,cF,cG,cH,cI,cK,dI,dJ,.slice (some ⟨iQ,0,none⟩) gY iU,.int .i64 (gY:Int),.int .i64 (i:Int),bx,bz,bA,bB,bC,bD,bE,bF,bG,bL,bM,bN,bO,bP,bQ,u64,bR,bS,bT,bU,bV,bW,bX,bY,bZ,b5,b6,b7,b8,b9,cc,cg,ck,cm,cn,cp,cr,dK,dL,dM,dN,dO,dP,dQ,dR,cL,cM,cN,cO,cQ,cR,cS,cT,cU,cV,cW,cZ,c7,c8,dc,de,dh,dS,dU,dV,dW,dX,dY,dZ,ec,ee,ef,ei,ej,ek,en,eo,ep,er,eu,ew,ey,ez,eA,eB,eC,eD,eE,eF,eG,eH,eL,gi,gj,gl,eM,eN,eO,eP,eR,eS,eT,eU,eV,eW,eX,eY,gm,gn,gp,eZ,e3,e4,e5,e6,e7,e8,e9,fc,fe,ff,fh,fk,fm,fo,fq,fu,fA,fB,fC,fD,fE,fF,fG,fH,fI,fJ,fK,fL,fM,fN,fO,fP,fQ,fR,fS,gu,gv,fT,fU,fV,fW,fZ,ga,gb,ir,iu,iw,iy,iz,iA,iB,iC,iD,iE,iF,iG,iY,iZ,ja,jb,jc,jd,je,jf],[]⟩ W):
   ZJ y_ (.loop KM) Q ⟨#[.pointer (some ⟨G,0,none⟩),j8,lZ,.int .i64 lit,.slice (some ⟨iQ,0,none⟩) gY iU,.slice (some ⟨iQ,0,none⟩) kl iU,.int .i64 (i:Int),.pointer (some ⟨cb d,0,none⟩),.int .i64 (2:Int),kP,gG,gq,dn,gT,gr,gE,u16,dr,dw,dx,gh,dy,dz,dA,dB,dD,dF,dG,dH,cu,cv,cw,u32,cz,cA,cB,cC,cD,cE,cF,cG,cH,cI,cK,dI,dJ,.slice (some ⟨iQ,0,none⟩) gY iU,.int .i64 (gY:Int),.int .i64 (i:Int),bx,bz,bA,bB,bC,bD,bE,bF,bG,bL,bM,bN,bO,bP,bQ,u64,bR,bS,bT,bU,bV,bW,bX,bY,bZ,b5,b6,b7,b8,b9,cc,cg,ck,cm,cn,cp,cr,dK,dL,dM,dN,dO,dP,dQ,dR,cL,cM,cN,cO,cQ,cR,cS,cT,cU,cV,cW,cZ,c7,c8,dc,de,dh,dS,dU,dV,dW,dX,dY,dZ,ec,ee,ef,ei,ej,ek,en,eo,ep,er,eu,ew,ey,ez,eA,eB,eC,eD,eE,eF,eG,eH,eL,gi,gj,gl,eM,eN,eO,eP,eR,eS,eT,eU,eV,eW,eX,eY,gm,gn,gp,eZ,e3,e4,e5,e6,e7,e8,e9,fc,fe,ff,fh,fk,fm,fo,fq,fu,fA,fB,fC,fD,fE,fF,fG,fH,fI,fJ,fK,fL,fM,fN,fO,fP,fQ,fR,fS,gu,gv,fT,fU,fV,fW,fZ,ga,gb,ir,iu,iw,iy,iz,iA,iB,iC,iD,iE,iF,iG,iY,iZ,ja,jb,jc,jd,je,jf],[]⟩ W:=by
 have hm:=hC.len;have I:=l.m C ag;have J:=l.rB ag;have L:2<=m:=by omega
 have M:=hC.cap;have al:=hC.ag;have p:=U (z_ hm (z_ I (z_ J (z_ L M))));have M:(m:Int)<=(gL:Int):=by omega
 have qH:=U C;have q:=U l;have u:=U (z_ ag hw);have N:=U hC;have Z:=U E;have aa:=U H;clear C l ag hw hC E H hm I J L
 conv=>arg 2;arg 1;whnf
 conv=>arg 4;zeta
 go_loopw [8] (λ v ab=>ab=W/\∃k:Nat,v=.int .i64 k/\2<=k/\k<=m/\∀j,2<=j->j<k->jZ c2 (ai (ax c2.cl d) j)= -1) (λ v _=>m-(intOf v).toNat)
 case atStart=>exact⟨rfl,2,rfl,e_ _,p.o.2.2.2.1,λ j h1 A=>absurd A (by omega)⟩
 case round=>
   obtain⟨rfl,k,rfl,O,P,hk⟩:=hrel;have r:=U (z_ O (z_ P hk));clear O P hk
   by_cases b:k<m
   ·have B:(k:Int)<(m:Int):=by omega
    have an:(0:Int)<=(k:Int):=by omega
    have ad:decide ((k:Int)<(m:Int))=true:=decide_eq_true B;have ao:n_.wrap ((k:Int)+1)=(k:Int)+1:=by rw[j_];have:=p.o;omega
    obtain⟨y,t⟩:∃y,ai (ax c2.cl d) k=y:=⟨_,rfl⟩
    have ae:=N.o.kB k b;rw[t] at ae;have R:gU s.c.n y:=by rw[<-t];exact q.o.ok qH.o u.o.1 (by have:=p.o;omega)
    obtain⟨z,D⟩:∃z,jZ c2 y=z:=⟨_,rfl⟩
    have S:=U (q.o.is qH.o R D);have f:=U b;have g:=U (z_ t D);clear b t D R
    by_cases T:z= -1
    ·subst T
     go_wp2_with (go_at_call 152;refine S.o.mono ?_;rintro e af ⟨rfl,rfl⟩)
     go_roundw
     case rel=>exact⟨by trivial,k+1,by go_num,by have:=r.o;omega,by have:=f.o;omega,λ j h1 A=>by
      rcases Zj j k with h|h
      ·exact r.o.2.2 j h1 h
      ·obtain rfl:j=k:=by omega
       rw[g.o.1];exact g.o.2⟩
     case measure=>have:=f.o;simp[intOf];omega
    ·have ah:(0:Int)<=z:=by have:=g.o.2;have ar:=q.o.nX.gK.aL.range y;omega
     have au:decide (0<=z)=true:=decide_eq_true ah
     go_upto_if 115 with(go_at_call 152;refine S.o.mono ?_;rintro e af ⟨rfl,rfl⟩)
     refine wp_cond_true rfl ?_;refine Ll qH.o q.o u.o.1 u.o.2 r.o.1 f.o (by rw[g.o.1,g.o.2];exact T) N.o ?_
     intros
     rename_i ak;apply Z.o;exact ak
   ·have B:¬(k:Int)<(m:Int):=by omega
    have ad:decide ((k:Int)<(m:Int))=false:=decide_eq_false B;have f:=U b;clear b
    go_wp2_with fail
    apply aa.o;intro j h1 A;exact r.o.2.2 j h1 (by have:=p.o;have:=f.o;omega)
theorem mH.app{w:World}{c1:Core}{lit:Int}{gY:Nat}{kept:List Nat}(b:mH K base w G cb F aC s c1 gD aK lit ls k0 i kl kept c2 jU W)(C:rY G gD c1 s lit ls k0 g0 iQ gY iU)(m:ls[i]? =some d):
  rD (W.alloc (.cells #[.pointer (some ⟨cb d,0,none⟩)] 164)) (some ⟨W.heap.size,0,none⟩) 1 1 [.pointer (some ⟨cb d,0,none⟩)]/\kl+1<=iU/\(∀j,j<1->((W.alloc (.cells #[.pointer (some ⟨cb d,0,none⟩)] 164)).cell? ⟨iQ,kl+j,none⟩).isSome=true)/\(∀j,(W.alloc (.cells #[.pointer (some ⟨cb d,0,none⟩)] 164)).frozen? ⟨iQ,j,none⟩=false)/\
  aU K base ((W.alloc (.cells #[.pointer (some ⟨cb d,0,none⟩)] 164)).setCells iQ kl [.pointer (some ⟨cb d,0,none⟩)]) G jU cb {s with c:=ku c2 k0 ((kept++[d])++ls.drop (kl+1))}/\aD K W ((W.alloc (.cells #[.pointer (some ⟨cb d,0,none⟩)] 164)).setCells iQ kl [.pointer (some ⟨cb d,0,none⟩)]):=by
 have o:i<ls.length:=(x_.1 m).1;have p:=b.BL;have q:=C.len;have r:=C.cap;have f:=b.gz.below (bK W (.cells #[.pointer (some ⟨cb d,0,none⟩)] 164));have hk:k0<c2.wt.length:=by rw[b.vf C];exact C.hk
 have g:ax (ku c2 k0 (kept++ls.drop kl)).wt k0=kept++ls.drop kl:=by show ax (c2.wt.set k0 _) k0=_;rw[qE,if_pos ⟨rfl,hk⟩]
 have hlen:(kept++ls.drop kl).length=ls.length:=by rw[w_,b.tB,Zd];omega
 have l:=f.1.DF [d] (b.lM C) (k:=k0) (by show k0<(ku c2 k0 (kept++ls.drop kl)).wt.length;rw[b.raw C];exact C.hk) kl;refine⟨rD.one (by go_simp),by omega,λ j t=>?_,λ j=>f.1.e.rows.free (b.lM C) j,?_,f.2.trans l.2⟩
 ·obtain rfl:j=0:=by omega
  have n:kl<(kept++ls.drop kl).length:=by omega
  rw[Nat.add_zero,f.1.DI (b.lM C) (j:=kl) (d:=(kept++ls.drop kl)[kl]) (by
   show(ax (ku c2 k0 (kept++ls.drop kl)).wt k0)[kl]? =_;rw[g];exact m_ n)]
  rfl
 ·have h1:=l.1;have e:(({s with c:=ku c2 k0 (kept++ls.drop kl)}:aj).pZ k0 (tw (ax (({s with c:=ku c2 k0 (kept++ls.drop kl)}:aj).c.wt) k0) kl [d]))={s with c:=ku c2 k0 ((kept++[d])++ls.drop (kl+1))}:=by
   show({s with c:=ku (ku c2 k0 (kept++ls.drop kl)) k0 (tw (ax (ku c2 k0 (kept++ls.drop kl)).wt k0) kl [d])}:aj)=_;rw[g,DG];show({s with c:=ku c2 k0 ((kept++ls.drop kl).set kl d)}:aj)=_;rw[KE b.tB (by omega)]
  rw[e] at h1;exact h1
theorem mH.rest{w:World}{c1:Core}{lit:Int}{gY:Nat}{kept:List Nat}(f:mH K base w G cb F aC s c1 gD aK lit ls k0 i kl kept c2 jU W)(C:rY G gD c1 s lit ls k0 g0 iQ gY iU)(n:ls[i]? =some d){jI:World}(g:aU K base jI G jU cb {s with c:=ku c2 k0 ((kept++[d])++ls.drop (kl+1))}):
  (∃off,(if iU=i+1 then some (⟨iQ,0,none⟩:Addr) else some ⟨iQ,i+1,none⟩)=some ⟨iQ,off,none⟩/\∀c,rD jI (some ⟨iQ,off,none⟩) (gY-(i+1)) c (kV cb (ls.drop (i+1))))/\kl+1+(gY-(i+1))<=iU/\(∀j,j<gY-(i+1)->(jI.cell? ⟨iQ,kl+1+j,none⟩).isSome=true)/\(∀j,jI.frozen? ⟨iQ,j,none⟩=false)/\
  ∃m:List Nat,m.take (kl+1+(gY-(i+1)))=ax c2.wt k0/\kl+1+(gY-(i+1))<=m.length/\aU K base (jI.setCells iQ (kl+1) (kV cb (ls.drop (i+1)))) G jU cb {s with c:=ku c2 k0 m}/\aD K jI (jI.setCells iQ (kl+1) (kV cb (ls.drop (i+1)))):=by
 have z:i<ls.length:=(x_.1 n).1;have A:ls[i]=d:=(x_.1 n).2;have N:=f.BL;have B:=C.len;have O:=C.cap;have hk:k0<c2.wt.length:=by rw[f.vf C];exact C.hk
 obtain⟨b,l⟩:∃r,(kept++[d])++ls.drop (kl+1)=r:=⟨_,rfl⟩
 rw[l] at g;have hlen:b.length=ls.length:=by rw[<-l];simp only[w_,h_,Zd,f.tB];omega
 have o:ax (ku c2 k0 b).wt k0=b:=by show ax (c2.wt.set k0 _) k0=_;rw[qE,if_pos ⟨rfl,hk⟩]
 have D:∀j,kl+1<=j->b[j]? =ls[j]? :=λ j E=>by
  have h1:(kept++[d]).length=kl+1:=by rw[w_,f.tB];rfl
  rw[<-l,ZQ (by omega),h1,ZS]
  congr 1;omega
 have p:∀j e,b[j]? =some e->jI.cell? ⟨iQ,j,none⟩=some (.pointer (some ⟨cb e,0,none⟩)):=λ j e h=>g.DI (f.lM C) (by
  show(ax (ku c2 k0 b).wt k0)[j]? =_;rw[o];exact h)
 have q:=g.DF (ls.drop (i+1)) (f.lM C) (k:=k0) (by show k0<(ku c2 k0 b).wt.length;show k0<(c2.wt.set _ _).length;rw[Z4];exact hk) (kl+1);have t:∀off c,(0<gY-(i+1)->off=i+1)->rD jI (some ⟨iQ,off,none⟩) (gY-(i+1)) c (kV cb (ls.drop (i+1))):=λ off c H=>by
  refine⟨by simp[kV];omega,λ I=>⟨iQ,off,rfl,λ j u hu=>?_⟩,λ u hu=>?_⟩
  ·simp only[kV,ZO,ZS,Option.map_eq_some_iff] at hu;obtain⟨e,he,rfl⟩:=hu;rw[H I];exact p (i+1+j) e (by rw[D _ (by omega)];exact he)
  ·simp only[kV,Z5] at hu;obtain⟨e,_,rfl⟩:=hu;exact⟨_,rfl⟩
 refine⟨?_,by omega,λ j E=>?_,λ j=>g.e.rows.free (f.lM C) j,tw b (kl+1) (ls.drop (i+1)),?_,by rw[F4,hlen];omega,?_,q.2⟩
 ·by_cases v:iU=i+1
  ·exact⟨0,by rw[if_pos v],λ c=>t _ _ (by omega)⟩
  ·exact⟨i+1,by rw[if_neg v],λ c=>t _ _ (by omega)⟩
 ·have J:kl+1+j<b.length:=by omega
  rw[p (kl+1+j) b[kl+1+j] (m_ J)];rfl
 ·have L:kl+1+(gY-(i+1))=kl+1+(ls.drop (i+1)).length:=by rw[Zd,B]
  have M:b.take (kl+1)=kept++[d]:=by
   rw[<-l,Z6 (by rw[w_,f.tB];rfl)]
  have y:=f.nX.wt;rw[C.kB,List.drop_eq_getElem_cons z,A] at y;rw[L,F5 _ _ _ (by rw[Zd];omega),M,y,List.append_assoc];rfl
 ·have h1:=q.1;have e:(({s with c:=ku c2 k0 b}:aj).pZ k0 (tw (ax (({s with c:=ku c2 k0 b}:aj).c.wt) k0) (kl+1) (ls.drop (i+1))))={s with c:=ku c2 k0 (tw b (kl+1) (ls.drop (i+1)))}:=by
   show({s with c:=ku (ku c2 k0 b) k0 (tw (ax (ku c2 k0 b).wt k0) (kl+1) (ls.drop (i+1)))}:aj)=_;rw[o,DG]
  rw[e] at h1;exact h1
theorem Lo{w:World}{c1:Core}{lit:Int}{gY:Nat}{kept:List Nat}(C:rY G gD c1 s lit ls k0 g0 iQ gY iU)(l:mH K base w G cb F aC s c1 gD aK lit ls k0 i kl kept c2 jU W)(ag:ls[i]? =some d)(hw:w1 c2 d= -lit)(ay:∀k,2<=k->k<(ax c2.cl d).length->jZ c2 (ai (ax c2.cl d) k)= -1)(P:jZ c2 (w0 c2 d)≠1)
  (az:∀(R S u8 bx bz bA bB bC bD bE bF bG bL bM bN bO bP bQ u64 bR bS bT bU bV bW bX bY bZ b5 b6 b7 b8 b9 cc cg ck cm cn cp cr dK dL dM dN dO dP dQ dR cL cM cN cO cQ cR cS cT cU cV cW cZ c7 c8 dc de dh dS dU dV dW dX dY dZ ec ee ef ei ej ek en eo ep er eu ew ey ez eA eB eC eD eE eF eG eH eL gi gj gl eM eN eO eP eR eS eT eU eV eW eX eY gm gn gp eZ e3 e4 e5 e6 e7 e8 e9 fc fe ff fh fk fm fo fq fu fA fB fC fD fE fF fG fH fI fJ fK fL fM fN fO fP fQ fR fS gu gv fT fU fV fW fZ ga gb ir iu iw iy iz iA iB iC iD iE iF iG:Value)(c3:Core)(T:Nat->aq)(W':World),mH K base w G cb F aC s c1 gD aK lit ls k0 (i+1) (kl+1) (kept++[d]) c3 T W'->Q .normal ⟨#[.pointer (some ⟨G,0,none⟩),j8,lZ,.int .i64 lit,.slice (some ⟨iQ,0,none⟩) gY iU,.slice (some ⟨iQ,0,none⟩) (kl+1) iU,R,S,u8,kP,gG,gq,dn,gT,gr,gE,u16,dr,dw,dx,gh,dy,dz,dA,dB,dD,dF,dG,dH,cu,cv,cw,u32,cz,cA,cB,cC,cD,cE,cF,cG,cH,cI,cK,dI,dJ,.slice (some ⟨iQ,0,none⟩) gY iU,.int .i64 (gY:Int),.int .i64 (i:Int),bx,bz,bA,bB,bC,bD,bE,bF,bG,bL,bM,bN,bO,bP,bQ,u64,bR,bS,bT,bU,bV,bW,bX,bY,bZ,b5,b6,b7,b8,b9,cc,cg,ck,cm,cn,cp,cr,dK,dL,dM,dN,dO,dP,dQ,dR,cL,cM,cN,cO,cQ,cR,cS,cT,cU,cV,cW,cZ,c7,c8,dc,de,dh,dS,dU,dV,dW,dX,dY,dZ,ec,ee,ef,ei,ej,ek,en,eo,ep,er,eu,ew,ey,ez,eA,eB,eC,eD,eE,eF,eG,eH,eL,gi,gj,gl,eM,eN,eO,eP,eR,eS,eT,eU,eV,eW,eX,eY,gm,gn,gp,eZ,e3,e4,e5,e6,e7,e8,e9,fc,fe,ff,fh,fk,fm,fo,fq,fu,fA,fB,fC,fD,fE,fF,fG,fH,fI,fJ,fK,fL,fM,fN,fO,fP,fQ,fR,fS,gu,gv,fT,fU,fV,fW,fZ,ga,gb,ir,iu,iw,iy,iz,iA,iB,iC,iD,iE,iF,iG,iY,iZ,ja,jb,jc,jd,je,jf],[]⟩ W')
  (aA:∀(ba R S u8 bx bz bA bB bC bD bE bF bG bL bM bN bO bP bQ u64 bR bS bT bU bV bW bX bY bZ b5 b6 b7 b8 b9 cc cg ck cm cn cp cr dK dL dM dN dO dP dQ dR cL cM cN cO cQ cR cS cT cU cV cW cZ c7 c8 dc de dh dS dU dV dW dX dY dZ ec ee ef ei ej ek en eo ep er eu ew ey ez eA eB eC eD eE eF eG eH eL gi gj gl eM eN eO eP eR eS eT eU eV eW eX eY gm gn gp eZ e3 e4 e5 e6 e7 e8 e9 fc fe ff fh fk fm fo fq fu fA fB fC fD fE fF fG fH fI fJ fK fL fM fN fO fP fQ fR fS gu gv fT fU fV fW fZ ga gb ir iu iw iy iz iA iB iC iD iE iF iG:Value)(c3:Core)(T:Nat->aq)(W':World),kf F F c3 aK []->nI c3 aC->tU c1 c3->d<c3.cl.length->(∀x∈ax c3.cl d,-x∈c3.au)->aU K base W' G T cb {s with c:=c3}->aD K w W'->Q .ret ⟨#[.pointer (some ⟨G,0,none⟩),j8,.pointer (some ⟨cb d,0,none⟩),.int .i64 lit,.slice (some ⟨iQ,0,none⟩) gY iU,ba,R,S,u8,kP,gG,gq,dn,gT,gr,gE,u16,dr,dw,dx,gh,dy,dz,dA,dB,dD,dF,dG,dH,cu,cv,cw,u32,cz,cA,cB,cC,cD,cE,cF,cG,cH,cI,cK,dI,dJ,.slice (some ⟨iQ,0,none⟩) gY iU,.int .i64 (gY:Int),.int .i64 (i:Int),bx,bz,bA,bB,bC,bD,bE,bF,bG,bL,bM,bN,bO,bP,bQ,u64,bR,bS,bT,bU,bV,bW,bX,bY,bZ,b5,b6,b7,b8,b9,cc,cg,ck,cm,cn,cp,cr,dK,dL,dM,dN,dO,dP,dQ,dR,cL,cM,cN,cO,cQ,cR,cS,cT,cU,cV,cW,cZ,c7,c8,dc,de,dh,dS,dU,dV,dW,dX,dY,dZ,ec,ee,ef,ei,ej,ek,en,eo,ep,er,eu,ew,ey,ez,eA,eB,eC,eD,eE,eF,eG,eH,eL,gi,gj,gl,eM,eN,eO,eP,eR,eS,eT,eU,eV,eW,eX,eY,gm,gn,gp,eZ,e3,e4,e5,e6,e7,e8,e9,fc,fe,ff,fh,fk,fm,fo,fq,fu,fA,fB,fC,fD,fE,fF,fG,fH,fI,fJ,fK,fL,fM,fN,fO,fP,fQ,fR,fS,gu,gv,fT,fU,fV,fW,fZ,ga,gb,ir,iu,iw,iy,iz,iA,iB,iC,iD,iE,iF,iG,iY,iZ,ja,jb,jc,jd,je,jf],[]⟩ W'):
   ZJ y_ KL Q ⟨#[.pointer (some ⟨G,0,none⟩),j8,lZ,.int .i64 lit,.slice (some ⟨iQ,0,none⟩) gY iU,.slice (some ⟨iQ,0,none⟩) kl iU,.int .i64 (i:Int),.pointer (some ⟨cb d,0,none⟩),u8,kP,gG,gq,dn,gT,gr,gE,u16,dr,dw,dx,gh,dy,dz,dA,dB,dD,dF,dG,dH,cu,cv,cw,u32,cz,cA,cB,cC,cD,cE,cF,cG,cH,cI,cK,dI,dJ,.slice (some ⟨iQ,0,none⟩) gY iU,.int .i64 (gY:Int),.int .i64 (i:Int),bx,bz,bA,bB,bC,bD,bE,bF,bG,bL,bM,bN,bO,bP,bQ,u64,bR,bS,bT,bU,bV,bW,bX,bY,bZ,b5,b6,b7,b8,b9,cc,cg,ck,cm,cn,cp,cr,dK,dL,dM,dN,dO,dP,dQ,dR,cL,cM,cN,cO,cQ,cR,cS,cT,cU,cV,cW,cZ,c7,c8,dc,de,dh,dS,dU,dV,dW,dX,dY,dZ,ec,ee,ef,ei,ej,ek,en,eo,ep,er,eu,ew,ey,ez,eA,eB,eC,eD,eE,eF,eG,eH,eL,gi,gj,gl,eM,eN,eO,eP,eR,eS,eT,eU,eV,eW,eX,eY,gm,gn,gp,eZ,e3,e4,e5,e6,e7,e8,e9,fc,fe,ff,fh,fk,fm,fo,fq,fu,fA,fB,fC,fD,fE,fF,fG,fH,fI,fJ,fK,fL,fM,fN,fO,fP,fQ,fR,fS,gu,gv,fT,fU,fV,fW,fZ,ga,gb,ir,iu,iw,iy,iz,iA,iB,iC,iD,iE,iF,iG,iY,iZ,ja,jb,jc,jd,je,jf],[]⟩ W:=by
 have hm:=l.m C ag;have aB:=l.rB ag;have H:i<ls.length:=(x_.1 ag).1;have aE:=l.BL;have p:=U (l.app C ag);have aF:=C.len;have aG:=C.lb;have bo:kl<200000:=by omega
 obtain⟨b,I⟩:∃x,w0 c2 d=x:=⟨_,rfl⟩
 obtain⟨z,J⟩:∃z,jZ c2 b=z:=⟨_,rfl⟩
 have X:gU s.c.n b:=by rw[<-I];exact l.ok C ag (by omega)
 have aI: -60000<=b/\b<=60000:=by have:=X.2;have:=C.ak;unfold aH at*;omega
 have rg:=l.nX.gK.aL.range b;rw[I,J] at P;rw[J] at rg;have D:=U (z_ C (z_ l (z_ ag (z_ hw (z_ ay (z_ hm (z_ aB (z_ H (z_ aE (z_ aF (z_ aG (z_ I (z_ J (z_ X (z_ aI (z_ P rg))))))))))))))));have bb:=U az;have bc:=U aA;clear C l ag hw ay hm aB H aE aF aG I J X aI P rg az aA
 conv=>arg 2;whnf
 conv=>arg 4;zeta
 go_upto_region 20 with(at_builtin;refine DE rfl (.tmp 170) (.tmp 172) rfl iQ kl iU W.heap.size 0 1 1 _ rfl rfl p.o.1 p.o.2.1 p.o.2.2.1 p.o.2.2.2.1 ?_)
 have q:=p.o.2.2.2.2.1;have E:=p.o.2.2.2.2.2;have bq:kl+1<=iU:=p.o.2.1;generalize (W.alloc (.cells #[.pointer (some ⟨cb d,0,none⟩)] 164)).setCells iQ kl [.pointer (some ⟨cb d,0,none⟩)]=y at q E⊢;clear p;obtain⟨bu,m,bd,r⟩:=q.yZ (d:=d) D.o.2.2.2.2.2.2.1.1 (by have:=D.o.2.2.2.2.2.2.1.2;show 1<=(ax c2.cl d).length;omega);have r:yY base y G jU cb d bu m bd (ax c2.cl d):=r;have br:2<=m:=by have:=r.len;have:=D.o.2.2.2.2.2.2.1.2;omega
 have bf:=r.ag;have a0:=r.kB 0 (by omega);rw[show ai (ax c2.cl d) 0=b from D.o.2.2.2.2.2.2.2.2.2.2.2.1] at a0;have bs:(0:Int)<(m:Int):=by omega
 have q:=U q;have E:=U E;have r:=U r;have L:bI ((ku c2 k0 ((kept++[d])++ls.drop (kl+1))).n=s.c.n):=U (D.o.2.1.mb D.o.1);have Y:bI (Calls y_ 152 #[.pointer (some ⟨G,0,none⟩),.int .i64 b] y λ e w'=>e=.returned (.int .i8 z)/\y=w'):=U (by
   have h1:=BI q.o (DJ D.o.2.1.nX.gK.aL) (show(ku c2 k0 ((kept++[d])++ls.drop (kl+1))).n<=60000 by rw[L.o];exact D.o.1.ak) (x:=b) (by show gU (ku c2 k0 ((kept++[d])++ls.drop (kl+1))).n b;rw[L.o];exact D.o.2.2.2.2.2.2.2.2.2.2.2.2.2.1);rw[show jZ (({s with c:=ku c2 k0 ((kept++[d])++ls.drop (kl+1))}:aj).c) b=z from D.o.2.2.2.2.2.2.2.2.2.2.2.2.1] at h1;exact h1)
 by_cases bg:z= -1
 · have Z:z<0:=by omega
   have bh:decide (z<0)=true:=decide_eq_true Z;have aJ:=D.o.2.2.2.2.2.2.2.1;have aM:=D.o.2.2.2.2.2.2.2.2.2.1;have aN:=D.o.2.2.2.2.2.2.2.2.2.2.1;have aO:=D.o.1.cap;have li:(i:Int)+1<=(gY:Int):=by omega
   have lc:(gY:Int)<=(iU:Int):=by omega
   have bt:(0:Int)<=(i:Int)+1:=by omega
   have bw:n_.wrap ((i:Int)+1)=(i:Int)+1:=by rw[j_];omega
   have bH:=U (z_ aJ (z_ aM (z_ aN aO)));clear aJ aM aN aO;obtain⟨⟨off,aP,aQ⟩,aR,aS,aT,bJ,t⟩:=D.o.2.1.rest D.o.1 D.o.2.2.1 q.o;have aV:=U aQ;have aa:=U (z_ aS aT);have t:=U t;have ab:=U aP;clear aQ aS aT aP
   go_upto_region 22 with(first|(go_at_call 152;refine Y.o.mono ?_;rintro e aW ⟨rfl,rfl⟩;dsimp only)|(at_builtin;refine DE rfl (.tmp 183) (.tmp 187) rfl iQ (kl+1) iU iQ off (gY-(i+1)) (iU-(i+1)) _ rfl (congrArg (λ A=>Zf A (gY-(i+1)) (iU-(i+1))) ab.o) (aV.o _) aR aa.o.1 aa.o.2 ?_))
   rw[ab.o];have g:=U t.o.2.2.1;have B:=U (E.o.trans t.o.2.2.2);have ad:=U (z_ t.o.1 t.o.2.1);clear t aV aa ab;obtain⟨ae,af⟩:∃n,kl+1+(gY-(i+1))=n:=⟨_,rfl⟩
   rw[af] at ad aR⊢;have M:=D.o.2.1.bp D.o.1;have ah:=g.o.e.rA 1 M (g.o.e.jw.trans (by show(c2.wt.set _ _).length=2*s.c.n+2;rw[Z4];exact D.o.2.1.vf D.o.1)) rfl;have f0:=g.o.e.rows.free M k0;have aY:bI (k0<c2.wt.length):=U (by rw[D.o.2.1.vf D.o.1];exact D.o.1.hk);have aZ:=D.o.2.1.hw.trans D.o.1.ag;have bK:(k0:Int)<2*(s.c.n:Int)+2:=by have:=D.o.1.hk;omega
   have a6:bI (∀w:World,Calls y_ 181 #[.int .i64 lit] w λ e w'=>e=.returned (.int .i64 (k0:Int))/\w=w'):=U (λ w=>by have:=F8 D.o.1.ok D.o.1.ak w;rw[D.o.1.kB] at this;exact this);have N:=U (z_ M aZ);have b0:=U af;clear M aZ af;obtain⟨al,a7⟩:∃al,kV cb (ls.drop (i+1))=al:=⟨_,rfl⟩
   rw[a7] at g B ah f0⊢;clear a7;obtain⟨u,a8⟩:∃u,World.setCells y iQ (kl+1) al=u:=⟨_,rfl⟩
   rw[a8] at g B ah f0⊢;have an:u.cell? ⟨g0,k0,none⟩=some (.slice (some ⟨iQ,0,none⟩) gY iU):=by have:=g.o.e.xY N.o.1 (k:=k0) (by show k0<(c2.wt.set _ _).length;rw[Z4];exact aY.o);rw[N.o.2] at this;exact this
   clear a8 bf a0 q Y;refine v_ 8 (by kernel_rfl) (by kernel_rfl) ?_;simp only[u_,p_,t_,s_]
   iterate 5 still_step
   still_call ((a6.o _).mono (λ e w' h=>⟨h.1,h.2.symm⟩))
   iterate 2 still_step
   refine i_ ?_;change wpList _ _ _ _ _ u.drew;have f0:u.drew.frozen? ⟨g0,k0,none⟩=false:=f0;have an:u.drew.cell? ⟨g0,k0,none⟩=some (.slice (some ⟨iQ,0,none⟩) gY iU):=an
   go_upto_region 23 with fail
   have f:=BJ (c2:=c2) g.o N.o.1 aY.o N.o.2 ad.o.1 ad.o.2 rfl;have ao:=B.o.trans f.2;have f:=f.1;generalize (u.setCell ⟨g0,k0,none⟩ (.slice (some ⟨iQ,0,none⟩) ae iU)).drew=a' at f ao⊢;clear f0 an ah a6 g B;obtain⟨bj,j6,c4,ar⟩:∃A n c,iH jU (ij k0) ⟨some ⟨iQ,0,none⟩,ae,iU⟩ 4=⟨A,n,c⟩:=⟨_,_,_,rfl⟩
   have bk:j6=c2.au.length:=by have:=f.e.j6;rw[ar] at this;exact this
   have b1:a'.cell? ⟨G,5,none⟩=some (.slice bj j6 c4):=by have:=f.e.kA (k:=5) (v:=(iH jU (ij k0) ⟨some ⟨iQ,0,none⟩,ae,iU⟩ 4).v) rfl;rw[ar] at this;exact this
   have f7:=f.e.free 7;have b2:a'.cell? ⟨G,7,none⟩=some (.int .i64 (c2.ag:Int)):=f.e.kA (k:=7) (v:=.int .i64 (c2.ag:Int)) rfl;have O:=f.Bx j6;have bl:=U (ao.trans O.2);have O:=U O.1;have f:=U f;clear ar ao bk
   go_wp2_with fail
   have j:ls[i]'(D.o.2.2.2.2.2.2.2.1)=d:=(x_.1 D.o.2.2.1).2;have aw:=D.o.2.1.nX.JT D.o.2.2.2.2.2.2.2.1 (by rw[j];exact D.o.2.2.2.1) (by rw[j];exact D.o.2.2.2.2.1) (by rw[j,D.o.2.2.2.2.2.2.2.2.2.2.2.1,D.o.2.2.2.2.2.2.2.2.2.2.2.2.1];exact bg);rw[j] at aw;have lY:=D.o.2.1.nX.sm;apply bc.o (c3:={c2 with ag:=j6});exact aw.1.yW j6;exact D.o.2.1.nX.8.same rfl rfl rfl;exact⟨lY.n,lY.st,lY.len,lY.l9,lY.Bt,lY.au,lY.cls,lY.v0,λ w=>lY.qK w⟩;exact D.o.2.2.2.2.2.2.1.1;exact aw.2;exact O.o;exact D.o.2.1.iP.trans bl.o
 · have z0:bI (z=0):=U (by have:=D.o;omega);have Z:¬z<0:=by have:=z0.o;omega
   have bh:decide (z<0)=false:=decide_eq_false Z;have bn:bI (Calls y_ 156 #[.pointer (some ⟨G,0,none⟩),.int .i64 b,.pointer (some ⟨cb d,0,none⟩)] y λ e w'=>e=.returned (.tuple #[])/\∃h':aq,aU K base w' G (iH jU 4 h') cb {s with c:=k5 (ku c2 k0 ((kept++[d])++ls.drop (kl+1))) b (some d)}/\aD K y w'):=U (by
    have h1:=BH q.o b (some d) (DJ D.o.2.1.nX.gK.aL) (by show gU (ku c2 k0 ((kept++[d])++ls.drop (kl+1))).n b;rw[L.o];exact D.o.2.2.2.2.2.2.2.2.2.2.2.2.2.1) (show(ku c2 k0 ((kept++[d])++ls.drop (kl+1))).n<=60000 by rw[L.o];exact D.o.1.ak) (by show c2.st.length<=1000000;rw[D.o.2.1.nX.sm.st,D.o.1.st];exact D.o.1.jq);exact h1)
   go_wp2_with (first|(go_at_call 152;refine Y.o.mono ?_;rintro e aW ⟨rfl,rfl⟩;dsimp only)|(go_at_call 156;refine bn.o.mono ?_;rintro e aW ⟨rfl,h',g,B⟩;dsimp only))
   apply bb.o;have H:=D.o.2.2.2.2.2.2.2.1;have j:ls[i]=d:=(x_.1 D.o.2.2.1).2;have V:=D.o.2.1.nX.set H (by rw[j];exact D.o.2.2.2.1) (by rw[j];exact D.o.2.2.2.2.1) (by rw[j,D.o.2.2.2.2.2.2.2.2.2.2.2.1,D.o.2.2.2.2.2.2.2.2.2.2.2.2.1];exact z0.o);rw[j,D.o.2.2.2.2.2.2.2.2.2.2.2.1] at V;exact⟨V,by rw[w_,D.o.2.1.tB];rfl,g,(aX _ _ (by unfold ij;omega)).trans D.o.2.1.hw,(aX _ _ (by omega)).trans D.o.2.1.av,D.o.2.1.iP.trans (E.o.trans B)⟩
noncomputable def Lp:Code:=nu (nu Gc)
theorem Gp{w:World}{c1:Core}{lit:Int}{gY:Nat}{kept:List Nat}(C:rY G gD c1 s lit ls k0 g0 iQ gY iU)(b:mH K base w G cb F aC s c1 gD aK lit ls k0 i kl kept c2 jU W)(ag:ls[i]? =some d)(hw:w1 c2 d= -lit)
  (E:∀(k l u8 bx bz bA bB bC bD bE bF bG bL bM bN bO bP bQ u64 bR bS bT bU bV bW bX bY bZ b5 b6 b7 b8 b9 cc cg ck cm cn cp cr dK dL dM dN dO dP dQ dR cL cM cN cO cQ cR cS cT cU cV cW cZ c7 c8 dc de dh dS dU dV dW dX dY dZ ec ee ef ei ej ek en eo ep er eu ew ey ez eA eB eC eD eE eF eG eH eL gi gj gl eM eN eO eP eR eS eT eU eV eW eX eY gm gn gp eZ e3 e4 e5 e6 e7 e8 e9 fc fe ff fh fk fm fo fq fu fA fB fC fD fE fF fG fH fI fJ fK fL fM fN fO fP fQ fR fS gu gv fT fU fV fW fZ ga gb ir iu iw iy iz iA iB iC iD iE iF iG:Value)(H:Nat)(N:List Nat)(c3:Core)(p:Nat->aq)(W':World),mH K base w G cb F aC s c1 gD aK lit ls k0 (i+1) H N c3 p W'->Q (.exit 3) ⟨#[.pointer (some ⟨G,0,none⟩),j8,lZ,.int .i64 lit,.slice (some ⟨iQ,0,none⟩) gY iU,.slice (some ⟨iQ,0,none⟩) (H) iU,k,l,u8,kP,gG,gq,dn,gT,gr,gE,u16,dr,dw,dx,gh,dy,dz,dA,dB,dD,dF,dG,dH,cu,cv,cw,u32,cz,cA,cB,cC,cD,cE,cF,cG,cH,cI,cK,dI,dJ,.slice (some ⟨iQ,0,none⟩) gY iU,.int .i64 (gY:Int),.int .i64 (i:Int),bx,bz,bA,bB,bC,bD,bE,bF,bG,bL,bM,bN,bO,bP,bQ,u64,bR,bS,bT,bU,bV,bW,bX,bY,bZ,b5,b6,b7,b8,b9,cc,cg,ck,cm,cn,cp,cr,dK,dL,dM,dN,dO,dP,dQ,dR,cL,cM,cN,cO,cQ,cR,cS,cT,cU,cV,cW,cZ,c7,c8,dc,de,dh,dS,dU,dV,dW,dX,dY,dZ,ec,ee,ef,ei,ej,ek,en,eo,ep,er,eu,ew,ey,ez,eA,eB,eC,eD,eE,eF,eG,eH,eL,gi,gj,gl,eM,eN,eO,eP,eR,eS,eT,eU,eV,eW,eX,eY,gm,gn,gp,eZ,e3,e4,e5,e6,e7,e8,e9,fc,fe,ff,fh,fk,fm,fo,fq,fu,fA,fB,fC,fD,fE,fF,fG,fH,fI,fJ,fK,fL,fM,fN,fO,fP,fQ,fR,fS,gu,gv,fT,fU,fV,fW,fZ,ga,gb,ir,iu,iw,iy,iz,iA,iB,iC,iD,iE,iF,iG,iY,iZ,ja,jb,jc,jd,je,jf],[]⟩ W')
  (I:∀(k l u8 bx bz bA bB bC bD bE bF bG bL bM bN bO bP bQ u64 bR bS bT bU bV bW bX bY bZ b5 b6 b7 b8 b9 cc cg ck cm cn cp cr dK dL dM dN dO dP dQ dR cL cM cN cO cQ cR cS cT cU cV cW cZ c7 c8 dc de dh dS dU dV dW dX dY dZ ec ee ef ei ej ek en eo ep er eu ew ey ez eA eB eC eD eE eF eG eH eL gi gj gl eM eN eO eP eR eS eT eU eV eW eX eY gm gn gp eZ e3 e4 e5 e6 e7 e8 e9 fc fe ff fh fk fm fo fq fu fA fB fC fD fE fF fG fH fI fJ fK fL fM fN fO fP fQ fR fS gu gv fT fU fV fW fZ ga gb ir iu iw iy iz iA iB iC iD iE iF iG:Value)(c3:Core)(p:Nat->aq)(W':World),mH K base w G cb F aC s c1 gD aK lit ls k0 (i+1) (kl+1) (kept++[d]) c3 p W'->Q .normal ⟨#[.pointer (some ⟨G,0,none⟩),j8,lZ,.int .i64 lit,.slice (some ⟨iQ,0,none⟩) gY iU,.slice (some ⟨iQ,0,none⟩) (kl+1) iU,k,l,u8,kP,gG,gq,dn,gT,gr,gE,u16,dr,dw,dx,gh,dy,dz,dA,dB,dD,dF,dG,dH,cu,cv,cw,u32,cz,cA,cB,cC,cD,cE,cF,cG,cH,cI,cK,dI,dJ,.slice (some ⟨iQ,0,none⟩) gY iU,.int .i64 (gY:Int),.int .i64 (i:Int),bx,bz,bA,bB,bC,bD,bE,bF,bG,bL,bM,bN,bO,bP,bQ,u64,bR,bS,bT,bU,bV,bW,bX,bY,bZ,b5,b6,b7,b8,b9,cc,cg,ck,cm,cn,cp,cr,dK,dL,dM,dN,dO,dP,dQ,dR,cL,cM,cN,cO,cQ,cR,cS,cT,cU,cV,cW,cZ,c7,c8,dc,de,dh,dS,dU,dV,dW,dX,dY,dZ,ec,ee,ef,ei,ej,ek,en,eo,ep,er,eu,ew,ey,ez,eA,eB,eC,eD,eE,eF,eG,eH,eL,gi,gj,gl,eM,eN,eO,eP,eR,eS,eT,eU,eV,eW,eX,eY,gm,gn,gp,eZ,e3,e4,e5,e6,e7,e8,e9,fc,fe,ff,fh,fk,fm,fo,fq,fu,fA,fB,fC,fD,fE,fF,fG,fH,fI,fJ,fK,fL,fM,fN,fO,fP,fQ,fR,fS,gu,gv,fT,fU,fV,fW,fZ,ga,gb,ir,iu,iw,iy,iz,iA,iB,iC,iD,iE,iF,iG,iY,iZ,ja,jb,jc,jd,je,jf],[]⟩ W')
  (J:∀(O k l u8 bx bz bA bB bC bD bE bF bG bL bM bN bO bP bQ u64 bR bS bT bU bV bW bX bY bZ b5 b6 b7 b8 b9 cc cg ck cm cn cp cr dK dL dM dN dO dP dQ dR cL cM cN cO cQ cR cS cT cU cV cW cZ c7 c8 dc de dh dS dU dV dW dX dY dZ ec ee ef ei ej ek en eo ep er eu ew ey ez eA eB eC eD eE eF eG eH eL gi gj gl eM eN eO eP eR eS eT eU eV eW eX eY gm gn gp eZ e3 e4 e5 e6 e7 e8 e9 fc fe ff fh fk fm fo fq fu fA fB fC fD fE fF fG fH fI fJ fK fL fM fN fO fP fQ fR fS gu gv fT fU fV fW fZ ga gb ir iu iw iy iz iA iB iC iD iE iF iG:Value)(c3:Core)(p:Nat->aq)(W':World),kf F F c3 aK []->nI c3 aC->tU c1 c3->d<c3.cl.length->(∀x∈ax c3.cl d,-x∈c3.au)->aU K base W' G p cb {s with c:=c3}->aD K w W'->Q .ret ⟨#[.pointer (some ⟨G,0,none⟩),j8,.pointer (some ⟨cb d,0,none⟩),.int .i64 lit,.slice (some ⟨iQ,0,none⟩) gY iU,O,k,l,u8,kP,gG,gq,dn,gT,gr,gE,u16,dr,dw,dx,gh,dy,dz,dA,dB,dD,dF,dG,dH,cu,cv,cw,u32,cz,cA,cB,cC,cD,cE,cF,cG,cH,cI,cK,dI,dJ,.slice (some ⟨iQ,0,none⟩) gY iU,.int .i64 (gY:Int),.int .i64 (i:Int),bx,bz,bA,bB,bC,bD,bE,bF,bG,bL,bM,bN,bO,bP,bQ,u64,bR,bS,bT,bU,bV,bW,bX,bY,bZ,b5,b6,b7,b8,b9,cc,cg,ck,cm,cn,cp,cr,dK,dL,dM,dN,dO,dP,dQ,dR,cL,cM,cN,cO,cQ,cR,cS,cT,cU,cV,cW,cZ,c7,c8,dc,de,dh,dS,dU,dV,dW,dX,dY,dZ,ec,ee,ef,ei,ej,ek,en,eo,ep,er,eu,ew,ey,ez,eA,eB,eC,eD,eE,eF,eG,eH,eL,gi,gj,gl,eM,eN,eO,eP,eR,eS,eT,eU,eV,eW,eX,eY,gm,gn,gp,eZ,e3,e4,e5,e6,e7,e8,e9,fc,fe,ff,fh,fk,fm,fo,fq,fu,fA,fB,fC,fD,fE,fF,fG,fH,fI,fJ,fK,fL,fM,fN,fO,fP,fQ,fR,fS,gu,gv,fT,fU,fV,fW,fZ,ga,gb,ir,iu,iw,iy,iz,iA,iB,iC,iD,iE,iF,iG,iY,iZ,ja,jb,jc,jd,je,jf],[]⟩ W'):
   ZJ y_ Lp Q ⟨#[.pointer (some ⟨G,0,none⟩),j8,lZ,.int .i64 lit,.slice (some ⟨iQ,0,none⟩) gY iU,.slice (some ⟨iQ,0,none⟩) kl iU,.int .i64 (i:Int),.pointer (some ⟨cb d,0,none⟩),u8,kP,gG,gq,dn,gT,gr,gE,u16,dr,dw,dx,gh,dy,dz,dA,dB,dD,dF,dG,dH,cu,cv,cw,u32,cz,cA,cB,cC,cD,cE,cF,cG,cH,cI,cK,dI,dJ,.slice (some ⟨iQ,0,none⟩) gY iU,.int .i64 (gY:Int),.int .i64 (i:Int),bx,bz,bA,bB,bC,bD,bE,bF,bG,bL,bM,bN,bO,bP,bQ,u64,bR,bS,bT,bU,bV,bW,bX,bY,bZ,b5,b6,b7,b8,b9,cc,cg,ck,cm,cn,cp,cr,dK,dL,dM,dN,dO,dP,dQ,dR,cL,cM,cN,cO,cQ,cR,cS,cT,cU,cV,cW,cZ,c7,c8,dc,de,dh,dS,dU,dV,dW,dX,dY,dZ,ec,ee,ef,ei,ej,ek,en,eo,ep,er,eu,ew,ey,ez,eA,eB,eC,eD,eE,eF,eG,eH,eL,gi,gj,gl,eM,eN,eO,eP,eR,eS,eT,eU,eV,eW,eX,eY,gm,gn,gp,eZ,e3,e4,e5,e6,e7,e8,e9,fc,fe,ff,fh,fk,fm,fo,fq,fu,fA,fB,fC,fD,fE,fF,fG,fH,fI,fJ,fK,fL,fM,fN,fO,fP,fQ,fR,fS,gu,gv,fT,fU,fV,fW,fZ,ga,gb,ir,iu,iw,iy,iz,iA,iB,iC,iD,iE,iF,iG,iY,iZ,ja,jb,jc,jd,je,jf],[]⟩ W:=by
 have u:=b.rB ag;have v:i<ls.length:=(x_.1 ag).1;have g:=U (b.app C ag);obtain⟨bu,m,P,f⟩:=b.gz.yZ (d:=d) u.1 (by show 1<=(ax c2.cl d).length;omega);have f:yY base W G jU cb d bu m P (ax c2.cl d):=f;obtain⟨j,q⟩:∃x,w0 c2 d=x:=⟨_,rfl⟩
 obtain⟨z,r⟩:∃z,jZ c2 j=z:=⟨_,rfl⟩
 have t:gU s.c.n j:=by rw[<-q];exact b.ok C ag (by omega)
 have rg:=b.nX.gK.aL.range j;rw[r] at rg;have ab:2<=m:=by have:=f.len;omega
 have ad:=f.ag;have a0:=f.kB 0 (by omega);rw[show ai (ax c2.cl d) 0=j from q] at a0;have ae:(0:Int)<(m:Int):=by omega
 have L:=U ((b.is C t r).mono λ e w' h=>z_ h.1 h.2.symm);have f:=U f;have R:bI (z=1->mH K base w G cb F aC s c1 gD aK lit ls k0 (i+1) (kl+1) (kept++[d]) c2 jU ((W.alloc (.cells #[.pointer (some ⟨cb d,0,none⟩)] 164)).setCells iQ kl [.pointer (some ⟨cb d,0,none⟩)])):=U (λ h1=>by
   have y:ls[i]=d:=(x_.1 ag).2;have hl:gU c2.n j:=by rw[b.mb C];exact t
   have V:=b.nX.keep v (by rw[y];exact hw) (by rw[y,q];exact(b.nX.gK.aL.pos j hl).1 (r.trans h1));rw[y] at V;exact⟨V,by rw[w_,b.tB];rfl,g.o.2.2.2.2.1,b.hw,b.av,b.iP.trans g.o.2.2.2.2.2⟩)
 have D:=U (z_ C (z_ b (z_ ag (z_ hw (z_ u (z_ v (z_ q (z_ r (z_ t rg)))))))));have M:=U E;have S:=U I;have T:=U J;clear C b ag hw u v q r t rg E I J
 conv=>arg 2;whnf
 conv=>arg 4;zeta
 by_cases h1:z=1
 · have A:0<z:=by omega
   have X:decide (0<z)=true:=decide_eq_true A;have H1:=U h1;clear h1
   go_wp2_with (first|(go_at_call 152;refine L.o.mono ?_;rintro e Y ⟨rfl,rfl⟩;dsimp only)|(at_builtin;refine DE rfl (.tmp 93) (.tmp 95) rfl iQ kl iU W.heap.size 0 1 1 _ rfl rfl g.o.1 g.o.2.1 g.o.2.2.1 g.o.2.2.2.1 ?_))
   apply M.o;exact R.o H1.o
 · have A:¬0<z:=by have:=D.o;omega
   have X:decide (0<z)=false:=decide_eq_false A;have H1:=U h1;clear h1
   go_upto_block 4 with(first|(go_at_call 152;refine L.o.mono ?_;rintro e Y ⟨rfl,rfl⟩;dsimp only))
   refine wp_block ?_;rename_i af Z;refine Lm D.o.1 D.o.2.1 D.o.2.2.1 D.o.2.2.2.1 f.o ?_ ?_
   ·intros
    rename_i B;apply M.o;exact B
   ·intros
    rename_i aa;refine Z _ _ ?_;refine Lo D.o.1 D.o.2.1 D.o.2.2.1 D.o.2.2.2.1 aa (by rw[D.o.2.2.2.2.2.2.1,D.o.2.2.2.2.2.2.2.1];exact H1.o) ?_ ?_
    ·intros
     rename_i B;apply S.o;exact B
    ·intros
     apply T.o<;>assumption
theorem Lr{w:World}{c1:Core}{lit:Int}{gY:Nat}{kept:List Nat}{oe:Value}(C:rY G gD c1 s lit ls k0 g0 iQ gY iU)(e:mH K base w G cb F aC s c1 gD aK lit ls k0 i kl kept c2 jU W)
  (he:∀(nC oe u8 bx bz bA bB bC bD bE bF bG bL bM bN bO bP bQ u64 bR bS bT bU bV bW bX bY bZ b5 b6 b7 b8 b9 cc cg ck cm cn cp cr dK dL dM dN dO dP dQ dR cL cM cN cO cQ cR cS cT cU cV cW cZ c7 c8 dc de dh dS dU dV dW dX dY dZ ec ee ef ei ej ek en eo ep er eu ew ey ez eA eB eC eD eE eF eG eH eL gi gj gl eM eN eO eP eR eS eT eU eV eW eX eY gm gn gp eZ e3 e4 e5 e6 e7 e8 e9 fc fe ff fh fk fm fo fq fu fA fB fC fD fE fF fG fH fI fJ fK fL fM fN fO fP fQ fR fS gu gv fT fU fV fW fZ ga gb ir iu iw iy iz iA iB iC iD iE iF iG:Value),i=ls.length->Q (.exit 2) ⟨#[.pointer (some ⟨G,0,none⟩),j8,lZ,.int .i64 lit,.slice (some ⟨iQ,0,none⟩) gY iU,.slice (some ⟨iQ,0,none⟩) (kl) iU,nC,oe,u8,kP,gG,gq,dn,gT,gr,gE,u16,dr,dw,dx,gh,dy,dz,dA,dB,dD,dF,dG,dH,cu,cv,cw,u32,cz,cA,cB,cC,cD,cE,cF,cG,cH,cI,cK,dI,dJ,.slice (some ⟨iQ,0,none⟩) gY iU,.int .i64 (gY:Int),.int .i64 (i:Int),bx,bz,bA,bB,bC,bD,bE,bF,bG,bL,bM,bN,bO,bP,bQ,u64,bR,bS,bT,bU,bV,bW,bX,bY,bZ,b5,b6,b7,b8,b9,cc,cg,ck,cm,cn,cp,cr,dK,dL,dM,dN,dO,dP,dQ,dR,cL,cM,cN,cO,cQ,cR,cS,cT,cU,cV,cW,cZ,c7,c8,dc,de,dh,dS,dU,dV,dW,dX,dY,dZ,ec,ee,ef,ei,ej,ek,en,eo,ep,er,eu,ew,ey,ez,eA,eB,eC,eD,eE,eF,eG,eH,eL,gi,gj,gl,eM,eN,eO,eP,eR,eS,eT,eU,eV,eW,eX,eY,gm,gn,gp,eZ,e3,e4,e5,e6,e7,e8,e9,fc,fe,ff,fh,fk,fm,fo,fq,fu,fA,fB,fC,fD,fE,fF,fG,fH,fI,fJ,fK,fL,fM,fN,fO,fP,fQ,fR,fS,gu,gv,fT,fU,fV,fW,fZ,ga,gb,ir,iu,iw,iy,iz,iA,iB,iC,iD,iE,iF,iG,iY,iZ,ja,jb,jc,jd,je,jf],[]⟩ W)
  (ak:∀(nC oe u8 bx bz bA bB bC bD bE bF bG bL bM bN bO bP bQ u64 bR bS bT bU bV bW bX bY bZ b5 b6 b7 b8 b9 cc cg ck cm cn cp cr dK dL dM dN dO dP dQ dR cL cM cN cO cQ cR cS cT cU cV cW cZ c7 c8 dc de dh dS dU dV dW dX dY dZ ec ee ef ei ej ek en eo ep er eu ew ey ez eA eB eC eD eE eF eG eH eL gi gj gl eM eN eO eP eR eS eT eU eV eW eX eY gm gn gp eZ e3 e4 e5 e6 e7 e8 e9 fc fe ff fh fk fm fo fq fu fA fB fC fD fE fF fG fH fI fJ fK fL fM fN fO fP fQ fR fS gu gv fT fU fV fW fZ ga gb ir iu iw iy iz iA iB iC iD iE iF iG:Value)(N:Nat)(af:List Nat)(c3:Core)(z:Nat->aq)(W':World),i<ls.length->mH K base w G cb F aC s c1 gD aK lit ls k0 (i+1) N af c3 z W'->Q .normal ⟨#[.pointer (some ⟨G,0,none⟩),j8,lZ,.int .i64 lit,.slice (some ⟨iQ,0,none⟩) gY iU,.slice (some ⟨iQ,0,none⟩) (N) iU,nC,oe,u8,kP,gG,gq,dn,gT,gr,gE,u16,dr,dw,dx,gh,dy,dz,dA,dB,dD,dF,dG,dH,cu,cv,cw,u32,cz,cA,cB,cC,cD,cE,cF,cG,cH,cI,cK,dI,dJ,.slice (some ⟨iQ,0,none⟩) gY iU,.int .i64 (gY:Int),.int .i64 ((i:Int)+1),bx,bz,bA,bB,bC,bD,bE,bF,bG,bL,bM,bN,bO,bP,bQ,u64,bR,bS,bT,bU,bV,bW,bX,bY,bZ,b5,b6,b7,b8,b9,cc,cg,ck,cm,cn,cp,cr,dK,dL,dM,dN,dO,dP,dQ,dR,cL,cM,cN,cO,cQ,cR,cS,cT,cU,cV,cW,cZ,c7,c8,dc,de,dh,dS,dU,dV,dW,dX,dY,dZ,ec,ee,ef,ei,ej,ek,en,eo,ep,er,eu,ew,ey,ez,eA,eB,eC,eD,eE,eF,eG,eH,eL,gi,gj,gl,eM,eN,eO,eP,eR,eS,eT,eU,eV,eW,eX,eY,gm,gn,gp,eZ,e3,e4,e5,e6,e7,e8,e9,fc,fe,ff,fh,fk,fm,fo,fq,fu,fA,fB,fC,fD,fE,fF,fG,fH,fI,fJ,fK,fL,fM,fN,fO,fP,fQ,fR,fS,gu,gv,fT,fU,fV,fW,fZ,ga,gb,ir,iu,iw,iy,iz,iA,iB,iC,iD,iE,iF,iG,iY,iZ,ja,jb,jc,jd,je,jf],[]⟩ W')
  (O:∀(ah nC oe u8 bx bz bA bB bC bD bE bF bG bL bM bN bO bP bQ u64 bR bS bT bU bV bW bX bY bZ b5 b6 b7 b8 b9 cc cg ck cm cn cp cr dK dL dM dN dO dP dQ dR cL cM cN cO cQ cR cS cT cU cV cW cZ c7 c8 dc de dh dS dU dV dW dX dY dZ ec ee ef ei ej ek en eo ep er eu ew ey ez eA eB eC eD eE eF eG eH eL gi gj gl eM eN eO eP eR eS eT eU eV eW eX eY gm gn gp eZ e3 e4 e5 e6 e7 e8 e9 fc fe ff fh fk fm fo fq fu fA fB fC fD fE fF fG fH fI fJ fK fL fM fN fO fP fQ fR fS gu gv fT fU fV fW fZ ga gb ir iu iw iy iz iA iB iC iD iE iF iG:Value)(d:Nat)(c3:Core)(z:Nat->aq)(W':World),kf F F c3 aK []->nI c3 aC->tU c1 c3->d<c3.cl.length->(∀x∈ax c3.cl d,-x∈c3.au)->aU K base W' G z cb {s with c:=c3}->aD K w W'->Q .ret ⟨#[.pointer (some ⟨G,0,none⟩),j8,.pointer (some ⟨cb d,0,none⟩),.int .i64 lit,.slice (some ⟨iQ,0,none⟩) gY iU,ah,nC,oe,u8,kP,gG,gq,dn,gT,gr,gE,u16,dr,dw,dx,gh,dy,dz,dA,dB,dD,dF,dG,dH,cu,cv,cw,u32,cz,cA,cB,cC,cD,cE,cF,cG,cH,cI,cK,dI,dJ,.slice (some ⟨iQ,0,none⟩) gY iU,.int .i64 (gY:Int),.int .i64 (i:Int),bx,bz,bA,bB,bC,bD,bE,bF,bG,bL,bM,bN,bO,bP,bQ,u64,bR,bS,bT,bU,bV,bW,bX,bY,bZ,b5,b6,b7,b8,b9,cc,cg,ck,cm,cn,cp,cr,dK,dL,dM,dN,dO,dP,dQ,dR,cL,cM,cN,cO,cQ,cR,cS,cT,cU,cV,cW,cZ,c7,c8,dc,de,dh,dS,dU,dV,dW,dX,dY,dZ,ec,ee,ef,ei,ej,ek,en,eo,ep,er,eu,ew,ey,ez,eA,eB,eC,eD,eE,eF,eG,eH,eL,gi,gj,gl,eM,eN,eO,eP,eR,eS,eT,eU,eV,eW,eX,eY,gm,gn,gp,eZ,e3,e4,e5,e6,e7,e8,e9,fc,fe,ff,fh,fk,fm,fo,fq,fu,fA,fB,fC,fD,fE,fF,fG,fH,fI,fJ,fK,fL,fM,fN,fO,fP,fQ,fR,fS,gu,gv,fT,fU,fV,fW,fZ,ga,gb,ir,iu,iw,iy,iz,iA,iB,iC,iD,iE,iF,iG,iY,iZ,ja,jb,jc,jd,je,jf],[]⟩ W'):
   ZJ y_ runIn Q ⟨#[.pointer (some ⟨G,0,none⟩),j8,lZ,.int .i64 lit,.slice (some ⟨iQ,0,none⟩) gY iU,.slice (some ⟨iQ,0,none⟩) kl iU,nC,oe,u8,kP,gG,gq,dn,gT,gr,gE,u16,dr,dw,dx,gh,dy,dz,dA,dB,dD,dF,dG,dH,cu,cv,cw,u32,cz,cA,cB,cC,cD,cE,cF,cG,cH,cI,cK,dI,dJ,.slice (some ⟨iQ,0,none⟩) gY iU,.int .i64 (gY:Int),.int .i64 (i:Int),bx,bz,bA,bB,bC,bD,bE,bF,bG,bL,bM,bN,bO,bP,bQ,u64,bR,bS,bT,bU,bV,bW,bX,bY,bZ,b5,b6,b7,b8,b9,cc,cg,ck,cm,cn,cp,cr,dK,dL,dM,dN,dO,dP,dQ,dR,cL,cM,cN,cO,cQ,cR,cS,cT,cU,cV,cW,cZ,c7,c8,dc,de,dh,dS,dU,dV,dW,dX,dY,dZ,ec,ee,ef,ei,ej,ek,en,eo,ep,er,eu,ew,ey,ez,eA,eB,eC,eD,eE,eF,eG,eH,eL,gi,gj,gl,eM,eN,eO,eP,eR,eS,eT,eU,eV,eW,eX,eY,gm,gn,gp,eZ,e3,e4,e5,e6,e7,e8,e9,fc,fe,ff,fh,fk,fm,fo,fq,fu,fA,fB,fC,fD,fE,fF,fG,fH,fI,fJ,fK,fL,fM,fN,fO,fP,fQ,fR,fS,gu,gv,fT,fU,fV,fW,fZ,ga,gb,ir,iu,iw,iy,iz,iA,iB,iC,iD,iE,iF,iG,iY,iZ,ja,jb,jc,jd,je,jf],[]⟩ W:=by
 have A:=e.BL;have P:=e.nX.Dm;have B:=C.len;have R:=C.lb;have S:=C.cap;have aL:(gY:Int)<=(iU:Int):=by omega
 have aM:n_.wrap ((i:Int)+1)=(i:Int)+1:=by rw[j_];omega
 have al:=U he;have t:=U ak;have T:=U O;clear he ak O
 by_cases p:i<ls.length
 · obtain⟨d,q⟩:∃d,ls[i]=d:=⟨_,rfl⟩
   have ag:ls[i]? =some d:=by rw[m_ p,q]
   have E:=e.rB ag;obtain⟨bu,m,k,g⟩:=e.gz.yZ (d:=d) E.1 (by show 1<=(ax c2.cl d).length;omega);have g:yY base W G jU cb d bu m k (ax c2.cl d):=g;have X:lit= -(w0 c2 d)\/lit= -(w1 c2 d):=by rw[<-q];exact(e.nX.rB p).2.2
   have aN: -60000<=lit/\lit<=60000:=by have:=C.ok.2;have:=C.ak;unfold aH at*;omega
   have wn:n_.wrap (-lit)= -lit:=ZW _ (by omega);have hk:k0<c2.wt.length:=by rw[e.vf C];exact C.hk
   have Y:ax (ku c2 k0 (kept++ls.drop kl)).wt k0=kept++ls.drop kl:=by show ax (c2.wt.set k0 _) k0=_;rw[qE,if_pos ⟨rfl,hk⟩]
   have aO:W.cell? ⟨iQ,i,none⟩=some (.pointer (some ⟨cb d,0,none⟩)):=e.gz.DI (e.lM C) (by
    show(ax (ku c2 k0 (kept++ls.drop kl)).wt k0)[i]? =some d;rw[Y,ZQ (by rw[e.tB];exact A),ZS,e.tB,show kl+(i-kl)=i by omega];exact ag)
   obtain⟨f,H⟩:∃x,w0 c2 d=x:=⟨_,rfl⟩
   have an:2<=m:=by have:=g.len;omega
   have ao:=g.cap;have ar:=g.ag;have a0:=g.kB 0 (by omega);rw[show ai (ax c2.cl d) 0=f from H] at a0;have aw:(0:Int)<(m:Int):=by omega
   have Z:(1:Int)<(m:Int):=by omega
   have li:(i:Int)<(gY:Int):=by omega
   have aP:(0:Int)<=(i:Int):=by omega
   have ay:decide ((i:Int)<(gY:Int))=true:=decide_eq_true li;have D:=U (z_ C (z_ e (z_ ag (z_ E (z_ p (z_ H (z_ X (z_ A (z_ B (z_ R S))))))))));have n:=U g;clear P q A B R S C e ag E p H X g Y hk ao
   conv=>arg 2;whnf
   conv=>arg 4;zeta
   by_cases h1:f= -lit
   ·have d1:decide (f= -lit)=true:=decide_eq_true h1;have d2:(f== -lit)=true:=beq_iff_eq.2 h1;have H1:=U h1;clear h1;obtain⟨y,I⟩:∃y,ai (ax c2.cl d) 1=y:=⟨_,rfl⟩
    have a1:=n.o.kB 1 (by omega);rw[I] at a1;have f0:=n.o.uW 0;have f1:=n.o.uW 1;have aQ:=n.o.ne;have aR:=n.o.ne.symm;have az:bI (mH K base w G cb F aC s c1 gD aK lit ls k0 i kl kept (lN c2 d (kL (ax c2.cl d) 0 1)) jU (((W.setCell ⟨bu,0,none⟩ (.int .i64 y)).setCell ⟨bu,1,none⟩ (.int .i64 f)).drew)):=U (by
     have aa:=D.o.2.1.gz.Ga (d:=d) (bu:=bu) (i:=0) (j:=1) n.o.b D.o.2.2.2.1.1 (x:=f) (y:=y) D.o.2.2.2.2.2.1 I;have q:ls[i]'(D.o.2.2.2.2.1)=d:=(x_.1 D.o.2.2.1).2;have V:=D.o.2.1.nX.swap D.o.2.2.2.2.1;rw[q] at V;exact⟨V,D.o.2.1.tB,aa.1,D.o.2.1.hw,D.o.2.1.av,D.o.2.1.iP.trans aa.2⟩)
    have aA:bI (w1 (lN c2 d (kL (ax c2.cl d) 0 1)) d= -lit):=U (by
     show ai (ax (c2.cl.set d _) d) 1= -lit;rw[qE,if_pos ⟨rfl,D.o.2.2.2.1.1⟩];unfold kL;rw[o7,if_pos ⟨rfl,by rw[Z4];have:=D.o.2.2.2.1.2;omega⟩,show ai (ax c2.cl d) 0=f from D.o.2.2.2.2.2.1];exact H1.o)
    clear I an
    go_upto_if 61 with fail
    refine wp_cond_true rfl ?_;rename_i qd J;have aB:W.drew.cell? ⟨cb d,0,none⟩=some (.slice (some ⟨bu,0,none⟩) m k):=ar;have ab:W.drew.cell? ⟨bu,0,none⟩=some (.int .i64 f):=a0;have aE:W.drew.cell? ⟨bu,1,none⟩=some (.int .i64 y):=a1;have aF:W.drew.frozen? ⟨bu,0,none⟩=false:=f0;refine Ai (DD Tryz.f145 10) 23 21 22 224 [some 62,some 63,some 64,some 65,some 66,some 67,some 68,some 69,some 70,some 71,some 72,some 73,some 74,some 75,some 76,some 77,some 78,some 79,some 80,some 81,some 82,none,some 83,none] _ [(7,.pointer (some ⟨(cb d),0,none⟩))] (λ _=>True) [.pointer (some ⟨(cb d),0,none⟩),.pointer (some ⟨(cb d),0,none⟩),.pointer (some ⟨(cb d),0,none⟩),.slice (some ⟨bu,0,none⟩) m k,.pointer (some ⟨(cb d),0,none⟩),.pointer (some ⟨(cb d),0,none⟩),.pointer (some ⟨(cb d),0,none⟩),.slice (some ⟨bu,0,none⟩) m k,.pointer (some ⟨(cb d),0,none⟩),.pointer (some ⟨(cb d),0,none⟩),.pointer (some ⟨(cb d),0,none⟩),.slice (some ⟨bu,0,none⟩) m k,.pointer (some ⟨bu,1,none⟩),.int .i64 y,.pointer (some ⟨(cb d),0,none⟩),.pointer (some ⟨(cb d),0,none⟩),.pointer (some ⟨(cb d),0,none⟩),.slice (some ⟨bu,0,none⟩) m k,.pointer (some ⟨bu,0,none⟩),.int .i64 f,.pointer (some ⟨bu,0,none⟩),undef,undef] (W.drew.setCell ⟨bu,0,none⟩ (.int .i64 y)) (λ v w'=>v=.pointer (some ⟨bu,1,none⟩)/\w'=W.drew.setCell ⟨bu,0,none⟩ (.int .i64 y)) (by kernel_rfl) (by kernel_rfl) (by kernel_rfl) rfl (by kernel_rfl) (by kernel_rfl) rfl ⟨rfl,trivial⟩ trivial trivial (λ _ _ _=>trivial) (λ r ag L hp=>?_) (λ r ag L hp=>?_) ?_ ?_
    ·have h1:r (.tmp 82)=.pointer (some ⟨bu,0,none⟩):=ag.1 rfl (by decide) (by decide) _ rfl;have M:r (.tmp 75)=.int .i64 y:=ag.2.1 rfl (by decide) (by decide) _ rfl;show bn _ _ (Zi _ _ _ _ _ _) _ _;simp[bn,execOp,gF,go_sem,h1,M,ab,aF]
    ·have h1:r (.tmp 69)=.slice (some ⟨bu,0,none⟩) m k:=ag.1 rfl (by decide) (by decide) _ rfl;show bn _ _ (Zi _ _ _ _ _ _) _ _;simp[bn,execOp,gF,go_sem,h1,Z,hp.1]
    ·refine⟨?_,?_,?_,?_,?_,?_,?_,?_,?_,?_,?_,?_,?_,?_,?_,?_,?_,?_,?_,?_,?_,?_,?_,trivial⟩
     all_goals
      intro h1 M r w _ aG ag L hp
      first
       |exact absurd rfl h1
       |exact absurd rfl M
       |(obtain⟨aI,-⟩:=L;obtain rfl:=aG rfl;(try simp[pG,qn,Zk] at ag);simp[bn,execOp,gF,go_sem,aI,ag,aB,ab,aE,aw,Z,hp.1,(show 0<m by omega)];done)
    rintro u v w' ⟨rfl,rfl⟩ aS ad;simp[oI,Act.put,k6] at ad;subst ad;show bn _ _ (Zi _ _ _ _ _ _) _ _;simp[bn,execOp,gF,go_sem,Act.eval,a1,f1]
    iterate 1
     refine J _ _ ?_;refine Gp D.o.1 az.o D.o.2.2.1 aA.o ?_ ?_ ?_
     ·intros
      rename_i l
      go_wp2_with fail
      apply t.o
      ·exact D.o.2.2.2.2.1
      ·exact l
     ·intros
      rename_i l
      go_wp2_with fail
      apply t.o
      ·exact D.o.2.2.2.2.1
      ·exact l
     ·intros
      apply T.o<;>assumption
   ·have d1:decide (f= -lit)=false:=decide_eq_false h1;have d2:(f== -lit)=false:=by rw[beq_eq_false_iff_ne];exact h1
    have H1:=U h1
    go_upto_if 61 with fail
    refine wp_cond_false rfl ?_;refine wp_skip ?_;rename_i qd J;refine J _ _ ?_;refine Gp D.o.1 D.o.2.1 D.o.2.2.1 (by have:=D.o;have:=H1.o;omega) ?_ ?_ ?_
    ·intros
     rename_i l
     go_wp2_with fail
     apply t.o
     ·exact D.o.2.2.2.2.1
     ·exact l
    ·intros
     rename_i l
     go_wp2_with fail
     apply t.o
     ·exact D.o.2.2.2.2.1
     ·exact l
    ·intros
     apply T.o<;>assumption
 · have ae:i=ls.length:=by omega
   have li:¬(i:Int)<(gY:Int):=by omega
   have ay:decide ((i:Int)<(gY:Int))=false:=decide_eq_false li;have aJ:=U ae;clear ae p P B
   conv=>arg 2;whnf
   conv=>arg 4;zeta
   go_wp2_with fail
   apply al.o;exact aJ.o
theorem Ls{w:World}(h:aU K base w G hs cb s)(L:kf F F s.c s.c.ag [])(A:nI s.c aC)(aG:s.c.n<=60000)(aZ:s.c.st.length<=1000000)(a6:s.c.cl.length<=100000):
  Calls y_ 145 #[.pointer (some ⟨G,0,none⟩)] w (KD K base w G cb F aC s):=by
 have H:=U h;have al:=U L;have a7:=U A;clear h L A;go_enter Tryz.func145,Tryz.ntmps145
 go_wp2_with fail
 go_loopw [3,4,5,6,7,8] (λ _ _ _ _ _ _ W=>∃(c1:Core)(p:Nat->aq),Aj F aC s.c c1 c1.ag/\aU K base W G p cb {s with c:=c1}/\aD K w W/\c1.ag<=s.c.n) (λ _ _ _ _ _ _ W=>s.c.n-DH W ⟨G,7,none⟩)
 case atStart=>exact⟨s.c,hs,⟨al.o,a7.o,tU.refl _⟩,H.o,aD.refl,by have:=al.o.hle;have:=al.o.aL.len;omega⟩
 case round=>
  obtain⟨c1,p,P,aH,hF,aI⟩:=hrel;have E:=U aH;have aJ:=U hF;have g:=U P;clear aH hF;have an:c1.n=s.c.n:=P.sm.n;have aK:c1.au.length<=s.c.n:=by have:=P.gK.aL.len;rw[an] at this;exact this
  obtain⟨b,ao⟩:∃b,c1.ag=b:=⟨_,rfl⟩
  have B:=E.o.e.kA (k:=7) (v:=.int .i64 c1.ag) rfl;rw[ao] at B;obtain⟨aM,j6,c4,Q⟩:∃A n c,p 4=⟨A,n,c⟩:=⟨_,_,_,rfl⟩
  obtain⟨aL,ar⟩:∃aL,c1.au.length=aL:=⟨_,rfl⟩
  have av:j6=aL:=by have:=E.o.e.j6;rw[Q] at this;exact this.trans ar
  have aw:wr.cell? ⟨G,5,none⟩=some (.slice aM aL c4):=by have:=E.o.e.kA (k:=5) (v:=(p 4).v) rfl;rw[Q,av] at this;exact this
  have D:=U (z_ an (z_ aK (z_ ao (z_ Q (z_ ar (z_ av aI))))));clear P an aK ao Q ar av aI
  by_cases C:b<aL
  ·have a8:decide ((b:Int)<(aL:Int))=true:=decide_eq_true (by omega);have a':(b:Int)<(aL:Int):=by omega
   obtain⟨g4,R,ay,-⟩:=E.o.e.wR (r:=4) (m:=aL) (by rw[D.o.2.2.2.1];exact D.o.2.2.2.2.2.1) (by omega);rw[D.o.2.2.2.1] at R;have R:aM=some ⟨g4,0,none⟩:=R;subst R;obtain⟨lit,S⟩:∃x,ai c1.au b=x:=⟨_,rfl⟩
   have M:=E.o.e.zX ay (k:=b) (by show b<c1.au.length;rw[D.o.2.2.2.2.1];exact C);have M:wr.cell? ⟨g4,b,none⟩=some (.int .i64 lit):=by rw[<-S];exact M
   have T:gU s.c.n lit:=by rw[<-S,<-D.o.1];exact g.o.gK.aL.lit _ (l5 (by rw[D.o.2.2.2.2.1];exact C))
   obtain⟨k0,V⟩:∃k:Nat,jD lit=k:=⟨_,rfl⟩
   have aN:k0<2*s.c.n+2:=by rw[<-V];exact T.at
   have aO:c1.wt.length=2*s.c.n+2:=by have:=g.o.gK.wt.qV;rw[D.o.1] at this;exact this
   have Z:bI (∀w:World,Calls y_ 181 #[.int .i64 lit] w λ e w'=>e=.returned (.int .i64 (k0:Int))/\w=w'):=U (λ w=>by have:=F8 T aG w;rw[V] at this;exact this);have bw:n_.wrap ((b:Int)+1)=(b:Int)+1:=by rw[j_];have:=D.o;omega
   have bx:b<60000:=by have:=D.o;omega
   have bz:(k0:Int)<2*(s.c.n:Int)+2:=by omega
   have X:=U (z_ S (z_ T (z_ V (z_ aN (z_ aO (z_ ay C))))));have f7:=E.o.e.free 7;clear S T V aN aO ay C
   go_wp2_with fail
   refine v_ 9 (by kernel_rfl) (by kernel_rfl) ?_;simp only[u_,p_,t_,s_]
   iterate 9 still_step
   refine i_ ?_;change wpList _ _ _ _ _ wr.drew;have ba:=U E.o.drew;have bb:=U (aJ.o.trans (aD.drew (w:=wr)));have aw:wr.drew.cell? ⟨G,5,none⟩=some (.slice (some ⟨g4,0,none⟩) aL c4):=aw;have B:wr.drew.cell? ⟨G,7,none⟩=some (.int .i64 (b:Int)):=B;have M:wr.drew.cell? ⟨g4,b,none⟩=some (.int .i64 lit):=M;clear f7;generalize wr.drew=aa at*
   go_wp2_with fail
   refine wp_scope_straight ?_
   go_wp2_with fail
   refine v_ 10 (by kernel_rfl) (by kernel_rfl) ?_;simp only[u_,p_,t_,s_]
   iterate 10 still_step
   refine i_ ?_;change wpList _ _ _ _ _ aa.drew;have B:aa.drew.cell? ⟨G,7,none⟩=some (.int .i64 (b:Int)):=B;have aP:=U ba.o.drew;have f7:=aP.o.e.free 7;have bc:=U (bb.o.trans (aD.drew (w:=aa)));clear aw M;generalize aa.drew=bd at*
   go_wp2_with fail
   have j:=aP.o.Bx (b+1);rw[show((b+1:Nat):Int)=(b:Int)+1 by omega] at j;have aQ:=U (bc.o.trans j.2);have j:=U j.1;generalize bd.setCell ⟨G,7,none⟩ (.int .i64 ((b:Int)+1))=wc at j aQ;obtain⟨g0,bp,ab,f0⟩:=j.o.e.lV 1 0 rfl (j.o.e.jw.trans X.o.2.2.2.2.1) (by omega);have u:=j.o.e.xY bp (k:=k0) (by have:=X.o.2.2.2.1;have:=X.o.2.2.2.2.1;show k0<c1.wt.length;omega);obtain⟨ad,gY,y,ae⟩:∃A n c,p (ij k0)=⟨A,n,c⟩:=⟨_,_,_,rfl⟩
   rw[ae] at u;have af:wc.cell? ⟨g0,k0,none⟩=some (.slice ad gY y):=u;clear u;obtain⟨ls,N⟩:∃ls,ax c1.wt k0=ls:=⟨_,rfl⟩
   have aR:gY=ls.length:=by have:=j.o.e.Ae k0;rw[ae] at this;rw[<-N];exact this
   have bf:gY<=100000:=by
    have h1:=g.o.gK.wt.nW k0;have bA:=g.o.sm.len;rw[N] at h1;omega
   have az:=ou.start g.o.gK g.o.2 (by have:=D.o;have:=X.o.2.2.2.2.2.2;omega);rw[D.o.2.2.1,X.o.1,X.o.2.2.1,N] at az;have Y:=U (z_ bp (z_ ae (z_ N (z_ aR (z_ bf az)))));clear bp ae N aR az f0 B f7;refine v_ 8 (by kernel_rfl) (by kernel_rfl) ?_;simp only[u_,p_,t_,s_]
   iterate 5 still_step
   still_call ((Z.o _).mono (λ e w' h=>⟨h.1,h.2.symm⟩))
   iterate 2 still_step
   refine i_ ?_;change wpList _ _ _ _ _ wc.drew;have q:=U j.o.drew;have Fd:=U (aQ.o.trans (aD.drew (w:=wc)));clear ab af;generalize wc.drew=wd at*;have ab:=q.o.e.rA 1 Y.o.1 (q.o.e.jw.trans X.o.2.2.2.2.1) rfl;have f0:=q.o.e.rows.free Y.o.1 k0;have I:bI (k0<c1.wt.length):=U (by have:=X.o.2.2.2.1;have:=X.o.2.2.2.2.1;omega);have u:=q.o.e.xY Y.o.1 (k:=k0) I.o;rw[Y.o.2.1] at u;have af:wd.cell? ⟨g0,k0,none⟩=some (.slice ad gY y):=u;clear u
   by_cases aS:gY=0
   ·subst aS;have aT:ls=[]:=r_ (by have:=Y.o.2.2.2.1;omega);have J:=U aT;clear aT
    cases ad with
    |none=>
     go_wp2_with fail
     apply wp_label
     go_wp2_with fail
     refine ZU 1 ?_;rw[Yz]
     go_wp2_with fail
     refine v_ 8 (by kernel_rfl) (by kernel_rfl) ?_;simp only[u_,p_,t_,s_]
     iterate 5 still_step
     still_call ((Z.o _).mono (λ e w' h=>⟨h.1,h.2.symm⟩))
     iterate 2 still_step
     refine i_ ?_;change wpList _ _ _ _ _ wd.drew;have f:=BJ (c2:={c1 with ag:=b+1}) (raw:=[]) (kept:=[]) (kl:=0) (by rw[<-J.o,<-Y.o.2.2.1];have:=BG (c:={c1 with ag:=b+1}) I.o;rw[show ax ({c1 with ag:=b+1}:Core).wt k0=ax c1.wt k0 from rfl] at this;rw[this];exact q.o) Y.o.1 I.o Y.o.2.1 rfl (e_ _) (by rw[<-J.o];exact Y.o.2.2.1);have z:Aj F aC s.c {c1 with ag:=b+1} (b+1):=by
      have t:=Y.o.2.2.2.2.2;rw[J.o] at t;exact⟨t.done.1,t.8,g.o.sm.trans t.sm⟩
     go_wp2_with fail
     go_roundw
     case rel=>
      repeat apply ZI
      exact⟨⟨_,_,z,f.1,Fd.o.trans f.2,by have:=D.o;have:=X.o;show b+1<=_;omega⟩,rfl⟩
     case measure=>
      rw[f.1.yX,E.o.yX];show s.c.n-(b+1)<s.c.n-c1.ag;have:=D.o;have:=X.o;omega
    |some bB=>
     go_wp2_with fail
     apply wp_label
     go_wp2_with fail
     refine ZU 1 ?_;rw[Yz]
     go_wp2_with fail
     refine v_ 8 (by kernel_rfl) (by kernel_rfl) ?_;simp only[u_,p_,t_,s_]
     iterate 5 still_step
     still_call ((Z.o _).mono (λ e w' h=>⟨h.1,h.2.symm⟩))
     iterate 2 still_step
     refine i_ ?_;change wpList _ _ _ _ _ wd.drew;have f:=BJ (c2:={c1 with ag:=b+1}) (raw:=[]) (kept:=[]) (kl:=0) (by rw[<-J.o,<-Y.o.2.2.1];have:=BG (c:={c1 with ag:=b+1}) I.o;rw[show ax ({c1 with ag:=b+1}:Core).wt k0=ax c1.wt k0 from rfl] at this;rw[this];exact q.o) Y.o.1 I.o Y.o.2.1 rfl (e_ _) (by rw[<-J.o];exact Y.o.2.2.1);have z:Aj F aC s.c {c1 with ag:=b+1} (b+1):=by
      have t:=Y.o.2.2.2.2.2;rw[J.o] at t;exact⟨t.done.1,t.8,g.o.sm.trans t.sm⟩
     go_wp2_with fail
     go_roundw
     case rel=>
      repeat apply ZI
      exact⟨⟨_,_,z,f.1,Fd.o.trans f.2,by have:=D.o;have:=X.o;show b+1<=_;omega⟩,rfl⟩
     case measure=>
      rw[f.1.yX,E.o.yX];show s.c.n-(b+1)<s.c.n-c1.ag;have:=D.o;have:=X.o;omega
   ·obtain⟨ah,ak,aA,-⟩:=q.o.e.wR (r:=ij k0) (m:=gY) (by rw[Y.o.2.1]) aS;rw[Y.o.2.1] at ak;have ak:ad=some ⟨ah,0,none⟩:=ak;subst ak;have cap:=q.o.e.xV aA;rw[Y.o.2.1] at cap;have cap:gY<=y:=cap;have bC:(0:Int)<=(y:Int):=by omega
    have bg:=U cap;have bD:=U aA;clear cap aA
    go_wp2_with fail
    apply wp_label
    go_wp2_with fail
    have l:bI (rY G p c1 s lit ls k0 g0 ah gY y):=U ⟨Y.o.1,Y.o.2.1,Y.o.2.2.2.1,Y.o.2.2.2.2.1,bg.o,X.o.2.2.1,X.o.2.1,X.o.2.2.2.2.1,D.o.1,aG,aZ,X.o.2.2.2.1,g.o.sm.st,g.o.sm.len,a6⟩;clear f0 af ab
    go_loopw [5,6,7,8,48] (λ bh _ _ _ aB W=>∃(i kl:Nat)(kept:List Nat)(c2:Core)(aV:Nat->aq),aB=.int .i64 i/\bh=.slice (some ⟨ah,0,none⟩) kl y/\mH K base w G cb F aC s c1 p b lit ls k0 i kl kept c2 aV W) (λ _ _ _ _ aB _=>gY-(intOf aB).toNat)
    case atStart=>
     refine⟨0,0,[],{c1 with ag:=b+1},p,rfl,rfl,Y.o.2.2.2.2.2,rfl,?_,rfl,rfl,Fd.o⟩;rw[List.nil_append,s_,<-Y.o.2.2.1];have:=BG (c:={c1 with ag:=b+1}) I.o;rw[show ax ({c1 with ag:=b+1}:Core).wt k0=ax c1.wt k0 from rfl] at this;rw[this];exact q.o
    case round=>
     obtain⟨i,kl,kept,c2,aV,rfl,rfl,d⟩:=hrel;refine Lr l.o d ?_ ?_ ?_
     ·intros
      rename_i aW
      conv=>zeta
      subst aW;have d:=U d;have O:=d.o.bp l.o;have ab:=d.o.gz.e.rA 1 O (d.o.gz.e.jw.trans (d.o.raw l.o)) rfl;have f0:=d.o.gz.e.rows.free O k0;have aE:=d.o.hw.trans l.o.ag;have af:wr.cell? ⟨g0,k0,none⟩=some (.slice (some ⟨ah,0,none⟩) gY y):=by have:=d.o.gz.e.xY O (k:=k0) (by show k0<(ku c2 k0 _).wt.length;rw[d.o.raw l.o];exact l.o.hk);rw[aE] at this;exact this
      have bj:bI (k0<c2.wt.length):=U (by rw[d.o.vf l.o];exact l.o.hk);have aX:=U (z_ O aE);clear O aE
      go_upto_region 27 with fail
      refine v_ 8 (by kernel_rfl) (by kernel_rfl) ?_;simp only[u_,p_,t_,s_]
      iterate 5 still_step
      still_call ((Z.o _).mono (λ e w' h=>⟨h.1,h.2.symm⟩))
      iterate 2 still_step
      refine i_ ?_;change wpList _ _ _ _ _ wr.drew;have f:=BJ (c2:=c2) (kl:=kl) (kept:=kept) d.o.gz aX.o.1 bj.o aX.o.2 (Z6 d.o.tB) (by rw[w_,d.o.tB];omega) (by have:=d.o.nX.done.2;rw[l.o.kB] at this;exact this);have aF:c2.ag=b+1:=d.o.nX.ag;have z:Aj F aC s.c c2 c2.ag:=by
       rw[aF];exact⟨d.o.nX.done.1,d.o.nX.8,g.o.sm.trans d.o.nX.sm⟩
      have aY:=U aF;have z:=U z;have f:=U f;clear aF
      go_wp2_with fail
      go_roundw
      case rel=>
       repeat apply ZI
       exact⟨⟨_,_,z.o,f.o.1,d.o.iP.trans f.o.2,by rw[aY.o];have:=D.o;have:=X.o;omega⟩,rfl⟩
      case measure=>
       rw[f.o.1.yX,E.o.yX];show s.c.n-c2.ag<s.c.n-c1.ag;rw[aY.o];have:=D.o;have:=X.o;omega
     ·intros
      rename_i bk
      conv=>zeta
      go_roundw
      case rel=>
       repeat apply ZI
       exact⟨⟨i+1,_,_,_,_,by go_num,rfl,bk⟩,rfl⟩
      case measure=>
       have:=l.o.len;rename_i aW _;simp[intOf];omega
     ·intros
      rename_i bl bn bo bq br f bs
      conv=>zeta
      go_ret;exact⟨some _,_,_,b,rfl,⟨bl,bn,g.o.sm.trans bo⟩,f,bs,bq,br⟩
  ·have a8:decide ((b:Int)<(aL:Int))=false:=decide_eq_false (by omega);have a':¬(b:Int)<(aL:Int):=by omega
   have bt:=U C;clear C
   go_wp2_with fail
   refine v_ 9 (by kernel_rfl) (by kernel_rfl) ?_;simp only[u_,p_,t_,s_]
   iterate 9 still_step
   refine i_ ?_;change wpList _ _ _ _ _ wr.drew
   go_wp2_with fail
   go_ret;have hle:=g.o.gK.hle;have bu:=E.o.drew;have:=D.o;have:=bt.o;exact⟨none,c1,p,c1.ag,rfl,g.o,bu,aJ.o.trans aD.drew,by omega,rfl⟩
end
section
open Go.RowKit Go.Shelf
structure vh(s:aj):Prop where
 qK:pq s.c
 ww:∀k d,d∈ax s.c.wt k->d<s.c.cl.length
 wl:∀d∈s.aI,d<s.c.cl.length
theorem Gq(cb:Nat->Nat)(n b:Nat){l:List Nat}(h:∀d∈l,d<n):kV (iH cb n b) l=kV cb l:=by
 unfold kV;refine ZY (λ d c=>?_);unfold tq;rw[aX _ _ (by have:=h d c;omega)]
theorem Lt(cb:Nat->Nat)(n b:Nat){l:List (Option Nat)}(h:∀v d,mF l v=some d->d<n):uw (iH cb n b) l=uw cb l:=by
 unfold uw;refine ZY (λ o c=>?_);obtain⟨k,hk,rfl⟩:=Yw.1 c
 cases e:l[k] with
 |none=>rfl
 |some d=>
  show tq _ d=tq _ d;unfold tq;rw[aX _ _ (by have:=h k d (by rw[E1 hk,e]);omega)]
def aj.sy(s:aj)(l:List Int)(x:si):aj:={s with c:={s.c with cl:=s.c.cl++[l]},ci:=s.ci++[x]}
section
variable {K:Nat->Prop}{base:Nat}{w W:World}{G:Nat}{hs:Nat->aq}{cb:Nat->Nat}{s:aj}
theorem aU.DQ(h:aU K base w G hs cb s)(c:vh s)(b:Nat):aU K base w G hs (iH cb s.c.cl.length b) s:=by
 refine⟨?_,⟨h.s.lt,h.s.g,h.s.row,λ d f=>by rw[aX _ _ (by omega)];exact h.s.cl d f⟩⟩;refine⟨h.e.box,⟨λ r=>?_,h.e.rows.apart⟩,λ d f=>by rw[aX _ _ (by omega)];exact h.e.cls d f,λ d e f he=>by rw[aX _ _ (by omega),aX _ _ (by omega)];exact h.e.inj d e f he,h.e.ru,λ d f=>by rw[aX _ _ (by omega)];exact h.e.rU d f⟩;have h1:=h.e.rows.row r;have:cont hs (iH cb s.c.cl.length b) s r=cont hs cb s r:=by
  unfold cont;rw[Lt cb _ b c.qK,Gq cb _ b c.wl,Gq cb _ b (λ d f=>c.ww _ d f)]
 rw[this];exact h1
theorem Lu{d n:Nat}(h:d≠n):kz d≠kz n:=by unfold kz;omega
theorem aU.sy(h:aU K base w G hs cb s){hl:aq}{l:List Int}{x:si}(hblk:aO w (cb s.c.cl.length) vC [hl.v,.bool x.kU,.int .i64 x.aR,.int .i64 x.ac])(u:base<=cb s.c.cl.length)(y:¬K (cb s.c.cl.length))(q:∀d,d<s.c.cl.length->cb d≠cb s.c.cl.length)
  (z:w.ownsRow base 3 1 hl.v hl.n (gX l)) (t:∀g,hl.b=some g->(∀r,(hs r).b≠some g)/\¬K g) (A:s.ci.length=s.c.cl.length):
  aU K base w G (iH hs (kz s.c.cl.length) hl) cb (s.sy l x):=by
 have hlen:(s.sy l x).c.cl.length=s.c.cl.length+1:=by simp[aj.sy]
 have m:=h.e.JP (r:=kz s.c.cl.length) (h':=hl) (ys:=gX l) (by rw[DA,BC];exact z) (λ g e r'=>(t g e).1 r');have f:∀r,r<13->iH hs (kz s.c.cl.length) hl r=hs r:=λ r f=>aX _ _ (by unfold kz;omega)
 have hw:∀k,iH hs (kz s.c.cl.length) hl (ij k)=hs (ij k):=λ k=>aX _ _ (by unfold kz ij;omega)
 have B:rq (iH hs (kz s.c.cl.length) hl) (s.sy l x)=rq hs s:=by
  unfold rq oc;rw[f 0 (by omega),f 1 (by omega),f 2 (by omega),f 3 (by omega),f 4 (by omega),f 5 (by omega),f 6 (by omega),f 7 (by omega),f 8 (by omega),f 9 (by omega),f 10 (by omega),f 11 (by omega),f 12 (by omega)];rfl
 refine⟨⟨by rw[B];exact m.box,⟨λ r=>?_,m.rows.apart⟩,λ d i=>?_,λ d e i he heq=>?_,h.e.ru,λ d i=>?_⟩,⟨h.s.lt,h.s.g,(h.s.iS (r:=kz s.c.cl.length) (h':=hl) (λ g e=>(t g e).2)).row,λ d i=>?_⟩⟩
 ·have h1:=m.rows.row r;have e:iH (cont hs cb s) (kz s.c.cl.length) (gX l) r=cont (iH hs (kz s.c.cl.length) hl) cb (s.sy l x) r:=by
   by_cases o:r=kz s.c.cl.length
   ·subst o;rw[jH,xX];show gX l=gX (ax (s.c.cl++[l]) s.c.cl.length);rw[uR]
   ·rw[aX _ _ o];rcases Zj r 13 with C|C
    ·have:r=0\/r=1\/r=2\/r=3\/r=4\/r=5\/r=6\/r=7\/r=8\/r=9\/r=10\/r=11\/r=12:=by omega
     rcases this with rfl|rfl|rfl|rfl|rfl|rfl|rfl|rfl|rfl|rfl|rfl|rfl|rfl
     ·show(List.range s.c.wt.length).map _=(List.range s.c.wt.length).map _;refine ZY (λ k _=>?_);rw[hw]
     all_goals rfl
    ·have a0:¬r=0:=by omega
     have a1:¬r=1:=by omega
     have a2:¬r=2:=by omega
     have a3:¬r=3:=by omega
     have a4:¬r=4:=by omega
     have a5:¬r=5:=by omega
     have D:¬r=6:=by omega
     have E:¬r=7:=by omega
     have F:¬r=8:=by omega
     have a9:¬r=9:=by omega
     have H:¬r=10:=by omega
     have I:¬r=11:=by omega
     have a12:¬r=12:=by omega
     unfold cont;simp only[a0,a1,a2,a3,a4,a5,D,E,F,a9,H,I,a12,if_false]
     by_cases hm:r%3=1
     ·rw[if_pos hm,if_pos hm];rfl
     ·rw[if_neg hm,if_neg hm]
      by_cases j:r%3=2
      ·rw[if_pos j,if_pos j]
       congr 1
       show _=ax (s.c.cl++[l]) ((r-14)/3);rcases Zj ((r-14)/3) s.c.cl.length with J|M
       ·rw[Bd J]
       ·have N:(r-14)/3≠s.c.cl.length:=λ p=>o (by unfold kz;omega)
        unfold ax;rw[ZP,ZP,Yy (by omega),Yy (by simp;omega)]
      ·rw[if_neg j,if_neg j];rfl
  rw[<-e];exact h1
 ·rw[hlen] at i
  by_cases e:d=s.c.cl.length
  ·subst e;have:tQ (iH hs (kz s.c.cl.length) hl) (s.sy l x) s.c.cl.length=[hl.v,.bool x.kU,.int .i64 x.aR,.int .i64 x.ac]:=by
    unfold tQ;rw[jH];show [_,Value.bool ((s.ci++[x]).getD _ _).kU,Zu .i64 ((s.ci++[x]).getD _ _).aR,Zu .i64 ((s.ci++[x]).getD _ _).ac]=_;rw[yO,if_pos A.symm]
   rw[this];exact hblk
  ·have:tQ (iH hs (kz s.c.cl.length) hl) (s.sy l x) d=tQ hs s d:=by
    unfold tQ;rw[aX _ _ (Lu e)];show [_,Value.bool ((s.ci++[x]).getD _ _).kU,Zu .i64 ((s.ci++[x]).getD _ _).aR,Zu .i64 ((s.ci++[x]).getD _ _).ac]=_;rw[yO,if_neg (by omega)]
   rw[this];exact h.e.cls d (by omega)
 ·rw[hlen] at i he
  by_cases L:d=s.c.cl.length
  ·by_cases p:e=s.c.cl.length
   ·omega
   ·subst L;exact absurd heq.symm (q e (by omega))
  ·by_cases p:e=s.c.cl.length
   ·subst p;exact absurd heq (q d (by omega))
   ·exact h.e.inj d e (by omega) (by omega) heq
 ·rw[hlen] at i
  by_cases e:d=s.c.cl.length
  ·subst e;exact u
  ·exact h.e.rU d (by omega)
 ·rw[hlen] at i
  by_cases e:d=s.c.cl.length
  ·subst e;exact y
  ·exact h.s.cl d (by omega)
end
end
section
open Go.Shelf
def Tryz.Lv:Z7:=⟨λ|43=>223|n=>n,λ|22=>25|23=>3|3=>3|4=>4|0=>0|n=>n,λ|n=>n⟩
theorem Tryz.Lw:Go.Proofs.SlLaysE.n43 y_ Tryz.Lv:={
 mixed:=by kernel_rfl
 f43:=⟨Tryz.f223.name,by decide,Tryz.func223.trans (congrArg some (by kernel_rfl))⟩
 t0:=Zc
 a0:=ZB
 z0:=ZH
 v0:=Z8
 t3:=Z0
 a3:=Zp
 z3:=Zx
 v3:=c_
 t4:=Zr
 a4:=ZT
 z4:=Z9
 v4:=Zo
 t22:=l_
 a22:=Z_
 z22:=Ze
 v22:=Zq
 a23:=Zp
 z23:=Zx}
open Go.RowKit Go.Lib Go.Sort in
theorem Tryz.slices_Compact{α:Type}[Inhabited α][DecidableEq α](enc:α->Value)(hO:OneCell enc)(heq:EqlAt y_ 3 enc (λ x y=>decide (x=y)))(c:NeqAt y_ 3 enc (λ x y=>decide (x=y)))(b:α)(v23:∀w,(zeroValue 3).run y_ w=.ok (enc b) w)(blk off cap:Nat)(d:Array α)(w:World)(hH:Holds enc w blk off d)(f:d.size<=9223372036854775807)(g:d.size<=cap):
 Calls y_ 223 #[.slice (some ⟨blk,off,none⟩) d.size cap] w λ e w'=>e=.returned (.slice (some ⟨blk,off,none⟩) (compactUpTo d d.size).length cap)/\∃q,w'=putRow enc (Sort.ahead w q) blk off (compactUpTo d d.size++ZV (d.size-(compactUpTo d d.size).length) b).toArray:=AnyE.slices_Compact Tryz.Lw enc hO heq c b v23 blk off cap d w hH f g
def Tryz.Lx:Z7:=⟨λ|41=>81|n=>n,λ|22=>25|23=>3|4=>4|n=>n,λ|n=>n⟩
theorem Tryz.Gr:Go.Proofs.SlLaysE0.n41 y_ Tryz.Lx:={
 mixed:=by kernel_rfl
 f41:=⟨Tryz.f81.name,by decide,Tryz.func81.trans (congrArg some (by kernel_rfl))⟩
 t4:=Zr
 a4:=ZT
 z4:=Z9
 v4:=Zo
 t22:=l_
 a22:=Z_
 z22:=Ze
 v22:=Zq}
open Go.RowKit Go.Lib in
theorem Tryz.slices_Clone(i0:TypeInfo)(z:Value)(size bytes:Nat)(d:y_.info? 3=some i0)(f:i0.zero=some z)(g:i0.size=size)(i:i0.bytes=bytes)(k:z.cells.size=size)(l:0<size)(z23:∀w,(Go.sizeOf 3).run y_ w=.ok size w)(b off n c:Nat)(news:List Value)(w:World)(hl:news.length=n*size)(m:n<=maxLen)(o:n*bytes<=140737488355328)(p:∀j u,news[j]? =some u->w.cell? ⟨b,off+j,none⟩=some u)(h1:∀u∈news,u.oneCell'=true):
 Calls y_ 81 #[.slice (some ⟨b,off,none⟩) n c] w λ e w'=>∃v',e=.returned v'/\w'.ownsRow w.heap.size 3 size v' n news/\v'≠ .slice none 0 0/\Below w.heap.size w w':=AnyE.slices_Clone Tryz.Gr i0 z size bytes d f g i k l z23 b off n c news w hl m o p h1
open Go.RowKit Go.Lib in
theorem Tryz.slices_Clone_nil(n c:Nat)(w:World):
 Calls y_ 81 #[.slice none n c] w λ e w'=>e=.returned (.slice none 0 0)/\w'=w:=AnyE.slices_Clone_nil Tryz.Gr n c w
def Tryz.Ly:Z7:=⟨λ|10=>85|6=>142|n=>n,λ|22=>25|23=>3|25=>106|3=>3|4=>4|0=>0|n=>n,λ|n=>n⟩
theorem Tryz.Lz:Go.Proofs.SlLaysH.n10 y_ Tryz.Ly:={
 mixed:=by kernel_rfl
 f6:=⟨Tryz.f142.name,by decide,Tryz.func142.trans (congrArg some (by kernel_rfl))⟩
 f10:=⟨Tryz.f85.name,by decide,Tryz.func85.trans (congrArg some (by kernel_rfl))⟩
 t0:=Zc
 a0:=ZB
 z0:=ZH
 v0:=Z8
 t3:=Z0
 a3:=Zp
 z3:=Zx
 v3:=c_
 t4:=Zr
 a4:=ZT
 z4:=Z9
 v4:=Zo
 t22:=l_
 a22:=Z_
 z22:=Ze
 v22:=Zq
 a23:=Zp
 z23:=Zx
 t25:=Tryz.underlying106
 a25:=Tryz.isAgg106
 z25:=Tryz.sizeOf106
 v25:=Tryz.zeroValue106}
open Go.RowKit Go.Lib Go.Sort in
theorem Tryz.slices_DeleteFunc{α:Type}[Inhabited α](enc:α->Value)(hO:OneCell enc)(p:α->Bool)(g:Nat)(lb:Array Value)(c:∀args w,(callFunc g args).run y_ w=.ok (.enter g args) w)(b:α)(v23:∀w,(zeroValue 3).run y_ w=.ok (enc b) w)(blk off cap:Nat)(d:Array α)(w:World)(hp:PredAt y_ g lb enc p w)(f:PredOver y_ g lb enc p blk off d.size w)(hH:Holds enc w blk off d)(i:d.size<=9223372036854775807)(j:d.size<=cap):
 Calls y_ 85 #[.slice (some ⟨blk,off,none⟩) d.size cap,.func (.func g) #[] lb] w λ e w'=>e=.returned (.slice (some ⟨blk,off,none⟩) (d.toList.filter λ x=> !p x).length cap)/\∃q,w'=putRow enc (Sort.ahead w q) blk off ((d.toList.filter λ x=> !p x)++ZV (d.size-(d.toList.filter λ x=> !p x).length) b).toArray:=AnyE.slices_DeleteFunc Tryz.Lz enc hO p g lb c b v23 blk off cap d w hp f hH i j
def Tryz.LA:Z7:=⟨λ|6=>157|15=>178|14=>195|28=>219|29=>220|20=>228|21=>229|22=>230|23=>231|24=>232|25=>233|26=>234|27=>235|46=>258|47=>254|48=>255|49=>259|50=>260|57=>269|n=>n,λ|22=>25|24=>3|25=>177|3=>3|39=>77|0=>0|53=>217|55=>219|4=>4|46=>211|45=>210|50=>137|5=>5|9=>9|66=>235|70=>239|76=>248|77=>249|n=>n,λ|n=>n⟩
theorem Tryz.LB:Go.Proofs.SlLaysF.n6 y_ Tryz.LA:={
 mixed:=by kernel_rfl
 f6:=⟨Tryz.f157.name,by decide,Tryz.func157.trans (congrArg some (by kernel_rfl))⟩
 f14:=⟨Tryz.f195.name,by decide,Tryz.func195.trans (congrArg some (by kernel_rfl))⟩
 f15:=Tryz.func178.trans (congrArg some (by kernel_rfl))
 f20:=⟨Tryz.f228.name,by decide,Tryz.func228.trans (congrArg some (by kernel_rfl))⟩
 f21:=⟨Tryz.f229.name,by decide,Tryz.func229.trans (congrArg some (by kernel_rfl))⟩
 f22:=⟨Tryz.f230.name,by decide,Tryz.func230.trans (congrArg some (by kernel_rfl))⟩
 f23:=⟨Tryz.f231.name,by decide,Tryz.func231.trans (congrArg some (by kernel_rfl))⟩
 f24:=⟨Tryz.f232.name,by decide,Tryz.func232.trans (congrArg some (by kernel_rfl))⟩
 f25:=⟨Tryz.f233.name,by decide,Tryz.func233.trans (congrArg some (by kernel_rfl))⟩
 f26:=⟨Tryz.f234.name,by decide,Tryz.func234.trans (congrArg some (by kernel_rfl))⟩
 f27:=⟨Tryz.f235.name,by decide,Tryz.func235.trans (congrArg some (by kernel_rfl))⟩
 f28:=Tryz.func219.trans (congrArg some (by kernel_rfl))
 f29:=Tryz.func220.trans (congrArg some (by kernel_rfl))
 f46:=⟨Tryz.f258.name,by decide,Tryz.func258.trans (congrArg some (by kernel_rfl))⟩
 f47:=Tryz.func254.trans (congrArg some (by kernel_rfl))
 f48:=Tryz.func255.trans (congrArg some (by kernel_rfl))
 f49:=⟨Tryz.f259.name,by decide,Tryz.func259.trans (congrArg some (by kernel_rfl))⟩
 f50:=⟨Tryz.f260.name,by decide,Tryz.func260.trans (congrArg some (by kernel_rfl))⟩
 f57:=⟨Tryz.f269.name,by decide,Tryz.func269.trans (congrArg some (by kernel_rfl))⟩
 t0:=Zc
 a0:=ZB
 z0:=ZH
 v0:=Z8
 t3:=Z0
 a3:=Zp
 z3:=Zx
 v3:=c_
 t4:=Zr
 a4:=ZT
 z4:=Z9
 v4:=Zo
 t5:=Tryz.underlying5
 a5:=Tryz.isAgg5
 z5:=Tryz.sizeOf5
 v5:=Tryz.zeroValue5
 t9:=Tryz.underlying9
 a9:=Tryz.isAgg9
 z9:=Tryz.sizeOf9
 v9:=Tryz.zeroValue9
 t22:=l_
 a22:=Z_
 z22:=Ze
 v22:=Zq
 a24:=Zp
 z24:=Zx
 t25:=Tryz.underlying177
 a25:=Tryz.isAgg177
 z25:=Tryz.sizeOf177
 v25:=Tryz.zeroValue177
 t39:=Tryz.underlying77
 a39:=Tryz.isAgg77
 z39:=Tryz.sizeOf77
 v39:=Tryz.zeroValue77
 t45:=Tryz.underlying210
 a45:=Tryz.isAgg210
 z45:=Tryz.sizeOf210
 v45:=Tryz.zeroValue210
 t46:=Tryz.underlying211
 a46:=Tryz.isAgg211
 z46:=Tryz.sizeOf211
 v46:=Tryz.zeroValue211
 t50:=Tryz.underlying137
 a50:=Tryz.isAgg137
 z50:=Tryz.sizeOf137
 v50:=Tryz.zeroValue137
 t53:=Tryz.underlying217
 a53:=Tryz.isAgg217
 z53:=Tryz.sizeOf217
 v53:=Tryz.zeroValue217
 t55:=Tryz.underlying219
 a55:=Tryz.isAgg219
 z55:=Tryz.sizeOf219
 v55:=Tryz.zeroValue219
 t66:=Tryz.underlying235
 a66:=Tryz.isAgg235
 z66:=Tryz.sizeOf235
 v66:=Tryz.zeroValue235
 t70:=Tryz.underlying239
 a70:=Tryz.isAgg239
 z70:=Tryz.sizeOf239
 v70:=Tryz.zeroValue239
 t76:=Tryz.underlying248
 a76:=Tryz.isAgg248
 z76:=Tryz.sizeOf248
 v76:=Tryz.zeroValue248
 t77:=Tryz.underlying249
 a77:=Tryz.isAgg249
 z77:=Tryz.sizeOf249
 v77:=Tryz.zeroValue249}
def Tryz.LC:Z7:=⟨λ|6=>157|15=>178|14=>195|28=>219|29=>220|20=>228|21=>229|22=>230|23=>231|24=>232|25=>233|26=>234|27=>235|46=>258|47=>254|48=>255|49=>259|50=>260|57=>269|n=>n,λ|22=>25|24=>3|25=>177|3=>3|39=>77|0=>0|53=>217|55=>219|4=>4|46=>211|45=>210|50=>137|5=>5|9=>9|66=>235|70=>239|76=>248|77=>249|n=>n,λ|n=>n⟩
theorem Tryz.LD:Go.Proofs.SlLaysF0.n6 y_ Tryz.LC:={
 mixed:=by kernel_rfl
 f6:=⟨Tryz.f157.name,by decide,Tryz.func157.trans (congrArg some (by kernel_rfl))⟩
 f14:=⟨Tryz.f195.name,by decide,Tryz.func195.trans (congrArg some (by kernel_rfl))⟩
 f15:=Tryz.func178.trans (congrArg some (by kernel_rfl))
 f20:=⟨Tryz.f228.name,by decide,Tryz.func228.trans (congrArg some (by kernel_rfl))⟩
 f21:=⟨Tryz.f229.name,by decide,Tryz.func229.trans (congrArg some (by kernel_rfl))⟩
 f22:=⟨Tryz.f230.name,by decide,Tryz.func230.trans (congrArg some (by kernel_rfl))⟩
 f23:=⟨Tryz.f231.name,by decide,Tryz.func231.trans (congrArg some (by kernel_rfl))⟩
 f24:=⟨Tryz.f232.name,by decide,Tryz.func232.trans (congrArg some (by kernel_rfl))⟩
 f25:=⟨Tryz.f233.name,by decide,Tryz.func233.trans (congrArg some (by kernel_rfl))⟩
 f26:=⟨Tryz.f234.name,by decide,Tryz.func234.trans (congrArg some (by kernel_rfl))⟩
 f27:=⟨Tryz.f235.name,by decide,Tryz.func235.trans (congrArg some (by kernel_rfl))⟩
 f28:=Tryz.func219.trans (congrArg some (by kernel_rfl))
 f29:=Tryz.func220.trans (congrArg some (by kernel_rfl))
 f46:=⟨Tryz.f258.name,by decide,Tryz.func258.trans (congrArg some (by kernel_rfl))⟩
 f47:=Tryz.func254.trans (congrArg some (by kernel_rfl))
 f48:=Tryz.func255.trans (congrArg some (by kernel_rfl))
 f49:=⟨Tryz.f259.name,by decide,Tryz.func259.trans (congrArg some (by kernel_rfl))⟩
 f50:=⟨Tryz.f260.name,by decide,Tryz.func260.trans (congrArg some (by kernel_rfl))⟩
 f57:=⟨Tryz.f269.name,by decide,Tryz.func269.trans (congrArg some (by kernel_rfl))⟩
 t0:=Zc
 a0:=ZB
 z0:=ZH
 v0:=Z8
 t3:=Z0
 a3:=Zp
 z3:=Zx
 v3:=c_
 t4:=Zr
 a4:=ZT
 z4:=Z9
 v4:=Zo
 t5:=Tryz.underlying5
 a5:=Tryz.isAgg5
 z5:=Tryz.sizeOf5
 v5:=Tryz.zeroValue5
 t9:=Tryz.underlying9
 a9:=Tryz.isAgg9
 z9:=Tryz.sizeOf9
 v9:=Tryz.zeroValue9
 t22:=l_
 a22:=Z_
 z22:=Ze
 v22:=Zq
 t25:=Tryz.underlying177
 a25:=Tryz.isAgg177
 z25:=Tryz.sizeOf177
 v25:=Tryz.zeroValue177
 t39:=Tryz.underlying77
 a39:=Tryz.isAgg77
 z39:=Tryz.sizeOf77
 v39:=Tryz.zeroValue77
 t45:=Tryz.underlying210
 a45:=Tryz.isAgg210
 z45:=Tryz.sizeOf210
 v45:=Tryz.zeroValue210
 t46:=Tryz.underlying211
 a46:=Tryz.isAgg211
 z46:=Tryz.sizeOf211
 v46:=Tryz.zeroValue211
 t50:=Tryz.underlying137
 a50:=Tryz.isAgg137
 z50:=Tryz.sizeOf137
 v50:=Tryz.zeroValue137
 t53:=Tryz.underlying217
 a53:=Tryz.isAgg217
 z53:=Tryz.sizeOf217
 v53:=Tryz.zeroValue217
 t55:=Tryz.underlying219
 a55:=Tryz.isAgg219
 z55:=Tryz.sizeOf219
 v55:=Tryz.zeroValue219
 t66:=Tryz.underlying235
 a66:=Tryz.isAgg235
 z66:=Tryz.sizeOf235
 v66:=Tryz.zeroValue235
 t70:=Tryz.underlying239
 a70:=Tryz.isAgg239
 z70:=Tryz.sizeOf239
 v70:=Tryz.zeroValue239
 t76:=Tryz.underlying248
 a76:=Tryz.isAgg248
 z76:=Tryz.sizeOf248
 v76:=Tryz.zeroValue248
 t77:=Tryz.underlying249
 a77:=Tryz.isAgg249
 z77:=Tryz.sizeOf249
 v77:=Tryz.zeroValue249}
open Go.RowKit Go.Lib Go.Sort in
theorem Tryz.slices_SortFunc_none{α:Type}[Inhabited α](p:Option Addr)(cap:Nat)(b:Value)(w:World):
 Calls y_ 157 #[.slice p 0 cap,b] w λ e w'=>e=.returned (.tuple #[])/\w'=w:=AnyF.slices_SortFunc_none Tryz.LD p cap b w
open Go.RowKit Go.Lib Go.Sort in
theorem Tryz.slices_SortFunc_total{α:Type}[Inhabited α](enc:α->Value)(h1:OneCell enc)(b:α->α->Int)(hO:SWO (ltOf b))(g:Nat)(cb:Array Value)(blk off cap:Nat)(d:Array α)(w:World)(c:∀args w,(callFunc g args).run y_ w=.ok (.enter g args) w)(f:CmpLays1 y_ g cb enc b blk off d.size w)(hH:Holds enc w blk off d)(hblk:blk<w.heap.size)(i:d.size<4611686018427387904)(j:∀x y,(ltOf b) x y=false->(ltOf b) y x=false->x=y):
 Calls y_ 157 #[.slice (some ⟨blk,off,none⟩) d.size cap,.func (.func g) #[] cb] w λ e w'=>
  e=.returned (.tuple #[])/\∃n os,w'=sortWorld enc w blk off n (d.toList.mergeSort λ x y=> !(ltOf b) y x).toArray os:=Any.slices_SortFunc_total Tryz.LB enc h1 b hO g cb blk off cap d w c f hH hblk i j
end
section
open Go.RowKit Go.Shelf Go.Sort Go.Lib
theorem LF:∀args w,(callFunc 221 args).run y_ w=.ok (.enter 221 args) w:=enters_of Tryz.func221 (by kernel_rfl) rfl
theorem LG:∀args w,(callFunc 222 args).run y_ w=.ok (.enter 222 args) w:=enters_of Tryz.func222 (by kernel_rfl) rfl
theorem Gs(x:Int)(w:World):Calls y_ 221 #[.int .i64 x] w λ e w'=>e=.returned (.bool (!(lG x 65536)))/\w=w':=by
 go_enter Tryz.func221,Tryz.ntmps221
 go_wp2_with (go_at_call 163;refine(CP x 65536 w (by omega) (by omega)).mono ?_;rintro e w' ⟨rfl,rfl⟩)
 go_ret;exact⟨rfl,rfl⟩
def BY(a b:Int):Int:=rJ (oz (qS a) (qS b)) (oz b a)
theorem LH(x y:Int)(w:World)(b: -65536<=x)(c:x<=65536)(d: -65536<=y)(f:y<=65536):
  Calls y_ 222 #[.int .i64 x,.int .i64 y] w λ e w'=>e=.returned (.int .i64 (BY x y))/\w'=w.alloc (.cells #[.int .i64 (oz (qS x) (qS y)),.int .i64 (oz y x)] 3):=by
 have g:=U (z_ b c);have i:=U (z_ d f);clear b c d f;go_enter Tryz.func222,Tryz.ntmps222
 go_wp2_with (first
  |(go_at_call 168;refine(EC _ _ (by first|exact g.o.1|exact i.o.1) (by first|exact g.o.2|exact i.o.2)).mono ?_;rintro e w' ⟨rfl,rfl⟩)
  |(go_at_call 160;refine(zD _ _ _).mono ?_;rintro e w' ⟨rfl,rfl⟩)
  |(go_at_call 159;refine(A0 w.heap.size (oz (qS x) (qS y)) (oz y x) _ (by go_simp) (by go_simp)).mono ?_;rintro e w' ⟨rfl,rfl⟩))
 go_ret;exact⟨rfl,rfl⟩
theorem LI(b:Value)(w:World):
  Calls y_ 142 #[.slice none 0 0,b] w λ e w'=>e=.returned (.int .i64 (-1))/\w=w':=by
 go_enter Tryz.func142,Tryz.ntmps142
 go_wp2;refine ZU 1 ?_;rw[Yz];go_wp2;go_ret;exact⟨rfl,rfl⟩
theorem LJ(b:Value)(w:World):
  Calls y_ 85 #[.slice none 0 0,b] w λ e w'=>e=.returned (.slice none 0 0)/\w=w':=by
 have c:=LI b w;go_enter Tryz.func85,Tryz.ntmps85
 go_wp2_with (go_at_call 142;refine c.mono ?_;rintro e w' ⟨rfl,rfl⟩)
 go_ret;exact⟨rfl,rfl⟩
theorem LK(w:World):
  Calls y_ 223 #[.slice none 0 0] w λ e w'=>e=.returned (.slice none 0 0)/\w=w':=by
 go_enter Tryz.func223,Tryz.ntmps223
 go_wp2;go_ret;exact⟨rfl,rfl⟩
def p0(a b:Int):Bool:=decide (qS a<qS b)||(decide (qS a=qS b)&&decide (b<a))
theorem w6{b:Int}:p0 a b=true↔qS a<qS b\/(qS a=qS b/\b<a):=by simp[p0]
theorem BZ(a:Int):¬p0 a a=true:=by rw[w6];omega
theorem DR{b c:Int}(h1:p0 a b=true)(d:p0 b c=true):p0 a c=true:=by rw[w6] at*;omega
theorem LL{b:Int}(h1:p0 a b=true):¬p0 b a=true:=by rw[w6] at*;omega
theorem B0{b:Int}(h:a≠b):p0 a b=true\/p0 b a=true:=by rw[w6,w6];omega
def sV(l:List Int):Prop:=l.Pairwise λ a b=>p0 a b=true
theorem Gt:∀{l m:List Int},sV l->sV m->(∀x,x∈l↔x∈m)->l=m
 |[],[],_,_,_=>rfl
 |[],y::m,_,_,h=>by have:=(h y).2 (by simp);simp at this
 |x::l,[],_,_,h=>by have:=(h x).1 (by simp);simp at this
 |x::l,y::m,h1,i,h=>by
  have d:=b_.1 h1;have f:=b_.1 i;have e:x=y:=by
   have b:=(h x).1 (by simp);have c:=(h y).2 (by simp);rcases g_.1 b with b|b
   ·exact b
   ·rcases g_.1 c with c|c
    ·exact c.symm
    ·exact absurd (d.1 y c) (LL (f.1 x b))
  subst e
  congr 1
  refine Gt d.2 f.2 λ z=>?_
  have g:=h z;simp only[g_] at g;constructor
  ·intro hm;rcases g.1 (o_ hm) with e|e
   ·subst e;exact absurd (d.1 z hm) (BZ z)
   ·exact e
  ·intro hm;rcases g.2 (o_ hm) with e|e
   ·subst e;exact absurd (f.1 z hm) (BZ z)
   ·exact e
def w8(x:Int):List Int->List Int
 |[]=> [x]
 |y::l=>if p0 y x=true then y::w8 x l else x::y::l
theorem DS{x z:Int}:∀{l:List Int},z∈w8 x l↔z=x\/z∈l
 |[]=>by simp[w8]
 |y::l=>by
  unfold w8;split
  ·simp only[g_,DS];constructor
   ·rintro(h|h|h)
    ·exact o_ (k_ h)
    ·exact k_ h
    ·exact o_ (o_ h)
   ·rintro(h|h|h)
    ·exact o_ (k_ h)
    ·exact k_ h
    ·exact o_ (o_ h)
  ·simp
theorem Gu{x:Int}:∀{l:List Int},sV l->x∉l->sV (w8 x l)
 |[],_,_=>by simp[w8,sV]
 |y::l,h,b=>by
  have h':=b_.1 h;simp only[g_,not_or] at b;unfold w8;split
  ·rename_i c;refine b_.2 ⟨λ z d=>?_,Gu h'.2 b.2⟩;rcases DS.1 d with e|e
   ·subst e;exact c
   ·exact h'.1 z e
  ·rename_i c;have f:p0 x y=true:=(B0 b.1).resolve_right c;refine b_.2 ⟨λ z d=>?_,h⟩;rcases g_.1 d with e|e
   ·subst e;exact f
   ·exact DR f (h'.1 z e)
def x4(out:List Int)(x:Int):List Int:=if lG x 65536=true/\hasB out x=false then w8 x out else out
def kY(l:List Int):List Int:=l.foldl x4 []
theorem DT:∀(l out:List Int),sV out->(sV (l.foldl x4 out)/\∀x,x∈l.foldl x4 out↔x∈out\/(x∈l/\lG x 65536=true))
 |[],out,h=>⟨h,λ x=>by simp⟩
 |y::l,out,h=>by
  have hs:sV (x4 out y)/\∀x,x∈x4 out y↔x∈out\/(x=y/\lG x 65536=true):=by
   unfold x4;split
   ·rename_i c;have f:y∉out:=λ hm=>by have:=qR.2 hm;rw[c.2] at this;cases this
    refine⟨Gu h f,λ x=>?_⟩;rw[DS];constructor
    ·rintro(e|e)
     ·subst e;exact o_ ⟨rfl,c.1⟩
     ·exact k_ e
    ·rintro(e|⟨e,_⟩)
     ·exact o_ e
     ·exact k_ e
   ·rename_i c;refine⟨h,λ x=>⟨k_,?_⟩⟩;rintro(e|⟨e,b⟩)
    ·exact e
    ·subst e
     cases d:hasB out x with
     |true=>exact qR.1 d
     |false=>exact absurd ⟨b,d⟩ c
  obtain⟨h1,g⟩:=DT l (x4 out y) hs.1;refine⟨h1,λ x=>?_⟩;rw[List.foldl_cons,g,hs.2,g_];constructor
  ·rintro((e|⟨e,b⟩)|⟨e,b⟩)
   ·exact k_ e
   ·exact o_ ⟨k_ e,b⟩
   ·exact o_ ⟨o_ e,b⟩
  ·rintro(e|⟨e|e,b⟩)
   ·exact k_ (k_ e)
   ·exact k_ (o_ ⟨e,b⟩)
   ·exact o_ ⟨e,b⟩
theorem Gv(l:List Int):sV (kY l):=(DT l [] (by simp[sV])).1
theorem B1:x∈kY l↔x∈l/\lG x 65536=true:=by
 have:=(DT l [] (by simp[sV])).2 x;simpa[kY] using this
theorem LM{m:List Int}(h:sV m)(hm:∀x,x∈m↔x∈l/\lG x 65536=true):m=kY l:=
 Gt h (Gv l) λ x=>by rw[hm,B1]
abbrev r4:={x:Int//x≠0/\ -65536<=x/\x<=65536}
instance:Inhabited r4:=⟨⟨1,by decide⟩⟩
def r5(x:Int):Value:=.int .i64 x
def ze(x:r4):Value:=.int .i64 x.1
def sW(x y:r4):Int:=BY x.1 y.1
theorem LN:BY x y<0↔p0 x y=true:=by
 rw[w6];unfold BY rJ oz;(repeat' split)<;>omega
theorem Ao(x y:r4):ltOf sW x y=p0 x.1 y.1:=by
 unfold ltOf sW;rw[Bool.eq_iff_iff,decide_eq_true_eq,LN]
theorem B2:SWO (ltOf sW) where
 irrefl x:=by rw[Ao];simpa using BZ x.1
 trans x y z h1 c:=by rw[Ao] at*;exact DR h1 c
 ntrans x y z h1 c:=by
  rw[Ao] at*
  cases h:p0 x.1 z.1 with
  |false=>rfl
  |true=>
   exfalso;have a:¬p0 x.1 y.1=true:=by rw[h1];exact Z3
   have b:¬p0 y.1 z.1=true:=by rw[c];exact Z3
   rw[w6] at*;omega
theorem LO(x y:r4)(h1:ltOf sW x y=false)(b:ltOf sW y x=false):x=y:=by
 rw[Ao] at*;rcases Classical.em (x.1=y.1) with e|e
 ·exact Subtype.ext e
 ·rcases B0 e with h|h
  ·rw[h1] at h;cases h
  ·rw[b] at h;cases h
theorem LP(blk off size:Nat)(w:World):CmpLays1 y_ 222 #[] ze sW blk off size w:=by
 intro m os b hs x y;refine(LH x.1 y.1 _ x.2.2.1 x.2.2.2 y.2.2.1 y.2.2.2).mono ?_;rintro e w' ⟨rfl,rfl⟩;exact⟨rfl,0, #[_],by rw[alloc_eq_grow];rfl⟩
def zf(x:Int):Bool:= !(lG x 65536)
theorem LQ(w:World):PredAt y_ 221 #[] r5 zf w:=by
 intro W x _;unfold FnGives;exact(Gs x W).mono λ _ _ ⟨he,hw⟩=>⟨he,0,by rw[<-hw];rfl⟩
theorem LR(blk off size:Nat)(w:World):PredOver y_ 221 #[] r5 zf blk off size w:=by
 intro n os b x _;unfold FnGives;exact(Gs x _).mono λ _ _ ⟨he,hw⟩=>⟨he,0,by rw[<-hw];rfl⟩
theorem DU:OneCell r5:=λ _=>rfl
theorem LS:OneCell ze:=λ _=>rfl
theorem filter_eq(b:List Int):(b.filter λ x=> !zf x)=b.filter λ x=>lG x 65536:=by
 congr 1;funext x;simp[zf]
def x5(b:List Int):List r4:=b.filterMap λ x=>if h:x≠0/\ -65536<=x/\x<=65536 then some ⟨x,h⟩ else none
theorem Gw(b:List Int):(x5 b).map (·.1)=b.filter λ x=>lG x 65536:=by
 induction b with
 |nil=>rfl
 |cons x l d=>
  unfold x5 at*
  by_cases h:x≠0/\ -65536<=x/\x<=65536
  ·have c:lG x 65536=true:=uP.2 h;rw[List.filterMap_cons,List.filter_cons,c,dif_pos h];simpa using d
  ·have c:lG x 65536=false:=by
    cases e:lG x 65536 with
    |false=>rfl
    |true=>exact absurd (uP.1 e) h
   rw[List.filterMap_cons,List.filter_cons,c,dif_neg h];simpa using d
def Gx(d:Array r4)(m:Nat):Prop:=∀i j,i<j->j<m->p0 d[j]!.1 d[i]!.1=false
theorem Gy(d:Array r4):∀m,Gx d m->
  sV ((compactUpTo d m).map (·.1))/\(∀x,x∈compactUpTo d m↔∃i,i<m/\d[i]! =x)
 |0,_=>⟨by simp[compactUpTo,sV],λ x=>by simp[compactUpTo]⟩
 |m+1,h=>by
  obtain⟨h1,g⟩:=Gy d m (λ i j c t=>h i j c (by omega));rw[ZG]
  by_cases hk:keeps d m=true
  ·rw[if_pos hk];constructor
   ·rw[ZD];refine Yv.2 ⟨h1,by simp,λ a o b k=>?_⟩;simp only[d_,Zl,a_] at k;subst k;obtain⟨y,p,rfl⟩:=Z5.1 o;obtain⟨i,c,rfl⟩:=(g y).1 p;have q:d[m]! ≠d[m-1]! :=by
     have:=of_decide_eq_true hk;rcases this with e|e
     ·omega
     ·exact e
    have a1:p0 d[m]!.1 d[m-1]!.1=false:=h (m-1) m (by omega) (by omega);have a2:p0 d[m-1]!.1 d[m]!.1=true:=(B0 (λ e=>q (Subtype.ext e.symm))).resolve_right (by rw[a1];exact Z3);rcases Zj i (m-1) with f|l
    ·have a3:p0 d[m-1]!.1 d[i]!.1=false:=h i (m-1) f (by omega);rcases Classical.em (d[i]!.1=d[m-1]!.1) with e|e
     ·rw[e];exact a2
     ·exact DR ((B0 e).resolve_right (by rw[a3];exact Z3)) a2
    ·have:i=m-1:=by omega
     subst this;exact a2
   ·intro x;rw[ZC,g,a_];constructor
    ·rintro(⟨i,c,e⟩|e)
     ·exact⟨i,by omega,e⟩
     ·exact⟨m,by omega,e.symm⟩
    ·rintro⟨i,c,e⟩;rcases Zj i m with f|l
     ·exact k_ ⟨i,f,e⟩
     ·have:i=m:=by omega
      subst this;exact o_ e.symm
  ·rw[if_neg hk,List.append_nil];refine⟨h1,λ x=>?_⟩;rw[g];constructor
   ·rintro⟨i,c,e⟩;exact⟨i,by omega,e⟩
   ·rintro⟨i,c,e⟩;rcases Zj i m with f|l
    ·exact⟨i,f,e⟩
    ·have r:i=m:=by omega
     subst r;have n:¬(i=0\/d[i]! ≠d[i-1]!):=λ s=>hk (decide_eq_true s)
     have u:i≠0:=λ e=>n (k_ e)
     have he:d[i]! =d[i-1]! :=Classical.byContradiction λ e=>n (o_ e)
     exact⟨i-1,by omega,by rw[<-he];exact e⟩
def uE(b:List Int):List r4:=(x5 b).mergeSort λ x y=> !(ltOf sW) y x
theorem LU{x:r4}:x∈x5 ah↔x.1∈ah:=by
 unfold x5;rw[List.mem_filterMap];constructor
 ·rintro⟨a,b,h⟩;split at h
  ·injection h with h;rw[<-h];exact b
  ·cases h
 ·intro h;exact⟨x.1,h,by rw[dif_pos x.2]⟩
theorem LV(d:List Int):Gx (uE d).toArray (uE d).length:=by
 have h:(uE d).Pairwise λ x y=>(!(ltOf sW) y x)=true:=by
  refine List.pairwise_mergeSort ?_ ?_ _
  ·intro a b c h1 e;simp only[ZN] at*;exact B2.ntrans c b a e h1
  ·intro a b;simp only[Bool.or_eq_true,ZN]
   cases h1:ltOf sW b a with
   |false=>exact k_ rfl
   |true=>
    right
    cases e:ltOf sW a b with
    |false=>rfl
    |true=>have:=B2.trans _ _ _ h1 e;rw[B2.irrefl] at this;cases this
 intro i j g f;have:=List.pairwise_iff_getElem.1 h i j (by omega) f g;simp only[ZN,Ao] at this;rw[getElem!_pos _ _ (by simpa using f),getElem!_pos _ _ (by simp;omega)];simpa using this
theorem Gz(b:List Int):(compactUpTo (uE b).toArray (uE b).length).map (·.1)=kY b:=by
 obtain⟨h1,d⟩:=Gy (uE b).toArray (uE b).length (LV b);refine LM h1 λ x=>?_
 rw[Z5];have hm:∀y:r4,y∈compactUpTo (uE b).toArray (uE b).length↔y.1∈b:=by
  intro y;rw[d,<-LU,<-List.mem_mergeSort (le:=λ x y=> !(ltOf sW) y x)];show _↔y∈uE b;rw[Yw];constructor
  ·rintro⟨i,c,e⟩;rw[getElem!_pos _ _ (by simpa using c)] at e;exact⟨i,c,by simpa using e⟩
  ·rintro⟨i,c,e⟩;exact⟨i,c,by rw[getElem!_pos _ _ (by simpa using c)];simpa using e⟩
 constructor
 ·rintro⟨y,f,rfl⟩;exact⟨(hm y).1 f,uP.2 y.2⟩
 ·rintro⟨g,j⟩;exact⟨⟨x,uP.1 j⟩,(hm _).2 g,rfl⟩
def LW(b:List Int)(w:World)(e:Ending)(w':World):Prop:=
 ∃A c,e=.returned (.slice A b.length c)/\w'.ownsRow w.heap.size 3 1 (.slice A b.length c) b.length (b.map (Zu .i64))/\Below w.heap.size w w'
theorem w9(A:Option Addr)(n c:Nat)(f:List Int)(w:World)(h:aQ w A n c f):
  Calls y_ 81 #[.slice A n c] w (LW f w):=by
 obtain⟨i0,s,t,v,y⟩:=info_parts zF;have E:∀(w:World)(a:Option Addr)(n c m c':Nat),(binOp .eql 25 (.slice a n c) (.slice none m c')).run y_ w=.ok (.bool a.isNone) w:=λ w a n c m c'=>Lib.run_eql_slice_nil w _ _ a n c m c' l_
 have hlen:=h.len;have F:=h.mW;have H:=U h;clear h
 cases A with
 |none=>
  have z:n=0:=by
   rcases ZR n with d|d
   ·exact d
   ·obtain⟨b,off,he,_⟩:=H.o.cells d;cases he
  subst z;have B:f=[]:=r_ hlen;subst B;clear hlen;go_enter Tryz.func81,Tryz.ntmps81
  go_wp2;go_ret;exact⟨none,0,rfl,World.ownsRow_nil _ _ _ _,Zh _ _⟩
 |some a=>
  have e:=U hlen;clear hlen;go_enter Tryz.func81,Tryz.ntmps81
  go_wp2_with (at_builtin;refine wpList_append_own _ rfl _ _ 25 rfl w.heap.size 3 i0 (.int .i64 0) 1 8 l_ s t v y rfl (by decide) _ _ _ rfl (World.ownsRow_made w #[] 0 (e_ _) (ZA _) rfl) a n c (f.map (Zu .i64)) rfl ?qc1 ?qc2 ?qc3 ?qc4 ?qc5 ?qc6 ?_)
  case qc1=>simp[e.o]
  case qc2=>
   intro j u p;have q:j<n:=by have:=(x_.1 p).1;simpa[e.o] using this
   obtain⟨b,off,he,i,C⟩:=H.o.cells (by omega);injection he with he
   subst he;rw[Yt];rw[World.cell?_alloc_lt _ _ _ (by exact i),C j q];rw[ZO,m_ (by rw[e.o];exact q)] at p;rw[rI (by rw[e.o];exact q)];exact p
  case qc3=>intro u hu;obtain⟨x,_,rfl⟩:=Z5.1 hu;rfl
  case qc4=>unfold maxLen;omega
  case qc5=>omega
  case qc6=>simp
  intro v' w1 l D G;go_wp2;go_ret;have i:Below w.heap.size w w1:=((Zh _ w).alloc (e_ _) _).grown D (by simp) (by intro k hk;simp[Value.ownBlock] at hk;omega);have hl:=e.o;subst hl;rcases l.2 with⟨r,d⟩|⟨g,cap,cur,r,I⟩
  ·subst r;refine⟨none,0,?_,?_,i⟩
   ·rw[d];rfl
   ·rw[d] at l⊢;exact l
  ·subst r;exact⟨_,_,rfl,l,i⟩
def Own(w:World)(base g n cap:Nat)(b:List Int):Prop:=w.ownsRow base 3 1 (.slice (some ⟨g,0,none⟩) n cap) n (b.map (Zu .i64))
theorem below_grow{B:Nat}{a w:World}(h:Below B a w)(b:B<=w.heap.size)(os:Array Obj):Below B a (grow w os):=
 ⟨h.os,h.tape,h.output,by simp only[grow,Array.size_append];have:=h.size;omega,λ k hk=>by
  rw[<-h.block k hk];simp only[grow];rw[Array.getElem?_append_left (by omega)]⟩
theorem GA(l:List r4):l.map ze=(l.map (·.1)).map (Zu .i64):=by rw[List.map_map];rfl
theorem LX(w:World)(base g n cap:Nat)(b:List Int)(h:Own w base g n cap b)(f:base<=g):
  Calls y_ 85 #[.slice (some ⟨g,0,none⟩) n cap,.func (.func 221) #[] #[]] w λ e w'=>
   ∃m,e=.returned (.slice (some ⟨g,0,none⟩) m cap)/\Own w' base g m cap (b.filter λ x=>lG x 65536)/\Below base w w':=by
 have h':w.ownsRow base 3 1 (.slice (some ⟨g,0,none⟩) n cap) n (b.map r5):=h;obtain⟨r,s,he,h1,t,i,j,c,l⟩:=ZF h' (by intro e;cases e)
 cases he
 have o:n<=9223372036854775807:=by unfold maxLen at j;omega
 have d:=Tryz.slices_DeleteFunc r5 DU zf 221 #[] LF 0 c_ g 0 cap b.toArray w (LQ w) (LR _ _ _ w) l (by simpa[c] using o) (by simpa[c] using i);have hs:b.toArray.size=n:=by simp[c]
 rw[hs] at d;refine d.mono ?_;rintro e w' ⟨rfl,q,rfl⟩;have p:b.toArray.toList.filter (λ x=> !zf x)=b.filter λ x=>lG x 65536:=filter_eq b
 rw[p];have hle:=Zw (λ x=>lG x 65536) b;refine⟨_,rfl,?_,below_putRow (Zh _ _) f⟩;have:=Yx (q:=q) (k:=(b.filter λ x=>lG x 65536).length) (ys:=(b.filter λ x=>lG x 65536)++ZV (n-(b.filter λ x=>lG x 65536).length) 0) h' (by simp;omega) (by omega);rw[Z6 rfl] at this;exact this
theorem LY(w:World)(base g m cap:Nat)(ls:List r4)(h:Own w base g m cap (ls.map (·.1)))(i:base<=g)(hm:m*8<=140737488355328):
  Calls y_ 157 #[.slice (some ⟨g,0,none⟩) m cap,.func (.func 222) #[] #[]] w λ e w'=>
   e=.returned (.tuple #[])/\Own w' base g m cap ((ls.mergeSort λ x y=> !(ltOf sW) y x).map (·.1))/\Below base w w':=by
 have h':w.ownsRow base 3 1 (.slice (some ⟨g,0,none⟩) m cap) m (ls.map ze):=by rw[GA];exact h
 obtain⟨p,r,he,h1,j,s,t,b,l⟩:=ZF h' (by intro e;cases e)
 cases he
 have n:m<4611686018427387904:=by omega
 have c:=Tryz.slices_SortFunc_total ze LS sW B2 222 #[] g 0 cap ls.toArray w LG (LP _ _ _ w) l j (by simpa[b] using n) LO;have hs:ls.toArray.size=m:=by simp[b]
 rw[hs] at c;refine c.mono ?_;rintro e w' ⟨rfl,q,os,rfl⟩;have f:=Yx (q:=q) (k:=m) (ys:=ls.mergeSort λ x y=> !(ltOf sW) y x) h' (by simp[b]) (e_ _);rw[List.take_of_length_le (by simp[b]),GA] at f;refine⟨rfl,?_,?_⟩
 ·have:=ownsRow_grow f 0 os;exact this
 ·have o:=below_putRow (enc:=ze) (q:=q) (d:=(ls.mergeSort λ x y=> !(ltOf sW) y x).toArray) (Zh base w) i;exact below_grow o (by simp[putRow,mapBlock,Sort.ahead];omega) os
theorem GB(ls:List r4):∀m,m<=ls.length->compactUpTo (ls.map (·.1)).toArray m=(compactUpTo ls.toArray m).map (·.1)
 |0,_=>by simp[compactUpTo]
 |m+1,h=>by
  have b:∀j,j<ls.length->(ls.map (·.1)).toArray[j]! =(ls.toArray[j]!).1:=by
   intro j c;rw[getElem!_pos _ _ (by simpa using c),getElem!_pos _ _ (by simpa using c)];simp
  rw[ZG,ZG,ZD,GB ls m (by omega)]
  congr 1
  have hk:keeps (ls.map (·.1)).toArray m=keeps ls.toArray m:=by
   unfold keeps;rw[b m (by omega),b (m-1) (by omega)]
   congr 1
   rw[ne_eq,ne_eq,Subtype.ext_iff]
  rw[hk,b m (by omega)];split<;>simp
theorem GC(w:World)(base g n cap:Nat)(ls:List r4)(h:Own w base g n cap (ls.map (·.1)))(c:base<=g):
  Calls y_ 223 #[.slice (some ⟨g,0,none⟩) n cap] w λ e w'=>
   ∃m,e=.returned (.slice (some ⟨g,0,none⟩) m cap)/\Own w' base g m cap ((compactUpTo ls.toArray ls.length).map (·.1))/\Below base w w':=by
 have h':w.ownsRow base 3 1 (.slice (some ⟨g,0,none⟩) n cap) n ((ls.map (·.1)).map r5):=h;obtain⟨o,p,he,h1,r,d,f,i,j⟩:=ZF h' (by intro e;cases e)
 cases he
 have l:n<=9223372036854775807:=by unfold maxLen at f;omega
 have hl:ls.length=n:=by simpa using i
 have hs:(ls.map (·.1)).toArray.size=n:=by simp[hl]
 have b:=Tryz.slices_Compact r5 DU (EqlAt.intD _ _ _) ⟨λ x y w=>by rw[r5,r5,(NeqAt.int y_ 3 .i64).1 x y w];congr 1,.int _ _ _⟩ 0 c_ g 0 cap (ls.map (·.1)).toArray w j (by rw[hs];exact l) (by rw[hs];exact d);rw[hs] at b;refine b.mono ?_;rintro e w' ⟨rfl,q,rfl⟩;rw[<-hl,GB ls ls.length (e_ _)];have hle:((compactUpTo ls.toArray ls.length).map (·.1)).length<=n:=by
  rw[ZZ];unfold compactUpTo;rw[ZZ];refine Zv (Zw _ _) (by simp[hl])
 refine⟨_,rfl,?_,below_putRow (Zh _ _) c⟩;have:=Yx (q:=q) (k:=((compactUpTo ls.toArray ls.length).map (·.1)).length) (ys:=((compactUpTo ls.toArray ls.length).map (·.1))++ZV (n-((compactUpTo ls.toArray ls.length).map (·.1)).length) 0) h' (by simp at hle⊢;omega) hle;rw[Z6 rfl] at this;rw[hl] at this⊢;exact this
def uF(l:List Int)(k:Nat):Bool:=(List.range k).any λ i=>decide (0<i)&&(iJ l (i-1)== -(iJ l i))
def sA(l:List Int):Bool:=uF l l.length
theorem GD(l:List Int)(k:Nat):uF l (k+1)=(uF l k||(decide (0<k)&&(iJ l (k-1)== -(iJ l k)))):=by
 unfold uF;rw[List.range_succ,List.any_append];simp
theorem LZ(l:List Int){j k:Nat}(h:j<=k)(b:uF l j=true):uF l k=true:=by
 unfold uF at*;rw[List.any_eq_true] at*;obtain⟨x,c,he⟩:=b;exact⟨x,by rw[List.mem_range] at*;omega,he⟩
theorem L0(hk:k<l.length)(h:uF l (k+1)=true):sA l=true:=LZ l (by omega) h
theorem L1(h:x∈kY ah):x≠0/\ -65536<=x/\x<=65536:=uP.1 (B1.1 h).2
theorem L2(b:List Int):CQ (kY b):=λ x h=>L1 h
theorem L3(b:List Int):(kY b).length<=b.length:=by
 rw[<-Gz];rw[ZZ];unfold compactUpTo;rw[ZZ];refine Zv (Zw _ _) ?_;rw[List.length_range];unfold uE;rw[List.length_mergeSort];unfold x5;exact List.length_filterMap_le _ _
def L4(b:List Int)(w:World)(e:Ending)(w':World):Prop:=
 ∃A c,e=.returned (.tuple #[.slice A (kY b).length c,.bool (sA (kY b))])/\aQ w' A (kY b).length c (kY b)/\w'.ownsRow w.heap.size 3 1 (.slice A (kY b).length c) (kY b).length ((kY b).map (Zu .i64))/\Below w.heap.size w w'
theorem Own.xb{w:World}(h:Own w base g n cap ah)(b:n*8<=140737488355328):aQ w (some ⟨g,0,none⟩) n cap ah:=aQ.lz h b
theorem Own.len{w:World}(h:Own w base g n cap ah):ah.length=n:=by simpa using h.1
theorem GF{gB c:Nat}{a b:Bool}(d:n=gB)(h:a=b):Ending.returned (.tuple #[.slice A n c,.bool a])=.returned (.tuple #[.slice A gB c,.bool b]):=by rw[d,h]
theorem L5(A:Option Addr)(n c:Nat)(d:List Int)(w:World)(h:aQ w A n c d):
  Calls y_ 179 #[.slice A n c] w (L4 d w):=by
 have M:=w9 A n c d w h;have N:=h.mW;have hlen:=h.len;have C:=U (z_ hlen N);clear h hlen N;go_enter Tryz.func179,Tryz.ntmps179
 go_wp2_with fail
 refine M.mono ?_;clear M;rintro e w1 ⟨aC,c1,rfl,t,O⟩;have D:=U O;clear O;rcases t.2 with⟨p,u⟩|⟨g,cap,cur,p,E,ah⟩
 ·have ai:d=[]:=r_ u;subst ai;simp only[Yq] at p;obtain⟨rfl,-,rfl⟩:=p;clear t u;have aj:=LJ (.func (.func 221) #[] #[]) w1;have ak:Calls y_ 157 #[.slice none 0 0,.func (.func 222) #[] #[]] w1 λ e w'=>e=.returned (.tuple #[])/\w1=w':=(Tryz.slices_SortFunc_none (α:=r4) none 0 (.func (.func 222) #[] #[]) w1).mono λ _ _ ⟨h1,al⟩=>⟨h1,al.symm⟩
  have an:=LK w1
  go_wp2_with (first
   |(go_at_call 85;refine aj.mono ?_;rintro e w' ⟨rfl,rfl⟩)
   |(go_at_call 157;refine ak.mono ?_;rintro e w' ⟨rfl,rfl⟩)
   |(go_at_call 223;refine an.mono ?_;rintro e w' ⟨rfl,rfl⟩))
  refine ZU 1 ?_;rw[Yz];go_wp2
  go_ret2
  exact⟨none,0,rfl,aQ.nil _ _ _ (ZA _),⟨rfl,k_ ⟨rfl,rfl⟩⟩,D.o⟩
 ·simp only[Yq] at p;obtain⟨rfl,-,rfl⟩:=p;have P:Own w1 w.heap.size g d.length c1 d:=t;clear ah t
  go_wp2_with fail
  refine(LX w1 w.heap.size g d.length c1 d P E).mono ?_;rintro e ao ⟨m2,rfl,v,Q⟩;rw[<-Gw] at v;have F:=v.len;have R:m2*8<=140737488355328:=by
   rw[Gw] at F;have:=Zw (λ x=>lG x 65536) d;have:=C.o;omega
  have S:=LY ao w.heap.size g m2 c1 (x5 d) v E R;have aq:=U F;have T:=U Q;clear F Q v P
  go_wp2_with fail
  refine S.mono ?_;clear S;rintro e ar ⟨rfl,V,W⟩;have X:=GC ar w.heap.size g m2 c1 (uE d) V E;have Y:=U W;clear W V
  go_wp2_with fail
  refine X.mono ?_;clear X;rintro e G ⟨m,rfl,r,Z⟩;rw[Gz] at r;have hm:=r.len;have au:m*8<=140737488355328:=by
   have:=L3 d;have:=C.o;omega
  have aa:=r.xb au;have H:=U aa;have f:=U hm;have ab:=U r;have y:bI (Below w.heap.size w G):=U (((D.o.trans T.o).trans Y.o).trans Z);clear hm aa r Z D T Y aq R C;have av:=U (L2 d);go_wp2
  go_loopw [15] (λ i wr=>∃k q:Nat,k<=m/\i=.int .i64 k/\uF (kY d) k=false/\wr=G.drewN q) (λ i _=>m-(intOf i).toNat)
  case atStart=>exact⟨0,0,ZA _,rfl,rfl,rfl⟩
  case round=>
   obtain⟨k,q,hk,rfl,ad,rfl⟩:=hrel;have I:=U ad;clear ad
   by_cases ae:k<m
   ·obtain⟨b,off,J,aD,z⟩:=H.o.cells (by omega);injection J with J
    injection J with aw ax
    subst aw ax;have ay:=z k ae;have hl:k<(kY d).length:=by rw[f.o];exact ae
    have B:=av.o.at hl;have aE:=Iq B.2.1 B.2.2;have az:=U B;clear B
    by_cases u:0<k
    ·have aA:=z (k-1) (by omega);obtain⟨j,K⟩:∃j,k-1=j:=⟨_,rfl⟩
     rw[K,Yr] at aA;rw[Yr] at ay;clear z;have af:=I.o;have l:=GD (kY d) k;rw[af,K,decide_eq_true u,Bool.false_or,Bool.true_and] at l;have s:=U l;have aF:n_.wrap ((k:Int)-1)=(j:Int):=by rw[show(k:Int)-1=(j:Int) by omega];exact ZW (j:Int) (by omega)
     have aG:j<m:=by omega
     have aH:(j:Int)<(m:Int):=by omega
     have aI:(k:Int)<(m:Int):=by omega
     have aJ:(0:Int)<(k:Int):=by omega
     have aK:n_.wrap (-(iJ (kY d) k))= -(iJ (kY d) k):=by have:=az.o;exact ZW (-(iJ (kY d) k)) (by omega)
     clear l af K;generalize aL:(iJ (kY d) j== -(iJ (kY d) k))=o at s
     cases o
     ·go_wp2_with fail
      go_quiet (fail)
      go_wp2;go_roundw
      case rel=>exact⟨k+1,_,by omega,by go_num,s.o,rfl⟩
      case measure=>simp[intOf];omega
     ·go_wp2_with fail
      go_quiet (fail)
      go_wp2
      go_ret2
      exact⟨_,_,GF f.o.symm (L0 hl s.o).symm,by rw[f.o,ZM];exact H.o.below (tc _ _),by rw[f.o,ZM];exact lR ab.o (tc _ _),by rw[ZM];exact y.o.trans ((tc _ _).mono y.o.size)⟩
    ·obtain rfl:k=0:=by omega
     have l:=GD (kY d) 0;rw[I.o] at l;have s:=U l;clear l z
     go_wp2_with fail
     go_quiet (fail)
     go_wp2;go_roundw
     case rel=>exact⟨1,_,by omega,by go_num,s.o,rfl⟩
     case measure=>simp[intOf];omega
   ·have L:=U (tc G q);have ag:uF (kY d) (kY d).length=false:=by
     have:=I.o;rw[show k=(kY d).length by rw[f.o];omega] at this;exact this
    have aB:=U ag;clear ag;go_wp2
    go_ret2
    exact⟨_,_,GF f.o.symm aB.o.symm,by rw[f.o];exact H.o.below L.o,by rw[f.o];exact lR ab.o L.o,y.o.trans (L.o.mono y.o.size)⟩
end
section
open Go.RowKit Go.Shelf
section
variable {K:Nat->Prop}{base:Nat}{w W:World}{G:Nat}{hs:Nat->aq}{cb:Nat->Nat}{s:aj}
theorem L6{b kT:Nat}{t nJ:TypeId}{cs B3:List Value}(h:aO w b t cs)(h':aO w kT nJ B3)(c:t≠nJ):b≠kT:=λ e=>by
 subst e;have:=h.symm.trans h';injection this with this
 injection this with _ d
 exact c d
theorem aU.other(h:aU K base w G hs cb s){b k:Nat}{v:Value}(j:G≠b)(l:∀r g,(hs r).b=some g->b≠g)(m:∀d,d<s.c.cl.length->cb d≠b)(n:¬K b):aU K base (w.setCell ⟨b,k,none⟩ v) G hs cb s/\aD K w (w.setCell ⟨b,k,none⟩ v):=by
 have f:=kK w b k v;refine⟨⟨⟨h.e.box.kept f (λ e=>j (by injection e)),h.e.rows.kept f (λ r g e o=>l r g e (by injection o)),λ d i=>(h.e.cls d i).kept f (λ e=>m d i (by injection e)),h.e.inj,h.e.ru,h.e.rU⟩,h.s.more f.size⟩,aD.set b k v n⟩
theorem aj.L7{l:List Int}{x:si}(h:l.length<2):s.sy l x={s with c:=kj s.c l,ci:=s.ci++[x]}:=by
 unfold aj.sy kj;rw[if_neg (by omega)]
def vH(K:Nat->Prop)(base:Nat)(w:World)(G:Nat)(cb:Nat->Nat)(s':aj)(e:Ending)(w':World):Prop:=
 e=.returned (.tuple #[])/\∃hs',aU K base w' G hs' cb s'/\aD K w w'
theorem vH.to{s1 s2:aj}{e:Ending}{w':World}(h:vH K base w G cb s1 e w')(b:s1=s2):vH K base w G cb s2 e w':=b▸h
end
theorem GG{w:World}(h:aU K base w G hs cb s)(T:jV s.c)(ao:s.ci.length=s.c.cl.length)(aS:s.c.n<=60000)(ar:s.c.wt.length=2*s.c.n+2)(au:∀k,(ax s.c.wt k).length<=1000000)(av:s.c.st.length<=1000000)
  {l7:Option Addr} {jw c0 blk:Nat} {ah:List Int} {x:si} (aw:cb s.c.cl.length=blk) (hblk:aO w blk vC [.slice l7 jw c0,.bool x.kU,.int .i64 x.aR,.int .i64 x.ac]) (ay:base<=blk) (az:¬K blk) (aA:∀d,d<s.c.cl.length->cb d≠blk) (aB:aQ w l7 jw c0 ah) (j:∀z∈ah,gU s.c.n z):
  Calls y_ 144 #[.pointer (some ⟨G,0,none⟩),.pointer (some ⟨blk,0,none⟩)] w (vH K base w G cb (s.oJ (kY ah) (sA (kY ah)) x)):=by
 have V:=hblk.cell 0;have V:w.cell? ⟨blk,0,none⟩=some (.slice l7 jw c0):=V;have aC:=U (L5 l7 jw c0 ah w aB);obtain⟨l,hl⟩:∃l,kY ah=l:=⟨_,rfl⟩
 obtain⟨m,hm⟩:∃m,l.length=m:=⟨_,rfl⟩
 have aE:∀z∈l,gU s.c.n z:=λ z aT=>j z (B1.1 (hl▸aT)).1
 have D:=U (z_ h (z_ T (z_ ao (z_ aS (z_ ar (z_ au (z_ av (z_ aw (z_ hblk (z_ ay (z_ az (z_ aA (z_ hl (z_ hm aE))))))))))))));clear h T ao ar au av aw ay az aA aB j hl hm aE hblk;go_enter Tryz.func144,Tryz.ntmps144
 go_upto_region 1 with(go_at_call 179;refine aC.o.mono ?_;rintro e w1 ⟨A,c,rfl,aF,aG,aH⟩;have u:=U (z_ aF (z_ aG aH));clear aF aG aH)
 have hl:=D.o.2.2.2.2.2.2.2.2.2.2.2.2.1;have hm:=D.o.2.2.2.2.2.2.2.2.2.2.2.2.2.1;obtain⟨b,W⟩:∃b,sA l=b:=⟨_,rfl⟩
 rw[hl,hm] at u;rw[hl,hm,W];have E:=U (D.o.1.below u.o.2.2);have B:=D.o.2.2.2.2.2.2.2.2.1.below u.o.2.2;have aV:w1.cell? ⟨blk,0,none⟩=some (.slice l7 jw c0):=B.cell 0;have f1:w1.frozen? ⟨blk,0,none⟩=false:=B.free 0;have X:=U (z_ hl (z_ hm W));clear hl hm W V aC;have Y:=B.set 0 (.slice A m c);have Z:=E.o.1.other (b:=blk) (k:=0) (v:=.slice A m c) (L6 E.o.1.e.box B (by decide)) (λ r g F aW=>E.o.1.e.rows.C3 B (λ r=>(Dd r).2) r g F (by rw[aW])) D.o.2.2.2.2.2.2.2.2.2.2.2.1 D.o.2.2.2.2.2.2.2.2.2.2.1;have p:=U (E.o.2.trans Z.2);have q:=U Z.1;clear Z;have aa:(w1.setCell ⟨blk,0,none⟩ (.slice A m c)).ownsRow base 3 1 (aq.v ⟨A,m,c⟩) m (gX l):=by
  refine yK (mP u.o.2.1 (λ g ab=>Below.heap_setCell _ _ _ _ (λ e=>?_))) (Zn D.o.1.e.lt);have h1:=u.o.2.1.lt g ab;have aI:=D.o.2.2.2.2.2.2.2.2.1.lt;have e:g=blk:=e;omega
 have aJ:∀g,(⟨A,m,c⟩:aq).b=some g->(∀r,(hs r).b≠some g)/\¬K g:=λ g ab=>by
  have h1:=u.o.2.1.lt g (by rw[show Zf A m c=aq.v ⟨A,m,c⟩ from rfl,aq.own];exact ab);refine⟨λ r e=>?_,λ hk=>?_⟩
  ·have:=(D.o.1.e.rows.lt e).2;omega
  ·have:=D.o.1.s.lt g hk;omega
 go_upto_region 3 with fail
 generalize w1.setCell ⟨blk,0,none⟩ (.slice A m c)=i at Y q p aa⊢;have H:bI (aU K base i G (iH hs (kz s.c.cl.length) ⟨A,m,c⟩) cb (s.sy l x)):=U (q.o.sy (hl:=⟨A,m,c⟩) (by rw[D.o.2.2.2.2.2.2.2.1];exact Y) (by rw[D.o.2.2.2.2.2.2.2.1];exact D.o.2.2.2.2.2.2.2.2.2.1) (by rw[D.o.2.2.2.2.2.2.2.1];exact D.o.2.2.2.2.2.2.2.2.2.2.1) (by rw[D.o.2.2.2.2.2.2.2.1];exact D.o.2.2.2.2.2.2.2.2.2.2.2.1) aa aJ D.o.2.2.1);clear aa aJ Y aV f1 B E
 cases b with
 |true=>
  go_wp2_with fail
  go_end0;refine vH.to (s1:=s) ⟨rfl,_,q.o,p.o⟩ ?_;unfold aj.oJ pO;rw[X.o.1,X.o.2.2,if_pos rfl,if_pos (k_ rfl)]
 |false=>
  by_cases L:m=0
  ·subst L;have aX:i.cell? ⟨G,15,none⟩=some (.bool s.c.l9):=q.o.e.kA (k:=15) (v:=.bool s.c.l9) rfl;have f15:=q.o.e.free 15;have f:=q.o.FC;have f:=U (z_ f.1 (p.o.trans f.2))
   go_wp2_with fail
   go_end0;refine vH.to (s1:={s with c:=wN s.c}) ⟨rfl,_,f.o.1,f.o.2⟩ ?_;unfold aj.oJ pO;rw[X.o.1,X.o.2.2,X.o.2.1,if_neg (by decide),if_pos rfl,if_pos (o_ rfl)]
  ·have a8:((m:Int)==0)=false:=by rw[beq_eq_false_iff_ne];omega
   have a':decide ((m:Int)=0)=false:=decide_eq_false (by omega);obtain⟨bu,M,ad,-⟩:=H.o.e.wR (r:=kz s.c.cl.length) (m:=m) (by rw[jH]) L;rw[jH] at M;have M:A=some ⟨bu,0,none⟩:=M;subst M;have I:=H.o.e.xV ad;rw[jH] at I;have I:m<=c:=I;obtain⟨y,N⟩:∃y,ai l 0=y:=⟨_,rfl⟩
   have O:ax (s.sy l x).c.cl s.c.cl.length=l:=by show ax (s.c.cl++[l]) _=l;rw[uR]
   have ba:i.cell? ⟨bu,0,none⟩=some (.int .i64 y):=by
    have:=H.o.e.xZ ad (k:=0) (by rw[O,X.o.2.1];omega);rw[O,N] at this;exact this
   have aK:gU s.c.n y:=by rw[<-N];exact D.o.2.2.2.2.2.2.2.2.2.2.2.2.2.2 _ (l5 (by rw[X.o.2.1];omega))
   have C:=U (z_ N (z_ aK O));have aY:=U I;clear N aK O ad I
   by_cases aL:m=1
   ·subst aL;have aM:s.sy l x={s with c:=kj s.c l,ci:=s.ci++[x]}:=aj.L7 (by rw[X.o.2.1];omega);obtain⟨z,j⟩:∃z,jZ s.c y=z:=⟨_,rfl⟩
    have F:=D.o.2.1.range y;rw[j] at F;have J:bI (aU K base i G (iH hs (kz s.c.cl.length) ⟨some ⟨bu,0,none⟩,1,c⟩) cb {s with c:=kj s.c l,ci:=s.ci++[x]}):=U (aM▸H.o);have ae:bI (Calls y_ 152 #[.pointer (some ⟨G,0,none⟩),.int .i64 y] i λ e w'=>e=.returned (.int .i8 z)/\i=w'):=U (by
     have:=BI J.o D.o.2.1.new D.o.2.2.2.1 (x:=y) C.o.2.1;rw[show jZ (({s with c:=kj s.c l,ci:=s.ci++[x]}:aj).c) y=z from j] at this;exact this)
    have aN:=U (z_ j F);clear aM j F;have c1:(1:Int)<=(c:Int):=by have:=aY.o;omega
    have af:bI (∀c':Core,pO s.c l false=c'->∀s',s'=({s with c:=c',ci:=s.ci++[x]}:aj)->s'=s.oJ (kY ah) (sA (kY ah)) x):=U (λ c' h1 s' aI=>by
     unfold aj.oJ;rw[X.o.1,X.o.2.2,h1,if_neg (by rw[X.o.2.1];decide),aI])
    have ag:bI (pO s.c l false=if z= -1 then wN (kj s.c l) else if z=0 then k5 (kj s.c l) y (some s.c.cl.length) else kj s.c l):=U (by
     unfold pO;rw[if_neg (by decide),if_neg (by rw[X.o.2.1];decide),if_pos (by rw[X.o.2.1]),C.o.1,aN.o.1])
    by_cases P:z= -1
    ·have ak:z<0:=by omega
     have aZ:decide (z<0)=true:=decide_eq_true ak;have Q:=U P;clear P;have aX:i.cell? ⟨G,15,none⟩=some (.bool s.c.l9):=J.o.e.kA (k:=15) (v:=.bool s.c.l9) rfl;have f15:=q.o.e.free 15;have f:=J.o.FC;have f:=U (z_ f.1 (p.o.trans f.2))
     go_wp2_with (go_at_call 152;refine ae.o.mono ?_;rintro e R ⟨rfl,rfl⟩;dsimp only)
     go_end0;refine vH.to ⟨rfl,_,f.o.1,f.o.2⟩ (af.o (wN (kj s.c l)) (by rw[ag.o,if_pos Q.o]) _ rfl)
    ·have ak:¬z<0:=by have:=aN.o;omega
     have aZ:decide (z<0)=false:=decide_eq_false ak;have Q:=U P;clear P
     by_cases t:z=0
     ·have d0:(z==0)=true:=beq_iff_eq.2 t;have a6:decide (z=0)=true:=decide_eq_true t;have al:=U t;clear t;have a7:bI (Calls y_ 156 #[.pointer (some ⟨G,0,none⟩),.int .i64 y,.pointer (some ⟨blk,0,none⟩)] i λ e w'=>e=.returned (.tuple #[])/\∃h':aq,aU K base w' G (iH (iH hs (kz s.c.cl.length) ⟨some ⟨bu,0,none⟩,1,c⟩) 4 h') cb {s with c:=k5 (kj s.c l) y (some s.c.cl.length),ci:=s.ci++[x]}/\aD K i w'):=U (by
       have h1:=BH J.o y (some s.c.cl.length) D.o.2.1.new (show gU s.c.n y from C.o.2.1) (show s.c.n<=60000 from D.o.2.2.2.1) (show s.c.st.length<=1000000 from D.o.2.2.2.2.2.2.1);rw[show qZ cb (some s.c.cl.length)=.pointer (some ⟨blk,0,none⟩) by show Value.pointer (some ⟨cb s.c.cl.length,0,none⟩)=_;rw[D.o.2.2.2.2.2.2.2.1]] at h1;exact h1)
      go_wp2_with (first|(go_at_call 152;refine ae.o.mono ?_;rintro e R ⟨rfl,rfl⟩;dsimp only)|(go_at_call 156;refine a7.o.mono ?_;rintro e R ⟨rfl,h',f,an⟩;dsimp only))
      go_end0;refine vH.to ⟨rfl,_,f,p.o.trans an⟩ (af.o (k5 (kj s.c l) y (some s.c.cl.length)) (by rw[ag.o,if_neg Q.o,if_pos al.o]) _ rfl)
     ·have d0:(z==0)=false:=by rw[beq_eq_false_iff_ne];exact t
      have a6:decide (z=0)=false:=decide_eq_false t;have al:=U t
      go_wp2_with (go_at_call 152;refine ae.o.mono ?_;rintro e R ⟨rfl,rfl⟩;dsimp only)
      go_end0;refine vH.to ⟨rfl,_,J.o,p.o⟩ (af.o (kj s.c l) (by rw[ag.o,if_neg Q.o,if_neg al.o]) _ rfl)
   ·have bb:((m:Int)==1)=false:=by rw[beq_eq_false_iff_ne];omega
    have bc:decide ((m:Int)=1)=false:=decide_eq_false (by omega);have aP:bI (2<=l.length):=U (by rw[X.o.2.1];omega);have S:=Ku H.o (d:=s.c.cl.length) (by show _<(s.c.cl++[l]).length;simp) (by rw[C.o.2.2];exact aP.o) (by rw[C.o.2.2];exact D.o.2.2.2.2.2.2.2.2.2.2.2.2.2.2) (show s.c.n<=60000 from D.o.2.2.2.1) (show s.c.wt.length=2*s.c.n+2 from D.o.2.2.2.2.1) (show∀k,(ax s.c.wt k).length<=1000000 from D.o.2.2.2.2.2.1);rw[D.o.2.2.2.2.2.2.2.1,FZ,C.o.2.2] at S;have S:=U S
    go_wp2_with (go_at_call 180;refine S.o.mono ?_;rintro e R ⟨rfl,bd,f,an⟩;dsimp only)
    go_end0;refine vH.to ⟨rfl,_,f,p.o.trans an⟩ ?_;unfold aj.oJ pO;rw[X.o.1,X.o.2.2,X.o.2.1,if_neg (by decide),if_neg L,if_neg aL,if_neg (by rintro(h|h);cases h;exact L h)];unfold kj;rw[if_pos aP.o];rfl
end
section
open Go.RowKit Go.Shelf
theorem GH:(y_.info? 126).map (λ i=>(i.zero,i.size,i.bytes))=some (some (.agg #[.int .i64 0,.slice none 0 0]),2,32):=by kernel_rfl
theorem DV:∀l:List mS,(mq l).length=l.length*2
 |[]=>rfl
 |p::l=>by
  have:=DV l;unfold mq at this⊢;simp only[d_,List.flatten_cons,w_,List.length_cons,List.length_nil,this];omega
theorem L8(a b:List mS):mq (a++b)=mq a++mq b:=by simp[mq]
def oV(K:Nat->Prop)(w:World)(s:aj):Prop:=∀h,s.jl=some h->h.n=s.aA.length/\h.c=h.n/\((h.A=none/\h.n=0)\/∃b off,h.A=some ⟨b,off,none⟩/\(0<h.n->K b)/\∀j u,(mq s.aA)[j]? =some u->w.cell? ⟨b,off+j,none⟩=some u)
theorem oV.kept{w:World}{s':aj}(h:oV K w s)(f:aD K w w')(h1:s'.jl=s.jl)(m:s'.aA=s.aA):oV K w' s':=by
 intro d k;rw[h1] at k;obtain⟨a,b,c⟩:=h d k;rw[m];refine⟨a,b,c.imp id ?_⟩;rintro⟨l,off,e,hk,o⟩;refine⟨l,off,e,hk,λ j u g=>?_⟩;have q:0<d.n:=by
  rcases ZR d.n with i|i
  ·rw[i] at a;have:s.aA=[]:=r_ a.symm;rw[this] at g;simp[mq] at g
  ·exact i
 rw[f.cell (p:=⟨l,off+j,none⟩) (hk q)];exact o j u g
def tX(hs:Nat->aq)(s:aj):Option Nat:=match s.jl with
 |some _=>none
 |none=>(hs 11).b
def B4(w:World)(base:Nat)(row:Option Nat)(n:Nat)(ys:List Value)(v':Value)(w':World):Prop:=
 w'.ownsRow base 126 2 v' n ys/\w.grownBy w' row/\(v'.ownBlock=row\/∀g,v'.ownBlock=some g->w.heap.size<=g)
theorem L9{w:World}(h:aU K base w G hs cb s)(P:oV K w s)(ty:TypeId)(f c1:Nat)(p:mS)(J:w.cell? ⟨f,0,none⟩=some (.int .i64 p.iM))(h1:w.cell? ⟨f,1,none⟩=some p.h.v)(O:s.aA.length<=1099511627776):
  ∃v' w',(Builtin.append_ #[45,45] ty #[oc hs s,.slice (some ⟨f,0,none⟩) 1 c1]).run y_ w=.ok v' w'/\B4 w base (tX hs s) (s.aA.length+1) (mq (s.aA++[p])) v' w':=by
 obtain⟨i0,q,r,t,y⟩:=info_parts GH;have z:∀j u,([.int .i64 p.iM,p.h.v]:List Value)[j]? =some u->w.cell? ((⟨f,0,none⟩:Addr).add j)=some u:=by
  intro j u i;have Q:j<2:=(x_.1 i).1;rw[Yt,Yr];rcases(show j=0\/j=1 by omega) with rfl|rfl
  ·simp only[Zg,Yp] at i;subst i;exact J
  ·simp only[ZE,Zg,Yp] at i;subst i;exact h1
 have H:∀u∈([.int .i64 p.iM,p.h.v]:List Value),u.oneCell'=true:=by
  intro u hu;simp only[g_,List.not_mem_nil,or_false] at hu;rcases hu with rfl|rfl<;>rfl
 have I:mq (s.aA++[p])=mq s.aA++[.int .i64 p.iM,p.h.v]:=by rw[L8];rfl
 have B:=Zn h.e.lt
 cases k:s.jl with
 |none=>
  have C:=h.e.rows.row 11;have l:cont hs cb s 11=mq s.aA:=by show(match s.jl with|some _=> []|none=>mq s.aA)=_;rw[k]
  have o:(hs 11).n=s.aA.length:=by
   have:=C.1;rw[l,DV] at this;have L:nU 11=2:=rfl;rw[L] at this;omega
  rw[l,o] at C;obtain⟨v',w',g1,g2,g3,_,g5⟩:=run_append_own_at (P:=y_) w base 45 ty 126 i0 (.agg #[.int .i64 0,.slice none 0 0]) 2 32 ZL q r t y rfl (by decide) (hs 11).v s.aA.length (mq s.aA) C ⟨f,0,none⟩ 1 c1 [.int .i64 p.iM,p.h.v] rfl z H (by unfold maxLen;omega) (by omega) B;have D:oc hs s=(hs 11).v:=by unfold oc;rw[k]
  have E:tX hs s=(hs 11).b:=by unfold tX;rw[k]
  rw[D,E,I];rw[aq.own] at g3 g5;exact⟨v',w',g1,g2,g3,g5.imp id (λ e g d=>by rw[e] at d;injection d with d;omega)⟩
 |some F=>
  obtain⟨a,b,c⟩:=P F k;have D:oc hs s=F.v:=by unfold oc;rw[k]
  have E:tX hs s=none:=by unfold tX;rw[k]
  rw[D,E,I];obtain⟨A,n,c0⟩:=F;rcases c with⟨m,o⟩|⟨M,off,m,hk,l⟩
  ·simp only at m o a b;subst m;subst o;subst b;have N:s.aA=[]:=r_ a.symm;rw[N];obtain⟨v',w',g1,g2,g3,_,g5⟩:=run_append_own_at (P:=y_) w base 45 ty 126 i0 (.agg #[.int .i64 0,.slice none 0 0]) 2 32 ZL q r t y rfl (by decide) (.slice none 0 0) 0 [] (World.ownsRow_nil _ _ _ _) ⟨f,0,none⟩ 1 c1 [.int .i64 p.iM,p.h.v] rfl z H (by unfold maxLen;omega) (by omega) B;refine⟨v',w',g1,g2,g3,g5.imp id (λ e g d=>by rw[e] at d;injection d with d;omega)⟩
  ·simp only at m hk l a b;subst m;subst b;obtain⟨v',w',g1,g2,g3⟩:=run_append_arg_grows (P:=y_) w 45 ty 126 i0 (.agg #[.int .i64 0,.slice none 0 0]) 2 32 ZL q r t y rfl (by decide) ⟨M,off,none⟩ c0 c0 (mq s.aA) (by rw[DV,a]) (λ j u i=>by rw[Yt];exact l j u i) ⟨f,0,none⟩ 1 c1 [.int .i64 p.iM,p.h.v] rfl z (by omega) (by unfold maxLen;omega) (by omega);refine⟨v',w',g1,?_,g3,o_ (λ g d=>(g2.lt g d).1)⟩;rw[<-a];exact yK g2 B
section
variable {K:Nat->Prop}{base:Nat}{w di W:World}{G:Nat}{hs:Nat->aq}{cb:Nat->Nat}{s:aj}
theorem Ma{row:Option Nat}{w w':World}(h:w.grownBy w' none):w.grownBy w' row:=⟨h.os,h.tape,h.output,h.size,λ k hk _=>h.block k hk (by simp)⟩
theorem aU.GI(h:aU K base w G hs cb s){v':Value}{p:mS}(q:B4 w base (tX hs s) (s.aA.length+1) (mq (s.aA++[p])) v' di):
  ∃h':aq,v'=h'.v/\di.cell? ⟨G,14,none⟩=some (oc hs s)/\di.frozen? ⟨G,14,none⟩=false/\aU K base (di.setCell ⟨G,14,none⟩ v') G (iH hs 11 h') cb {s with aA:=s.aA++[p],jl:=none}/\aD K w (di.setCell ⟨G,14,none⟩ v'):=by
 obtain⟨n,j,f⟩:=q;have m:w.grownBy di (hs 11).b:=by
  unfold tX at j
  cases l:s.jl with
  |none=>rw[l] at j;exact j
  |some t=>rw[l] at j;exact Ma j
 obtain⟨h',rfl,u⟩:=aq.lz n;rw[aq.own] at f;have i:h'.b=(hs 11).b\/∀g,h'.b=some g->w.heap.size<=g:=by
  rcases f with f|f
  ·unfold tX at f
   cases l:s.jl with
   |none=>rw[l] at f;exact k_ f
   |some t=>rw[l] at f;exact o_ (λ g e=>by rw[f] at e;cases e)
  ·exact o_ f
 have o:=h.e.iS (r:=11) (h':=h') (ys:=mq (s.aA++[p])) m (by rw[u];exact n) i;have y:∀k,di.cell? ⟨G,k,none⟩=w.cell? ⟨G,k,none⟩:=λ k=>f_ (m.block G h.e.box.lt (λ e=>h.e.uy 11 G e.symm rfl))
 have z:Sep K di G (iH hs 11 h') cb s.c.cl.length:=(h.s.iS (λ g e hk=>by
  rcases i with i|i
  ·exact h.s.row 11 g (i▸e) hk
  ·have:=i g e;have:=h.s.lt g hk;omega)).more m.size
 refine⟨h',rfl,by rw[y];exact h.e.kA rfl,o.free 14,⟨?_,z.more (kK di G 14 _).size⟩,(aD.grown m h.s.lt (λ b e=>h.s.row 11 b e)).trans (aD.set G 14 _ h.s.g)⟩;refine(o.field 14 h'.v).eq rfl rfl ?_ (λ d _=>(vX hs s (by omega) _ d).symm) rfl (λ r=>?_)
 ·simp[rq,oc,iH]
 ·rw[vW hs cb _ (by omega)]
  by_cases e:r=11
  ·subst e;rw[jH];rfl
  ·rw[aX _ _ e];simp only[cont,if_neg e]
end
end
section
open Go.RowKit
def tY(ds:List (Option Tmp))(cs:List Value)(sp:Nat->Bool)(b:Operand->Value):List Edge->Prop
 |[]=>True
 |e::r=>(Zk .any e=true->sp e.on=false->∀s,qn ds e.on=some s->b (.tmp s)=cs.getD e.on undef)/\tY ds cs sp b r
def wj(cs:List Value)(sp:Nat->Bool)(G:Nat->Value->World->Prop)(j:Nat)(v:Value)(w:World):Prop:=if sp j=true then G j v w else v=cs.getD j undef
def Ap(sp:Nat->Bool)(dead:Nat->Option Nat)(j:Nat):Option Nat:=if sp j=true then dead j else none
theorem tY.of{ds:List (Option Tmp)}{cs:List Value}{sp:Nat->Bool}{G:Nat->Value->World->Prop}{dead:Nat->Option Nat}{i:Nat}{vals:Nat->Value}{w:World}{az:Operand->Value}:∀{l:List Edge},sk ds (wj cs sp G) (Ap sp dead) i vals w az l->tY ds cs sp az l
 |[],_=>trivial
 |e::r,h=>⟨λ c h1 s hs=>by
  obtain⟨b,d⟩:=h.1 c;have b:=b (k_ (by unfold Ap;rw[h1];rfl));unfold wj at b;rw[h1] at b;rw[d s hs];exact b,tY.of h.2⟩
def Aq(P:Program)(ds:List (Option Tmp))(ws:List (List Nat))(old:List (Tmp×Value))(S:World->Prop)(cs:List Value)(sp:Nat->Bool)(G:Nat->Value->World->Prop)(dead:Nat->Option Nat)(Init:World->Prop)(mQ:Nat):Nat->List Oper->Prop
 |_,[]=>True
 |k,o::r=>((sp k=true->yT P ds ws old S (wj cs sp G) (Ap sp dead) Init mQ k o)/\(sp k=false->∀(b:Operand->Value)(w:World),S w->tY ds cs sp b o.after.toList->qp b old->rz b->bn P b o w λ v w'=>v=cs.getD k undef/\w'=w))/\Aq P ds ws old S cs sp G dead Init mQ (k+1) r
theorem Aq.ok{P:Program}{ds:List (Option Tmp)}{ws:List (List Nat)}{old:List (Tmp×Value)}{S:World->Prop}{cs:List Value}{sp:Nat->Bool}{G:Nat->Value->World->Prop}{dead:Nat->Option Nat}{Init:World->Prop}{mQ:Nat}(b:yU ds old=true):∀{k:Nat}{l:List Oper},Aq P ds ws old S cs sp G dead Init mQ k l->uB P ds ws old S (wj cs sp G) (Ap sp dead) Init mQ k l
 |_,[],_=>trivial
 |k,o::r,h=>⟨by
  cases hk:sp k with
  |true=>exact h.1.1 hk
  |false=>
   intro vals w d c i e f hp;refine bn.mono (h.1.2 hk d w c (tY.of e) (ry.ok b f) hp) λ v w' ⟨h1,g⟩=>?_
   subst g;exact .same c (by unfold wj;rw[hk];exact h1),Aq.ok b h.2⟩
end
section
open Go.RowKit Go.Shelf
theorem lY.len{w:World}{b n:Nat}{S:List Int}(h:lY w b n S)(ty:TypeId):∃m:Nat,m<=n/\(Builtin.len_ #[114] ty #[.map (some b)]).run y_ w=.ok (.int .i64 (m:Int)) w:=by
 obtain⟨D,h1,c⟩:=h;exact⟨_,h1.size_le,h1.len Tryz.underlying114 ty⟩
theorem DW(x:Int)(b:0<=x)(h1:x<=1000000):(Lit.int .i64 x).wf=true:=by
 simp[Lit.wf,IntKind.min,IntKind.max,IntKind.bits,IntKind.signed];omega
def aj.xd(s:aj)(l:List Int)(aR:Int)(aA:List mS):aj:=
 {s with c:=k5 (kj s.c l) (ai l 0) (some s.c.cl.length),ci:=s.ci++[⟨true,aR,s.aM⟩],aI:=s.aI++[s.c.cl.length],aA:=aA,jl:=none}
def uG(F:List (List Int))(n:Nat)(c:Int)(b:List Int):Prop:=(c=1/\b∈F\/c=2/\pL F b)/\∀x∈b,gU n x
theorem uG.iM{iM:Int}(h:uG F n iM ah):iM=1\/iM=2\/iM=3:=h.1.elim (λ h=>.inl h.1) (λ h=>.inr (.inl h.1))
structure qf(K:Nat->Prop)(w:World)(n:Nat)(F:List (List Int))(p:mS):Prop where
 rd:∃ah,aQ w p.h.A p.h.n p.h.c ah/\uG F n p.iM ah
 blk:∀b,p.h.b=some b->0<p.h.n->K b
theorem qf.iM{K:Nat->Prop}{w:World}{n:Nat}{F:List (List Int)}{p:mS}(h:qf K w n F p):p.iM=1\/p.iM=2\/p.iM=3:=by
 obtain⟨b,_,h1⟩:=h.rd;exact h1.iM
theorem aQ.iP{w:World}{c:Nat}(h:aQ w A n c ah)(f:aD K w w')(hk:∀b,A.map (·.block)=some b->0<n->K b):aQ w' A n c ah:=
 ⟨h.len,h.cap,h.mW,h.o6,λ d=>by
  obtain⟨b,off,e,h1,g⟩:=h.cells d;refine⟨b,off,e,Zm h1 f.size,λ j i=>?_⟩;rw[f.cell (p:=⟨b,off+j,none⟩) (hk b (by rw[e];rfl) d)];exact g j i⟩
theorem qf.iP{K:Nat->Prop}{w w':World}{n:Nat}{F:List (List Int)}{p:mS}(h:qf K w n F p)(f:aD K w w'):qf K w' n F p:=by
 obtain⟨b,h1,c⟩:=h.rd;exact⟨⟨b,h1.iP f h.blk,c⟩,h.blk⟩
theorem qf.mono{w:World}(h:qf K w n F p)(hk:∀b,K b->kW b):qf kW w n F p:=⟨h.rd,λ b e c=>hk b (h.blk b e c)⟩
structure x6(K:Nat->Prop)(w:World)(l:List Int)(p:mS):Prop where
 iM:p.iM=2
 rd:aQ w p.h.A p.h.n p.h.c l
 blk:∀b,p.h.b=some b->0<p.h.n->K b
theorem x6.iP{K:Nat->Prop}{w w':World}{l:List Int}{p:mS}(h:x6 K w l p)(f:aD K w w'):x6 K w' l p:=⟨h.iM,h.rd.iP f h.blk,h.blk⟩
theorem x6.to{w:World}(h:x6 K w l p)(hl:∀x∈l,gU n x)(b:pL F l):qf K w n F p:=⟨⟨l,h.rd,.inr ⟨h.iM,b⟩,hl⟩,h.blk⟩
theorem aU.qJ{w:World}(h:aU K base w G hs cb s){g:Nat}(k:g<w.heap.size)(l:g≠G)(m:∀r,(hs r).b≠some g)(n:∀d,d<s.c.cl.length->cb d≠g):aU (qJ K g) base w G hs cb s:=
 ⟨h.e,⟨λ b f=>f.elim (h.s.lt b) (λ e=>by rw[e];exact k),λ f=>f.elim h.s.g (λ e=>l e.symm),λ r b e f=>f.elim (h.s.row r b e) (λ i=>m r (by rw[e,i])),λ d j f=>f.elim (h.s.cl d j) (λ i=>n d j i)⟩⟩
def Mb(V:World)(l:List Int)(App:Option Addr->Nat->World->Value->World->Prop)(i:Nat)(v:Value)(w:World):Prop:=
 if i=6 then∃b c2,v=.slice b l.length c2/\Below V.heap.size V w/\w.ownsRow V.heap.size 3 1 (.slice b l.length c2) l.length (gX l)
 else if i=7 then∃b c2,v=.agg #[.int .i64 2,.slice b l.length c2]/\Below V.heap.size V w/\w.ownsRow V.heap.size 3 1 (.slice b l.length c2) l.length (gX l)
 else if i=8 then∃b c2 w1,v=.slice (some ⟨w1.heap.size,0,none⟩) 1 1/\Below V.heap.size V w1/\w1.ownsRow V.heap.size 3 1 (.slice b l.length c2) l.length (gX l)/\w=w1.alloc (.cells #[.int .i64 2,.slice b l.length c2] 126)
 else∃b c2 w1,Below V.heap.size V w1/\w1.ownsRow V.heap.size 3 1 (.slice b l.length c2) l.length (gX l)/\App b c2 w1 v w
def zg(i:Nat):Bool:=i==6||i==7||i==8||i==9
def Mc(i:Nat):Option Nat:=if i=9 then none else some (i+1)
theorem Ar:∀args w,(callFunc 81 args).run y_ w=.ok (.enter 81 args) w:=enters_of Tryz.func81 (by kernel_rfl) rfl
def GJ(K:Nat->Prop)(base:Nat)(w:World)(G:Nat)(s:aj)(l:List Int)(e:Ending)(w':World):Prop:=
 e=.returned (.tuple #[])/\∃(c:Nat->Prop)(hs':Nat->aq)(d:Nat->Nat)(aR:Int)(p:mS),(∀b,K b->c b)/\aU c base w' G hs' d (s.xd l aR (s.aA++[p]))/\aD K w w'/\0<=aR/\aR<=l.length/\x6 c w' l p/\∀b,p.h.b=some b->w.heap.size<=b
theorem Md{w:World}(h:aU K base w G hs cb s)(C:vh s)(P:oV K w s)(T:jV s.c)(b2:s.ci.length=s.c.cl.length)(b3:s.c.n<=60000)(b4:s.c.wt.length=2*s.c.n+2)(b5:∀k,(ax s.c.wt k).length<=1000000)(b6:s.c.st.length<=1000000)(b7:s.aI.length<=1000000)(b8:s.aA.length<=1099511627776)
  {bu m c:Nat} {l:List Int} (hm:l.length=m) (bc:1<=m) (b9:m<=200000) (O:w.ownsRow base 3 1 (.slice (some ⟨bu,0,none⟩) m c) m (gX l)) (b':∀r,(hs r).b≠some bu) (ca:¬K bu) (hl:∀z∈l,gU s.c.n z) (cc:∀z∈l,gQ s.c.lvl (aH z)<=1000000):
  Calls y_ 148 #[.pointer (some ⟨G,0,none⟩),.slice (some ⟨bu,0,none⟩) m c] w (GJ K base w G s l):=by
 have lc:m<=c:=by
  rcases O.2 with⟨L,_⟩|⟨g,cap,cur,L,_,_,bd,_⟩
  ·cases L
  ·injection L with h1 F an;omega
 have cd:bu<w.heap.size:=(O.lt bu rfl).2;have cf:∀k,k<m->w.cell? ⟨bu,k,none⟩=some (.int .i64 (ai l k)):=λ k hk=>by
  have:=O.cellAt k (by omega);rw[this];unfold gX;rw[ZO,m_ (by omega),ny (by omega)];rfl
 have D:=U (z_ h (z_ C (z_ P (z_ T (z_ b2 (z_ b3 (z_ b4 (z_ b5 (z_ b6 (z_ b7 (z_ b8 (z_ hm (z_ O (z_ b' (z_ ca (z_ hl (z_ cc cd)))))))))))))))));have dn:=U cf;have dN:(m:Int)<=(c:Int):=by omega
 have az:=U (z_ bc (z_ b9 lc));clear h C P T b2 b4 b5 b6 b7 b8 hm O b' ca hl cc cd cf bc b9 lc b3;have dp:= @run_makeMap y_;go_enter Tryz.func148,Tryz.ntmps148
 go_upto_region 1 with fail
 have cg:=U (lY.made w);have ch:=U ((Zh w.heap.size w).alloc (e_ _) (.map #[] 0));generalize dq:w.alloc (.map #[] 0)=dO at cg ch⊢;clear dq dp
 go_wp2_with fail
 go_loopw [11] (λ i wr=>∃k:Nat,k<=m/\i=.int .i64 k/\(∃S,lY wr w.heap.size k S)/\Below w.heap.size w wr) (λ i _=>m-(intOf i).toNat)
 case atStart=>exact⟨0,ZA _,rfl,⟨_,cg.o⟩,ch.o⟩
 case round=>
  obtain⟨k,hk,rfl,⟨S,bf⟩,cj⟩:=hrel;have ck:=U bf;have V:=U cj;have dr:=U hk;clear bf cj hk
  by_cases aG:k<m
  ·have bx:(k:Int)<(m:Int):=by omega
   have dt:decide ((k:Int)<(m:Int))=true:=decide_eq_true bx;obtain⟨x,bz⟩:∃x,ai l k=x:=⟨_,rfl⟩
   have bA:x∈l:=by rw[<-bz];exact l5 (by rw[D.o.2.2.2.2.2.2.2.2.2.2.2.1];exact aG)
   have cm:=D.o.2.2.2.2.2.2.2.2.2.2.2.2.2.2.2.1 x bA;have cn:=D.o.2.2.2.2.2.2.2.2.2.2.2.2.2.2.2.2.1 x bA;have du:wr.cell? ⟨bu,k,none⟩=some (.int .i64 x):=by
    rw[f_ (V.o.block bu D.o.2.2.2.2.2.2.2.2.2.2.2.2.2.2.2.2.2),dn.o k aG,bz]
   have E:=(D.o.1.below V.o).1;obtain⟨v,L⟩:∃v,aH x=v:=⟨_,rfl⟩
   have dv:=D.o.2.2.2.1.pM;have cp:=cm.2;have dw:=D.o.2.2.2.2.2.1;rw[L] at cp;obtain⟨g2,cq,dx,f3⟩:=E.e.lV 3 2 rfl E.e.mb (by omega);obtain⟨y,aB⟩:∃y,gQ s.c.lvl v=y:=⟨_,rfl⟩
   have cr:=E.e.vV cq (k:=v) (by omega);rw[aB] at cr;rw[L,aB] at cn;have aR:(v:Int)<(s.c.lvl.length:Int):=by omega
   have dP:(0:Int)<=(v:Int):=by omega
   have dQ:n_.wrap ((k:Int)+1)=(k:Int)+1:=by rw[j_];have:=az.o;omega
   have dy:bI (∀w:World,Calls y_ 97 #[.int .i64 x] w λ e w'=>e=.returned (.int .i64 (v:Int))/\w=w'):=U (λ w=>by have:=sM x w (by unfold aH at L;omega) (by unfold aH at L;omega);rw[L] at this;exact this);obtain⟨w1,dR,ct,cu⟩:=ck.o.drew.put (n:=k) (by have:=az.o;unfold maxLen;omega) (x:=(y:Int)) (DW _ (by omega) (by omega));have X:=U (z_ ct (z_ cu aG));clear ct cu bz bA cm cn dv cp dw cq f3 aG L aB E
   go_upto_region 4 with fail
   refine v_ 9 (by kernel_rfl) (by kernel_rfl) ?_;simp only[u_,p_,t_,s_]
   iterate 6 still_step
   still_call ((dy.o _).mono (λ e w' h=>⟨h.1,h.2.symm⟩))
   iterate 2 still_step
   refine i_ ?_;change wpList _ _ _ _ _ wr.drew;clear du dx cr
   go_wp2_with fail
   go_roundw
   case rel=>
    refine⟨k+1,by have:=X.o.2.2;omega,by go_num,⟨_,X.o.1⟩,V.o.drew.grown X.o.2.1 V.o.size (λ j e=>by cases e;exact e_ _)⟩
   case measure=>have:=X.o.2.2;simp[intOf];omega
  ·have bx:¬(k:Int)<(m:Int):=by omega
   have dt:decide ((k:Int)<(m:Int))=false:=decide_eq_false bx;obtain⟨aR,cv,hlen⟩:=ck.o.drew.len 3;have qq:=U (z_ cv aG);clear cv aG;have E:=U (D.o.1.below V.o);have dz:wr.cell? ⟨G,9,none⟩=some (.int .i64 s.aM):=E.o.1.e.kA (k:=9) (v:=.int .i64 s.aM) rfl
   go_upto_region 6 with fail
   refine v_ 8 (by kernel_rfl) (by kernel_rfl) ?_;simp only[u_,p_,t_,s_]
   iterate 8 still_step
   refine i_ ?_;change wpList _ _ _ _ _ wr.drew
   go_upto_region 7 with fail
   have bg:Below w.heap.size w ((wr.alloc (.cells #[.slice (some ⟨bu,0,none⟩) m c,.bool true,.int .i64 (aR:Int),.int .i64 s.aM] 166)).drew):=(V.o.alloc V.o.size _).drew;have hblk:aO ((wr.alloc (.cells #[.slice (some ⟨bu,0,none⟩) m c,.bool true,.int .i64 (aR:Int),.int .i64 s.aM] 166)).drew) wr.heap.size vC [.slice (some ⟨bu,0,none⟩) m c,.bool true,.int .i64 (aR:Int),.int .i64 s.aM]:=aO.new wr vC _;have cw:((wr.alloc (.cells #[.slice (some ⟨bu,0,none⟩) m c,.bool true,.int .i64 (aR:Int),.int .i64 s.aM] 166)).drew).heap.size=wr.heap.size+1:=by simp
   have bB:=(E.o.1.below ((bK wr (.cells #[.slice (some ⟨bu,0,none⟩) m c,.bool true,.int .i64 (aR:Int),.int .i64 s.aM] 166)).drew)).1;generalize (wr.alloc (.cells #[.slice (some ⟨bu,0,none⟩) m c,.bool true,.int .i64 (aR:Int),.int .i64 s.aM] 166)).drew=ab at bg hblk cw bB⊢;have aC:=(bB.DQ D.o.2.1 wr.heap.size).sy (hl:=⟨some ⟨bu,0,none⟩,m,c⟩) (l:=l) (x:=⟨true,(aR:Int),s.aM⟩) (by rw[jH];exact hblk) (by rw[jH];exact Zv (Zn D.o.1.e.lt) V.o.size) (by rw[jH];exact λ hk=>by have:=D.o.1.s.lt _ hk;have:=V.o.size;omega) (λ d H=>by rw[jH,aX _ _ (by omega)];have:=(D.o.1.e.cls d H).lt;have:=V.o.size;omega)
    (lR D.o.2.2.2.2.2.2.2.2.2.2.2.2.1 bg) (λ g aL=>by
     have aL:some bu=some g:=aL;injection aL with aL
     subst aL;exact⟨D.o.2.2.2.2.2.2.2.2.2.2.2.2.2.1,D.o.2.2.2.2.2.2.2.2.2.2.2.2.2.2.1⟩) D.o.2.2.2.2.1
   obtain⟨I,bC⟩:∃f,iH cb s.c.cl.length wr.heap.size=f:=⟨_,rfl⟩
   have bD:I s.c.cl.length=wr.heap.size:=by rw[<-bC,jH]
   rw[bC] at aC;obtain⟨aN,bE⟩:∃f,iH hs (kz s.c.cl.length) ⟨some ⟨bu,0,none⟩,m,c⟩=f:=⟨_,rfl⟩
   have cx:aN (kz s.c.cl.length)=⟨some ⟨bu,0,none⟩,m,c⟩:=by rw[<-bE,jH]
   rw[bE] at aC;obtain⟨s1,bh⟩:∃s1,s.sy l ⟨true,(aR:Int),s.aM⟩=s1:=⟨_,rfl⟩
   rw[bh] at aC;have cy:aD K w ab:=aD.q3 bg D.o.1.s.lt;obtain⟨blk,cz⟩:∃b,wr.heap.size=b:=⟨_,rfl⟩
   rw[cz] at bD⊢;obtain⟨aP,n10,aS,bj⟩:∃A n c,aN 10=⟨A,n,c⟩:=⟨_,_,_,rfl⟩
   have bF:s1.aI=s.aI:=by rw[<-bh];rfl
   have dA:ab.cell? ⟨G,13,none⟩=some (.slice aP n10 aS):=by have:=aC.e.kA (k:=13) (v:=(aN 10).v) rfl;rw[bj] at this;exact this
   have cA:=aC.e.rows.row 10;have cB:n10=s.aI.length:=by
    have:=cA.1;rw[bj] at this;have F:(kV I s1.aI).length=n10*1:=this;rw[bF] at F;simp[kV] at F;omega
   have dB:=U aC;have dC:=U cy;have Y:=U (z_ bD (z_ cx (z_ bh (z_ bj (z_ bF cB)))));clear aC cy bD cx bh bj bF cB bB bg hblk cw bC bE dz cz cA hlen;have aT:=U (dB.o.below (bK ab (.cells #[.pointer (some ⟨blk,0,none⟩)] 164)));have hp:(ab.alloc (.cells #[.pointer (some ⟨blk,0,none⟩)] 164)).cell? ⟨ab.heap.size,0,none⟩=some (.pointer (some ⟨blk,0,none⟩)):=by go_simp
   have cC:=U (rD.one hp);have ad:bI ((ab.alloc (.cells #[.pointer (some ⟨blk,0,none⟩)] 164)).ownsRow base 164 1 (.slice aP n10 aS) n10 (kV I s.aI)):=U (by
    have:=aT.o.1.e.rows.row 10;rw[Y.o.2.2.2.1] at this;rw[<-Y.o.2.2.2.2.1];exact this)
   have cD:=U (Zn aT.o.1.e.lt);have cE:bI (∀v9 di,oa (ab.alloc (.cells #[.pointer (some ⟨blk,0,none⟩)] 164)) base 164 (.slice aP n10 aS) (n10+1) (kV I s.aI++[.pointer (some ⟨blk,0,none⟩)]) v9 di->oa (ab.alloc (.cells #[.pointer (some ⟨blk,0,none⟩)] 164)) base 164 (aN 10).v (s1.aI.length+1) (kV I (s1.aI++[s.c.cl.length])) v9 di):=U (λ v9 di ae=>by
    have e:kV I (s1.aI++[s.c.cl.length])=kV I s.aI++[.pointer (some ⟨blk,0,none⟩)]:=by simp[kV,tq,Y.o.1,Y.o.2.2.2.2.1]
    rw[e,Y.o.2.2.2.1,Y.o.2.2.2.2.1,<-Y.o.2.2.2.2.2];exact ae)
   clear hp
   go_upto_region 8 with(at_builtin;refine FK rfl (.tmp 38) (.tmp 40) rfl base (.slice aP n10 aS) n10 (kV I s.aI) rfl ad.o (some ⟨ab.heap.size,0,none⟩) 1 1 _ rfl cC.o (by have:=Y.o.2.2.2.2.2;have:=D.o.2.2.2.2.2.2.2.2.2.1;omega) cD.o ?_;intro v9 di ae;obtain⟨⟨bG,bH,c3⟩,aE,dD,aF,a2,J,aV⟩:=aU.FM (x:=s.c.cl.length) aT.o.1 (v':=v9) (cE.o v9 di ae);change v9=.slice bG bH c3 at aE;subst aE;have J:=U J;have aV:=U aV;clear ae dD;have a1:di.cell? ⟨G,13,none⟩=some (.slice aP n10 aS):=(by rw[Y.o.2.2.2.1] at aF;exact aF);clear aF)
   generalize di.setCell ⟨G,13,none⟩ (.slice bG bH c3)=t at J aV⊢;have bJ:bI (aD K w t):=U (dC.o.trans (aT.o.2.trans aV.o));obtain⟨s3,bL⟩:∃s3,s1.uX s.c.cl.length=s3:=⟨_,rfl⟩
   obtain⟨ao,bM⟩:∃f,iH aN 10 ⟨bG,bH,c3⟩=f:=⟨_,rfl⟩
   rw[bL,bM] at J;have bN:ao (kz s.c.cl.length)=⟨some ⟨bu,0,none⟩,m,c⟩:=by rw[<-bM,aX _ _ (by unfold kz;omega)];exact Y.o.2.1
   have aW:s3={s with c:={s.c with cl:=s.c.cl++[l]},ci:=s.ci++[⟨true,(aR:Int),s.aM⟩],aI:=s.aI++[s.c.cl.length]}:=by rw[<-bL,<-Y.o.2.2.1];rfl
   have bO:ax s3.c.cl s.c.cl.length=l:=by rw[aW];show ax (s.c.cl++[l]) _=l;rw[uR]
   have bP:s3.aA=s.aA:=by rw[aW]
   have bQ:s3.jl=s.jl:=by rw[aW]
   have cF:oV K t s3:=D.o.2.2.1.kept bJ.o bQ bP;obtain⟨ar,au,av,bR⟩:∃A n c,oc ao s3=.slice A n c:=by
    unfold oc
    cases s3.jl with
    |none=>exact⟨_,_,_,rfl⟩
    |some h=>exact⟨_,_,_,rfl⟩
   have bk:t.cell? ⟨G,14,none⟩=some (.slice ar au av):=by have:=J.o.e.kA (k:=14) (v:=oc ao s3) rfl;rw[bR] at this;exact this
   have cG:t.ownsRow base 3 1 (.slice (some ⟨bu,0,none⟩) m c) m (gX l):=by
    have:=J.o.e.rows.row (kz s.c.cl.length);rw[bN,DA,BC,xX,bO] at this;exact this
   have cH:=U (w9 (some ⟨bu,0,none⟩) m c l t.drew (by
    have:=aQ.lz cG (by have:=az.o;omega);exact this.below (Zh _ _).drew))
   have Z:=U (z_ bN (z_ aW (z_ bO (z_ bP (z_ bQ (z_ cF bR))))));clear bN aW bO bP bQ cF bR cG aV aT cC ad cD cE bL bM a1 a2 dA;have cI:bI (∀w1,Below t.drew.heap.size t.drew w1->w1.cell? ⟨G,14,none⟩=some (.slice ar au av)):=U (λ w1 aJ=>by rw[f_ (aJ.block G J.o.e.box.lt)];exact bk);have bl:bI (∀(q:Option Addr)(c2:Nat)(w1:World),Below t.drew.heap.size t.drew w1->aU K base (w1.alloc (.cells #[.int .i64 2,.slice q l.length c2] 126)) G ao I s3/\oV K (w1.alloc (.cells #[.int .i64 2,.slice q l.length c2] 126)) s3/\(w1.alloc (.cells #[.int .i64 2,.slice q l.length c2] 126)).cell? ⟨G,14,none⟩=some (.slice ar au av)/\(w1.alloc (.cells #[.int .i64 2,.slice q l.length c2] 126)).cell? ⟨w1.heap.size,0,none⟩=some (.int .i64 2)/\(w1.alloc (.cells #[.int .i64 2,.slice q l.length c2] 126)).cell? ⟨w1.heap.size,1,none⟩=some (.slice q l.length c2)):=U (λ q c2 w1 B=>⟨(J.o.drew.below (B.alloc B.size (.cells #[.int .i64 2,.slice q l.length c2] 126))).1,Z.o.2.2.2.2.2.1.kept (aD.drew.trans (J.o.drew.below (B.alloc B.size (.cells #[.int .i64 2,.slice q l.length c2] 126))).2) rfl rfl,cI.o _ (B.alloc B.size _),by go_simp,by go_simp⟩);have dS:l.length=m:=D.o.2.2.2.2.2.2.2.2.2.2.2.1;refine Ah (tu Tryz.f148 8) 12 68 [some 44,some 45,some 46,some 47,some 48,some 49,some 50,some 51,some 52,some 53,some 54,some 55,none] _ [(0,.pointer (some ⟨G,0,none⟩)),(1,.slice (some ⟨bu,0,none⟩) m c)] (λ w:World=>w.cell? ⟨G,14,none⟩=some (.slice ar au av)) (wj [.pointer (some ⟨G,0,none⟩),.pointer (some ⟨G,0,none⟩),.pointer (some ⟨G,0,none⟩),.pointer (some ⟨G,14,none⟩),.slice ar au av,.slice (some ⟨bu,0,none⟩) m c,undef,undef,undef,undef,.pointer (some ⟨G,0,none⟩),.pointer (some ⟨G,14,none⟩)] zg (Mb t.drew l (λ q c2 w1 v w=>B4 (w1.alloc (.cells #[.int .i64 2,.slice q l.length c2] 126)) base (tX ao s3) (s3.aA.length+1) (mq (s3.aA++[⟨2,⟨q,l.length,c2⟩⟩])) v w))) (Ap zg Mc) (λ w=>w=t.drew) 6 (by kernel_rfl) (by kernel_rfl) (by kernel_rfl) rfl (by kernel_rfl) (by kernel_rfl) (by kernel_rfl) (by kernel_rfl) (by kernel_rfl) (by kernel_rfl) rfl ⟨rfl,rfl,trivial⟩ bk rfl (Aq.ok (by kernel_rfl) ?_) _ rfl ?_
   ·refine⟨?_,?_,?_,?_,?_,?_,⟨λ _=>?_,λ h=>(by cases h)⟩,⟨λ _=>?_,λ h=>(by cases h)⟩,⟨λ _=>?_,λ h=>(by cases h)⟩,⟨λ _=>?_,λ h=>(by cases h)⟩,?_,?_,trivial⟩
    rotate_left 6
    ·intro vals w af bo bp H O hp;obtain rfl:=bp (.inr rfl);have dE:af (.tmp 49)=vals 5:=(H.1 rfl).2 _ rfl;have f5:vals 5=.slice (some ⟨bu,0,none⟩) m c:=(H.1 rfl).1 (.inl rfl);refine va 81 #[.tmp 49] #[25] rfl Ar hp ?_;simp only[Zt,d_,Zl,dE,f5];refine cH.o.mono ?_;rintro e w1 ⟨q,c2,rfl,W,B⟩;refine⟨_,rfl,(f_ (a:=⟨G,14,none⟩) (B.block G J.o.e.box.lt)).trans bk,⟨q,c2,rfl,B,W⟩,λ j u aY aZ a6 a7 aw=>?_,λ h=>absurd rfl h⟩;unfold wj at*;split at aw
     ·rename_i hs;have ag:j=6\/j=7\/j=8\/j=9:=by simpa[zg,or_assoc] using hs
      exfalso;rcases ag with rfl|rfl|rfl|rfl<;>first|exact aY rfl|exact aZ rfl|exact q_ (a6.symm.trans rfl)|exact q_ ((a7 _ rfl).symm.trans rfl)
     ·rename_i hs;rw[if_neg hs];exact aw
    ·intro vals w af bo bp H O hp;have cJ:af (.tmp 50)=vals 6:=(H.1 rfl).2 _ rfl;obtain⟨q,c2,f6,B,W⟩:∃q c2,vals 6=.slice q l.length c2/\Below t.drew.heap.size t.drew w/\w.ownsRow t.drew.heap.size 3 1 (.slice q l.length c2) l.length (gX l):=(H.1 rfl).1 (.inr rfl);rw[f6] at cJ;simp only[bn,execOp,Zt,d_,Zl,cJ,hp.1];simp[gF,go_sem];exact .same bo ⟨q,c2,rfl,B,W⟩
    ·intro vals w af bo bp H O hp;have cK:af (.tmp 51)=vals 7:=(H.1 rfl).2 _ rfl;obtain⟨q,c2,f7,B,W⟩:∃q c2,vals 7=.agg #[.int .i64 2,.slice q l.length c2]/\Below t.drew.heap.size t.drew w/\w.ownsRow t.drew.heap.size 3 1 (.slice q l.length c2) l.length (gX l):=(H.1 rfl).1 (.inr rfl);rw[f7] at cK;simp only[bn,execOp,Zt,d_,Zl,cK];simp[gF,go_sem];refine⟨(bl.o q c2 w B).2.2.1,⟨q,c2,w,rfl,B,W,rfl⟩,λ j u aY aZ a6 a7 aw=>?_,λ h=>λ bS=>False.elim (q_ (bS.symm.trans (by kernel_rfl)))⟩;unfold wj at*;split at aw
     ·rename_i hs;have ag:j=6\/j=7\/j=8\/j=9:=by simpa[zg,or_assoc] using hs
      exfalso;rcases ag with rfl|rfl|rfl|rfl<;>first|exact aY rfl|exact aZ rfl|exact q_ (a6.symm.trans rfl)|exact q_ ((a7 _ rfl).symm.trans rfl)
     ·rename_i hs;rw[if_neg hs];exact aw
    ·intro vals w af bo bp H O hp;have cL:af (.tmp 48)=vals 4:=(H.1 rfl).2 _ rfl;have f4:vals 4=.slice ar au av:=(H.1 rfl).1 (.inl rfl);have cM:af (.tmp 52)=vals 8:=(H.2.1 rfl).2 _ rfl;obtain⟨q,c2,w1,f8,B,W,rfl⟩:∃(q:Option Addr)(c2:Nat)(w1:World),vals 8=.slice (some ⟨w1.heap.size,0,none⟩) 1 1/\Below t.drew.heap.size t.drew w1/\w1.ownsRow t.drew.heap.size 3 1 (.slice q l.length c2) l.length (gX l)/\w=w1.alloc (.cells #[.int .i64 2,.slice q l.length c2] 126):=(H.2.1 rfl).1 (.inr rfl);rw[f4] at cL;rw[f8] at cM;obtain⟨h1,F,an,ag,bd⟩:=bl.o q c2 w1 B;obtain⟨v',w',g1,g2⟩:=L9 h1 F 45 w1.heap.size 1 ⟨2,⟨q,l.length,c2⟩⟩ ag bd (by have:=D.o.2.2.2.2.2.2.2.2.2.2.1;rw[Z.o.2.2.2.1];exact this);rw[Z.o.2.2.2.2.2.2] at g1;simp only[bn,execOp,resolve,invoke,builtin,Sem.run_bind,Sem.run_pure,Result.andThen_ok,Zt,d_,Zl,cL,cM,g1,gF];obtain⟨h',-,dF,-⟩:=aU.GI h1 g2;refine⟨dF.trans (by rw[Z.o.2.2.2.2.2.2]),⟨q,c2,w1,B,W,g2⟩,λ j u aY aZ a6 a7 aw=>?_,λ h=>λ bS=>False.elim (q_ (bS.symm.trans (by kernel_rfl)))⟩;unfold wj at*;split at aw
     ·rename_i hs;have ag:j=6\/j=7\/j=8\/j=9:=by simpa[zg,or_assoc] using hs
      exfalso;rcases ag with rfl|rfl|rfl|rfl<;>first|exact aY rfl|exact aZ rfl|exact q_ (a6.symm.trans rfl)|exact q_ ((a7 _ rfl).symm.trans rfl)
     ·rename_i hs;rw[if_neg hs];exact aw
    all_goals
     refine⟨λ h=>(by cases h),λ _ af w bf H O hp=>?_⟩;obtain⟨dG,dH,-⟩:=O
     try simp[tY,qn,Zk,zg] at H
     simp[bn,execOp,gF,go_sem,dG,dH,H,bf,hp.1]
   intro vals di dI aa dT cN;obtain⟨q,c2,w1,B,W,ae⟩:∃(q:Option Addr)(c2:Nat)(w1:World),Below t.drew.heap.size t.drew w1/\w1.ownsRow t.drew.heap.size 3 1 (.slice q l.length c2) l.length (gX l)/\B4 (w1.alloc (.cells #[.int .i64 2,.slice q l.length c2] 126)) base (tX ao s3) (s3.aA.length+1) (mq (s3.aA++[(⟨2,⟨q,l.length,c2⟩⟩:mS)])) (vals 9) di:=aa 9 (by omega) rfl;obtain⟨h1,F,an,ag,bd⟩:=bl.o q c2 w1 B;obtain⟨⟨Q,R,c5⟩,aE,aF,a2,a8,a'⟩:=aU.GI h1 ae;change vals 9=.slice Q R c5 at aE;rw[aE] at ae a8 a';have a1:di.cell? ⟨G,14,none⟩=some (.slice ar au av):=by rw[Z.o.2.2.2.2.2.2] at aF;exact aF
   have a8:=U a8;have a':=U a';have bq:=U ae;have ad:=U W;have bT:=U B;have k0:vals 0=.pointer (some ⟨G,0,none⟩):=aa 0 (by omega) rfl;have cO:vals 1=.pointer (some ⟨G,0,none⟩):=aa 1 (by omega) rfl;have k2:vals 2=.pointer (some ⟨G,0,none⟩):=aa 2 (by omega) rfl;have k3:vals 3=.pointer (some ⟨G,14,none⟩):=aa 3 (by omega) rfl;have cP:vals 4=.slice ar au av:=aa 4 (by omega) rfl;have cQ:vals 5=.slice (some ⟨bu,0,none⟩) m c:=aa 5 (by omega) rfl;have k10:vals 10=.pointer (some ⟨G,0,none⟩):=aa 10 (by omega) rfl;have k11:vals 11=.pointer (some ⟨G,14,none⟩):=aa 11 (by omega) rfl;simp[oI,Act.put,aE,k0,cO,k2,k3,cP,cQ,k10,k11] at cN;subst cN;show bn _ _ (Zi _ _ _ _ _ _) _ _;simp[bn,execOp,gF,go_sem,Act.eval,a1,a2];clear ae W B aE aF h1 F an ag bd k0 cO k2 k3 cP cQ k10 k11 aa dI
   iterate 1
    have cR:∀b,t.heap.size<=b->b<w1.heap.size->(di.setCell ⟨G,14,none⟩ (.slice Q R c5)).heap[b]? =w1.heap[b]? :=λ b B cS=>by
     have dU:=J.o.e.box.lt;rw[Below.heap_setCell _ _ _ _ (show b≠G by omega)];rw[bq.o.2.1.block b (by simp;omega) (λ e=>by
      have e:=e.symm;unfold tX at e
      cases ba:s3.jl with
      |none=>rw[ba] at e;have:=(J.o.e.rows.lt (r:=11) e).2;omega
      |some h=>rw[ba] at e;cases e)]
     first|exact heap_alloc_old w1 _ cS|exact heap_alloc_old w1 _ _ cS
    have cT:(di.setCell ⟨G,14,none⟩ (.slice Q R c5)).ownsRow base 3 1 (aq.v ⟨q,l.length,c2⟩) l.length (gX l):=
     yK (mP ad.o (λ b aJ=>cR b (ad.o.lt b aJ).1 (ad.o.lt b aJ).2)) (Zn J.o.e.lt)
    obtain⟨g2,br⟩:∃g2,(⟨q,l.length,c2⟩:aq).b=some g2:=by
     rcases ad.o.2 with⟨L,_⟩|⟨g,cap,cur,L,_⟩
     ·injection L with cU dV dW
      have h1:=az.o.1;have F:l.length=m:=D.o.2.2.2.2.2.2.2.2.2.2.2.1;omega
     ·injection L with cU
      exact⟨g,by show q.map _=_;rw[cU];rfl⟩
    have bs:=ad.o.lt g2 (by show(aq.v ⟨q,l.length,c2⟩).ownBlock=_;rw[aq.own];exact br);have dJ:t.heap.size<=g2:=bs.1;have cV:g2<(di.setCell ⟨G,14,none⟩ (.slice Q R c5)).heap.size:=by
     have h1:=(kK di G 14 (.slice Q R c5)).size;have F:=bq.o.2.1.size;have an:=bs.2;simp at F;omega
    have ah:=a8.o.qJ (g:=g2) cV (by have:=J.o.e.box.lt;omega) (λ r e=>by
     by_cases cW:r=11
     ·subst cW;rw[jH] at e;rcases bq.o.2.2 with h1|h1
      ·have F:(aq.v ⟨Q,R,c5⟩).ownBlock=tX ao s3:=h1;rw[aq.own,e] at F;unfold tX at F
       cases ba:s3.jl with
       |none=>rw[ba] at F;have:=(J.o.e.rows.lt (r:=11) F.symm).2;omega
       |some h=>rw[ba] at F;cases F
      ·have:=h1 g2 (by show(aq.v ⟨Q,R,c5⟩).ownBlock=_;rw[aq.own];exact e);have an:=bs.2;simp at this;omega
     ·rw[aX _ _ cW] at e;have:=(J.o.e.rows.lt e).2;omega) (λ d H e=>by have:=(J.o.e.cls d H).lt;omega)
    have bt:x6 (qJ K g2) (di.setCell ⟨G,14,none⟩ (.slice Q R c5)) l ⟨2,⟨q,l.length,c2⟩⟩:=⟨rfl,aQ.lz cT (by show l.length*8<=140737488355328;have h1:=az.o.2.1;have F:l.length=m:=D.o.2.2.2.2.2.2.2.2.2.2.2.1;omega),λ b e _=>.inr (by rw[br] at e;injection e with e;exact e.symm)⟩
    have cX:=U (bJ.o.trans (aD.drew.trans ((J.o.drew.below (bT.o.alloc bT.o.size (.cells #[.int .i64 2,.slice q l.length c2] 126))).2.trans a'.o)));obtain⟨M,bU⟩:∃M,qJ K g2=M:=⟨_,rfl⟩
    have cY:bI (∀b,K b->M b):=U (λ b aJ=>by rw[<-bU];exact .inl aJ);rw[bU] at ah bt;obtain⟨p,hp⟩:∃p:mS,(⟨2,⟨q,l.length,c2⟩⟩:mS)=p:=⟨_,rfl⟩
    have bV:∀b,(⟨2,⟨q,l.length,c2⟩⟩:mS).h.b=some b->w.heap.size<=b:=λ b e=>by
     have e:(⟨q,l.length,c2⟩:aq).b=some b:=e;rw[br] at e;injection e with e
     subst e;have:=bJ.o.size;omega
    rw[hp] at bt bV;have dK:=U bV;have cZ:({s3 with aA:=s3.aA++[p],jl:=none}:aj)={s with c:={s.c with cl:=s.c.cl++[l]},ci:=s.ci++[⟨true,(aR:Int),s.aM⟩],aI:=s.aI++[s.c.cl.length],aA:=s.aA++[p],jl:=none}:=by rw[Z.o.2.1]
    obtain⟨bW,bX⟩:∃f,iH ao 11 ⟨Q,R,c5⟩=f:=⟨_,rfl⟩
    have c7:bW (kz s.c.cl.length)=⟨some ⟨bu,0,none⟩,m,c⟩:=by
     rw[<-bX,aX _ _ (by unfold kz;omega)];exact Z.o.1
    have ah:aU M base (di.setCell ⟨G,14,none⟩ (.slice Q R c5)) G bW I {s3 with aA:=s3.aA++[p],jl:=none}:=by rw[<-bX,<-hp];exact ah
    rw[cZ] at ah;have c8:=U bt;clear bX cZ cR cT hp a8 a' bq ad bT bl cH bt bV bU br bs dJ cV
    go_upto_region 9 with fail
    generalize di.setCell ⟨G,14,none⟩ (.slice Q R c5)=da at ah cX c8⊢;clear a1 a2 bk cI;obtain⟨y,aB⟩:∃y,ai l 0=y:=⟨_,rfl⟩
    have bc:=az.o.1;have db:=D.o.2.2.2.2.2.2.2.2.2.2.2.1;have dc:gU s.c.n y:=by rw[<-aB];exact D.o.2.2.2.2.2.2.2.2.2.2.2.2.2.2.2.1 _ (l5 (by omega))
    have dX:(0:Int)<(m:Int):=by omega
    have ah:=U ah;have ak:=U (z_ aB (z_ dc (z_ c7 db)));clear aB dc c7 db bc;have dd:bI (∀(di:World)(bY:Nat->aq),aU M base di G bY I {s with c:=k5 (kj s.c l) y (some s.c.cl.length),ci:=s.ci++[⟨true,(aR:Int),s.aM⟩],aI:=s.aI++[s.c.cl.length],aA:=s.aA++[p],jl:=none}->aD M da di->GJ K base w G s l (.returned (.tuple #[])) di):=U (λ di bY bb aK=>by
     refine⟨rfl,M,bY,I,(aR:Int),p,cY.o,?_,cX.o.trans (aK.mono cY.o),by omega,by have:=qq.o;have:=dr.o;have:=ak.o.2.2.2;omega,c8.o.iP aK,dK.o⟩;unfold aj.xd;rw[ak.o.1];exact bb)
    have de:bI (∀(ay:World)(al:Nat->aq),aU M base ay G al I {s with c:=kj s.c l,ci:=s.ci++[⟨true,(aR:Int),s.aM⟩],aI:=s.aI++[s.c.cl.length],aA:=s.aA++[p],jl:=none}->Calls y_ 156 #[.pointer (some ⟨G,0,none⟩),.int .i64 y,.pointer (some ⟨blk,0,none⟩)] ay λ e w'=>e=.returned (.tuple #[])/\∃h':aq,aU M base w' G (iH al 4 h') I {s with c:=k5 (kj s.c l) y (some s.c.cl.length),ci:=s.ci++[⟨true,(aR:Int),s.aM⟩],aI:=s.aI++[s.c.cl.length],aA:=s.aA++[p],jl:=none}/\aD M ay w'):=U (λ ay al N=>by
     have h1:=BH N y (some s.c.cl.length) D.o.2.2.2.1.new (show gU s.c.n y from ak.o.2.1) (show s.c.n<=60000 from D.o.2.2.2.2.2.1) (show s.c.st.length<=1000000 from D.o.2.2.2.2.2.2.2.2.1);rw[show qZ I (some s.c.cl.length)=.pointer (some ⟨blk,0,none⟩) by show Value.pointer (some ⟨I s.c.cl.length,0,none⟩)=_;rw[Y.o.1]] at h1;exact h1)
    have df:bI (∀(ay:World)(al:Nat->aq)(bZ:aj),aU M base ay G al I bZ->bZ.c.cl=s.c.cl++[l]->al (kz s.c.cl.length)=⟨some ⟨bu,0,none⟩,m,c⟩->ay.cell? ⟨bu,0,none⟩=some (.int .i64 y)):=U (λ ay al bZ N h1 F=>by
     have an:=N.e.xZ (d:=s.c.cl.length) (g:=bu) (by rw[F];rfl) (k:=0) (by rw[h1,uR];have:=ak.o.2.2.2;have:=az.o;omega);rw[h1,uR,ak.o.1] at an;exact an)
    by_cases dh:2<=m
    ·have g1:(1:Int)<(m:Int):=by omega
     have d1:decide ((1:Int)<(m:Int))=true:=decide_eq_true g1;have dj:bI (2<=l.length):=U (by have:=ak.o.2.2.2;omega);have bw:=F3 ah.o (d:=s.c.cl.length) (by show _<(s.c.cl++[l]).length;simp) (by show 2<=(ax (s.c.cl++[l]) _).length;rw[uR];exact dj.o) (by show∀x∈ax (s.c.cl++[l]) _,_;rw[uR];exact D.o.2.2.2.2.2.2.2.2.2.2.2.2.2.2.2.1) (show s.c.n<=60000 from D.o.2.2.2.2.2.1) (show s.c.wt.length=2*s.c.n+2 from D.o.2.2.2.2.2.2.1) (show∀k,(ax s.c.wt k).length<=1000000 from D.o.2.2.2.2.2.2.2.1);rw[Y.o.1,ak.o.2.2.1,FZ] at bw;have bw:=U bw;clear dh
     go_upto_region 11 with(go_at_call 180;refine bw.o.mono ?_;rintro e dL ⟨rfl,al,N,b0,dk⟩;dsimp only)
     have N:aU M base dL G al I {s with c:=kj s.c l,ci:=s.ci++[⟨true,(aR:Int),s.aM⟩],aI:=s.aI++[s.c.cl.length],aA:=s.aA++[p],jl:=none}:=by
      have e:kj s.c l={s.c with cl:=s.c.cl++[l],wt:=wM s.c.wt l s.c.cl.length}:=by unfold kj;rw[if_pos dj.o]
      rw[e];have dm:=N;rw[show ax ({s with c:={s.c with cl:=s.c.cl++[l]},ci:=s.ci++[⟨true,(aR:Int),s.aM⟩],aI:=s.aI++[s.c.cl.length],aA:=s.aA++[p],jl:=none}:aj).c.cl s.c.cl.length=l from uR _ _] at dm;exact dm
     have c0:=df.o _ _ _ N rfl dk;have b1:=U (de.o _ _ N);have b0:=U b0;clear N dk
     go_wp2_with (go_at_call 156;refine b1.o.mono ?_;rintro e dM ⟨rfl,h',bb,aK⟩;dsimp only)
     go_end0;exact dd.o _ _ bb (b0.o.trans aK)
    ·have g1:¬(1:Int)<(m:Int):=by omega
     have d1:decide ((1:Int)<(m:Int))=false:=decide_eq_false g1;have N:aU M base da G bW I {s with c:=kj s.c l,ci:=s.ci++[⟨true,(aR:Int),s.aM⟩],aI:=s.aI++[s.c.cl.length],aA:=s.aA++[p],jl:=none}:=by
      have e:kj s.c l={s.c with cl:=s.c.cl++[l]}:=by unfold kj;rw[if_neg (by have:=ak.o.2.2.2;omega)]
      rw[e];exact ah.o
     have c0:=df.o _ _ _ N rfl ak.o.2.2.1;have b1:=U (de.o _ _ N);clear N dh
     go_wp2_with (go_at_call 156;refine b1.o.mono ?_;rintro e dM ⟨rfl,h',bb,aK⟩;dsimp only)
     go_end0;exact dd.o _ _ bb aK
end
section
section
variable {F:List (List Int)}{aC:List Int}{n gx:Nat}{s s':aj}{sp h h':Nat}
theorem mw.conflict(S:mw F aC n gx s sp h){l:List Int}{level:Nat}(L:uV F s.c l level){B:Int}{uH s1 s3:aj}(k0:ov s uH)(k:bf level uH s1)(r:mu n js B s1)(H:0<=B/\js<=B)(aR:Int)(I:0<=aR/\aR<=js)(aA:List mS)
  (k3:ov (s1.xd l aR aA) s3) (u:mu n js (js*(1+16*((sp+1:Nat):Int))) s3):
  mw F aC n gx s3 (sp+1) (gQ s.c.st level)/\s3.c.ag=gQ s.c.st level/\s3.aA=aA/\s3.jl=none:=by
 have g:uH.c=s.c:=k0.c;have J:level<uH.c.st.length:=by rw[g];exact L.mG
 have i:s1.c=mJ s.c level:=by rw[k.c,g]
 have w:(s1.xd l aR aA).c=zL s.c l level:=by
  show k5 (kj s1.c l) (ai l 0) (some s1.c.cl.length)=_;rw[i];rfl
 have y:s1.c.cl=s.c.cl:=by rw[i];rfl
 have K:=L.fresh S.gK.aL;have z:=S.gK.aL.back L.mG;have o:=S.gK.keep L;have A:s1.aI=s.aI:=k.aI.trans k0.aI;have p:∀d∈s.aI,d<s.c.cl.length:=S.rg.kX;have c3:s3.c=zL s.c l level:=k3.c.trans w;have q:s3.aI=s.aI++[s.c.cl.length]:=by
  rw[k3.aI];show s1.aI++[s1.c.cl.length]=_;rw[A,y]
 have C:∀v,1<=v->v<=n->ai s1.c.val v=0->0<=ai s1.pl v:=λ v h1 f j=>by
  rcases k.FD v h1 (by rw[g,S.rg.jh];exact f) j with e|e
  ·refine k.yN v ((k0.same v).2 (S.un v h1 f ?_));rw[g] at e;exact e
  ·exact e
 refine⟨⟨by rw[c3];exact o,u,by rw[c3];exact S.vZ.keep S.gK.aL L,?_,λ v h1 f j=>?_,?_,?_,?_,?_,?_,?_⟩,by rw[c3];rfl,k3.aA,k3.jl⟩
 ·rw[c3];refine(S.lb.back S.gK.aL L.mG).grow rfl ?_;show _<=((mJ s.c level).au++[ai l 0]).length;rw[w_];omega
 ·rw[c3] at j;have e:=(sq o.aL h1 (by show v<=s.c.n;rw[S.rg.jh];exact f)).1 j;have D:(zL s.c l level).au=s1.c.au++[ai l 0]:=by rw[i];rfl
  rw[D] at e;refine(k3.same v).2 (C v h1 f ?_);rw[i] at e⊢;exact(sq z h1 (by show v<=s.c.n;rw[S.rg.jh];exact f)).2 ⟨λ m=>e.1 (Yu _ m),λ m=>e.2 (Yu _ m)⟩
 ·rw[k3.aN];show s1.aN=_;rw[k.aN,k0.aN];exact S.aN
 ·rw[q,c3];show((s.aI++[s.c.cl.length]).map (ax (s.c.cl++[l]))).Pairwise _;rw[ZD,List.map_singleton,Yv];have t:∀d∈s.aI,ax (s.c.cl++[l]) d=ax s.c.cl d:=λ d ag=>Bd (p d ag)
  refine⟨By _ (λ d ag x=>by rw[t d ag]) S.wX,by simp,λ a E b G=>?_⟩;rw[a_.1 G,uR];obtain⟨d,ag,rfl⟩:=Z5.1 E;rw[t d ag];exact L.new S.gK d (p d ag)
 ·rw[q,w_,h_,S.pE];omega
 ·rw[k3.nl];show∀l'∈s1.nl,_;rw[k.nl,k0.nl];exact S.yM
 ·rw[c3];show ai ((zero s.c.val _).set _ _) 0=0;have:=(L.ok.lt _ (l5 (ZX.2 L.ok.ne))).1;rw[o7,if_neg (by omega),yz];split
  ·rfl
  ·exact S.v0
 ·rw[c3];exact pq.set ((S.qK.back level).new l) _ (λ d ag=>by injection ag with ag;rw[<-ag];show s.c.cl.length<(s.c.cl++[l]).length;simp)
theorem mu.xd{B:Int}(r:mu n js B s)(i:js<=B){l:List Int}(aR:Int)(f:0<=aR/\aR<=js)(b:List mS):mu n js B (s.xd l aR b):=by
 refine⟨r.jh,r.lT,r.kM,r.pP,r.a0,r.rC,r.oS,r.nB,r.oT,?_,λ d=>?_,λ d g=>?_⟩
 ·show(s.ci++[_]).length=(s.c.cl++[l]).length;rw[w_,w_,r.nV];rfl
 ·have e:lH (s.xd l aR b) d=if d=s.ci.length then ⟨true,aR,s.aM⟩ else lH s d:=yO _ _ _
  rw[e];split
  ·have h1:=r.rC;have j:=r.oS;exact⟨by show 0<=s.aM;omega,by show s.aM<=B;omega,f⟩
  ·exact r.qa d
 ·show d<(s.c.cl++[l]).length;rw[w_,h_];rcases ZC.1 g with h1|h1
  ·have:=r.kX d h1;omega
  ·rw[a_.1 h1];omega
end
end
section
open Go.RowKit Go.Shelf
theorem aU.vi(h:aU K base W G hs cb s){g:Nat}(hk:K g)(k:Nat)(v:Value):aU K base (W.setCell ⟨g,k,none⟩ v) G hs cb s:=
 ⟨h.e.off (kK W g k v) (λ f e=>by
  injection e with e
  subst e;exact⟨λ b=>h.s.g (by rw[<-b];exact hk),λ r b=>h.s.row r g b hk,λ d c b=>h.s.cl d c (by rw[b];exact hk)⟩),h.s.more (kK W g k v).size⟩
theorem oV.mono{w:World}(h:oV K w s)(hk:∀b,K b->kW b):oV kW w s:=λ f g=>by
 obtain⟨a,b,c⟩:=h f g;exact⟨a,b,c.imp id λ⟨d,off,e,h1,i⟩=>⟨d,off,e,λ j=>hk d (h1 j),i⟩⟩
structure sB(bw gP:Nat->Prop)(w0:World)(F:List (List Int))(aC:List Int)(n gx jr:Nat)(aF:aj)(jy:Option Addr)(ia jA aZ:Nat):Prop where
 n10:n<=10
 x7:aC.length=ia
 GK:ia<=1000
 Me:∀x∈aC,gU n x
 Mf:aQ w0 jy ia jA aC
 GL:∀b,jy.map (·.block)=some b->0<ia->gP b
 k0:∀b,gP b->b<w0.heap.size
 nY:aZ<=1099511627776
 jr:jr<=gx+40000
 vj:aF.aA.length+59049<=1099511627776
 lit:∀g∈F,∀x∈g,gU n x
 dl:∀b,bw b->b<w0.heap.size
theorem sB.DX{w0:World}(C:sB bw gP w0 F aC n gx jr aF jy ia jA aZ){b:Nat}(h:w0.heap.size<=b):¬bw b:=λ c=>by
 have:=C.dl b c;omega
def mX:Value:=.slice none 0 0
structure mR(bw gP:Nat->Prop)(base:Nat)(w0:World)(G:Nat)(F:List (List Int))(aC:List Int)(n gx jr:Nat)(aF:aj)(aW aZ:Nat)(K:Nat->Prop)(W:World)(hs:Nat->aq)(cb:Nat->Nat)(s:aj)(aV h:Nat):Prop where
 rG:∀b,gP b->K b
 gz:aU K base W G hs cb s
 iP:aD gP w0 W
 jX:mw F aC n gx s aV h
 lQ:aO W aW 30 [.int .i64 0,mX,mX,.int .i64 (aV:Int)]
 rH:K aW
 tZ:¬gP aW
 xe:oV (λ b=>gP b/\¬bw b) W s
 xg:∀p∈s.aA,qf (λ b=>(K b/\b≠aW)/\¬bw b) W n F p
 xh:aF.aA<+:s.aA
 vj:s.aA.length=aF.aA.length+aV
 wk:s.c.cl.length=jr+aV
 rZ:aV<=aZ
def oG(K:Nat->Prop)(W:World)(F:List (List Int))(aC:List Int)(n aZ aV:Nat)(kind:Int)(c:Option Addr)(e f:Nat)(d:Option Addr)(i j:Nat):Prop:=
 (kind=1/\Zf d i j=mX/\∃m:List Bool,lB W c e f m/\(∀b,c.map (·.block)=some b->K b)/\m.length=n+1/\jE m 0=false/\(∀g∈F,uj (sN m) g)/\∀x∈aC,sN m x=true)\/
 (kind=2/\Zf c e f=mX/\∃core:List Int,aQ W d i j core/\(∀b,d.map (·.block)=some b->K b)/\core.Sublist aC/\∀M,tK M F->¬∀x∈core,M x=true)\/
 (kind=3/\Zf c e f=mX/\Zf d i j=mX/\aV=aZ)
def DY(bw gP:Nat->Prop)(base:Nat)(w0:World)(G:Nat)(F:List (List Int))(aC:List Int)(n gx:Nat)(aF:aj)(aZ:Nat)(e:Ending)(W:World):Prop:=
 ∃(K:Nat->Prop)(hs:Nat->aq)(cb:Nat->Nat)(s:aj)(aV h:Nat)(kind:Int)(c:Option Addr)(d f:Nat)(g:Option Addr)(i j:Nat),
  e=.returned (.agg #[.int .i64 kind,.slice c d f,.slice g i j,.int .i64 (aV:Int)])/\(∀b,gP b->K b)/\aU K base W G hs cb s/\aD gP w0 W/\mw F aC n gx s aV h/\oV (λ b=>gP b/\¬bw b) W s/\(∀p∈s.aA,qf (λ b=>K b/\¬bw b) W n F p)/\aF.aA<+:s.aA/\s.aA.length=aF.aA.length+aV/\aV<=aZ/\oG (λ b=>K b/\¬bw b) W F aC n aZ aV kind c d f g i j
section
variable {bw gP K kW:Nat->Prop}{base:Nat}{w0 W W':World}{G:Nat}{F:List (List Int)}{aC:List Int}{n gx jr:Nat}{aF s s':aj}{jy:Option Addr}{ia jA aW aZ:Nat}{hs hs':Nat->aq}{cb sj:Nat->Nat}{aV h h':Nat}
theorem mR.move(S:mR bw gP base w0 G F aC n gx jr aF aW aZ K W hs cb s aV h)(f:aU K base W' G hs' sj s')(iP:aD K W W')(g:mw F aC n gx s' aV h')(d:s'.aA=s.aA)(i:s'.jl=s.jl)(j:s'.c.cl.length=s.c.cl.length):
  mR bw gP base w0 G F aC n gx jr aF aW aZ K W' hs' sj s' aV h':=
 ⟨S.rG,f,S.iP.trans (iP.mono S.rG),g,iP.blk S.lQ S.rH,S.rH,S.tZ,S.xe.kept (iP.mono λ b e=>S.rG b e.1) i d,λ p hp=>(S.xg p (by rw[<-d];exact hp)).iP (iP.mono λ b e=>e.1.1),by rw[d];exact S.xh,by rw[d];exact S.vj,by rw[j];exact S.wk,S.rZ⟩
theorem mR.below(S:mR bw gP base w0 G F aC n gx jr aF aW aZ K W hs cb s aV h)(b:Below W.heap.size W W'):mR bw gP base w0 G F aC n gx jr aF aW aZ K W' hs cb s aV h:=
 S.move (S.gz.below b).1 (S.gz.below b).2 S.jX rfl rfl rfl
theorem mR.more(S:mR bw gP base w0 G F aC n gx jr aF aW aZ K W hs cb s aV h)(C:sB bw gP w0 F aC n gx jr aF jy ia jA aZ)(l:aV<aZ){jo:World}{p:mS}
  (hk:∀b,K b->kW b) (m:aU kW base W' G hs' sj s') (iP:aD (λ b=>K b/\b≠aW) W jo) (g:aD K jo W') (o:aO jo aW 30 [.int .i64 0,mX,mX,.int .i64 (aV+1:Nat)]) (r:mw F aC n gx s' (aV+1) h') (f:s'.aA=s.aA++[p]) (t:s'.jl=none) (u:s'.c.cl.length=s.c.cl.length+1)
  (hl:qf kW W' n F p) (i:∀b,p.h.b=some b->W.heap.size<=b):mR bw gP base w0 G F aC n gx jr aF aW aZ kW W' hs' sj s' (aV+1) h':=by
 have w:=S.lQ.lt;have f0:aD (λ b=>K b/\b≠aW) W W':=iP.trans (g.mono λ b d=>d.1);refine⟨λ b d=>hk b (S.rG b d),m,S.iP.trans (f0.mono λ b d=>⟨S.rG b d,λ e=>S.tZ (e▸d)⟩),r,g.blk o S.rH,hk _ S.rH,S.tZ,λ y j=>(by rw[t] at j;cases j),λ q k=>?_,?_,?_,?_,l⟩
 ·rw[f] at k;rcases ZC.1 k with h1|h1
  ·exact((S.xg q h1).iP (f0.mono λ b d=>d.1)).mono λ b d=>⟨⟨hk b d.1.1,d.1.2⟩,d.2⟩
  ·rw[a_.1 h1];exact⟨hl.rd,λ b e v=>⟨⟨hl.blk b e v,by have:=i b e;omega⟩,C.DX (Zv S.iP.size (i b e))⟩⟩
 ·rw[f];exact S.xh.trans (List.prefix_append _ _)
 ·rw[f,w_,h_,S.vj];omega
 ·rw[u,S.wk];omega
theorem aD.DZ(S:mR bw gP base w0 G F aC n gx jr aF aW aZ K W hs cb s aV h)(k:Nat)(v:Value):aD (λ b=>K b/\b≠aW) W (W.setCell ⟨aW,k,none⟩ v):=aD.set aW k v (λ c=>c.2 rfl)
theorem mR.nW(S:mR bw gP base w0 G F aC n gx jr aF aW aZ K W hs cb s aV h)(C:sB bw gP w0 F aC n gx jr aF jy ia jA aZ):s.aI.length+1<=59049/\aV+1<=59049/\s.c.cl.length<=100000/\s.c.n<=60000/\s.c.st.length<=1100/\s.aA.length<=1099511627776/\s.c.au.length<=n:=by
 have h1:=S.jX.nW;have b:3^n<=3^10:=Nat.pow_le_pow_right (by omega) C.n10;have d:(3:Nat)^10=59049:=by decide
 have e:=S.jX.pE;have f:=S.wk;have g:=C.jr;have i:=S.jX.rg.jh;have j:=C.n10;have k:=S.jX.lb.len;have l:=S.jX.gK.aL.len;have m:=C.x7;have o:=C.GK;have p:=S.vj;have q:=C.vj;refine⟨by omega,by omega,by omega,by omega,by omega,by omega,by omega⟩
theorem mw.GM(S:mw F aC n gx s aV h)(d:0<s.c.st.length):0<s.c.au.length:=by
 rcases ZR aC.length with f|f
 ·have h1:=S.lb.str 0 d (by omega);split at h1
  ·have b:=S.gK.aL.oH (0+1) (by assumption);omega
  ·omega
 ·have h1:=S.vZ.ind 0 d f;have b:=sK h1;exact ZX.2 (λ e=>by rw[e] at b;cases b)
theorem mR.DM(S:mR bw gP base w0 G F aC n gx jr aF aW aZ K W hs cb s aV h):vh s:=
 ⟨S.jX.qK,λ k d b=>(S.jX.gK.wt.qW k d b).1,S.jX.rg.kX⟩
theorem mR.GN(S:mR bw gP base w0 G F aC n gx jr aF aW aZ K W hs cb s aV h)(C:sB bw gP w0 F aC n gx jr aF jy ia jA aZ):aQ W jy ia jA aC:=C.Mf.iP S.iP C.GL
structure sC(bw gP:Nat->Prop)(base:Nat)(w0:World)(G:Nat)(F:List (List Int))(aC:List Int)(n gx:Nat)(aF:aj)(aW aZ:Nat)(K:Nat->Prop)(W:World)(hs:Nat->aq)(cb:Nat->Nat)(s:aj)(aV h:Nat)(kind:Int)(kn:Option Addr)(jT j3:Nat)(j7:Option Addr)(jC gL:Nat):Prop where
 rG:∀b,gP b->K b
 gz:aU K base W G hs cb s
 iP:aD gP w0 W
 jX:mw F aC n gx s aV h
 rH:K aW
 tZ:¬gP aW
 xe:oV (λ b=>gP b/\¬bw b) W s
 xg:∀p∈s.aA,qf (λ b=>(K b/\b≠aW)/\¬bw b) W n F p
 xh:aF.aA<+:s.aA
 vj:s.aA.length=aF.aA.length+aV
 rZ:aV<=aZ
 GO:oG (λ b=>(K b/\b≠aW)/\¬bw b) W F aC n aZ aV kind kn jT j3 j7 jC gL
theorem lB.iP{K:Nat->Prop}{w w':World}{A:Option Addr}{n c:Nat}{ah:List Bool}(h:lB w A n c ah)(f:aD K w w')(hk:∀b,A.map (·.block)=some b->K b):lB w' A n c ah:=
 ⟨h.len,h.cap,h.mW,h.o6,λ d=>by
  obtain⟨b,off,e,h1,g⟩:=h.cells d;refine⟨b,off,e,Zm h1 f.size,λ j i=>?_⟩;rw[f.cell (p:=⟨b,off+j,none⟩) (hk b (by rw[e];rfl))];exact g j i⟩
theorem oG.iP{K:Nat->Prop}{kind:Int}{kn:Option Addr}{jT j3:Nat}{j7:Option Addr}{jC gL:Nat}(a:oG K W F aC n aZ aV kind kn jT j3 j7 jC gL)(f:aD K W W'):oG K W' F aC n aZ aV kind kn jT j3 j7 jC gL:=by
 rcases a with⟨h1,d,m,g,c,i⟩|⟨h1,d,co,g,c,i⟩|h1
 ·exact .inl ⟨h1,d,m,g.iP f c,c,i⟩
 ·exact .inr (.inl ⟨h1,d,co,g.iP f (λ b e _=>c b e),c,i⟩)
 ·exact .inr (.inr h1)
theorem oG.mono{K kW:Nat->Prop}{kind:Int}{kn:Option Addr}{jT j3:Nat}{j7:Option Addr}{jC gL:Nat}(a:oG K W F aC n aZ aV kind kn jT j3 j7 jC gL)(hk:∀b,K b->kW b):oG kW W F aC n aZ aV kind kn jT j3 j7 jC gL:=by
 rcases a with⟨h1,c,m,d,f,g⟩|⟨h1,c,co,d,f,g⟩|h1
 ·exact .inl ⟨h1,c,m,d,λ b e=>hk b (f b e),g⟩
 ·exact .inr (.inl ⟨h1,c,co,d,λ b e=>hk b (f b e),g⟩)
 ·exact .inr (.inr h1)
theorem sC.move{kind:Int}{kn:Option Addr}{jT j3:Nat}{j7:Option Addr}{jC gL:Nat}(S:sC bw gP base w0 G F aC n gx aF aW aZ K W hs cb s aV h kind kn jT j3 j7 jC gL)(d:aU K base W' G hs cb s)(f:aD (λ b=>K b/\b≠aW) W W'):
  sC bw gP base w0 G F aC n gx aF aW aZ K W' hs cb s aV h kind kn jT j3 j7 jC gL:=
 have f0:aD gP W W':=f.mono λ b c=>⟨S.rG b c,λ e=>S.tZ (e▸c)⟩
 ⟨S.rG,d,S.iP.trans f0,S.jX,S.rH,S.tZ,S.xe.kept (f0.mono λ b c=>c.1) rfl rfl,λ p hp=>(S.xg p hp).iP (f.mono λ b c=>c.1),S.xh,S.vj,S.rZ,S.GO.iP (f.mono λ b c=>c.1)⟩
theorem sC.set{kind:Int}{kn:Option Addr}{jT j3:Nat}{j7:Option Addr}{jC gL:Nat}(S:sC bw gP base w0 G F aC n gx aF aW aZ K W hs cb s aV h kind kn jT j3 j7 jC gL)(k:Nat)(v:Value):sC bw gP base w0 G F aC n gx aF aW aZ K (W.setCell ⟨aW,k,none⟩ v) hs cb s aV h kind kn jT j3 j7 jC gL:=
 S.move (S.gz.vi S.rH k v) (aD.set aW k v (λ b=>b.2 rfl))
theorem sC.done{kind:Int}{kn:Option Addr}{jT j3:Nat}{j7:Option Addr}{jC gL:Nat}(S:sC bw gP base w0 G F aC n gx aF aW aZ K W hs cb s aV h kind kn jT j3 j7 jC gL):DY bw gP base w0 G F aC n gx aF aZ (.returned (.agg #[.int .i64 kind,.slice kn jT j3,.slice j7 jC gL,.int .i64 (aV:Int)])) W:=
 ⟨K,hs,cb,s,aV,h,kind,kn,jT,j3,j7,jC,gL,rfl,S.rG,S.gz,S.iP,S.jX,S.xe,λ p hp=>(S.xg p hp).mono λ b c=>⟨c.1.1,c.2⟩,S.xh,S.vj,S.rZ,S.GO.mono λ b c=>⟨c.1.1,c.2⟩⟩
theorem mR.ends(S:mR bw gP base w0 G F aC n gx jr aF aW aZ K W hs cb s aV h){kind:Int}{kn:Option Addr}{jT j3:Nat}{j7:Option Addr}{jC gL:Nat}(a:oG (λ b=>(K b/\b≠aW)/\¬bw b) W F aC n aZ aV kind kn jT j3 j7 jC gL):sC bw gP base w0 G F aC n gx aF aW aZ K W hs cb s aV h kind kn jT j3 j7 jC gL:=
 ⟨S.rG,S.gz,S.iP,S.jX,S.rH,S.tZ,S.xe,S.xg,S.xh,S.vj,S.rZ,a⟩
theorem mR.B5(S:mR bw gP base w0 G F aC n gx jr aF aW aZ K W hs cb s aV h){kind:Int}(a:oG (λ b=>(K b/\b≠aW)/\¬bw b) W F aC n aZ aV kind none 0 0 none 0 0):
  sC bw gP base w0 G F aC n gx aF aW aZ K (((((W.setCell ⟨aW,0,none⟩ (.int .i64 kind)).setCell ⟨aW,0,none⟩ (.int .i64 kind)).setCell ⟨aW,1,none⟩ (.slice none 0 0)).setCell ⟨aW,2,none⟩ (.slice none 0 0)).setCell ⟨aW,3,none⟩ (.int .i64 (aV:Int))) hs cb s aV h kind none 0 0 none 0 0/\
  aO (((((W.setCell ⟨aW,0,none⟩ (.int .i64 kind)).setCell ⟨aW,0,none⟩ (.int .i64 kind)).setCell ⟨aW,1,none⟩ (.slice none 0 0)).setCell ⟨aW,2,none⟩ (.slice none 0 0)).setCell ⟨aW,3,none⟩ (.int .i64 (aV:Int))) aW 30 [.int .i64 kind,mX,mX,.int .i64 (aV:Int)]:=
 ⟨((((((S.ends a).set 0 _).set 0 _).set 1 _).set 2 _).set 3 _),((((S.lQ.set 0 _).set 0 _).set 1 _).set 2 _).set 3 _⟩
theorem oG.no(hu:Unsat F):oG K W F aC n aZ aV 2 none 0 0 none 0 0:=
 .inr (.inl ⟨rfl,rfl,[],aQ.nil _ _ _ (by unfold maxLen;omega),λ b e=>(by cases e),List.nil_sublist _,λ M c _=>hu M c⟩)
theorem oG.o:oG K W F aC n aV aV 3 none 0 0 none 0 0:=.inr (.inr ⟨rfl,rfl,rfl,rfl⟩)
end
end
section
open Go.RowKit Go.Shelf
noncomputable def B6:Code:=(Tryz.f99.body.bind λ c=>qu c 1).getD .skip
noncomputable def GP:Code:=DL B6
noncomputable def Mg:Code:=nu (nu (BK (nu (nu GP))))
theorem Mh{w0:World}{aW:Nat}{w1:World}{aV iS h:Nat}{left:Int}{gA iT hM gO gM gN jN jO jP jQ jR jS:Value}
  (C:sB bw gP w0 F aC n gx jr aF jy ia jA aZ) (S:mR bw gP base w0 G F aC n gx jr aF aW aZ K w1 hs cb s aV h) (aa:aV<aZ) (ag:d<s.c.cl.length) (ab:∀x∈ax s.c.cl d,-x∈s.c.au) (ad:0<s.c.st.length) (a8: -70000<=left/\left<=4398046511104)
  (ae:∀(K:Nat->Prop)(hs:Nat->aq)(cb:Nat->Nat)(s':aj)(gA iT hM a' gq dn gT gr gE u16 dr dw dx gh dy dz dA dB dD dF dG dH cu cv cw u32 cz cA cB cC cD cE cF cG cH cI cK dI dJ gO gM gN bx bz bA bB bC bD bE bF bG bL bM bN bO bP bQ u64 bR bS bT bU bV bW bX bY bZ b5 b6 b7 b8 b9 cc cg ck cm cn cp cr dK dL dM dN dO dP dQ dR cL cM cN cO cQ cR cS cT cU cV cW cZ c7 c8 dc de dh dS dU dV dW dX dY dZ ec ee ef ei ej ek en eo ep er eu ew ey ez eA eB eC eD eE eF eG eH eL gi gj gl eM eN eO eP eR eS eT eU eV eW eX eY gm gn gp eZ e3 e4 e5 e6 e7 e8 e9 fc fe ff fh fk fm fo fq fu fA fB fC fD fE fF fG fH fI fJ fK fL fM fN fO fP fQ fR fS gu gv fT fU fV fW fZ ga gb ir iu iw iy iz iA iB iC iD iE iF iG iY iZ ja jb jc jd je jf jN jO jP jQ jR jS:Value)(W':World),mR bw gP base w0 G F aC n gx jr aF aW aZ K W' hs cb s' (aV+1) s'.c.ag->Q (.exit 1) {tmps:= #[.pointer (some ⟨G,0,none⟩),.slice jy ia jA,.int .i64 (aZ:Int),gA,iT,hM,.pointer (some ⟨aW,0,none⟩),.int .i64 (iS:Int),.int .i64 (left-1),.int .i64 2000,a',gq,dn,gT,gr,gE,u16,dr,dw,dx,gh,dy,dz,dA,dB,dD,dF,dG,dH,cu,cv,cw,u32,cz,cA,cB,cC,cD,cE,cF,cG,cH,cI,cK,dI,dJ,gO,gM,gN,bx,bz,bA,bB,bC,bD,bE,bF,bG,bL,bM,bN,bO,bP,bQ,u64,bR,bS,bT,bU,bV,bW,bX,bY,bZ,b5,b6,b7,b8,b9,cc,cg,ck,cm,cn,cp,cr,dK,dL,dM,dN,dO,dP,dQ,dR,cL,cM,cN,cO,cQ,cR,cS,cT,cU,cV,cW,cZ,c7,c8,dc,de,dh,dS,dU,dV,dW,dX,dY,dZ,ec,ee,ef,ei,ej,ek,en,eo,ep,er,eu,ew,ey,ez,eA,eB,eC,eD,eE,eF,eG,eH,eL,gi,gj,gl,eM,eN,eO,eP,eR,eS,eT,eU,eV,eW,eX,eY,gm,gn,gp,eZ,e3,e4,e5,e6,e7,e8,e9,fc,fe,ff,fh,fk,fm,fo,fq,fu,fA,fB,fC,fD,fE,fF,fG,fH,fI,fJ,fK,fL,fM,fN,fO,fP,fQ,fR,fS,gu,gv,fT,fU,fV,fW,fZ,ga,gb,ir,iu,iw,iy,iz,iA,iB,iC,iD,iE,iF,iG,iY,iZ,ja,jb,jc,jd,je,jf,jN,jO,jP,jQ,jR,jS],defers:=[]} W'):
  ZJ y_ Mg Q {tmps:= #[.pointer (some ⟨G,0,none⟩),.slice jy ia jA,.int .i64 (aZ:Int),gA,iT,hM,.pointer (some ⟨aW,0,none⟩),.int .i64 (iS:Int),.int .i64 left,.int .i64 2000,.pointer (some ⟨cb d,0,none⟩),gq,dn,gT,gr,gE,u16,dr,dw,dx,gh,dy,dz,dA,dB,dD,dF,dG,dH,cu,cv,cw,u32,cz,cA,cB,cC,cD,cE,cF,cG,cH,cI,cK,dI,dJ,gO,gM,gN,bx,bz,bA,bB,bC,bD,bE,bF,bG,bL,bM,bN,bO,bP,bQ,u64,bR,bS,bT,bU,bV,bW,bX,bY,bZ,b5,b6,b7,b8,b9,cc,cg,ck,cm,cn,cp,cr,dK,dL,dM,dN,dO,dP,dQ,dR,cL,cM,cN,cO,cQ,cR,cS,cT,cU,cV,cW,cZ,c7,c8,dc,de,dh,dS,dU,dV,dW,dX,dY,dZ,ec,ee,ef,ei,ej,ek,en,eo,ep,er,eu,ew,ey,ez,eA,eB,eC,eD,eE,eF,eG,eH,eL,gi,gj,gl,eM,eN,eO,eP,eR,eS,eT,eU,eV,eW,eX,eY,gm,gn,gp,eZ,e3,e4,e5,e6,e7,e8,e9,fc,fe,ff,fh,fk,fm,fo,fq,fu,fA,fB,fC,fD,fE,fF,fG,fH,fI,fJ,fK,fL,fM,fN,fO,fP,fQ,fR,fS,gu,gv,fT,fU,fV,fW,fZ,ga,gb,ir,iu,iw,iy,iz,iA,iB,iC,iD,iE,iF,iG,iY,iZ,ja,jb,jc,jd,je,jf,jN,jO,jP,jQ,jR,jS],defers:=[]} w1:=by
 have ba:=U ae;have w:=U C;have f:=U S;have y:=U (z_ aa (z_ ag (z_ ab ad)));have i:=U (S.nW C);have A:js=1099511627776:=rfl;have af:=S.lQ.cell 3;have bb:=S.lQ.free 3;simp only[mX,Zg,ZE] at af;have ws:n_.wrap ((aV:Int)+1)=(aV:Int)+1:=by rw[j_];have:=i.o.2.1;omega
 have wl:n_.wrap (left-1)=left-1:=by rw[j_];omega
 clear ae C S aa ag ab ad a8
 conv=>arg 2;whnf
 dsimp only
 go_upto_region 12 with fail
 clear af bb ws wl;have ah:=U (f.o.gz.vi f.o.rH 3 (.int .i64 ((aV:Int)+1)));have ai:bI (aO (w1.setCell ⟨aW,3,none⟩ (.int .i64 ((aV:Int)+1))) aW 30 [.int .i64 0,mX,mX,.int .i64 (aV+1:Nat)]):=U (f.o.lQ.set 3 _);have D:=U (aD.DZ f.o 3 (.int .i64 ((aV:Int)+1)));generalize w1.setCell ⟨aW,3,none⟩ (.int .i64 ((aV:Int)+1))=bc at ah ai D⊢;have ak:bI (vF F F s n h (js*(1+16*(aV:Int)))):=U ⟨f.o.jX.gK,f.o.jX.rg.jh,w.o.n10,y.o.2.2.2,by have:=i.o;omega,by have:=i.o;omega,by have:=i.o;rw[A];omega,by have:=i.o;rw[A];omega⟩;have al:=U (Lj ah.o ak.o f.o.jX.rg f.o.jX.aN y.o.2.1 y.o.2.2.1);have an:js*(1+16*(aV:Int))+16*js=js*(1+16*((aV+1:Nat):Int)):=by rw[A];omega
 have ao:0<=js*(1+16*((aV+1:Nat):Int))/\js<=js*(1+16*((aV+1:Nat):Int))/\js*(1+16*((aV+1:Nat):Int))<=4611686018427387904:=by have:=i.o;rw[A];omega
 have v:=U ao;clear ao A ak;obtain⟨B,E⟩:∃B,js*(1+16*((aV+1:Nat):Int))=B:=⟨_,rfl⟩
 rw[E] at v;have bd:=U (an.trans E);have bf:=U E;clear E an
 go_upto_region 13 with(go_at_call 146;refine al.o.mono ?_;rintro e b3 ⟨bu,cl,level,l,ar,rfl,J,L,M2,k0,M,N,H,av⟩;dsimp only)
 rw[bd.o] at M;have O:level<ar.c.st.length:=by rw[k0.c];exact J.mG
 have aw:jV ar.c:=by rw[k0.c];exact f.o.jX.gK.aL
 have ay:=L.qJ (g:=bu) (N.lt bu rfl).2 H.1 H.2.1 H.2.2;have X:=U (z_ J (z_ L (z_ M2 (z_ k0 (z_ N (z_ av O))))));have az:=U (FN ay M aw (by have:=w.o.n10;omega) level O (by rw[k0.c];have:=i.o;omega) (by rw[k0.c];exact mw.GM f.o.jX y.o.2.2.2));clear J L M2 k0 M N H av O aw ay al
 go_upto_region 14 with(go_at_call 147;refine az.o.mono ?_;rintro e P ⟨rfl,b4,s1,u,R,T,I⟩;dsimp only)
 have t:s1.c=mJ s.c level:=by rw[u.c,X.o.2.2.2.1.c]
 have aB:jV s1.c:=by rw[t];exact f.o.jX.gK.aL.back X.o.1.mG
 have aE:P.ownsRow base 3 1 (.slice (some ⟨bu,0,none⟩) l.length cl) l.length (gX l):=mP X.o.2.2.2.2.1 (λ b q=>I.keep b (.inr (by injection q with q;exact q.symm)));have aG:vh s1:=by
  have c0:=f.o.DM;refine⟨by rw[t];exact c0.qK.back level,λ k d ag=>?_,λ d ag=>?_⟩
  ·rw[t] at ag⊢;exact c0.ww k d ag
  ·rw[t];rw[u.aI,X.o.2.2.2.1.aI] at ag;exact c0.wl d ag
 have aH:oV gP P s1:=(f.o.xe.mono λ b q=>q.1).kept ((D.o.mono λ b q=>⟨f.o.rG b q,λ e=>f.o.tZ (e▸q)⟩).trans ((X.o.2.2.1.mono f.o.rG).trans (I.mono λ b q=>.inl (f.o.rG b q)))) (u.jl.trans X.o.2.2.2.1.jl) (u.aA.trans X.o.2.2.2.1.aA);have aJ:l.length<=22:=by have:=X.o.1.ok.len;have:=i.o;rw[f.o.jX.rg.jh] at this;have:=w.o.n10;have bg:=X.o.1.ok.len;rw[f.o.jX.rg.jh] at bg;omega
 have aK:1<=l.length:=ZX.2 X.o.1.ok.ne;have aM:=U (Md (K:=K) (T.Br λ b q=>.inl q) aG (aH.mono f.o.rG) aB R.nV (by rw[t];have:=i.o;show s.c.n<=_;omega) (by rw[t];exact f.o.jX.gK.wt.qV) (λ k=>by rw[t];have h1:=f.o.jX.gK.wt.nW k;have:=i.o;show(ax s.c.wt k).length<=_;omega) (by rw[t];have:=i.o;show(s.c.st.take level).length<=_;rw[List.length_take];omega) (by rw[u.aI,X.o.2.2.2.1.aI];have:=i.o;omega) (by rw[u.aA,X.o.2.2.2.1.aA];have:=i.o;omega)
  (bu:=bu) (m:=l.length) (c:=cl) (l:=l) rfl aK (by omega) aE (λ r e=>T.s.row r bu e (.inr rfl)) X.o.2.2.2.2.2.1 (λ z V=>by rw[t];exact X.o.1.ok.lt z V) (λ z V=>by
   rw[t];obtain⟨j,b',e,h1⟩:=f.o.jX.gK.aL.at (X.o.1.Bf z V);have ca:=wJ s.c.st j;have:=i.o;show aR s.c z<=_;omega))
 have Y:=U (z_ u (z_ R (z_ I (z_ t aJ))));clear u R T I t aB aE aG aH aJ aK az
 go_upto_region 15 with(go_at_call 148;refine aM.o.mono ?_;rintro e cd ⟨rfl,bh,bj,bk,aR,p,aP,aQ,aS,aT,bl,aU,aX⟩;dsimp only)
 have bn:(22:Int)<=js:=by unfold js;omega
 have W:0<=aR/\aR<=js:=⟨aT,by have:=Y.o.2.2.2.2;omega⟩
 have aY:=Y.o.2.1.xd (l:=l) v.o.2.1 aR W (s1.aA++[p]);have bo:=U (Kj aQ aY (by have:=w.o.n10;omega) (by show(s1.aI++[_]).length<=_;rw[Y.o.1.aI,X.o.2.2.2.1.aI,w_,h_];have:=i.o;omega) v.o.1 v.o.2.2);have Z:=U (z_ aP (z_ aS (z_ W (z_ aU aX))));clear aP aQ aS aT bl aU aX bn W aY aM
 go_wp2_with (go_at_call 149;refine bo.o.mono ?_;rintro e bp ⟨rfl,s3,k3,bq,br,a6⟩;dsimp only)
 have bs:mu n js (js*(1+16*((aV+1:Nat):Int))) s3:=by rw[bf.o];exact bq
 obtain⟨a7,bt,bH,bJ⟩:=f.o.jX.conflict X.o.1 X.o.2.2.2.1 Y.o.1 Y.o.2.1 ⟨v.o.1,v.o.2.1⟩ aR Z.o.2.2.1 (s1.aA++[p]) k3 bs;have cf:s1.c.n=n:=by rw[Y.o.2.2.2.1];exact f.o.jX.rg.jh
 have bK:=Z.o.2.2.2.1.to (n:=n) (F:=F) (λ x b0=>by have h1:=X.o.1.ok.lt x b0;rwa[f.o.jX.rg.jh] at h1) X.o.1.imp;have b1:w1.heap.size<=P.heap.size:=Zv D.o.size (Zv X.o.2.2.1.size Y.o.2.2.1.size);have b2:aD K bc bp:=X.o.2.2.1.trans ((Y.o.2.2.1.mono λ b q=>.inl q).trans (Z.o.2.1.trans (a6.mono Z.o.1)));rw[<-bt] at a7;apply ba.o bh bj bk s3;exact f.o.more w.o y.o.1 Z.o.1 br D.o b2 ai.o a7 (by rw[bH,Y.o.1.aA,X.o.2.2.2.1.aA]) bJ (by rw[k3.c];show(s1.c.cl++[l]).length=_;rw[w_,Y.o.2.2.2.1];rfl) (bK.iP a6) (λ b e=>Zv b1 (Z.o.2.2.2.2 b e))
end
end Go.Proofs.YtogdlkfacflmaaaGreat
