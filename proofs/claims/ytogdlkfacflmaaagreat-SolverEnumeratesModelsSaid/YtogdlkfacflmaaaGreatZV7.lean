/- Parts of the walk of the solver and its core; no condition. -/
import Derived.Test.YtogdlkfacflmaaaGreatZV3
import Derived.Test.YtogdlkfacflmaaaGreatZV2
import Derived.Test.YtogdlkfacflmaaaGreatZV4
import Derived.Deep.LoopGhost
import Derived.Test.YtogdlkfacflmaaaGreatZV6
import Derived.Laws.Rows
import Derived.Test.YtogdlkfacflmaaaGreatZV1
namespace Go.Proofs.YtogdlkfacflmaaaGreat
set_option linter.unusedVariables false
set_option linter.unusedSimpArgs false
set_option maxRecDepth 1000000
set_option maxHeartbeats 8000000
open _root_.And renaming intro→z_
open _root_.Go.Proofs.Tryz renaming prog→y_
open _root_.List renaming getElem?_cons_zero→x_,getElem?_cons_succ→w_,take_succ_cons→u_,drop_succ_cons→t_,length_append→r_,take_zero→n_,drop_zero→m_,length_filter_le→g_,length_pos_of_mem→a_,length_singleton→Zx,range→Zw,map_map→Zu
open _root_.Go.World renaming cell?_of_block→v_,putObj_heap_other→b_
open _root_.Go.Handed renaming intro→s_
open _root_.Nat renaming le_refl→q_,lt_of_lt_of_le→l_,le_trans→Zv
open _root_.Go.RowKit.Below renaming refl→p_
open _root_.Go renaming wp_region_still_tail→o_,wpStill_nil→k_,wp_loop_ghost_k→h_
open _root_.Go.IntKind renaming wrap_i64→j_,i64→e_
open _root_.Go.Value renaming bool→i_,int→f_
open _root_.Option.some renaming injEq→d_
open _root_.Go.Code renaming wp→c_
open _root_.Go.Value.slice renaming injEq→Zt
open _root_.Go.KeepsOthers renaming drew→Zr
variable{F:List (List Int)}{w W w0 A B:World}{G g base n gy jk gX jo aT aX aQ iS kW h m c:Nat}{p left next:Int}{a:Act}{bq gN K:Nat->Prop}{ax oO act:List Int}{aG s:an}{jm:Option Addr}{hs:Nat->aq}{cb:Nat->Nat}{gx gz gQ gG gp dm gC u16 dn dr dw gd dx dy dz dA dB dD dF dG cr ct cu u32 cv cw cz cA cB cC cD cE cF cG cH dH dI gM gK gL bu bw bx bz bA bB bC bD bE bK bL bM bN bO bP u64 bQ bR bS bT bU bV bW bX bY bZ b5 b6 b7 b8 b9 cc cg ck cm cn cp dJ dK dL dM dN dO dP dQ cI cK cL cM cN cO cQ cR cS cT cU cV cW cZ c7 c8 dc dR dS dU dV dW dX dY dZ ec ee ef ei ej ek en eo ep er eu ew ey ez eA eB eC eD eE eF eG eH gh gi gj eL eM eN eO eP eR eS eT eU eV eW eX gl gm gn eY eZ e3 e4 e5 e6 e7 e8 e9 fc fe ff fh fk fm fo fq fu fA fB fC fD fE fF fG fH fI fJ fK fL fM fN fO fP fQ fR gu gv fS fT fU fV fW fZ ga ir iu iw iy iz iA iB iC iD iE iF iG iX iY iZ ja jb jc jd je jL jM jN jO jP jQ gr:Value}{Q:Exit->Act->World->Prop}{row:Option Nat}
section
open Go.RowKit Go.Shelf
attribute [local go_sem] Oper.semAt_some
theorem D9(x:Int)(b:0<=x)(h1:x<=1000000):(Lit.int .i64 x).wf=true:=by
 simp[Lit.wf,IntKind.min,IntKind.max,IntKind.bits,IntKind.signed];omega
structure sX(F:List (List Int))(w W:World)(G aY:Nat)(c0:Core)(p:Int)(au j m:Nat)(S:List Int)(A:Option Addr)(n c:Nat)(out:List Int)(ds:List Nat):Prop where
 s:p5 w W G w.heap.size aY (w.heap.size+1+1) m S A n c out ds
 ci:qL F c0 p j (hasB S) out
 AA:j<=au
 AB:m+200000*j<=1+200000*au
 nl:n+j<=au+1
 xw:p∈out
inductive xx(F:List (List Int))(w:World)(G aY:Nat)(c0:Core)(p:Int)(au:Nat):Nat->Act->World->Prop
 |mk {j m n c:Nat} {A:Option Addr} {S out:List Int} {ds:List Nat} {gx u8 kP gG gp dm gP gr gC u16 dn dr dw gd dx dy dz dA dB dD dF dG cr ct cu u32 cv cw cz cA cB cC cD cE cF cG cH dH dI gM gK gL bu bw bx bz bA bB bC bD bE bK bL bM bN bO bP u64 bQ bR bS bT bU bV bW bX bY bZ b5 b6 b7 b8 b9 cc cg ck cm cn cp:Value} {W:World} (h:sX F w W G aY c0 p au j m S A n c out ds):xx F w G aY c0 p au j {tmps:= #[.pointer (some ⟨G,0,none⟩),.int .i64 p,.pointer (some ⟨w.heap.size,0,none⟩),gx,.slice none 0 0,.slice A n c,.pointer (some ⟨aY,0,none⟩),.int .i64 ((j:Int)-1),u8,kP,gG,gp,dm,gP,gr,gC,u16,dn,dr,dw,gd,dx,dy,dz,dA,dB,dD,dF,dG,cr,ct,cu,u32,cv,cw,cz,cA,cB,cC,cD,cE,cF,cG,cH,dH,dI,gM,gK,gL,bu,bw,bx,bz,bA,bB,bC,bD,bE,bK,bL,bM,bN,bO,bP,u64,bQ,bR,bS,bT,bU,bV,bW,bX,bY,bZ,b5,b6,b7,b8,b9,cc,cg,ck,cm,cn,cp],defers:=ds.map oS} W
theorem xx.elim{aY:Nat}{c0:Core}{au:Nat}(b:xx F w G aY c0 p au g a W){P:Prop}(k:∀{j m n c:Nat}{A:Option Addr}{S out:List Int}{ds:List Nat}{d u8 e f i l o q r u16 s t u v y z B C D E H I J K L u32 M N O Q R T U V X Y Z aa ab ad ae af ag ah ai aj ak al an ao aq ar av aw ax ay az u64 aA aB aC aD aE aF aG aH aI aJ aK aL aM aN aO aP aQ aR aS aT aU:Value},a={tmps:= #[.pointer (some ⟨G,0,none⟩),.int .i64 p,.pointer (some ⟨w.heap.size,0,none⟩),d,.slice none 0 0,.slice A n c,.pointer (some ⟨aY,0,none⟩),.int .i64 ((j:Int)-1),u8,e,f,i,l,o,q,r,u16,s,t,u,v,y,z,B,C,D,E,H,I,J,K,L,u32,M,N,O,Q,R,T,U,V,X,Y,Z,aa,ab,ad,ae,af,ag,ah,ai,aj,ak,al,an,ao,aq,ar,av,aw,ax,ay,az,u64,aA,aB,aC,aD,aE,aF,aG,aH,aI,aJ,aK,aL,aM,aN,aO,aP,aQ,aR,aS,aT,aU],defers:=ds.map oS}->g=j->sX F w W G aY c0 p au j m S A n c out ds->P):P:=by
 cases b with
 |mk h=>exact k rfl rfl h
section
variable {F Fd:List (List Int)}{w W W':World}{G aY:Nat}{c0:Core}{p:Int}{au j m:Nat}{S:List Int}{A:Option Addr}{n c:Nat}{out:List Int}{ds:List Nat}
theorem sX.grow(b:sX F w W G aY c0 p au j m S A n c out ds)(d:Below W.heap.size W W'):sX F w W' G aY c0 p au j m S A n c out ds:=⟨b.s.grow d,b.ci,b.AA,b.AB,b.nl,b.xw⟩
theorem sX.skip(b:sX F w W G aY c0 p au (j+1) m S A n c out ds)(d:Below W.heap.size W W')(h:hasB S (aI (ai c0.av j))=false):sX F w W' G aY c0 p au j m S A n c out ds:=
 ⟨b.s.grow d,b.ci.skip h,by have:=b.AA;omega,by have:=b.AB;omega,by have:=b.nl;omega,b.xw⟩
theorem sX.dec(b:sX F w W G aY c0 p au (j+1) m S A n c out ds){A':Option Addr}{c':Nat}(hs:p5 w W' G w.heap.size aY (w.heap.size+1+1) m S A' (n+1) c' (out++[ai c0.av j]) ds)(h:mw c0.j9 (aI (ai c0.av j))=none):sX F w W' G aY c0 p au j m S A' (n+1) c' (out++[ai c0.av j]) ds:=
 ⟨hs,b.ci.decision h,by have:=b.AA;omega,by have:=b.AB;omega,by have:=b.nl;omega,by simp[b.xw]⟩
theorem sX.Nd(T:jU c0)(D:rQ F Fd c0)(b:sX F w W G aY c0 p au (j+1) m S A n c out ds){mm:Nat}{oW:List Int}{zg:List Nat}(hs:p5 w W' G w.heap.size aY (w.heap.size+1+1) mm oW A n c out zg){d:Nat}(hw:mw c0.j9 (aI (ai c0.av j))=some d)(hm:∀v,hasB S v=true->hasB oW v=true)
  (e:∀y∈aA c0.cl d,y≠ai c0.av j->0<aS c0 y->hasB oW (aI y)=true) (f:mm<=m+200000):sX F w W' G aY c0 p au j mm oW A n c out zg:=
 ⟨hs,b.ci.reason T D hw hm e,by have:=b.AA;omega,by have:=b.AB;omega,by have:=b.nl;omega,b.xw⟩
end
def Nf(F:List (List Int))(w:World)(c0:Core)(p:Int)(e:Ending)(w':World):Prop:=
 ∃A c out,e=.returned (.slice A out.length c)/\aN w' A out.length c out/\Below w.heap.size w w'/\(∀x∈out,x=p\/(x∈c0.av/\mw c0.j9 (aI x)=none))/\p∈out/\(∀M,tO M F->¬∀x∈p::out,M x=true)/\∀b,A.map (·.block)=some b->w.heap.size<=b
theorem Ng{K:Nat->Prop}{base:Nat}{w:World}{G:Nat}{hs:Nat->aq}{cb:Nat->Nat}{s:an}{F Fd:List (List Int)}(h:aP K base w G hs cb s)(T:jU s.c)(D:rQ F Fd s.c)(dn:s.c.n<=60000)(dp:s.c.st.length<=1000000){p:Int}(hp:gF s.c.n p)(b4: -p∈s.c.av):
  Calls y_ 153 #[.pointer (some ⟨G,0,none⟩),.int .i64 p] w (Nf F w s.c p):=by
 have H:=U h;have I:=U T;have bx:=U D;have cH:=U hp;have a7:=U b4;obtain⟨v,Q⟩:∃v,aI p=v:=⟨_,rfl⟩
 have dq:v<=60000:=by have:=hp.2;omega
 have b5:bF (∀w:World,Calls y_ 97 #[.int .i64 p] w λ e w'=>e=.returned (.int .i64 (v:Int))/\w=w'):=U (λ w=>by have:=sM p w (by unfold aI at Q;omega) (by unfold aI at Q;omega);rw[Q] at this;exact this);obtain⟨g2,b6,bz,f2⟩:=h.e.lN 3 2 rfl h.e.lD (by have:=T.pN;omega);obtain⟨y,R⟩:∃y,gO s.c.lvl v=y:=⟨_,rfl⟩
 have c2:=h.e.v7 b6 (k:=v) (by have:=T.pN;have:=hp.2;omega);rw[R] at c2;have dr:(v:Int)<(s.c.lvl.length:Int):=by have:=T.pN;have:=hp.2;omega
 have af:=U (z_ Q R);have cI:=(h.e.rows.lt b6).2;have aG:=h.e.box.lt;have dt:∀(fn:Fn)(first cap:Array Value)(w:World),(Instr.makeFunc fn first cap).run y_ w=.ok (.func fn first cap) w:=λ _ _ _ _=>rfl
 have du:= @run_makeMap y_;clear h T D hp b4 Q R f2;refine Bk Tryz.func153 rfl ?_;simp only[Tryz.ntmps153,List.size_toArray,List.length_cons,List.length_nil,Nat.reduceAdd,Nat.reduceSub,Array.replicate_succ,Array.replicate_zero,List.push_toArray,List.append_toArray,List.nil_append,List.cons_append]
 go_wp2_with fail
 obtain⟨u,O⟩:∃u,(w.alloc (.cells #[.pointer (some ⟨G,0,none⟩)] 115)).alloc (.cells #[.int .i64 p] 3)=u:=⟨_,rfl⟩
 rw[O];have a8:Below w.heap.size w u:=by rw[<-O];exact((p_ _ w).alloc (q_ _) _).alloc (by simp) _
 have bA:aM u w.heap.size 115 [.pointer (some ⟨G,0,none⟩)]:=by rw[<-O];exact(aM.new w 115 [.pointer (some ⟨G,0,none⟩)]).below (bg _ _)
 have b7:u.ownsRow w.heap.size 3 1 (.slice (some ⟨w.heap.size+1,0,none⟩) 1 1) 1 (gT [p]):=by rw[<-O];have:=DE (w.alloc (.cells #[.pointer (some ⟨G,0,none⟩)] 115)) w.heap.size [p] 1 rfl (by simp) (by omega);simpa[gT] using this
 have a':u.heap.size=w.heap.size+1+1:=by rw[<-O];simp
 clear O;have bn:=bA.cell 0;have bz:=(v_ (a:=⟨G,3,none⟩) (a8.block G aG)).trans bz;have c2:=(v_ (a:=⟨g2,v,none⟩) (a8.block g2 cI)).trans c2;refine o_ 8 (by kernel_rfl) (by kernel_rfl) ?_;simp only[u_,n_,t_,m_]
 iterate 5 still_step
 still_call ((b5.o _).mono (λ e w' h=>⟨h.1,h.2.symm⟩))
 iterate 2 still_step
 refine k_ ?_;change wpList _ _ _ _ _ u.drew;have aH:=U a8.drew;have b8:=U (show aM u.drew w.heap.size 115 [.pointer (some ⟨G,0,none⟩)] from bA);have ba:=U (show u.drew.ownsRow w.heap.size 3 1 (.slice (some ⟨w.heap.size+1,0,none⟩) 1 1) 1 (gT [p]) from b7);have a':u.drew.heap.size=w.heap.size+1+1:=a';clear bn bz c2 a8 bA b7;generalize u.drew=u at*
 by_cases aJ:y=0
 ·have cJ:((y:Int)==0)=true:=by simp[aJ]
  have bb:=U aJ;clear aJ
  go_wp2_with fail
  refine Bl [] rfl List.nodup_nil (λ D h=>by cases h) (λ W' az=>⟨_,results_tmp rfl _ _ _,?_⟩);refine⟨some ⟨w.heap.size+1,0,none⟩,1,[p],rfl,aN.lq (lU ba.o (az.below (p_ _ _) (λ D h=>by cases h))) (by simp),aH.o.trans ((az.below (p_ _ _) (λ D h=>by cases h)).mono aH.o.size),λ x aa=>.inl (by simpa using aa),by simp,λ M b9 cK=>?_,λ b e=>(by injection e with e;have e:w.heap.size+1=b:=e;omega)⟩;obtain⟨i,ah,bc,bd⟩:=I.o.at a7.o;have h1:=yG I.o bx.o b9 i ah (by rw[bd];show gO s.c.lvl (aI p)=0;rw[af.o.1,af.o.2,bb.o]);rw[bc,b9.1 p cH.o.oH,cK p (by simp)] at h1
  cases h1
 ·have cJ:((y:Int)==0)=false:=by simp;omega
  have bb:=U aJ;clear aJ;obtain⟨aj,b',bB,bC⟩:=(lT.made u).put (x:=(v:Int)) (by unfold maxLen;omega) (D9 _ (by omega) (by omega));rw[a'] at b' bB bC;have ca:=U bB;have bf:=U bC;clear bB bC
  go_upto_region 5 with(go_at_call 97;refine(b5.o _).mono ?_;rintro e w1 ⟨rfl,rfl⟩;dsimp only)
  have g2:u.grownBy (u.alloc (.map #[] 0)) none:=World.grownBy_alloc u _ none;have bD:p5 w (aj.alloc (.cells #[.map (some (w.heap.size+1+1))] 114)) G w.heap.size aj.heap.size (w.heap.size+1+1) 1 [(v:Int)] (some ⟨w.heap.size+1,0,none⟩) 1 1 [p] []:=by
   have cL:(u.alloc (.map #[] 0)).heap.size=w.heap.size+1+1+1:=by simp[a']
   have cc:Below w.heap.size w (u.alloc (.map #[] 0)):=aH.o.alloc aH.o.size _;have dv:=bf.o.size;have bE:=cc.grown bf.o cc.size (λ g e=>by cases e;omega);have q:∀b,b<w.heap.size+1+1->aj.heap[b]? =u.heap[b]? :=λ b P=>(bf.o.block b (by omega) (by simp;omega)).trans (g2.block b (by omega) (by simp))
   refine⟨bE.alloc bE.size _,?_,aM.new aj 114 [.map (some (w.heap.size+1+1))],ca.o.alloc _,?_,⟨List.nodup_nil,λ D h=>by cases h⟩,by omega,q_ _,bE.size⟩
   ·exact(show aM aj w.heap.size 115 _ from(q _ (by omega)).trans b8.o).below (bg _ _)
   ·exact lU (mK ba.o (λ b e=>q b (by have:=(tc ba.o e).2;omega))) (bg _ _)
  obtain⟨bh,bG⟩:∃bh,aj.alloc (.cells #[.map (some (w.heap.size+1+1))] 114)=bh:=⟨_,rfl⟩
  obtain⟨aY,bH⟩:∃aY,aj.heap.size=aY:=⟨_,rfl⟩
  rw[bG,bH] at bD;rw[bG,bH];have bI:=U bD;clear bD g2 bf ca aH b8 ba b' bG bH;obtain⟨au,aK⟩:∃au,s.c.av.length=au:=⟨_,rfl⟩
  have dw:au<=60000:=by have:=I.o.len;omega
  have dx:0<au:=by have:=a_ a7.o;omega
  obtain⟨dy,j8,c4,cM⟩:∃A n c,hs 4=⟨A,n,c⟩:=⟨_,_,_,rfl⟩
  have dz:j8=au:=by have:=H.o.e.j8;rw[cM] at this;exact this.trans aK
  obtain⟨g4,bJ,bK,f4⟩:=H.o.e.lN 5 4 rfl H.o.e.j8 (by omega);have bL:bh.cell? ⟨G,5,none⟩=some (.slice (some ⟨g4,0,none⟩) au (hs 4).c):=by rw[<-aK];exact(v_ (a:=⟨G,5,none⟩) (bI.o.below.block G aG)).trans bK
  have bn:bh.cell? ⟨w.heap.size,0,none⟩=some (.pointer (some ⟨G,0,none⟩)):=bI.o.qh.cell 0;have cd:e_.wrap ((au:Int)-1)=(au:Int)-1:=by rw[j_];omega
  go_wp2_with fail
  have cf:qL F s.c p au (hasB [(v:Int)]) [p]:=by
   rw[<-aK];exact qL.start I.o a7.o (by show 1<=gO s.c.lvl (aI p);rw[af.o.1,af.o.2];have:=bb.o;omega) (by rw[af.o.1];simp[hasB])
  have bM:0<s.c.st.length:=by
   obtain⟨i,ah,bc,bd⟩:=I.o.at a7.o;have h1:=wN s.c.st i;have ak:aS s.c p=y:=by show gO s.c.lvl (aI p)=y;rw[af.o.1,af.o.2]
   have:=bb.o;omega
  obtain⟨bj,cg⟩:∃bj,s.c.st.length=bj:=⟨_,rfl⟩
  obtain⟨g5,bN,aL,f5⟩:=H.o.e.lN 6 5 rfl H.o.e.jZ (by omega);obtain⟨al,bO⟩:∃al,gO s.c.st 0=al:=⟨_,rfl⟩
  have c5:=H.o.e.FU bN (k:=0) bM;rw[bO] at c5;rw[cg] at aL bM;obtain⟨g3,bP,aO,f3⟩:=H.o.e.lN 4 3 rfl H.o.e.nD (by have:=I.o.pe;omega);have Y:=U (z_ aK (z_ bO (z_ bM (z_ bJ (z_ aL (z_ c5 (z_ bP (z_ aO bK))))))));have cN:=(H.o.e.rows.lt bN).2;have dA:=(H.o.e.rows.lt bJ).2;have dB:=(H.o.e.rows.lt bP).2;have cO:=U cf;have dC:(0:Int)<(bj:Int):=by omega
  clear bn cd f4 f5 f3 c5 aL bN bL bK bJ bP aO aK bO cf;refine h_ (xx F w G aY s.c p au) au ?start ?round
  case start=>exact xx.mk (c:=1) ⟨bI.o,cO.o,q_ _,q_ _,by omega,by simp⟩
  case round=>
   intro g a W ch dD K bQ dE;refine ch.elim ?_;intro j m n c A S out ds dF u8 dG dH dI dJ dK dL dM u16 dN dO dP dQ dR dS dT dU dV dW dX dY dZ d' ea u32 eb ec ed ee ef eg eh ei ej ek en eo ep er et eu ev ew ey ez eA eB eC eD eE eF eG eH eI eJ eK u64 eL eM eN eO eP eQ eR eS eT eU eV eW eX eY eZ e0 e1 e2 e3 e4 e5 bl aQ aR;clear ch;subst bl;replace aQ:=aQ.symm;subst aQ;have B:=U aR;have E:=U (H.o.below aR.s.below).1;have bn:W.cell? ⟨w.heap.size,0,none⟩=some (.pointer (some ⟨G,0,none⟩)):=aR.s.qh.cell 0;have qv:=aR.s.below.block;have aL:W.cell? ⟨G,6,none⟩=some (.slice (some ⟨g5,0,none⟩) bj (hs 5).c):=(v_ (a:=⟨G,6,none⟩) (qv G aG)).trans Y.o.2.2.2.2.1;have c5:W.cell? ⟨g5,0,none⟩=some (.int .i64 (al:Int)):=(v_ (a:=⟨g5,0,none⟩) (qv g5 cN)).trans Y.o.2.2.2.2.2.1;clear aR qv
   by_cases cP:al<j
   ·obtain⟨j,rfl⟩:∃k,j=k+1:=⟨j-1,by omega⟩
    have cQ:((j+1:Nat):Int)-1=(j:Int):=by omega
    rw[cQ];have cR:(al:Int)<=(j:Int):=by omega
    obtain⟨x,aa⟩:∃x,ai s.c.av j=x:=⟨_,rfl⟩
    have bo:j<au:=by have:=B.o.AA;omega
    have bL:W.cell? ⟨G,5,none⟩=some (.slice (some ⟨g4,0,none⟩) au (hs 4).c):=by rw[<-Y.o.1];exact(v_ (a:=⟨G,5,none⟩) (B.o.s.below.block G aG)).trans Y.o.2.2.2.2.2.2.2.2
    have c4:=E.o.e.z8 Y.o.2.2.2.1 (k:=j) (by rw[Y.o.1];exact bo);rw[aa] at c4;have e6:(j:Int)<(au:Int):=by omega
    have bR:gF s.c.n x:=by rw[<-aa];exact I.o.lit _ (lY (by rw[Y.o.1];exact bo))
    obtain⟨z,aT⟩:∃z,aI x=z:=⟨_,rfl⟩
    have cj:z<=s.c.n:=by have:=bR.2;omega
    have bp:bF (∀w:World,Calls y_ 97 #[.int .i64 x] w λ e w'=>e=.returned (.int .i64 (z:Int))/\w=w'):=U (λ w=>by have:=sM x w (by unfold aI at aT;omega) (by unfold aI at aT;omega);rw[aT] at this;exact this);have cS:W.cell? ⟨aY,0,none⟩=some (.map (some (w.heap.size+1+1))):=B.o.s.qv.cell 0;have bS:=B.o.s.set.drew.look (D9 (z:Int) (by omega) (by omega));have cd:e_.wrap ((j:Int)-1)=(j:Int)-1:=by rw[j_];omega
    have X:=U (z_ aa (z_ bo (z_ bR (z_ aT cj))));clear aa bo bR aT cj
    cases P:hasB S (z:Int) with
    |false=>
     rw[P] at bS;have ao:=U (B.o.skip (W':=W.drew) ((p_ _ W).drew) (by rw[X.o.1,X.o.2.2.2.1];exact P));clear P
     go_upto_region 9 with fail
     refine o_ 4 (by kernel_rfl) (by kernel_rfl) ?_;simp only[u_,n_,t_,m_]
     iterate 2 still_step
     still_call ((bp.o _).mono (λ e w' h=>⟨h.1,h.2.symm⟩))
     iterate 1 still_step
     refine k_ ?_;change wpList _ _ _ _ _ W.drew
     go_wp2_with fail
     exact s_ j (by omega) (bQ _ _ _ (xx.mk ao.o))
    |true=>
     rw[P] at bS;have e7:=U P;clear P
     go_upto_region 9 with fail
     refine o_ 4 (by kernel_rfl) (by kernel_rfl) ?_;simp only[u_,n_,t_,m_]
     iterate 2 still_step
     still_call ((bp.o _).mono (λ e w' h=>⟨h.1,h.2.symm⟩))
     iterate 1 still_step
     refine k_ ?_;change wpList _ _ _ _ _ W.drew
     go_upto_region 10 with fail
     have bT:=U (B.o.grow ((p_ _ W).drew));have ck:W.drew.cell? ⟨w.heap.size,0,none⟩=some (.pointer (some ⟨G,0,none⟩)):=bn;have aO:W.drew.cell? ⟨G,4,none⟩=some (.slice (some ⟨g3,0,none⟩) s.c.j9.length (hs 3).c):=(v_ (a:=⟨G,4,none⟩) (bT.o.s.below.block G aG)).trans Y.o.2.2.2.2.2.2.2.1;have c3:=E.o.drew.e.yO Y.o.2.2.2.2.2.2.1 (k:=z) (by have:=I.o.pe;have:=X.o;omega);have e8:(z:Int)<(s.c.j9.length:Int):=by have:=I.o.pe;have:=X.o;omega
     clear bn bL c4 aL c5 bS cS E B;generalize W.drew=V at*
     cases hw:mw s.c.j9 z with
     |none=>
      rw[hw] at c3;change V.cell? ⟨g3,z,none⟩=some (.pointer none) at c3;have bq:=U hw;clear hw;refine o_ 8 (by kernel_rfl) (by kernel_rfl) ?_;simp only[u_,n_,t_,m_]
      iterate 5 still_step
      still_call ((bp.o _).mono (λ e w' h=>⟨h.1,h.2.symm⟩))
      iterate 2 still_step
      refine k_ ?_;change wpList _ _ _ _ _ V.drew;clear aO c3 ck;have aB:=U (bT.o.grow ((p_ _ V).drew));generalize V.drew=t at*;have bU:=U (aB.o.s.grow (bg t (lW [x])));have cT:=U (aN.lit t [x] 1 t.heap.size rfl rfl (by omega))
      go_wp2_with (at_builtin;refine vp rfl (.tmp 65) (.tmp 67) rfl w.heap.size (.slice A n c) n out rfl bU.o.row (some ⟨t.heap.size,0,none⟩) 1 1 [x] rfl cT.o (by have:=aB.o.nl;omega) bU.o.below.size ?_;intro v9 gb bl;obtain⟨A',c',rfl,aU⟩:=bU.o.app bl;have aC:=U aU;clear bl aU)
      have ao:=aB.o.dec (W':=gb) (A':=A') (c':=c') (by rw[X.o.1];exact aC.o) (by rw[X.o.1,X.o.2.2.2.1];exact bq.o);exact s_ j (by omega) (bQ _ _ _ (xx.mk ao))
     |some d=>
      rw[hw] at c3;change V.cell? ⟨g3,z,none⟩=some (.pointer (some ⟨cb d,0,none⟩)) at c3;have bq:=U hw;clear hw;refine o_ 8 (by kernel_rfl) (by kernel_rfl) ?_;simp only[u_,n_,t_,m_]
      iterate 5 still_step
      still_call ((bp.o _).mono (λ e w' h=>⟨h.1,h.2.symm⟩))
      iterate 2 still_step
      refine k_ ?_;change wpList _ _ _ _ _ V.drew;clear aO c3 ck;have aB:=U (bT.o.grow ((p_ _ V).drew));generalize V.drew=t at*
      go_upto_region 13 with fail
      go_wp2_with (go_at_call 183;refine(DC _ _ _).mono ?_;rintro e w1 ⟨rfl,rfl⟩;dsimp only)
      have ab:=U (aB.o.grow ((bg t (.cells #[.pointer (some ⟨cb d,0,none⟩)] 164)).trans ((bg _ (.cells #[.int .i64 x] 3)).mono (by simp))));have cU:((t.alloc (.cells #[.pointer (some ⟨cb d,0,none⟩)] 164)).alloc (.cells #[.int .i64 x] 3)).cell? ⟨t.heap.size,0,none⟩=some (.pointer (some ⟨cb d,0,none⟩)):=by go_simp
      have k2:((t.alloc (.cells #[.pointer (some ⟨cb d,0,none⟩)] 164)).alloc (.cells #[.int .i64 x] 3)).cell? ⟨t.heap.size+1,0,none⟩=some (.int .i64 x):=by go_simp
      have cL:((t.alloc (.cells #[.pointer (some ⟨cb d,0,none⟩)] 164)).alloc (.cells #[.int .i64 x] 3)).heap.size=t.heap.size+1+1:=by simp
      generalize (t.alloc (.cells #[.pointer (some ⟨cb d,0,none⟩)] 164)).alloc (.cells #[.int .i64 x] 3)=N at*;have cm:=I.o.qc j (by rw[Y.o.1];exact X.o.2.1);rw[X.o.1,X.o.2.2.2.1,bq.o] at cm;obtain⟨ag,bV,-⟩:=cm;have bW:=U (H.o.below ab.o.s.below).1;obtain⟨bk,m1,cV,C⟩:=bW.o.y9 ag (a_ bV);have bX:=bx.o.mD d ag;have cW:m1<=120002:=by have:=bX.len;have:=C.len;omega
      have cX:=(bW.o.e.rows.lt C.b).2;have cY:=(bW.o.e.cls d ag).lt;have e9:N.cell? ⟨w.heap.size,0,none⟩=some (.pointer (some ⟨G,0,none⟩)):=ab.o.s.qh.cell 0;have Z:=U (z_ ag (z_ bV (z_ bX (z_ cW C))));have aD:bF (w.heap.size+1+1<N.heap.size/\w.heap.size<=N.heap.size/\∀D∈ds,D<N.heap.size):=U ⟨ab.o.s.set.lt,ab.o.s.below.size,λ D ar=>ab.o.s.uX.lt ar⟩;have cn:OwnFrom N.heap.size (λ(pre:List Int)(f:World)=>∃(L:Nat)(J:List Int),p5 w f G w.heap.size aY (w.heap.size+1+1) L J A n c out ds/\(∀v,hasB S v=true->hasB J v=true)/\(∀y∈pre,0<aS s.c y->hasB J (aI y)=true)/\L<=m+pre.length):=by
       rintro pre e' fa row ⟨L,J,h1,ak,br,bY⟩ aQ cZ;exact⟨L,J,h1.ua aQ cZ aD.o.2.1 aD.o.1 aD.o.2.2,ak,br,bY⟩
      have cp:=U cn;have cq:bF (some (t.heap.size+1)≠some (w.heap.size+1+1)/\some bk≠some (w.heap.size+1+1)):=U ⟨λ e=>by have h1:=aB.o.s.set.lt;injection e with e;omega,λ e=>by have h1:=(H.o.e.rows.lt C.b).2;injection e with e;omega⟩;clear ag bV bX cn;refine(wpIn_wide (n:=6)).1 ?_;refine Bj (F:=Fence.wide) (w0:=N) rfl (by omega) (gf:=224) (lb:= #[.pointer (some ⟨t.heap.size,0,none⟩),.pointer (some ⟨t.heap.size+1,0,none⟩)]) rfl trivial DB
       (DD (6-1) (by omega) t.heap.size (t.heap.size+1) (cb d) bk m1 cV (aA s.c.cl d) x C.len (by omega) N cU k2 C.ag C.kB (by omega) (by omega) cY cX)
       (λ h k=>h.trans k) (λ V l o fb hl Q cr _=>⟨λ v bZ=>(v_ (w:=V) (b_ (by show t.heap.size+1≠l;omega))).trans bZ,λ k v _ bZ=>(v_ (w:=V) (b_ (by show bk≠l;omega))).trans bZ⟩) (p_ _ _) (λ _=>rfl)
       (λ(pre:List Int)(f:World)=>∃(L:Nat)(J:List Int),p5 w f G w.heap.size aY (w.heap.size+1+1) L J A n c out ds/\(∀v,hasB S v=true->hasB J v=true)/\(∀y∈pre,0<aS s.c y->hasB J (aI y)=true)/\L<=m+pre.length) (λ _ _ _=>False)
       cp.o (λ _ _ _ _ _ h=>h.elim) ⟨m,S,ab.o.s,λ _ h=>h,λ y h=>absurd h List.not_mem_nil,q_ _⟩
       ?a1 ?w1 ?assign ?kw1 ?body ?done ?stop
      case assign=>
       intro l pre y f fc ah bs c7
       gi_wp2
       exact c7
      case kw1=>
       intro pre y f ah;exact⟨KeepsFrom.refl _ _,pS.refl _ _ _ _⟩
      case body=>
       rintro l pre y ct f ah ⟨o,c8,cu,cr,O,cv⟩ bs fe;have da:=cp.o _ _ _ _ ah (show ct.grownBy f (some (N.heap.size+1)) by rw[cu];exact grownBy_putObj' ct (N.heap.size+1) o) (λ r e=>by cases e;exact⟨by omega,c8,O,cv⟩);clear ah cu cr O cv;obtain⟨L,J,hs,cw,R,aV⟩:=da;have aW:=U hs;have aw:=U (z_ cw (z_ R aV));have db:=U bs;have ad:gF s.c.n y:=Z.o.2.2.1.lt y (by
        have h1:y∈others (aA s.c.cl d) x:=bs.subset (by simp);exact(List.mem_filter.1 h1).1)
       have dc:f.cell? ⟨w.heap.size,0,none⟩=some (.pointer (some ⟨G,0,none⟩)):=hs.qh.cell 0;have cx:f.cell? ⟨aY,0,none⟩=some (.map (some (w.heap.size+1+1))):=hs.qv.cell 0;have bt:=U (H.o.below hs.below).1;clear hs cw R aV bs;obtain⟨ae,aX⟩:∃v,aI y=v:=⟨_,rfl⟩
       have cy:ae<=s.c.n:=by have:=ad.2;omega
       have cz:1<=ae:=by have:=ad.1;omega
       have cA:bF (∀w:World,Calls y_ 97 #[.int .i64 y] w λ e w'=>e=.returned (.int .i64 (ae:Int))/\w=w'):=U (λ w=>by have:=sM y w (by unfold aI at aX;omega) (by unfold aI at aX;omega);rw[aX] at this;exact this);obtain⟨ff,cB,dd,-⟩:=bt.o.e.lN 3 2 rfl bt.o.e.lD (by have:=I.o.pN;omega);obtain⟨aE,b0⟩:∃l,gO s.c.lvl ae=l:=⟨_,rfl⟩
       have cC:=bt.o.e.v7 cB (k:=ae) (by have:=I.o.pN;omega);rw[b0] at cC;have fg:(ae:Int)<(s.c.lvl.length:Int):=by have:=I.o.pN;omega
       have hlen:pre.length+1<=120002:=by
        have h1:=db.o.length_le;have ak:(others (aA s.c.cl d) x).length<=(aA s.c.cl d).length:=g_ _ _;have:=Z.o.2.2.2.2.len;have:=Z.o.2.2.2.1;rw[r_,Zx] at h1;omega
       have aZ:=U (z_ aX (z_ b0 (z_ hlen (z_ cy cz))));clear aX b0 hlen cy cz ad cB
       gi_wp2
       refine C8 8 (by kernel_rfl) (by kernel_rfl) (by rintro⟨_,_,h⟩;exact h) (by kernel_rfl) ?_;simp only[u_,n_,t_,m_]
       iterate 5 still_step
       still_call ((cA.o _).mono (λ e w' h=>⟨h.1,h.2.symm⟩))
       iterate 2 still_step
       refine k_ ?_;change wpList _ _ _ _ _ f.drew;have bu:bF (KeepsFrom N.heap.size f f.drew/\pS (t.heap.size+1) bk m1 f f.drew):=U ⟨(Zr f).from _,pS.refl _ _ _ _⟩;have aW:=U (aW.o.grow ((p_ _ f).drew));have cx:f.drew.cell? ⟨aY,0,none⟩=some (.map (some (w.heap.size+1+1))):=cx;clear dc dd cC bt;generalize f.drew=ax at*
       by_cases ad:0<aE
       ·have de:decide ((0:Int)<(aE:Int))=true:=by simp;omega
        have df:(0:Int)<(aE:Int):=by omega
        have cD:=U ad;clear ad;obtain⟨fh,fi,aU,cE⟩:=aW.o.set.drew.put (x:=(ae:Int)) (by have:=aw.o.2.2;have:=aZ.o;have:=ab.o.AB;unfold maxLen;omega) (D9 _ (by omega) (by have:=aZ.o;omega));have aC:=U (z_ aU cE);clear aU cE
        go_wp2_with fail
        gi_wp2
        refine C8 3 (by kernel_rfl) (by kernel_rfl) (by rintro⟨_,_,h⟩;exact h) (by kernel_rfl) ?_;simp only[u_,n_,t_,m_]
        iterate 2 still_step
        still_call ((cA.o _).mono (λ e w' h=>⟨h.1,h.2.symm⟩))
        refine k_ ?_;change wpList _ _ _ _ _ ax.drew
        go_wp2_with fail
        have dh:=(aW.o.grow ((p_ _ ax).drew)).put aC.o.1 aC.o.2;refine⟨bu.o.1.trans (((Zr ax).from _).trans (KeepsFrom.of_grownBy aC.o.2 (λ r e=>by cases e;exact aD.o.1))),bu.o.2.trans ((show pS _ _ _ ax ax.drew from pS.refl _ _ _ ax).trans (pS.yZ (W:=ax.drew) aC.o.2 cq.o.1 cq.o.2)),L+1,J++[(ae:Int)],dh,λ v Q=>by rw[yz,aw.o.1 v Q];rfl,λ b1 b2 ay=>?_,by have:=aw.o.2.2;rw[r_,Zx];omega⟩;rw[yz];rcases List.mem_append.1 b2 with h|h
        ·rw[aw.o.2.1 b1 h ay];rfl
        ·rw[List.mem_singleton] at h;subst h;rw[aZ.o.1];simp
       ·have de:decide ((0:Int)<(aE:Int))=false:=by simp;omega
        have df:¬(0:Int)<(aE:Int):=by omega
        have cD:=U ad;clear ad
        go_wp2_with fail
        gi_wp2
        exact⟨bu.o.1,bu.o.2,L,J,aW.o,aw.o.1,λ b1 b2 ay=>(List.mem_append.1 b2).elim (λ h=>aw.o.2.1 b1 h ay) (λ h=>by rw[List.mem_singleton] at h;subst h;exact absurd (show 0<aE by rw[<-aZ.o.2.1,<-aZ.o.1];exact ay) cD.o),by have:=aw.o.2.2;rw[r_];omega⟩
      case done=>
       rintro D ys f ar rfl ⟨L,J,h1,ak,br,bY⟩ aV;have hlen:(others (aA s.c.cl d) x).length<=120002:=by
        have ak:(others (aA s.c.cl d) x).length<=(aA s.c.cl d).length:=g_ _ _;have:=Z.o.2.2.2.2.len;have:=Z.o.2.2.2.1;omega
       have ao:sX F w f G aY s.c p au j L J A n c out (D::ds):=ab.o.Nd I.o bx.o (h1.mark (by have:=aD.o.2.1;omega) aV (λ E di=>by have:=aD.o.2.2 E di;omega)) (d:=d) (by rw[X.o.1,X.o.2.2.2.1];exact bq.o) ak (λ y R cF hl=>br y (List.mem_filter.2 ⟨R,by rw[X.o.1] at cF;simpa using cF⟩) hl) (by omega);have ao:=U ao;clear h1 ak br bY aV hlen
       gi_wp2
       go_wp2_with fail
       exact s_ j (by omega) (bQ _ _ _ (xx.mk (ds:=D::ds) ao.o))
      case stop=>
       rintro D fj pre f ar fk h;exact h.elim
   ·have fl:decide ((j:Int)-1>=(al:Int))=false:=by simp;omega
    have cR:¬(al:Int)<=(j:Int)-1:=by omega
    have dj:=U cP
    go_wp2_with fail
    refine Bl ds rfl B.o.s.uX.nu (λ D ar=>(B.o.s.uX.kB D ar).2) (λ W' az=>⟨_,results_tmp rfl _ _ _,?_⟩);have hlen:=B.o.s.len;have dk:=B.o.ci.done I.o (by rw[cg];exact Y.o.2.2.1) (by rw[Y.o.2.1];have:=dj.o;omega);refine⟨A,c,out,by rw[hlen];rfl,?_,az.below B.o.s.below (λ D ar=>(B.o.s.uX.kB D ar).1),λ x aa=>B.o.ci.Bu x aa,B.o.xw,dk,λ b P=>(B.o.s.row.lt b (by show(aq.v ⟨A,n,c⟩).ownBlock=_;rw[aq.own];exact P)).1⟩;rw[hlen];have a6:=aN.lq B.o.s.row (by have:=B.o.nl;omega);refine⟨a6.len,a6.cap,a6.mP,a6.oo,λ ay=>?_⟩;obtain⟨aF,bw,bc,bd,cG⟩:=a6.cells ay;have dm:aF∉ds:=λ ag=>by
     obtain⟨v1,b3⟩:∃v1,W.cell? ⟨aF,bw+0,none⟩=some v1:=⟨_,cG 0 ay⟩
     unfold World.cell? at b3;rw[show W.heap[(⟨aF,bw+0,none⟩:Addr).block]? =_ from(B.o.s.uX.kB aF ag).2] at b3
     cases b3
    exact⟨aF,bw,bc,by rw[az.size];exact bd,λ k hk=>(az.cell (p:=⟨aF,bw+k,none⟩) dm).trans (cG k hk)⟩
end
section
open Go.RowKit Go.Shelf
def Nh:Code->Code
 | .cond _ _ b=>b
 |c=>c
noncomputable def Ni:Code:=BV (nw (Nh (nw ((Tryz.f99.body.bind λ c=>qw c 4).getD .skip))))
theorem Nj
  (C:sE bq gN w0 F ax n gy jk aG jm gX jo aX) (S:mN bq gN base w0 G F ax n gy jk aG aT aX K W hs cb s aQ s.c.ag) (T:s.c.st.length<gX) (ao:ai ax s.c.st.length=p) (X:gF n p) (Y: -p∈s.c.av)
  (ar:∀(K:Nat->Prop)(hs:Nat->aq)(cb:Nat->Nat)(s':an)(h':Nat)(aw:Option Addr)(ay az:Nat)(gx gz gQ gG gp dm bj bk gC u16 dn dr dw gd dx dy dz dA dB dD dF dG cr ct cu u32 cv cw cz cA cB cC cD cE cF cG cH dH dI gM gK gL bu bw bx bz bA bB bC bD bE bK bL bM bN bO bP u64 bQ bR bS bT bU bV bW bX bY bZ b5 b6 b7 b8 b9 cc cg ck cm cn cp dJ dK dL dM dN dO dP dQ cI cK cL cM cN cO cQ cR cS cT cU cV cW cZ c7 c8 dc dR dS dU dV dW dX dY dZ ec ee ef ei ej ek en eo ep er eu ew ey ez eA eB eC eD eE eF eG eH gh gi gj eL eM eN eO eP eR eS eT eU eV eW eX gl gm gn eY eZ e3 e4 e5 e6 e7 e8 e9 fc fe ff fh fk fm fo fq fu fA fB fC fD fE fF fG fH fI fJ fK fL fM fN fO fP fQ fR gu gv fS fT fU fV fW fZ ga ir iu iw iy iz iA iB iC iD iE iF iG iX iY iZ ja jb jc jd je jL jM jN jO jP jQ:Value)(W':World),sF bq gN base w0 G F ax n gy aG aT aX K W' hs cb s' aQ h' 2 none 0 0 aw ay az->aM W' aT 30 [.int .i64 2,mW,.slice aw ay az,.int .i64 (aQ:Int)]->Q .ret {tmps:= #[.pointer (some ⟨G,0,none⟩),.slice jm gX jo,.int .i64 (aX:Int),gx,gz,gQ,.pointer (some ⟨aT,0,none⟩),.int .i64 (iS:Int),.int .i64 left,.int .i64 2000,gG,gp,dm,bj,bk,gC,u16,dn,dr,dw,gd,dx,dy,dz,dA,dB,dD,dF,dG,cr,ct,cu,u32,cv,cw,cz,cA,cB,cC,cD,cE,cF,cG,cH,dH,dI,gM,gK,gL,bu,bw,bx,bz,bA,bB,bC,bD,bE,bK,bL,bM,bN,bO,bP,u64,bQ,bR,bS,bT,bU,bV,bW,bX,bY,bZ,b5,b6,b7,b8,b9,cc,cg,ck,cm,cn,cp,dJ,dK,dL,dM,dN,dO,dP,dQ,cI,cK,cL,cM,cN,cO,cQ,cR,cS,cT,cU,cV,cW,cZ,c7,c8,dc,dR,dS,dU,dV,dW,dX,dY,dZ,ec,ee,ef,ei,ej,ek,en,eo,ep,er,eu,ew,ey,ez,eA,eB,eC,eD,eE,eF,eG,eH,gh,gi,gj,eL,eM,eN,eO,eP,eR,eS,eT,eU,eV,eW,eX,gl,gm,gn,eY,eZ,e3,e4,e5,e6,e7,e8,e9,fc,fe,ff,fh,fk,fm,fo,fq,fu,fA,fB,fC,fD,fE,fF,fG,fH,fI,fJ,fK,fL,fM,fN,fO,fP,fQ,fR,gu,gv,fS,fT,fU,fV,fW,fZ,ga,ir,iu,iw,iy,iz,iA,iB,iC,iD,iE,iF,iG,iX,iY,iZ,ja,jb,jc,jd,je,jL,jM,jN,jO,jP,jQ],defers:=[]} W'):
  c_ y_ Ni Q {tmps:= #[.pointer (some ⟨G,0,none⟩),.slice jm gX jo,.int .i64 (aX:Int),gx,gz,gQ,.pointer (some ⟨aT,0,none⟩),.int .i64 (iS:Int),.int .i64 left,.int .i64 2000,gG,gp,dm,.int .i64 0,.int .i64 p,gC,u16,dn,dr,dw,gd,dx,dy,dz,dA,dB,dD,dF,dG,cr,ct,cu,u32,cv,cw,cz,cA,cB,cC,cD,cE,cF,cG,cH,dH,dI,gM,gK,gL,bu,bw,bx,bz,bA,bB,bC,bD,bE,bK,bL,bM,bN,bO,bP,u64,bQ,bR,bS,bT,bU,bV,bW,bX,bY,bZ,b5,b6,b7,b8,b9,cc,cg,ck,cm,cn,cp,dJ,dK,dL,dM,dN,dO,dP,dQ,cI,cK,cL,cM,cN,cO,cQ,cR,cS,cT,cU,cV,cW,cZ,c7,c8,dc,dR,dS,dU,dV,dW,dX,dY,dZ,ec,ee,ef,ei,ej,ek,en,eo,ep,er,eu,ew,ey,ez,eA,eB,eC,eD,eE,eF,eG,eH,gh,gi,gj,eL,eM,eN,eO,eP,eR,eS,eT,eU,eV,eW,eX,gl,gm,gn,eY,eZ,e3,e4,e5,e6,e7,e8,e9,fc,fe,ff,fh,fk,fm,fo,fq,fu,fA,fB,fC,fD,fE,fF,fG,fH,fI,fJ,fK,fL,fM,fN,fO,fP,fQ,fR,gu,gv,fS,fT,fU,fV,fW,fZ,ga,ir,iu,iw,iy,iz,iA,iB,iC,iD,iE,iF,iG,iX,iY,iZ,ja,jb,jc,jd,je,jL,jM,jN,jO,jP,jQ],defers:=[]} W:=by
 have bl:=U ar;have y:=U C;have aA:=U S;have aB:=U (S.ov C);have Z:=U (z_ T (z_ ao (z_ X Y)));have bn:bF (∀b,w0.heap.size<=b->¬bq b):=U λ b i=>C.D4 i
 have aC:=U (Ng S.gA S.jX.gH.au S.jX.gH.jG (by have:=aB.o;omega) (by have:=aB.o;omega) (p:=p) (by rw[S.jX.rg.gV];exact X) Y);clear ar C S T ao X Y
 conv=>arg 2;whnf
 dsimp only
 go_upto_region 32 with(go_at_call 153;refine aC.o.mono ?_;rintro e w1 ⟨j,co,out,rfl,xh,aD,aE,aH,un,aI⟩;dsimp only)
 have f:=U ((aA.o.below aD).below (bg w1 (.cells #[.slice j out.length co] 25)));have aJ:(w1.alloc (.cells #[.slice j out.length co] 25)).cell? ⟨w1.heap.size,0,none⟩=some (.slice j out.length co):=by go_simp
 have aK:=U aJ;have bo:=U (xh.alloc (.cells #[.slice j out.length co] 25));have aL:∀b,j.map (·.block)=some b->0<out.length->b<w1.heap.size:=λ b e bp=>by
  obtain⟨ca,off,aO,h1,_⟩:=xh.cells bp;rw[aO] at e;injection e with e;exact e▸h1
 have br:=U aL;have bs:bF (w1.heap.size<(w1.alloc (.cells #[.slice j out.length co] 25)).heap.size):=U (by simp);have J:=U (z_ aE (z_ aH un));have bt:bF (∀b,j.map (·.block)=some b->b≠aT):=U (λ b e=>by have h1:=aI b e;have z:=aA.o.lH.lt;omega);clear aJ aL xh aD aE aH un aI aC;generalize w1.alloc (.cells #[.slice j out.length co] 25)=V at*;generalize w1.heap.size=A at*;have L:=f.o.lH.cell 0;have M:=f.o.lH.cell 1;have N:=f.o.lH.cell 2;have O:=f.o.lH.cell 3;have aP:=f.o.lH.free 0;have aR:=f.o.lH.free 1;have aS:=f.o.lH.free 2;have aU:=f.o.lH.free 3;simp only[mW,x_,w_] at L M N O;have cd:∀(fn:Fn)(first cap:Array Value)(w:World),(Instr.makeFunc fn first cap).run y_ w=.ok (.func fn first cap) w:=λ _ _ _ _=>rfl
 go_upto_region 33 with fail
 clear L M N O aP aR aS aU;have aV:bF (aM (V.setCell ⟨aT,0,none⟩ (.int .i64 2)) aT 30 [.int .i64 2,mW,mW,.int .i64 (aQ:Int)]):=U (f.o.lH.set 0 _);have B:=U (f.o.gA.vh f.o.rK 0 (.int .i64 2));have aW:=U (aF.D6 f.o 0 (.int .i64 2));have bG:A≠aT:=λ e=>by
  have h1:V.heap[aT]? =_:=f.o.lH;have z:=aK.o;rw[e] at z;have aa:=f.o.lH.cell 0;rw[aa] at z;simp at z
 have c3:(V.setCell ⟨aT,0,none⟩ (.int .i64 2)).cell? ⟨A,0,none⟩=some (.slice j out.length co):=by
  rw[World.cell?_setCell_other _ _ _ _ (by simp[bG])];exact aK.o
 have aY:=((f.o.Hs y.o).iQ (aF.set (K:=gN) aT 0 (.int .i64 2) f.o.ue) y.o.Hq)
 have aZ:aN (V.setCell ⟨aT,0,none⟩ (.int .i64 2)) j out.length co out:=bo.o.iQ (aF.set (K:=λ b=>b≠aT) aT 0 (.int .i64 2) (λ h=>h rfl)) (λ b e _=>bt.o b e);have E:bF (A<V.heap.size/\∀b,j.map (·.block)=some b->0<out.length->b<A):=U ⟨bs.o,br.o⟩;have a6:(V.setCell ⟨aT,0,none⟩ (.int .i64 2)).heap.size=V.heap.size:=by simp
 generalize V.setCell ⟨aT,0,none⟩ (.int .i64 2)=l at*;have D:=U (z_ c3 (z_ aZ a6));have bH:=U (xg jm gX jo ax l aY);have bI:=B.o.e;have bJ:bF (∀(H:Option Addr)(c4:Nat)(v:World),v.ownsRow l.heap.size 3 1 (.slice H ax.length c4) ax.length (ax.map (f_ .i64))->Below l.heap.size l v->∃g,H=some ⟨g,0,none⟩/\l.heap.size<=g/\g<v.heap.size/\Calls y_ 85 #[.slice (some ⟨g,0,none⟩) ax.length c4,.func (.func 154) #[] #[.pointer (some ⟨A,0,none⟩)]] v λ e w'=>
   ∃m,e=.returned (.slice (some ⟨g,0,none⟩) m c4)/\Own w' l.heap.size g m c4 (ax.filter λ x=>hasB out x)/\Below l.heap.size v w'):=U (by
  intro H c4 v P i;have hl:=y.o.yd;have T:=Z.o.1;obtain⟨k,hk⟩:∃k,ax.length=k+1:=⟨ax.length-1,by omega⟩
  rw[hk] at P⊢;obtain⟨g,cap,b0⟩:=yA P;injection b0 with b1 aO cf
  subst b1;have ab:=P.lt g rfl;refine⟨g,rfl,ab.1,ab.2,Nc v l.heap.size g (k+1) c4 ax P ab.1 ((i.cell (p:=⟨A,0,none⟩) (by rw[D.o.2.2];exact E.o.1)).trans D.o.1) (l_ (by rw[D.o.2.2];exact E.o.1) i.size) (by have:=E.o.1;have:=D.o.2.2;omega) (D.o.2.1.below i) (λ b e=>?_)⟩;have b2:0<out.length:=List.length_pos_iff.2 (λ e=>by have h:=J.o.2.1;rw[e] at h;cases h);have h1:=E.o.2 b e b2;have z:=E.o.1;have aa:=D.o.2.2;have b3:=i.size;exact⟨by omega,by omega⟩)
 clear aY c3 aZ a6 bI
 go_upto_region 34 with(first
  |(go_at_call 81;refine bH.o.mono ?_;rintro e b4 ⟨H,c4,rfl,a7,ad⟩;dsimp only;obtain⟨g,rfl,a8,a',ae⟩:=bJ.o H c4 b4 a7 ad;have ae:=U ae;have u:=U (z_ ad (z_ a8 a'));clear a7 ad a8 a')
  |(go_at_call 85;refine ae.o.mono ?_;rintro e I ⟨m,rfl,ba,af⟩;dsimp only;have ah:=U (aV.o.below (u.o.1.trans af));have R:=U (z_ ba af);clear ba af;have f2:=ah.o.free 2;have bb:=ah.o.cell 2;simp only[mW,x_,w_] at bb))
 have t:=U (ah.o.set 2 (.slice (some ⟨g,0,none⟩) m c4));have L:=t.o.cell 0;have M:=t.o.cell 1;have N:=t.o.cell 2;have O:=t.o.cell 3;have aP:=t.o.free 0;have aR:=t.o.free 1;have aS:=t.o.free 2;have aU:=t.o.free 3;simp only[mW,List.set_cons_succ,List.set_cons_zero,x_,w_] at L M N O;clear f2 bb;have aj:Below l.heap.size l I:=u.o.1.trans R.o.2;have bc:g<I.heap.size:=l_ u.o.2.2 R.o.2.size;have bd:=(B.o.below aj).1;have bf:=bd.qN (g:=g) bc (by have:=B.o.e.box.lt;have:=u.o.2.1;omega) (λ r e=>by have:=(B.o.e.rows.lt e).2;have:=u.o.2.1;omega) (λ d ag e=>by have:=(B.o.e.cls d ag).lt;have:=u.o.2.1;omega);have ak:aF (λ b=>K b/\b≠aT) V I:=aW.o.trans ((aF.q4 aj B.o.s.lt).mono λ b i=>i.1);have bh:g≠aT:=by have:=aV.o.lt;have:=u.o.2.1;omega
 have hm:m<=1000:=by
  have h1:=R.o.1.len;have z:=g_ (λ x=>hasB out x) ax;have aa:=y.o.yd;have b3:=y.o.Hp;omega
 have al:sF bq gN base w0 G F ax n gy aG aT aX (qN K g) I hs cb s aQ s.c.ag 2 none 0 0 (some ⟨g,0,none⟩) m c4:=by
  have f0:aF gN V I:=ak.mono λ b i=>⟨f.o.rJ b i,λ e=>f.o.ue (e▸i)⟩
  refine⟨λ b i=>.inl (f.o.rJ b i),bf,f.o.iQ.trans f0,f.o.jX,.inl f.o.rK,f.o.ue,f.o.xm.kept (f0.mono λ b i=>i.1) rfl rfl,λ q b'=>((f.o.xo q b').iQ (ak.mono λ b i=>i.1)).mono λ b i=>⟨⟨.inl i.1.1,i.1.2⟩,i.2⟩,f.o.xq,f.o.vi,f.o.r4,.inr (.inl ⟨rfl,rfl,ax.filter λ x=>hasB out x,R.o.1.xh (by omega),λ b e=>?_,List.filter_sublist,?_⟩)⟩
  ·injection e with e
   have e:g=b:=e;subst e;exact⟨⟨.inr rfl,bh⟩,bn.o _ (Zv f.o.iQ.size (Zv aW.o.size u.o.2.1))⟩
  ·exact f.o.jX.core (by rw[y.o.yd];exact Z.o.1) Z.o.2.1 J.o.1 J.o.2.2 J.o.2.1
 have al:=U al;clear aj bc bd bf ak bh hm
 go_wp2_with fail
 apply bl.o
 ·exact((((((al.o.set 2 _).set 0 _).set 1 _).set 2 _).set 3 _))
 ·exact((((t.o.set 0 _).set 1 _).set 2 _).set 3 _)
structure Ea(bq gN:Nat->Prop)(base:Nat)(w0:World)(G:Nat)(F:List (List Int))(ax:List Int)(n gy jk:Nat)(aG:an)(aT aX gX:Nat)(K:Nat->Prop)(cb:Nat->Nat)(aQ kW:Nat)(oO:List Int)(hs:Nat->aq)(s:an)(next:Int)(W:World)(g:Nat):Prop where
 S:mN bq gN base w0 G F ax n gy jk aG aT aX K W hs cb s aQ s.c.ag
 fix:s.c.ag=s.c.av.length
 lC:s.c.lC=false
 aJ:s.aJ.length=kW
 av:s.c.av=oO
 Nk:next=0\/(next≠0/\gF n next/\jY s.c next=0/\s.c.st.length<gX/\ai ax s.c.st.length=next)
 g:g=2*(gX-s.c.st.length)+(if next=0 then 1 else 0)
inductive ye(bq gN:Nat->Prop)(base:Nat)(w0:World)(G:Nat)(F:List (List Int))(ax:List Int)(n gy jk:Nat)(aG:an)(jm:Option Addr)(gX jo aT aX:Nat)(K:Nat->Prop)(cb:Nat->Nat)(aQ iS:Nat)(left:Int)(kW:Nat)(oO:List Int):Nat->Act->World->Prop
 |mk {hs:Nat->aq} {s:an} {next:Int} {g:Nat} {gx gz gQ gG gp dm gr gC u16 dn dr dw gd dx dy dz dA dB dD dF dG cr ct cu u32 cv cw cz cA cB cC cD cE cF cG cH dH dI gM gK gL bu bw bx bz bA bB bC bD bE bK bL bM bN bO bP u64 bQ bR bS bT bU bV bW bX bY bZ b5 b6 b7 b8 b9 cc cg ck cm cn cp dJ dK dL dM dN dO dP dQ cI cK cL cM cN cO cQ cR cS cT cU cV cW cZ c7 c8 dc dR dS dU dV dW dX dY dZ ec ee ef ei ej ek en eo ep er eu ew ey ez eA eB eC eD eE eF eG eH gh gi gj eL eM eN eO eP eR eS eT eU eV eW eX gl gm gn eY eZ e3 e4 e5 e6 e7 e8 e9 fc fe ff fh fk fm fo fq fu fA fB fC fD fE fF fG fH fI fJ fK fL fM fN fO fP fQ fR gu gv fS fT fU fV fW fZ ga ir iu iw iy iz iA iB iC iD iE iF iG iX iY iZ ja jb jc jd je jL jM jN jO jP jQ:Value} {W:World} (h:Ea bq gN base w0 G F ax n gy jk aG aT aX gX K cb aQ kW oO hs s next W g):ye bq gN base w0 G F ax n gy jk aG jm gX jo aT aX K cb aQ iS left kW oO g {tmps:= #[.pointer (some ⟨G,0,none⟩),.slice jm gX jo,.int .i64 (aX:Int),gx,gz,gQ,.pointer (some ⟨aT,0,none⟩),.int .i64 (iS:Int),.int .i64 left,.int .i64 2000,gG,gp,dm,.int .i64 next,gr,gC,u16,dn,dr,dw,gd,dx,dy,dz,dA,dB,dD,dF,dG,cr,ct,cu,u32,cv,cw,cz,cA,cB,cC,cD,cE,cF,cG,cH,dH,dI,gM,gK,gL,bu,bw,bx,bz,bA,bB,bC,bD,bE,bK,bL,bM,bN,bO,bP,u64,bQ,bR,bS,bT,bU,bV,bW,bX,bY,bZ,b5,b6,b7,b8,b9,cc,cg,ck,cm,cn,cp,dJ,dK,dL,dM,dN,dO,dP,dQ,cI,cK,cL,cM,cN,cO,cQ,cR,cS,cT,cU,cV,cW,cZ,c7,c8,dc,dR,dS,dU,dV,dW,dX,dY,dZ,ec,ee,ef,ei,ej,ek,en,eo,ep,er,eu,ew,ey,ez,eA,eB,eC,eD,eE,eF,eG,eH,gh,gi,gj,eL,eM,eN,eO,eP,eR,eS,eT,eU,eV,eW,eX,gl,gm,gn,eY,eZ,e3,e4,e5,e6,e7,e8,e9,fc,fe,ff,fh,fk,fm,fo,fq,fu,fA,fB,fC,fD,fE,fF,fG,fH,fI,fJ,fK,fL,fM,fN,fO,fP,fQ,fR,gu,gv,fS,fT,fU,fV,fW,fZ,ga,ir,iu,iw,iy,iz,iA,iB,iC,iD,iE,iF,iG,iX,iY,iZ,ja,jb,jc,jd,je,jL,jM,jN,jO,jP,jQ],defers:=[]} W
theorem ye.elim(b:ye bq gN base w0 G F ax n gy jk aG jm gX jo aT aX K cb aQ iS left kW oO g a W){P:Prop}
  (k:∀{hs:Nat->aq}{s:an}{next:Int}{c d e f i j l m u16 o p q r t u v w y z A B C D E u32 H I J L M N O Q R S T U V X Y Z aa ab ad ae af ag ah ai aj ak al ao ar au av u64 aw ay az aA aB aC aD aE aF aH aI aJ aK aL aM aN aO aP aR aS aU aV aW aY aZ a6 a7 a8 a' ba bb bc bd bf bg bh bj bk bl bn bo bp br bs bt bu bw bx bz bA bB bC bD bE bF bG bH bI bJ bK bL bM bN bO bP bQ bR bS bT bU bV bW bX bY bZ b0 b1 b2 b3 b4 b5 b6 b7 b8 b9 b' ca cc cd cf cg ch cj ck cm cn cp cq cr ct cu cv cw cx cy cz cA cB cC cD cE cF cG cH cI cJ cK cL cM cN cO cP cQ cR cS cT cU cV cW cX cY cZ c7 c8 da db dc dd de df dh di dj dk dm dn dp dq dr dt du dv dw dx dy dz dA dB dC dD dE dF dG dH dI:Value},a={tmps:= #[.pointer (some ⟨G,0,none⟩),.slice jm gX jo,.int .i64 (aX:Int),c,d,e,.pointer (some ⟨aT,0,none⟩),.int .i64 (iS:Int),.int .i64 left,.int .i64 2000,f,i,j,.int .i64 next,l,m,u16,o,p,q,r,t,u,v,w,y,z,A,B,C,D,E,u32,H,I,J,L,M,N,O,Q,R,S,T,U,V,X,Y,Z,aa,ab,ad,ae,af,ag,ah,ai,aj,ak,al,ao,ar,au,av,u64,aw,ay,az,aA,aB,aC,aD,aE,aF,aH,aI,aJ,aK,aL,aM,aN,aO,aP,aR,aS,aU,aV,aW,aY,aZ,a6,a7,a8,a',ba,bb,bc,bd,bf,bg,bh,bj,bk,bl,bn,bo,bp,br,bs,bt,bu,bw,bx,bz,bA,bB,bC,bD,bE,bF,bG,bH,bI,bJ,bK,bL,bM,bN,bO,bP,bQ,bR,bS,bT,bU,bV,bW,bX,bY,bZ,b0,b1,b2,b3,b4,b5,b6,b7,b8,b9,b',ca,cc,cd,cf,cg,ch,cj,ck,cm,cn,cp,cq,cr,ct,cu,cv,cw,cx,cy,cz,cA,cB,cC,cD,cE,cF,cG,cH,cI,cJ,cK,cL,cM,cN,cO,cP,cQ,cR,cS,cT,cU,cV,cW,cX,cY,cZ,c7,c8,da,db,dc,dd,de,df,dh,di,dj,dk,dm,dn,dp,dq,dr,dt,du,dv,dw,dx,dy,dz,dA,dB,dC,dD,dE,dF,dG,dH,dI],defers:=[]}->Ea bq gN base w0 G F ax n gy jk aG aT aX gX K cb aQ kW oO hs s next W g->P):P:=by
 cases b with
 |mk h=>exact k rfl h
noncomputable def Nl:Code:=(Tryz.f99.body.bind λ c=>qw c 2).getD .skip
theorem Ci(l:List Nat):(l.map λ k:Nat=>(k:Int)).map (f_ .i64)=qo l:=by unfold qo;rw[Zu];rfl
theorem Nn{bq gN:Nat->Prop}{base:Nat}{w0:World}{G:Nat}{F:List (List Int)}{ax:List Int}{n gy jk:Nat}{aG:an}{jm:Option Addr}{gX jo aT aX:Nat}{K:Nat->Prop}{W:World}{hs:Nat->aq}{cb:Nat->Nat}{s:an}{aQ iS:Nat}{left:Int}{gx gz gQ gG gp dm gr gC u16 dn dr dw gd dx dy dz dA dB dD dF dG cr ct cu u32 cv cw cz cA cB cC cD cE cF cG cH dH dI gM gK gL bu bw bx bz bA bB bC bD bE bK bL bM bN bO bP u64 bQ bR bS bT bU bV bW bX bY bZ b5 b6 b7 b8 b9 cc cg ck cm cn cp dJ dK dL dM dN dO dP dQ cI cK cL cM cN cO cQ cR cS cT cU cV cW cZ c7 c8 dc dR dS dU dV dW dX dY dZ ec ee ef ei ej ek en eo ep er eu ew ey ez eA eB eC eD eE eF eG eH gh gi gj eL eM eN eO eP eR eS eT eU eV eW eX gl gm gn eY eZ e3 e4 e5 e6 e7 e8 e9 fc fe ff fh fk fm fo fq fu fA fB fC fD fE fF fG fH fI fJ fK fL fM fN fO fP fQ fR gu gv fS fT fU fV fW fZ ga ir iu iw iy iz iA iB iC iD iE iF iG iX iY iZ ja jb jc jd je jL jM jN jO jP jQ:Value}{Q:Exit->Act->World->Prop}
  (C:sE bq gN w0 F ax n gy jk aG jm gX jo aX) (S:mN bq gN base w0 G F ax n gy jk aG aT aX K W hs cb s aQ s.c.ag) (M:s.c.ag=s.c.av.length) (N:s.c.lC=false)
  (O:∀(hs:Nat->aq)(s':an)(next:Int)(gx gz gQ gG gp dm gr gC u16 dn dr dw gd dx dy dz dA dB dD dF dG cr ct cu u32 cv cw cz cA cB cC cD cE cF cG cH dH dI gM gK gL bu bw bx bz bA bB bC bD bE bK bL bM bN bO bP u64 bQ bR bS bT bU bV bW bX bY bZ b5 b6 b7 b8 b9 cc cg ck cm cn cp dJ dK dL dM dN dO dP dQ cI cK cL cM cN cO cQ cR cS cT cU cV cW cZ c7 c8 dc dR dS dU dV dW dX dY dZ ec ee ef ei ej ek en eo ep er eu ew ey ez eA eB eC eD eE eF eG eH gh gi gj eL eM eN eO eP eR eS eT eU eV eW eX gl gm gn eY eZ e3 e4 e5 e6 e7 e8 e9 fc fe ff fh fk fm fo fq fu fA fB fC fD fE fF fG fH fI fJ fK fL fM fN fO fP fQ fR gu gv fS fT fU fV fW fZ ga ir iu iw iy iz iA iB iC iD iE iF iG iX iY iZ ja jb jc jd je jL jM jN jO jP jQ:Value)(W':World),mN bq gN base w0 G F ax n gy jk aG aT aX K W' hs cb s' aQ s'.c.ag->s'.c.ag=s'.c.av.length->s'.c.lC=false->s'.aJ.length=s.aJ.length->s'.c.av=s.c.av->((next=0/\gX<=s'.c.st.length)\/(next≠0/\gF n next/\jY s'.c next=0/\s'.c.st.length<gX/\ai ax s'.c.st.length=next))->Q (.exit 2) {tmps:= #[.pointer (some ⟨G,0,none⟩),.slice jm gX jo,.int .i64 (aX:Int),gx,gz,gQ,.pointer (some ⟨aT,0,none⟩),.int .i64 (iS:Int),.int .i64 left,.int .i64 2000,gG,gp,dm,.int .i64 next,gr,gC,u16,dn,dr,dw,gd,dx,dy,dz,dA,dB,dD,dF,dG,cr,ct,cu,u32,cv,cw,cz,cA,cB,cC,cD,cE,cF,cG,cH,dH,dI,gM,gK,gL,bu,bw,bx,bz,bA,bB,bC,bD,bE,bK,bL,bM,bN,bO,bP,u64,bQ,bR,bS,bT,bU,bV,bW,bX,bY,bZ,b5,b6,b7,b8,b9,cc,cg,ck,cm,cn,cp,dJ,dK,dL,dM,dN,dO,dP,dQ,cI,cK,cL,cM,cN,cO,cQ,cR,cS,cT,cU,cV,cW,cZ,c7,c8,dc,dR,dS,dU,dV,dW,dX,dY,dZ,ec,ee,ef,ei,ej,ek,en,eo,ep,er,eu,ew,ey,ez,eA,eB,eC,eD,eE,eF,eG,eH,gh,gi,gj,eL,eM,eN,eO,eP,eR,eS,eT,eU,eV,eW,eX,gl,gm,gn,eY,eZ,e3,e4,e5,e6,e7,e8,e9,fc,fe,ff,fh,fk,fm,fo,fq,fu,fA,fB,fC,fD,fE,fF,fG,fH,fI,fJ,fK,fL,fM,fN,fO,fP,fQ,fR,gu,gv,fS,fT,fU,fV,fW,fZ,ga,ir,iu,iw,iy,iz,iA,iB,iC,iD,iE,iF,iG,iX,iY,iZ,ja,jb,jc,jd,je,jL,jM,jN,jO,jP,jQ],defers:=[]} W')
  (P:∀(K:Nat->Prop)(hs:Nat->aq)(cb:Nat->Nat)(s':an)(h':Nat)(R:Option Addr)(T V:Nat)(gx gz gQ gG gp dm aD gr gC u16 dn dr dw gd dx dy dz dA dB dD dF dG cr ct cu u32 cv cw cz cA cB cC cD cE cF cG cH dH dI gM gK gL bu bw bx bz bA bB bC bD bE bK bL bM bN bO bP u64 bQ bR bS bT bU bV bW bX bY bZ b5 b6 b7 b8 b9 cc cg ck cm cn cp dJ dK dL dM dN dO dP dQ cI cK cL cM cN cO cQ cR cS cT cU cV cW cZ c7 c8 dc dR dS dU dV dW dX dY dZ ec ee ef ei ej ek en eo ep er eu ew ey ez eA eB eC eD eE eF eG eH gh gi gj eL eM eN eO eP eR eS eT eU eV eW eX gl gm gn eY eZ e3 e4 e5 e6 e7 e8 e9 fc fe ff fh fk fm fo fq fu fA fB fC fD fE fF fG fH fI fJ fK fL fM fN fO fP fQ fR gu gv fS fT fU fV fW fZ ga ir iu iw iy iz iA iB iC iD iE iF iG iX iY iZ ja jb jc jd je jL jM jN jO jP jQ:Value)(W':World),sF bq gN base w0 G F ax n gy aG aT aX K W' hs cb s' aQ h' 2 none 0 0 R T V->aM W' aT 30 [.int .i64 2,mW,.slice R T V,.int .i64 (aQ:Int)]->Q .ret {tmps:= #[.pointer (some ⟨G,0,none⟩),.slice jm gX jo,.int .i64 (aX:Int),gx,gz,gQ,.pointer (some ⟨aT,0,none⟩),.int .i64 (iS:Int),.int .i64 left,.int .i64 2000,gG,gp,dm,aD,gr,gC,u16,dn,dr,dw,gd,dx,dy,dz,dA,dB,dD,dF,dG,cr,ct,cu,u32,cv,cw,cz,cA,cB,cC,cD,cE,cF,cG,cH,dH,dI,gM,gK,gL,bu,bw,bx,bz,bA,bB,bC,bD,bE,bK,bL,bM,bN,bO,bP,u64,bQ,bR,bS,bT,bU,bV,bW,bX,bY,bZ,b5,b6,b7,b8,b9,cc,cg,ck,cm,cn,cp,dJ,dK,dL,dM,dN,dO,dP,dQ,cI,cK,cL,cM,cN,cO,cQ,cR,cS,cT,cU,cV,cW,cZ,c7,c8,dc,dR,dS,dU,dV,dW,dX,dY,dZ,ec,ee,ef,ei,ej,ek,en,eo,ep,er,eu,ew,ey,ez,eA,eB,eC,eD,eE,eF,eG,eH,gh,gi,gj,eL,eM,eN,eO,eP,eR,eS,eT,eU,eV,eW,eX,gl,gm,gn,eY,eZ,e3,e4,e5,e6,e7,e8,e9,fc,fe,ff,fh,fk,fm,fo,fq,fu,fA,fB,fC,fD,fE,fF,fG,fH,fI,fJ,fK,fL,fM,fN,fO,fP,fQ,fR,gu,gv,fS,fT,fU,fV,fW,fZ,ga,ir,iu,iw,iy,iz,iA,iB,iC,iD,iE,iF,iG,iX,iY,iZ,ja,jb,jc,jd,je,jL,jM,jN,jO,jP,jQ],defers:=[]} W'):
  c_ y_ Nl Q {tmps:= #[.pointer (some ⟨G,0,none⟩),.slice jm gX jo,.int .i64 (aX:Int),gx,gz,gQ,.pointer (some ⟨aT,0,none⟩),.int .i64 (iS:Int),.int .i64 left,.int .i64 2000,gG,gp,dm,.int .i64 0,gr,gC,u16,dn,dr,dw,gd,dx,dy,dz,dA,dB,dD,dF,dG,cr,ct,cu,u32,cv,cw,cz,cA,cB,cC,cD,cE,cF,cG,cH,dH,dI,gM,gK,gL,bu,bw,bx,bz,bA,bB,bC,bD,bE,bK,bL,bM,bN,bO,bP,u64,bQ,bR,bS,bT,bU,bV,bW,bX,bY,bZ,b5,b6,b7,b8,b9,cc,cg,ck,cm,cn,cp,dJ,dK,dL,dM,dN,dO,dP,dQ,cI,cK,cL,cM,cN,cO,cQ,cR,cS,cT,cU,cV,cW,cZ,c7,c8,dc,dR,dS,dU,dV,dW,dX,dY,dZ,ec,ee,ef,ei,ej,ek,en,eo,ep,er,eu,ew,ey,ez,eA,eB,eC,eD,eE,eF,eG,eH,gh,gi,gj,eL,eM,eN,eO,eP,eR,eS,eT,eU,eV,eW,eX,gl,gm,gn,eY,eZ,e3,e4,e5,e6,e7,e8,e9,fc,fe,ff,fh,fk,fm,fo,fq,fu,fA,fB,fC,fD,fE,fF,fG,fH,fI,fJ,fK,fL,fM,fN,fO,fP,fQ,fR,gu,gv,fS,fT,fU,fV,fW,fZ,ga,ir,iu,iw,iy,iz,iA,iB,iC,iD,iE,iF,iG,iX,iY,iZ,ja,jb,jc,jd,je,jL,jM,jN,jO,jP,jQ],defers:=[]} W:=by
 have y:=U O;have aE:=U P;have i:=U C;have X:Ea bq gN base w0 G F ax n gy jk aG aT aX gX K cb aQ s.aJ.length s.c.av hs s 0 W (2*(gX-s.c.st.length)+1):=⟨S,M,N,rfl,rfl,.inl rfl,by rw[if_pos rfl]⟩
 clear O P C S M N
 conv=>arg 2;whnf
 dsimp only;refine h_ (ye bq gN base w0 G F ax n gy jk aG jm gX jo aT aX K cb aQ iS left s.aJ.length s.c.av) (2*(gX-s.c.st.length)+1) ?start ?round
 case start=>exact ye.mk X
 case round=>
  clear X;obtain⟨ba,Y⟩:∃t,s.aJ.length=t:=⟨_,rfl⟩
  obtain⟨bb,Z⟩:∃t,s.c.av=t:=⟨_,rfl⟩
  rw[Y,Z] at y⊢;clear Y Z W hs s;intro g a W aa bc aF ab ad;refine aa.elim ?_;intro hs s next gx gz gQ gG gp dm gr gC u16 dn dr dw gd dx dy dz dA dB dD dF dG cr ct cu u32 cv cw cz cA cB cC cD cE cF cG cH dH dI gM gK gL bu bw bx bz bA bB bC bD bE bK bL bM bN bO bP u64 bQ bR bS bT bU bV bW bX bY bZ b5 b6 b7 b8 b9 cc cg ck cm cn cp dJ dK dL dM dN dO dP dQ cI cK cL cM cN cO cQ cR cS cT cU cV cW cZ c7 c8 dc dR dS dU dV dW dX dY dZ ec ee ef ei ej ek en eo ep er eu ew ey ez eA eB eC eD eE eF eG eH gh gi gj eL eM eN eO eP eR eS eT eU eV eW eX gl gm gn eY eZ e3 e4 e5 e6 e7 e8 e9 fc fe ff fh fk fm fo fq fu fA fB fC fD fE fF fG fH fI fJ fK fL fM fN fO fP fQ fR gu gv fS fT fU fV fW fZ ga ir iu iw iy iz iA iB iC iD iE iF iG iX iY iZ ja jb jc jd je jL jM jN jO jP jQ j H
  clear aa;subst j;have b:=U H;have ae:=U ab;have af:=U ad;have ah:=U (H.S.ov i.o);obtain⟨q,jZ,c5,r⟩:∃A n c,hs 5=⟨A,n,c⟩:=⟨_,_,_,rfl⟩
  have bd:W.cell? ⟨G,6,none⟩=some (.slice q jZ c5):=by have:=H.S.gA.e.kA (k:=6) (v:=(hs 5).v) rfl;rw[r] at this;exact this
  have aj:jZ=s.c.st.length:=by have:=H.S.gA.e.jZ;rw[r] at this;exact this
  have f:=U (z_ r aj);clear r aj ab ad
  by_cases z:next=0
  ·subst z;clear H
   by_cases l:jZ<gX
   ·have B:(jZ:Int)<(gX:Int):=by omega
    have d5:decide ((jZ:Int)<(gX:Int))=true:=decide_eq_true B;obtain⟨bf,bh,rfl,aH,ak⟩:=(b.o.S.Hs i.o).cells (by omega);obtain⟨p,hp⟩:∃p,jv ax jZ=p:=⟨_,rfl⟩
    have aI:=ak jZ l;rw[hp] at aI;have D:ai ax jZ=p:=hp;have al:p∈ax:=by rw[<-D];exact lY (by rw[i.o.yd];exact l)
    have E:=i.o.MS p al;have u:=U (BS b.o.S.gA b.o.S.jX.gH.au (by have:=ah.o;omega) (x:=p) (by rw[b.o.S.jX.rg.gV];exact E));obtain⟨t,I⟩:∃t,jY s.c p=t:=⟨_,rfl⟩
    have ao:=b.o.S.jX.gH.au.range p;rw[I] at u ao;have d:=U (z_ l (z_ D (z_ E I)));clear l hp D al E I ak aH;rcases ao with rfl|rfl|rfl
    ·
     go_wp2_with (go_at_call 152;refine u.o.mono ?_;rintro e w1 ⟨rfl,rfl⟩;dsimp only)
     have ar:p≠0:=d.o.2.2.1.oH;refine af.o _ _ (s_ (2*(gX-s.c.st.length)) ?_ (ae.o _ _ _ (ye.mk (hs:=hs) (s:=s) (next:=p) ⟨b.o.S,b.o.fix,b.o.lC,b.o.aJ,b.o.av,.inr ⟨ar,d.o.2.2.1,d.o.2.2.2,?_,?_⟩,?_⟩)))
     ·have:=b.o.g;rw[if_pos rfl] at this;omega
     ·rw[<-f.o.2];exact d.o.1
     ·rw[<-f.o.2];exact d.o.2.1
     ·rw[if_neg ar];rfl
    ·
     obtain⟨aw,j8,c4,w⟩:∃A n c,hs 4=⟨A,n,c⟩:=⟨_,_,_,rfl⟩
     have bj:W.cell? ⟨G,5,none⟩=some (.slice aw j8 c4):=by have:=b.o.S.gA.e.kA (k:=5) (v:=(hs 4).v) rfl;rw[w] at this;exact this
     have ay:j8=s.c.av.length:=by have:=b.o.S.gA.e.j8;rw[w] at this;exact this
     have az:=U (z_ ay w);clear w ay
     go_upto_region 29 with(go_at_call 152;refine u.o.mono ?_;rintro e w1 ⟨rfl,rfl⟩;dsimp only)
     have m:=U (b.o.S.gA.below ((bg W (.cells #[.int .i64 (j8:Int)] 3)).drew));have aK:bF (((W.alloc (.cells #[.int .i64 (j8:Int)] 3)).drew).ownsRow base 3 1 (.slice q jZ c5) jZ ((s.c.st.map λ k:Nat=>(k:Int)).map (f_ .i64))):=U (by
      have h1:=m.o.1.e.rows.row 5;rw[f.o.1] at h1;rw[Ci];exact h1)
     have aL:=U (Nat.le_of_lt m.o.1.e.lt);have aO:bF (jZ<=1100):=U (by have:=ah.o;have:=f.o.2;omega);have aR:bF (∀v9 gb,n9 ((W.alloc (.cells #[.int .i64 (j8:Int)] 3)).drew) base 3 (.slice q jZ c5) (jZ+1) (((s.c.st.map λ k:Nat=>(k:Int))++[(j8:Int)]).map (f_ .i64)) v9 gb->n9 ((W.alloc (.cells #[.int .i64 (j8:Int)] 3)).drew) base 3 (hs 5).v (s.c.st.length+1) (qo (s.c.st++[j8])) v9 gb):=U (λ v9 gb j=>by
      rw[f.o.1,<-f.o.2,<-Ci,List.map_append];exact j)
     have J:=m.o.1.e.kA (k:=6) (v:=(hs 5).v) rfl;have L:=m.o.1.e.kA (k:=5) (v:=(hs 4).v) rfl;rw[f.o.1] at J;rw[az.o.2] at L;have J:((W.alloc (.cells #[.int .i64 (j8:Int)] 3)).drew).cell? ⟨G,6,none⟩=some (.slice q jZ c5):=J;have L:((W.alloc (.cells #[.int .i64 (j8:Int)] 3)).drew).cell? ⟨G,5,none⟩=some (.slice aw j8 c4):=L;refine wp_region_noPanic ?_
     go_region_law (refine Fh rfl (.tmp 131) (.tmp 137) rfl base (.slice q jZ c5) jZ (s.c.st.map λ k:Nat=>(k:Int)) rfl aK.o (some ⟨W.heap.size,0,none⟩) 1 1 [(j8:Int)] rfl ((aN.lit W [(j8:Int)] 1 _ rfl rfl (by omega)).drew) (by have:=aO.o;omega) aL.o ?_;intro v9 gb j;obtain⟨⟨A',aS,c'⟩,aU,bk,bl,f9,aA,aV⟩:=aP.Gi (x:=j8) m.o.1 (aR.o v9 gb j);obtain rfl:v9=.slice A' aS c':=aU;clear j)
     all_goals
      have aW:p∈s.c.av:=(b.o.S.jX.gH.au.pos p (by rw[b.o.S.jX.rg.gV];exact d.o.2.2.1)).1 d.o.2.2.2;have aY:=b.o.S.jX.level b.o.fix b.o.lC (by rw[i.o.yd,<-f.o.2];exact d.o.1) (by rw[<-f.o.2,d.o.2.1];exact aW);rw[az.o.1] at aA;have aZ:=b.o.S.move (s':={s with c:=nJ s.c}) aA (m.o.2.trans aV) aY rfl rfl rfl;show aF _ _;refine af.o _ _ (s_ (2*(gX-(s.c.st.length+1))+1) ?_ (ae.o _ _ _ (ye.mk (s:={s with c:=nJ s.c}) (next:=0) ⟨aZ,b.o.fix,b.o.lC,b.o.aJ,b.o.av,.inl rfl,?_⟩)))
      ·have h1:=b.o.g;rw[if_pos rfl] at h1;have bn:=d.o.1;have bo:=f.o.2;omega
      ·rw[if_pos rfl];show _=2*(gX-(s.c.st++[s.c.av.length]).length)+1;rw[r_];rfl
    ·
     have aB: -p∈s.c.av:=(b.o.S.jX.gH.au.xP (by rw[b.o.S.jX.rg.gV];exact d.o.2.2.1)).1 d.o.2.2.2;have a6:=U aB;clear aB
     go_upto_region 30 with(go_at_call 152;refine u.o.mono ?_;rintro e w1 ⟨rfl,rfl⟩;dsimp only)
     rename_i bp aC;have a7:=U aC;clear aC
     go_wp2_with fail
     apply a7.o;refine wp_cond (t:=true) rfl ?_;rw[if_pos rfl];refine Nj i.o b.o.S (by rw[<-f.o.2];exact d.o.1) (by rw[<-f.o.2];exact d.o.2.1) d.o.2.2.1 a6.o ?_;exact aE.o
   ·have B:¬(jZ:Int)<(gX:Int):=by omega
    have d5:decide ((jZ:Int)<(gX:Int))=false:=decide_eq_false B;have a8:=U l;clear l
    go_wp2_with fail
    apply y.o hs s 0
    ·exact b.o.S
    ·exact b.o.fix
    ·exact b.o.lC
    ·exact b.o.aJ
    ·exact b.o.av
    ·exact .inl ⟨rfl,by have:=a8.o;have:=f.o.2;omega⟩
  ·have br:decide (next=0)=false:=decide_eq_false z;have a':bF (next≠0/\gF n next/\jY s.c next=0/\s.c.st.length<gX/\ai ax s.c.st.length=next):=U (by
    rcases H.Nk with h|h
    ·exact absurd h z
    ·exact h)
   clear H
   go_wp2_with fail
   apply y.o hs s next
   ·exact b.o.S
   ·exact b.o.fix
   ·exact b.o.lC
   ·exact b.o.aJ
   ·exact b.o.av
   ·exact .inr a'.o
theorem mj.ord{sp:Nat}(S:mj F ax n gy s sp h){o p:List Int}(b:mb n o p)(d:∀v:Nat,1<=v->v<=n->ai s.c.val v=0->0<=ai p v):mj F ax n gy {s with ord:=o,pl:=p} sp h:=
 ⟨S.gH,⟨S.rg.gV,b,S.rg.kM,S.rg.pR,S.rg.a0,S.rg.rG,S.rg.oU,S.rg.nE,S.rg.oV,S.rg.nX,S.rg.qg,S.rg.kW⟩,S.wh,S.lb,d,S.aK,S.w6,S.pG,S.yS,S.v0,S.qO⟩
structure Eb(bq gN:Nat->Prop)(base:Nat)(w0:World)(G:Nat)(F:List (List Int))(ax:List Int)(n gy jk:Nat)(aG:an)(aT aX:Nat)(K:Nat->Prop)(cb:Nat->Nat)(aQ kW:Nat)(oO:List Int)(hs:Nat->aq)(s1:an)(next:Int)(W:World):Prop where
 old:∃(mQ:World)(sU:Nat->aq)(s':an),mN bq gN base w0 G F ax n gy jk aG aT aX K mQ sU cb s' aQ s'.c.ag/\aF K mQ W/\s1={s' with ord:=s1.ord,pl:=s1.pl}
 gA:aP K base W G hs cb s1
 fix:s1.c.ag=s1.c.av.length
 lC:s1.c.lC=false
 aJ:s1.aJ.length=kW
 av:s1.c.av=oO
 lJ:mb n s1.ord s1.pl
 mI:∀v:Nat,1<=v->v<=n->ai s1.c.val v=0->v≠aI next->0<=ai s1.pl v
 jj:next≠0
 nl:gF n next
 od:jY s1.c next=0
 l7:s1.c.st.length<ax.length->next=ai ax s1.c.st.length
structure AD(bq gN:Nat->Prop)(base:Nat)(w0:World)(G:Nat)(F:List (List Int))(ax:List Int)(n gy jk:Nat)(aG:an)(aT aX:Nat)(K:Nat->Prop)(cb:Nat->Nat)(aQ kW:Nat)(oO:List Int)(hs:Nat->aq)(s:an)(next:Int)(W:World)(g:Nat):Prop where
 no:next=0->mN bq gN base w0 G F ax n gy jk aG aT aX K W hs cb s aQ s.c.ag/\s.c.ag=s.c.av.length/\s.c.lC=false/\s.aJ.length=kW/\s.c.av=oO/\ax.length<=s.c.st.length
 yes:next≠0->Eb bq gN base w0 G F ax n gy jk aG aT aX K cb aQ kW oO hs s next W
 gA:aP K base W G hs cb s
 g:g=s.ord.length+(if next=0 then 1 else 0)
inductive xy(bq gN:Nat->Prop)(base:Nat)(w0:World)(G:Nat)(F:List (List Int))(ax:List Int)(n gy jk:Nat)(aG:an)(jm:Option Addr)(gX jo aT aX:Nat)(K:Nat->Prop)(cb:Nat->Nat)(aQ iS:Nat)(left:Int)(kW:Nat)(oO:List Int):Nat->Act->World->Prop
 |mk {hs:Nat->aq} {s:an} {next:Int} {g:Nat} {gx gz gQ gG gp dm gr gC u16 dn dr dw gd dx dy dz dA dB dD dF dG cr ct cu u32 cv cw cz cA cB cC cD cE cF cG cH dH dI gM gK gL bu bw bx bz bA bB bC bD bE bK bL bM bN bO bP u64 bQ bR bS bT bU bV bW bX bY bZ b5 b6 b7 b8 b9 cc cg ck cm cn cp dJ dK dL dM dN dO dP dQ cI cK cL cM cN cO cQ cR cS cT cU cV cW cZ c7 c8 dc dR dS dU dV dW dX dY dZ ec ee ef ei ej ek en eo ep er eu ew ey ez eA eB eC eD eE eF eG eH gh gi gj eL eM eN eO eP eR eS eT eU eV eW eX gl gm gn eY eZ e3 e4 e5 e6 e7 e8 e9 fc fe ff fh fk fm fo fq fu fA fB fC fD fE fF fG fH fI fJ fK fL fM fN fO fP fQ fR gu gv fS fT fU fV fW fZ ga ir iu iw iy iz iA iB iC iD iE iF iG iX iY iZ ja jb jc jd je jL jM jN jO jP jQ:Value} {W:World} (h:AD bq gN base w0 G F ax n gy jk aG aT aX K cb aQ kW oO hs s next W g):xy bq gN base w0 G F ax n gy jk aG jm gX jo aT aX K cb aQ iS left kW oO g {tmps:= #[.pointer (some ⟨G,0,none⟩),.slice jm gX jo,.int .i64 (aX:Int),gx,gz,gQ,.pointer (some ⟨aT,0,none⟩),.int .i64 (iS:Int),.int .i64 left,.int .i64 2000,gG,gp,dm,.int .i64 next,gr,gC,u16,dn,dr,dw,gd,dx,dy,dz,dA,dB,dD,dF,dG,cr,ct,cu,u32,cv,cw,cz,cA,cB,cC,cD,cE,cF,cG,cH,dH,dI,gM,gK,gL,bu,bw,bx,bz,bA,bB,bC,bD,bE,bK,bL,bM,bN,bO,bP,u64,bQ,bR,bS,bT,bU,bV,bW,bX,bY,bZ,b5,b6,b7,b8,b9,cc,cg,ck,cm,cn,cp,dJ,dK,dL,dM,dN,dO,dP,dQ,cI,cK,cL,cM,cN,cO,cQ,cR,cS,cT,cU,cV,cW,cZ,c7,c8,dc,dR,dS,dU,dV,dW,dX,dY,dZ,ec,ee,ef,ei,ej,ek,en,eo,ep,er,eu,ew,ey,ez,eA,eB,eC,eD,eE,eF,eG,eH,gh,gi,gj,eL,eM,eN,eO,eP,eR,eS,eT,eU,eV,eW,eX,gl,gm,gn,eY,eZ,e3,e4,e5,e6,e7,e8,e9,fc,fe,ff,fh,fk,fm,fo,fq,fu,fA,fB,fC,fD,fE,fF,fG,fH,fI,fJ,fK,fL,fM,fN,fO,fP,fQ,fR,gu,gv,fS,fT,fU,fV,fW,fZ,ga,ir,iu,iw,iy,iz,iA,iB,iC,iD,iE,iF,iG,iX,iY,iZ,ja,jb,jc,jd,je,jL,jM,jN,jO,jP,jQ],defers:=[]} W
theorem xy.elim(b:xy bq gN base w0 G F ax n gy jk aG jm gX jo aT aX K cb aQ iS left kW oO g a W){P:Prop}
  (k:∀{hs:Nat->aq}{s:an}{next:Int}{c d e f i j l m u16 o p q r t u v w y z A B C D E u32 H I J L M N O Q R S T U V X Y Z aa ab ad ae af ag ah ai aj ak al ao ar au av u64 aw ay az aA aB aC aD aE aF aH aI aJ aK aL aM aN aO aP aR aS aU aV aW aY aZ a6 a7 a8 a' ba bb bc bd bf bg bh bj bk bl bn bo bp br bs bt bu bw bx bz bA bB bC bD bE bF bG bH bI bJ bK bL bM bN bO bP bQ bR bS bT bU bV bW bX bY bZ b0 b1 b2 b3 b4 b5 b6 b7 b8 b9 b' ca cc cd cf cg ch cj ck cm cn cp cq cr ct cu cv cw cx cy cz cA cB cC cD cE cF cG cH cI cJ cK cL cM cN cO cP cQ cR cS cT cU cV cW cX cY cZ c7 c8 da db dc dd de df dh di dj dk dm dn dp dq dr dt du dv dw dx dy dz dA dB dC dD dE dF dG dH dI:Value},a={tmps:= #[.pointer (some ⟨G,0,none⟩),.slice jm gX jo,.int .i64 (aX:Int),c,d,e,.pointer (some ⟨aT,0,none⟩),.int .i64 (iS:Int),.int .i64 left,.int .i64 2000,f,i,j,.int .i64 next,l,m,u16,o,p,q,r,t,u,v,w,y,z,A,B,C,D,E,u32,H,I,J,L,M,N,O,Q,R,S,T,U,V,X,Y,Z,aa,ab,ad,ae,af,ag,ah,ai,aj,ak,al,ao,ar,au,av,u64,aw,ay,az,aA,aB,aC,aD,aE,aF,aH,aI,aJ,aK,aL,aM,aN,aO,aP,aR,aS,aU,aV,aW,aY,aZ,a6,a7,a8,a',ba,bb,bc,bd,bf,bg,bh,bj,bk,bl,bn,bo,bp,br,bs,bt,bu,bw,bx,bz,bA,bB,bC,bD,bE,bF,bG,bH,bI,bJ,bK,bL,bM,bN,bO,bP,bQ,bR,bS,bT,bU,bV,bW,bX,bY,bZ,b0,b1,b2,b3,b4,b5,b6,b7,b8,b9,b',ca,cc,cd,cf,cg,ch,cj,ck,cm,cn,cp,cq,cr,ct,cu,cv,cw,cx,cy,cz,cA,cB,cC,cD,cE,cF,cG,cH,cI,cJ,cK,cL,cM,cN,cO,cP,cQ,cR,cS,cT,cU,cV,cW,cX,cY,cZ,c7,c8,da,db,dc,dd,de,df,dh,di,dj,dk,dm,dn,dp,dq,dr,dt,du,dv,dw,dx,dy,dz,dA,dB,dC,dD,dE,dF,dG,dH,dI],defers:=[]}->AD bq gN base w0 G F ax n gy jk aG aT aX K cb aQ kW oO hs s next W g->P):P:=by
 cases b with
 |mk h=>exact k rfl h
noncomputable def No:Code:=(Tryz.f99.body.bind λ c=>qw c 5).getD .skip
theorem Np{bq gN:Nat->Prop}{base:Nat}{w0:World}{G:Nat}{F:List (List Int)}{ax:List Int}{n gy jk:Nat}{aG:an}{jm:Option Addr}{gX jo aT aX:Nat}{K:Nat->Prop}{W:World}{hs:Nat->aq}{cb:Nat->Nat}{s:an}{aQ iS kW:Nat}{oO:List Int}{left next g0:Int}{g:Nat}{gx gz gQ gG gp dm gr gC u16 dn dr dw gd dx dy dz dA dB dD dF dG cr ct cu u32 cv cw cz cA cB cC cD cE cF cG cH dH dI gM gK gL bu bw bx bz bA bB bC bD bE bK bL bM bN bO bP u64 bQ bR bS bT bU bV bW bX bY bZ b5 b6 b7 b8 b9 cc cg ck cm cn cp dJ dK dL dM dN dO dP dQ cI cK cL cM cN cO cQ cR cS cT cU cV cW cZ c7 c8 dc dR dS dU dV dW dX dY dZ ec ee ef ei ej ek en eo ep er eu ew ey ez eA eB eC eD eE eF eG eH gh gi gj eL eM eN eO eP eR eS eT eU eV eW eX gl gm gn eY eZ e3 e4 e5 e6 e7 e8 e9 fc fe ff fh fk fm fo fq fu fA fB fC fD fE fF fG fH fI fJ fK fL fM fN fO fP fQ fR gu gv fS fT fU fV fW fZ ga ir iu iw iy iz iA iB iC iD iE iF iG iX iY iZ ja jb jc jd je jL jM jN jO jP jQ:Value}{Q:Exit->Act->World->Prop}
  (C:sE bq gN w0 F ax n gy jk aG jm gX jo aX) (O:AD bq gN base w0 G F ax n gy jk aG aT aX K cb aQ kW oO hs s next W g)
  (P:∀(hs:Nat->aq)(s':an)(next:Int)(g:Nat)(gx gz gQ gG gp dm gr gC u16 dn dr dw gd dx dy dz dA dB dD dF dG cr ct cu u32 cv cw cz cA cB cC cD cE cF cG cH dH dI gM gK gL bu bw bx bz bA bB bC bD bE bK bL bM bN bO bP u64 bQ bR bS bT bU bV bW bX bY bZ b5 b6 b7 b8 b9 cc cg ck cm cn cp dJ dK dL dM dN dO dP dQ cI cK cL cM cN cO cQ cR cS cT cU cV cW cZ c7 c8 dc dR dS dU dV dW dX dY dZ ec ee ef ei ej ek en eo ep er eu ew ey ez eA eB eC eD eE eF eG eH gh gi gj eL eM eN eO eP eR eS eT eU eV eW eX gl gm gn eY eZ e3 e4 e5 e6 e7 e8 e9 fc fe ff fh fk fm fo fq fu fA fB fC fD fE fF fG fH fI fJ fK fL fM fN fO fP fQ fR gu gv fS fT fU fV fW fZ ga ir iu iw iy iz iA iB iC iD iE iF iG iX iY iZ ja jb jc jd je jL jM jN jO jP jQ:Value)(W':World),AD bq gN base w0 G F ax n gy jk aG aT aX K cb aQ kW oO hs s' next W' g->(next=0->s'.ord.length=0)->Q (.exit 5) {tmps:= #[.pointer (some ⟨G,0,none⟩),.slice jm gX jo,.int .i64 (aX:Int),gx,gz,gQ,.pointer (some ⟨aT,0,none⟩),.int .i64 (iS:Int),.int .i64 left,.int .i64 2000,gG,gp,dm,.int .i64 next,gr,gC,u16,dn,dr,dw,gd,dx,dy,dz,dA,dB,dD,dF,dG,cr,ct,cu,u32,cv,cw,cz,cA,cB,cC,cD,cE,cF,cG,cH,dH,dI,gM,gK,gL,bu,bw,bx,bz,bA,bB,bC,bD,bE,bK,bL,bM,bN,bO,bP,u64,bQ,bR,bS,bT,bU,bV,bW,bX,bY,bZ,b5,b6,b7,b8,b9,cc,cg,ck,cm,cn,cp,dJ,dK,dL,dM,dN,dO,dP,dQ,cI,cK,cL,cM,cN,cO,cQ,cR,cS,cT,cU,cV,cW,cZ,c7,c8,dc,dR,dS,dU,dV,dW,dX,dY,dZ,ec,ee,ef,ei,ej,ek,en,eo,ep,er,eu,ew,ey,ez,eA,eB,eC,eD,eE,eF,eG,eH,gh,gi,gj,eL,eM,eN,eO,eP,eR,eS,eT,eU,eV,eW,eX,gl,gm,gn,eY,eZ,e3,e4,e5,e6,e7,e8,e9,fc,fe,ff,fh,fk,fm,fo,fq,fu,fA,fB,fC,fD,fE,fF,fG,fH,fI,fJ,fK,fL,fM,fN,fO,fP,fQ,fR,gu,gv,fS,fT,fU,fV,fW,fZ,ga,ir,iu,iw,iy,iz,iA,iB,iC,iD,iE,iF,iG,iX,iY,iZ,ja,jb,jc,jd,je,jL,jM,jN,jO,jP,jQ],defers:=[]} W'):
  c_ y_ No Q {tmps:= #[.pointer (some ⟨G,0,none⟩),.slice jm gX jo,.int .i64 (aX:Int),gx,gz,gQ,.pointer (some ⟨aT,0,none⟩),.int .i64 (iS:Int),.int .i64 left,.int .i64 2000,gG,gp,dm,.int .i64 next,gr,gC,u16,dn,dr,dw,gd,dx,dy,dz,dA,dB,dD,dF,dG,cr,ct,cu,u32,cv,cw,cz,cA,cB,cC,cD,cE,cF,cG,cH,dH,dI,gM,gK,gL,bu,bw,bx,bz,bA,bB,bC,bD,bE,bK,bL,bM,bN,bO,bP,u64,bQ,bR,bS,bT,bU,bV,bW,bX,bY,bZ,b5,b6,b7,b8,b9,cc,cg,ck,cm,cn,cp,dJ,dK,dL,dM,dN,dO,dP,dQ,cI,cK,cL,cM,cN,cO,cQ,cR,cS,cT,cU,cV,cW,cZ,c7,c8,dc,dR,dS,dU,dV,dW,dX,dY,dZ,ec,ee,ef,ei,ej,ek,en,eo,ep,er,eu,ew,ey,ez,eA,eB,eC,eD,eE,eF,eG,eH,gh,gi,gj,eL,eM,eN,eO,eP,eR,eS,eT,eU,eV,eW,eX,gl,gm,gn,eY,eZ,e3,e4,e5,e6,e7,e8,e9,fc,fe,ff,fh,fk,fm,fo,fq,fu,fA,fB,fC,fD,fE,fF,fG,fH,fI,fJ,fK,fL,fM,fN,fO,fP,fQ,fR,gu,gv,fS,fT,fU,fV,fW,fZ,ga,ir,iu,iw,iy,iz,iA,iB,iC,iD,iE,iF,iG,iX,iY,iZ,ja,jb,jc,jd,je,jL,jM,jN,jO,jP,jQ],defers:=[]} W:=by
 have R:=U P;have z:=U C;clear P C
 conv=>arg 2;whnf
 dsimp only;refine h_ (xy bq gN base w0 G F ax n gy jk aG jm gX jo aT aX K cb aQ iS left kW oO) g ?start ?round
 case start=>exact xy.mk O
 case round=>
  clear O W hs s next g
  intro g a W S a6 a7 V Y;refine S.elim ?_;intro hs s next gx gz gQ gG gp dm gr gC u16 dn dr dw gd dx dy dz dA dB dD dF dG cr ct cu u32 cv cw cz cA cB cC cD cE cF cG cH dH dI gM gK gL bu bw bx bz bA bB bC bD bE bK bL bM bN bO bP u64 bQ bR bS bT bU bV bW bX bY bZ b5 b6 b7 b8 b9 cc cg ck cm cn cp dJ dK dL dM dN dO dP dQ cI cK cL cM cN cO cQ cR cS cT cU cV cW cZ c7 c8 dc dR dS dU dV dW dX dY dZ ec ee ef ei ej ek en eo ep er eu ew ey ez eA eB eC eD eE eF eG eH gh gi gj eL eM eN eO eP eR eS eT eU eV eW eX gl gm gn eY eZ e3 e4 e5 e6 e7 e8 e9 fc fe ff fh fk fm fo fq fu fA fB fC fD fE fF fG fH fI fJ fK fL fM fN fO fP fQ fR gu gv fS fT fU fV fW fZ ga ir iu iw iy iz iA iB iC iD iE iF iG iX iY iZ ja jb jc jd je jL jM jN jO jP jQ aF H
  clear S;subst aF;have j:=U H;have B:=U V;have D:=U Y;obtain⟨aH,n7,aJ,E⟩:∃A n c,hs 7=⟨A,n,c⟩:=⟨_,_,_,rfl⟩
  have aK:W.cell? ⟨G,10,none⟩=some (.slice aH n7 aJ):=by have:=H.gA.e.kA (k:=10) (v:=(hs 7).v) rfl;rw[E] at this;exact this
  have Z:n7=s.ord.length:=by have:=H.gA.e.n7;rw[E] at this;exact this
  have aa:=U Z;clear E Z V Y
  by_cases I:next=0
  ·subst I;have b:=U (H.no rfl);clear H;have a8:=U (b.o.1.ov z.o)
   by_cases l:0<n7
   ·have J:(0:Int)<(n7:Int):=by omega
    have d7:decide ((0:Int)<(n7:Int))=true:=decide_eq_true J;have L:=b.o.1.jX.rg.gV;have aL:=z.o.n10;have ab:=U (KG b.o.1.gA (by rw[L];exact b.o.1.jX.rg.lJ) (by rw[L];exact b.o.1.jX.rg.kM) (by omega) (by rw[<-aa.o];exact l) (by have h1:=mb.len b.o.1.jX.rg.lJ;omega));have ad:=U l;clear l L aL
    go_upto_region 37 with(go_at_call 155;refine ab.o.mono ?_;rintro e w1 ⟨v,i,s1,rfl,aM,ae,af,aN,f,ag,q,ah,aj⟩;dsimp only)
    obtain⟨o,p,rfl⟩:=aN;have T:=b.o.1.jX.gH.au;have ak:v<=n:=by rw[<-b.o.1.jX.rg.gV];exact af
    have q:mb n o p:=by rw[<-b.o.1.jX.rg.gV];exact q
    have f:aP K base w1 G i cb {s with ord:=o,pl:=p}:=f;have al:v<s.c.val.length:=by rw[T.rP];omega
    obtain⟨ao,ar,av,aO⟩:=f.e.lN 2 1 rfl f.e.jT (by show s.c.val.length≠0;omega);have M:=f.e.z7 ar (k:=v) al;replace av:w1.cell? ⟨G,2,none⟩=some (.slice (some ⟨ao,0,none⟩) s.c.val.length (i 1).c):=av;replace M:w1.cell? ⟨ao,v,none⟩=some (.int .i8 (ai s.c.val v)):=M;have a':(v:Int)<(s.c.val.length:Int):=by omega
    have aR:s.bH.length=n+1:=b.o.1.jX.rg.nE;obtain⟨aw,ay,az,aS⟩:=f.e.lN 12 9 rfl f.e.jI (by show s.bH.length≠0;omega);have r:=f.e.FV ay (k:=v) (by show v<s.bH.length;omega);replace az:w1.cell? ⟨G,12,none⟩=some (.slice (some ⟨aw,0,none⟩) s.bH.length (i 9).c):=az;replace r:w1.cell? ⟨aw,v,none⟩=some (.bool (jr s.bH v)):=r;have ba:(v:Int)<(s.bH.length:Int):=by omega
    have wn:e_.wrap (-(v:Int))= -(v:Int):=by rw[j_];have:=z.o.n10;omega
    have X:=U (z_ ae (z_ ak (z_ q (z_ f (z_ ag (z_ ah aj))))));clear aM ae af f ag q ah aj ak al ar aO ay aS aR T ab aK;obtain⟨y,N⟩:∃y,ai s.c.val v=y:=⟨_,rfl⟩
    rw[N] at M;have aA:=U N;clear N
    by_cases t:y=0
    ·subst t;have aB:bF (∀x:Int,x=v\/x= -(v:Int)->Eb bq gN base w0 G F ax n gy jk aG aT aX K cb aQ kW oO i {s with ord:=o,pl:=p} x w1):=U (λ x bb=>by
      have h1:=X.o.1;have w:aI x=v:=by unfold aI;omega
      have aC:gF n x:=⟨by rw[w];exact h1,by rw[w];exact X.o.2.1⟩
      refine⟨⟨W,hs,s,b.o.1,X.o.2.2.2.2.1,rfl⟩,X.o.2.2.2.1,b.o.2.1,b.o.2.2.1,b.o.2.2.2.1,b.o.2.2.2.2.1,X.o.2.2.1,λ u d m aU aD=>?_,aC.oH,aC,?_,λ h=>absurd h (Nat.not_lt.2 b.o.2.2.2.2.2)⟩
      ·rw[w] at aD;exact(X.o.2.2.2.2.2.2 u aD).2 (b.o.1.jX.un u d m aU)
      ·show jY s.c x=0;unfold jY;rw[w,aA.o];split<;>rfl)
     cases aE:jr s.bH v with
     |true=>
      rw[aE] at r
      go_wp2_with fail
      refine D.o _ _ (s_ o.length ?_ (B.o _ _ _ (xy.mk (hs:=i) (s:={s with ord:=o,pl:=p}) (next:=(v:Int)) ⟨λ e=>?_,λ _=>aB.o _ (.inl rfl),X.o.2.2.2.1,?_⟩)))
      ·have h1:=j.o.g;have d:=X.o.2.2.2.2.2.1;rw[if_pos rfl] at h1;have d:o.length+1=s.ord.length:=d;omega
      ·exact absurd e (by have:=X.o.1;omega)
      ·rw[if_neg (by have:=X.o.1;omega)];rfl
     |false=>
      rw[aE] at r
      go_wp2_with fail
      refine D.o _ _ (s_ o.length ?_ (B.o _ _ _ (xy.mk (hs:=i) (s:={s with ord:=o,pl:=p}) (next:= -(v:Int)) ⟨λ e=>?_,λ _=>aB.o _ (.inr rfl),X.o.2.2.2.1,?_⟩)))
      ·have h1:=j.o.g;have d:=X.o.2.2.2.2.2.1;rw[if_pos rfl] at h1;have d:o.length+1=s.ord.length:=d;omega
      ·exact absurd e (by have:=X.o.1;omega)
      ·rw[if_neg (by have:=X.o.1;omega)];rfl
    ·have bc:(y==0)=false:=by simpa using t
     have aV:=U t;clear t
     go_wp2_with fail
     have aW:=b.o.1.jX.ord X.o.2.2.1 (λ u h1 d m=>(X.o.2.2.2.2.2.2 u (λ e=>by subst e;rw[aA.o] at m;exact aV.o m)).2 (b.o.1.jX.un u h1 d m));have aY:=b.o.1.move X.o.2.2.2.1 X.o.2.2.2.2.1 aW rfl rfl rfl;refine D.o _ _ (s_ (o.length+1) ?_ (B.o _ _ _ (xy.mk (hs:=i) (s:={s with ord:=o,pl:=p}) (next:=0) ⟨λ _=>⟨aY,b.o.2⟩,λ e=>absurd rfl e,X.o.2.2.2.1,?_⟩)))
     ·have h1:=j.o.g;have d:=X.o.2.2.2.2.2.1;rw[if_pos rfl] at h1;have d:o.length+1=s.ord.length:=d;omega
     ·rw[if_pos rfl]
   ·have J:¬(0:Int)<(n7:Int):=by omega
    have d7:decide ((0:Int)<(n7:Int))=false:=decide_eq_false J;have ad:=U l;clear l
    go_wp2_with fail
    apply R.o hs s 0 g
    ·exact j.o
    ·intro _;rw[<-aa.o];have:=ad.o;omega
  ·have bd:decide (next=0)=false:=decide_eq_false I;have aZ:=U I;clear H
   go_wp2_with fail
   apply R.o hs s next g
   ·exact j.o
   ·exact λ h=>absurd h aZ.o
theorem xz{C:World}(h:A.grownBy B row)(k:B.grownBy C row):A.grownBy C row:=
 ⟨k.os.trans h.os,k.tape.trans h.tape,k.output.trans h.output,Zv h.size k.size,λ i b c=>(k.block i (l_ b h.size) c).trans (h.block i b c)⟩
theorem Ec(h:A.grownBy B row):A.grownBy B.drew row:=⟨h.os,h.tape,h.output,h.size,h.block⟩
structure vJ(K:Nat->Prop)(base:Nat)(W:World)(G:Nat)(hs:Nat->aq)(cb:Nat->Nat)(s:an)(aT aQ n g:Nat)(gq:List Bool):Prop where
 gA:aP (qN K g) base W G hs cb s
 lH:aM W aT 30 [.int .i64 1,.slice (some ⟨g,0,none⟩) (n+1) (n+1),mW,.int .i64 (aQ:Int)]
 row:W.ownsRow g 4 1 (.slice (some ⟨g,0,none⟩) (n+1) (n+1)) (n+1) (nR gq)
 ne:g≠aT
theorem vJ.set{K:Nat->Prop}{base:Nat}{W:World}{G:Nat}{hs:Nat->aq}{cb:Nat->Nat}{s:an}{aT aQ n g:Nat}{gq:List Bool}(h:vJ K base W G hs cb s aT aQ n g gq)(k:Nat)(b:Bool):vJ K base (W.setCell ⟨g,k,none⟩ (.bool b)) G hs cb s aT aQ n g (gq.set k b):=
 ⟨h.gA.vh (.inr rfl) k _,h.lH.kept (kK W g k _) (λ e=>h.ne (by injection e with e;exact e.symm)),by unfold nR;rw[List.map_set];exact C0 h.row _,h.ne⟩
theorem vJ.drew{K:Nat->Prop}{base:Nat}{W:World}{G:Nat}{hs:Nat->aq}{cb:Nat->Nat}{s:an}{aT aQ n g:Nat}{gq:List Bool}(h:vJ K base W G hs cb s aT aQ n g gq):vJ K base W.drew G hs cb s aT aQ n g gq:=
 ⟨h.gA.drew,h.lH,lU h.row ((p_ _ W).drew),h.ne⟩
structure Hz(K:Nat->Prop)(base:Nat)(V W:World)(G:Nat)(hs:Nat->aq)(cb:Nat->Nat)(s:an)(aT aQ n g k:Nat):Prop where
 st:∃gq:List Bool,vJ K base W G hs cb s aT aQ n g gq/\gq.length=n+1/\∀j,j<k->jr gq j=decide (0<ai s.c.val j)
 ny:V.grownBy W (some g)
 vS:k<=n+1
inductive zm(K:Nat->Prop)(base:Nat)(V:World)(G:Nat)(hs:Nat->aq)(cb:Nat->Nat)(s:an)(jm:Option Addr)(gX jo aT aX aQ iS:Nat)(left:Int)(n g:Nat):Nat->Act->World->Prop
 |mk {k:Nat} {gx gz gQ gG gp dm gP gr gC u16 dn dr dw gd dx dy dz dA dB dD dF dG cr ct cu u32 cv cw cz cA cB cC cD cE cF cG cH dH dI gM gK gL bu bw bx bz bA bB bC bD bE bK bL bM bN bO bP u64 bQ bR bS bT bU bV bW bX bY bZ b5 b6 b7 b8 b9 cc cg ck cm cn cp dJ dK dL dM dN dO dP dQ cI cK cL cM cN cO cQ cR cS cT cU cV cW cZ c7 c8 dc dR dS dU dV dW dX dY dZ ec ee ef ei ej ek en eo ep er eu ew ey ez eA eB eC eD eE eF eG eH gh gi gj eL eM eN eO eP eR eS eT eU eV eW eX gl gm gn eY eZ e3 e4 e5 e6 e7 e8 e9 fc fe ff fh fk fm fo fq fu fA fB fC fD fE fF fG fH fI fJ fK fL fM fN fO fP fQ fR fS fT fU fV fW fZ ga ir iu iw iy iz iA iB iC iD iE iF iG iX iY iZ ja jb jc jd je jL jM jN jO jP jQ:Value} {W:World} (h:Hz K base V W G hs cb s aT aQ n g k):zm K base V G hs cb s jm gX jo aT aX aQ iS left n g (n+1-k) {tmps:= #[.pointer (some ⟨G,0,none⟩),.slice jm gX jo,.int .i64 (aX:Int),gx,gz,gQ,.pointer (some ⟨aT,0,none⟩),.int .i64 (iS:Int),.int .i64 left,.int .i64 2000,gG,gp,dm,gP,gr,gC,u16,dn,dr,dw,gd,dx,dy,dz,dA,dB,dD,dF,dG,cr,ct,cu,u32,cv,cw,cz,cA,cB,cC,cD,cE,cF,cG,cH,dH,dI,gM,gK,gL,bu,bw,bx,bz,bA,bB,bC,bD,bE,bK,bL,bM,bN,bO,bP,u64,bQ,bR,bS,bT,bU,bV,bW,bX,bY,bZ,b5,b6,b7,b8,b9,cc,cg,ck,cm,cn,cp,dJ,dK,dL,dM,dN,dO,dP,dQ,cI,cK,cL,cM,cN,cO,cQ,cR,cS,cT,cU,cV,cW,cZ,c7,c8,dc,dR,dS,dU,dV,dW,dX,dY,dZ,ec,ee,ef,ei,ej,ek,en,eo,ep,er,eu,ew,ey,ez,eA,eB,eC,eD,eE,eF,eG,eH,gh,gi,gj,eL,eM,eN,eO,eP,eR,eS,eT,eU,eV,eW,eX,gl,gm,gn,eY,eZ,e3,e4,e5,e6,e7,e8,e9,fc,fe,ff,fh,fk,fm,fo,fq,fu,fA,fB,fC,fD,fE,fF,fG,fH,fI,fJ,fK,fL,fM,fN,fO,fP,fQ,fR,.int .i64 ((n:Int)+1),.int .i64 (k:Int),fS,fT,fU,fV,fW,fZ,ga,ir,iu,iw,iy,iz,iA,iB,iC,iD,iE,iF,iG,iX,iY,iZ,ja,jb,jc,jd,je,jL,jM,jN,jO,jP,jQ],defers:=[]} W
theorem zm.elim{V:World}(b:zm K base V G hs cb s jm gX jo aT aX aQ iS left n g m a W){P:Prop}
  (k:∀{k:Nat}{c d e f i j l o p u16 q r t u v w y z A B C D E F H u32 I J L M N O Q R S T U X Y Z aa ab ad ae af ag ah ai aj ak al ao ar au av aw ax u64 ay az aA aB aC aD aE aF aG aH aI aJ aK aL aM aN aO aP aR aS aU aV aW aY aZ a6 a7 a8 a' ba bb bc bd bf bg bh bj bk bl bn bo bp bq br bs bt bu bw bx bz bA bB bC bD bE bF bG bH bI bJ bK bL bM bN bO bP bQ bR bS bT bU bV bW bX bY bZ b0 b1 b2 b3 b4 b5 b6 b7 b8 b9 b' ca cc cd cf cg ch cj ck cm cn cp cq cr ct cu cv cw cx cy cz cA cB cC cD cE cF cG cH cI cJ cK cL cM cN cO cP cQ cR cS cT cU cV cW cX cY cZ c7 c8 da db dc dd de df dh di dj dk dm dn dp dq dr dt du dv dw dx dy dz dA dB dC dD dE dF:Value},a={tmps:= #[.pointer (some ⟨G,0,none⟩),.slice jm gX jo,.int .i64 (aX:Int),c,d,e,.pointer (some ⟨aT,0,none⟩),.int .i64 (iS:Int),.int .i64 left,.int .i64 2000,f,i,j,l,o,p,u16,q,r,t,u,v,w,y,z,A,B,C,D,E,F,H,u32,I,J,L,M,N,O,Q,R,S,T,U,X,Y,Z,aa,ab,ad,ae,af,ag,ah,ai,aj,ak,al,ao,ar,au,av,aw,ax,u64,ay,az,aA,aB,aC,aD,aE,aF,aG,aH,aI,aJ,aK,aL,aM,aN,aO,aP,aR,aS,aU,aV,aW,aY,aZ,a6,a7,a8,a',ba,bb,bc,bd,bf,bg,bh,bj,bk,bl,bn,bo,bp,bq,br,bs,bt,bu,bw,bx,bz,bA,bB,bC,bD,bE,bF,bG,bH,bI,bJ,bK,bL,bM,bN,bO,bP,bQ,bR,bS,bT,bU,bV,bW,bX,bY,bZ,b0,b1,b2,b3,b4,b5,b6,b7,b8,b9,b',ca,cc,cd,cf,cg,ch,cj,ck,cm,cn,cp,cq,cr,ct,cu,cv,cw,cx,cy,cz,cA,cB,cC,cD,cE,cF,cG,cH,cI,cJ,cK,cL,cM,cN,cO,cP,cQ,cR,cS,cT,cU,cV,cW,.int .i64 ((n:Int)+1),.int .i64 (k:Int),cX,cY,cZ,c7,c8,da,db,dc,dd,de,df,dh,di,dj,dk,dm,dn,dp,dq,dr,dt,du,dv,dw,dx,dy,dz,dA,dB,dC,dD,dE,dF],defers:=[]}->m=n+1-k->Hz K base V W G hs cb s aT aQ n g k->P):P:=by
 cases b with
 |mk h=>exact k rfl rfl h
noncomputable def HA:Code:=DS (nw (nw (nw (nw (nw Cf)))))
noncomputable def Nq:Code:=nw (BV (nw HA))
theorem Nr{K:Nat->Prop}{base:Nat}{V:World}{G:Nat}{hs:Nat->aq}{cb:Nat->Nat}{s:an}{jm:Option Addr}{gX jo aT aX aQ iS:Nat}{left:Int}{n g:Nat}{Cj:List Bool}{gx gz gQ gG gp dm gP gr gC u16 dn dr dw gd dx dy dz dA dB dD dF dG cr ct cu u32 cv cw cz cA cB cC cD cE cF cG cH dH dI gM gK gL bu bw bx bz bA bB bC bD bE bK bL bM bN bO bP u64 bQ bR bS bT bU bV bW bX bY bZ b5 b6 b7 b8 b9 cc cg ck cm cn cp dJ dK dL dM dN dO dP dQ cI cK cL cM cN cO cQ cR cS cT cU cV cW cZ c7 c8 dc dR dS dU dV dW dX dY dZ ec ee ef ei ej ek en eo ep er eu ew ey ez eA eB eC eD eE eF eG eH gh gi gj eL eM eN eO eP eR eS eT eU eV eW eX gl gm gn eY eZ e3 e4 e5 e6 e7 e8 e9 fc fe ff fh fk fm fo fq fu fA fB fC fD fE fF fG fH fI fJ fK fL fM fN fO fP fQ fR gu gv fS fT fU fV fW fZ ga ir iu iw iy iz iA iB iC iD iE iF iG iX iY iZ ja jb jc jd je jL jM jN jO jP jQ:Value}{Q:Exit->Act->World->Prop}
  (p:vJ K base V G hs cb s aT aQ n g Cj) (v:Cj.length=n+1) (ak:n<=10) (al:s.c.val.length=n+1)
  (w:∀(d:List Bool)(gx gz gQ gG gp dm gP gr gC u16 dn dr dw gd dx dy dz dA dB dD dF dG cr ct cu u32 cv cw cz cA cB cC cD cE cF cG cH dH dI gM gK gL bu bw bx bz bA bB bC bD bE bK bL bM bN bO bP u64 bQ bR bS bT bU bV bW bX bY bZ b5 b6 b7 b8 b9 cc cg ck cm cn cp dJ dK dL dM dN dO dP dQ cI cK cL cM cN cO cQ cR cS cT cU cV cW cZ c7 c8 dc dR dS dU dV dW dX dY dZ ec ee ef ei ej ek en eo ep er eu ew ey ez eA eB eC eD eE eF eG eH gh gi gj eL eM eN eO eP eR eS eT eU eV eW eX gl gm gn eY eZ e3 e4 e5 e6 e7 e8 e9 fc fe ff fh fk fm fo fq fu fA fB fC fD fE fF fG fH fI fJ fK fL fM fN fO fP fQ fR gu gv fS fT fU fV fW fZ ga ir iu iw iy iz iA iB iC iD iE iF iG iX iY iZ ja jb jc jd je jL jM jN jO jP jQ:Value)(W':World),vJ K base W' G hs cb s aT aQ n g d->d.length=n+1->(∀j,j<n+1->jr d j=decide (0<ai s.c.val j))->V.grownBy W' (some g)->Q .ret {tmps:= #[.pointer (some ⟨G,0,none⟩),.slice jm gX jo,.int .i64 (aX:Int),gx,gz,gQ,.pointer (some ⟨aT,0,none⟩),.int .i64 (iS:Int),.int .i64 left,.int .i64 2000,gG,gp,dm,gP,gr,gC,u16,dn,dr,dw,gd,dx,dy,dz,dA,dB,dD,dF,dG,cr,ct,cu,u32,cv,cw,cz,cA,cB,cC,cD,cE,cF,cG,cH,dH,dI,gM,gK,gL,bu,bw,bx,bz,bA,bB,bC,bD,bE,bK,bL,bM,bN,bO,bP,u64,bQ,bR,bS,bT,bU,bV,bW,bX,bY,bZ,b5,b6,b7,b8,b9,cc,cg,ck,cm,cn,cp,dJ,dK,dL,dM,dN,dO,dP,dQ,cI,cK,cL,cM,cN,cO,cQ,cR,cS,cT,cU,cV,cW,cZ,c7,c8,dc,dR,dS,dU,dV,dW,dX,dY,dZ,ec,ee,ef,ei,ej,ek,en,eo,ep,er,eu,ew,ey,ez,eA,eB,eC,eD,eE,eF,eG,eH,gh,gi,gj,eL,eM,eN,eO,eP,eR,eS,eT,eU,eV,eW,eX,gl,gm,gn,eY,eZ,e3,e4,e5,e6,e7,e8,e9,fc,fe,ff,fh,fk,fm,fo,fq,fu,fA,fB,fC,fD,fE,fF,fG,fH,fI,fJ,fK,fL,fM,fN,fO,fP,fQ,fR,gu,gv,fS,fT,fU,fV,fW,fZ,ga,ir,iu,iw,iy,iz,iA,iB,iC,iD,iE,iF,iG,iX,iY,iZ,ja,jb,jc,jd,je,jL,jM,jN,jO,jP,jQ],defers:=[]} (((((W'.setCell ⟨aT,0,none⟩ (.int .i64 1)).setCell ⟨aT,1,none⟩ (.slice (some ⟨g,0,none⟩) (n+1) (n+1)))).setCell ⟨aT,2,none⟩ (.slice none 0 0)).setCell ⟨aT,3,none⟩ (.int .i64 (aQ:Int)))):
  c_ y_ Nq Q {tmps:= #[.pointer (some ⟨G,0,none⟩),.slice jm gX jo,.int .i64 (aX:Int),gx,gz,gQ,.pointer (some ⟨aT,0,none⟩),.int .i64 (iS:Int),.int .i64 left,.int .i64 2000,gG,gp,dm,gP,gr,gC,u16,dn,dr,dw,gd,dx,dy,dz,dA,dB,dD,dF,dG,cr,ct,cu,u32,cv,cw,cz,cA,cB,cC,cD,cE,cF,cG,cH,dH,dI,gM,gK,gL,bu,bw,bx,bz,bA,bB,bC,bD,bE,bK,bL,bM,bN,bO,bP,u64,bQ,bR,bS,bT,bU,bV,bW,bX,bY,bZ,b5,b6,b7,b8,b9,cc,cg,ck,cm,cn,cp,dJ,dK,dL,dM,dN,dO,dP,dQ,cI,cK,cL,cM,cN,cO,cQ,cR,cS,cT,cU,cV,cW,cZ,c7,c8,dc,dR,dS,dU,dV,dW,dX,dY,dZ,ec,ee,ef,ei,ej,ek,en,eo,ep,er,eu,ew,ey,ez,eA,eB,eC,eD,eE,eF,eG,eH,gh,gi,gj,eL,eM,eN,eO,eP,eR,eS,eT,eU,eV,eW,eX,gl,gm,gn,eY,eZ,e3,e4,e5,e6,e7,e8,e9,fc,fe,ff,fh,fk,fm,fo,fq,fu,fA,fB,fC,fD,fE,fF,fG,fH,fI,fJ,fK,fL,fM,fN,fO,fP,fQ,fR,gu,gv,fS,fT,fU,fV,fW,fZ,ga,ir,iu,iw,iy,iz,iA,iB,iC,iD,iE,iF,iG,iX,iY,iZ,ja,jb,jc,jd,je,jL,jM,jN,jO,jP,jQ],defers:=[]} V:=by
 have N:=U w;have b:=p.lH.cell 1;simp only[mW,x_,w_] at b;have z:=U p;clear w p
 conv=>arg 2;whnf
 dsimp only
 go_upto_region 44 with fail
 clear b;refine h_ (zm K base V G hs cb s jm gX jo aT aX aQ iS left n g) (n+1-0) ?start ?round
 case start=>exact zm.mk ⟨⟨Cj,z.o,v,λ j O=>by omega⟩,⟨rfl,rfl,rfl,q_ _,λ _ _ _=>rfl⟩,Nat.zero_le _⟩
 case round=>
  clear z v Cj;intro m a W A ao ar B C;refine A.elim ?_;intro k gx gz gQ gG gp dm gP gr gC u16 dn dr dw gd dx dy dz dA dB dD dF dG cr ct cu u32 cv cw cz cA cB cC cD cE cF cG cH dH dI gM gK gL bu bw bx bz bA bB bC bD bE bK bL bM bN bO bP u64 bQ bR bS bT bU bV bW bX bY bZ b5 b6 b7 b8 b9 cc cg ck cm cn cp dJ dK dL dM dN dO dP dQ cI cK cL cM cN cO cQ cR cS cT cU cV cW cZ c7 c8 dc dR dS dU dV dW dX dY dZ ec ee ef ei ej ek en eo ep er eu ew ey ez eA eB eC eD eE eF eG eH gh gi gj eL eM eN eO eP eR eS eT eU eV eW eX gl gm gn eY eZ e3 e4 e5 e6 e7 e8 e9 fc fe ff fh fk fm fo fq fu fA fB fC fD fE fF fG fH fI fJ fK fL fM fN fO fP fQ fR fS fT fU fV fW fZ ga ir iu iw iy iz iA iB iC iD iE iF iG iX iY iZ ja jb jc jd je jL jM jN jO jP jQ P hm H;clear A;subst P;subst hm;obtain⟨⟨d,D,E,F⟩,I,f⟩:=H;have Y:=U D;have X:=U (z_ E (z_ F (z_ I f)));have R:=U B;have S:=U C;clear D E F I f B C
  by_cases q:k<n+1
  ·have r:(k:Int)<(n:Int)+1:=by omega
   have T:decide ((k:Int)<(n:Int)+1)=true:=decide_eq_true r;have b:=Y.o.lH.cell 1;simp only[mW,x_,w_] at b;have J:k<s.c.val.length:=by omega
   obtain⟨i,t,Z,aa⟩:=Y.o.gA.e.lN 2 1 rfl Y.o.gA.e.jT (by omega);have L:=Y.o.gA.e.z7 t (k:=k) J;obtain⟨y,u⟩:∃y,ai s.c.val k=y:=⟨_,rfl⟩
   rw[u] at L;have au:(k:Int)<(s.c.val.length:Int):=by omega
   have M:=Y.o.row.cellAt k (by omega);have av:=Y.o.row.frozenAt k;have ab:=(Y.o.row.lt g rfl).2;have aw:W.cell? ⟨g,k,none⟩=some (.bool (jr d k)):=by
    rw[M];unfold nR;rw[List.getElem?_map,List.getElem?_eq_getElem (by have:=X.o.1;omega),Bq (by have:=X.o.1;omega)];rfl
   have jT:g≠G:=λ e=>Y.o.gA.s.g (by rw[<-e];exact .inr rfl)
   have ax:g≠aT:=Y.o.ne;have ay:g≠i:=λ e=>Y.o.gA.s.row 1 i t (by rw[<-e];exact .inr rfl)
   have l:=U (z_ q u);have az:e_.wrap ((k:Int)+1)=(k:Int)+1:=by rw[j_];omega
   clear q u t aa M J ab
   go_upto_region 46 with fail
   go_region_held3 (λ w'=>w'.cell? ⟨aT,1,none⟩=some (.slice (some ⟨g,0,none⟩) (n+1) (n+1))/\w'.cell? ⟨G,2,none⟩=some (.slice (some ⟨i,0,none⟩) s.c.val.length (hs 1).c)/\w'.cell? ⟨i,k,none⟩=some (.int .i8 y)) (first|exact⟨b,Z,L⟩|go_keep) (fail)
   have ad:=(Y.o.set k (decide (0<y))).drew;have ae:=Ec (xz X.o.2.2.1 (kK W g k (.bool (decide (0<y)))))
   go_wp2_with fail
   refine S.o _ _ (s_ (n+1-(k+1)) (by have:=l.o.1;omega) (R.o _ _ _ (zm.mk (k:=k+1) ⟨⟨_,ad,by rw[List.length_set];exact X.o.1,λ j O=>?_⟩,ae,by have:=l.o.1;omega⟩)));rw[zS]
   by_cases e:k=j
   ·subst e;rw[if_pos ⟨rfl,by have:=X.o.1;have:=l.o.1;omega⟩,l.o.2]
   ·rw[if_neg (λ h=>e h.1)];exact X.o.2.1 j (by omega)
  ·have r:¬(k:Int)<(n:Int)+1:=by omega
   have T:decide ((k:Int)<(n:Int)+1)=false:=decide_eq_false r;have f:k=n+1:=by have:=X.o.2.2.2;omega
   have af:=U f;have ag:=Y.o.lH.cell 0;have b:=Y.o.lH.cell 1;have ah:=Y.o.lH.cell 2;have aj:=Y.o.lH.cell 3;have aA:=Y.o.lH.free 0;have aB:=Y.o.lH.free 1;have aC:=Y.o.lH.free 2;have aD:=Y.o.lH.free 3;simp only[mW,x_,w_] at ag b ah aj;clear q f
   go_wp2_with fail
   apply N.o d
   ·exact Y.o
   ·exact X.o.1
   ·rw[<-af.o];exact X.o.2.1
   ·exact X.o.2.2.1
theorem yf:(y_.info? 4).map (λ i=>(i.zero,i.size,i.bytes))=some (some (.bool false),1,1):=by kernel_rfl
theorem Ns{jm:Option Addr}{gX jo:Nat}(S:mN bq gN base w0 G F ax n gy jk aG aT aX K W hs cb s aQ h)(p:n<=10):
  vJ K base ((((W.setCell ⟨aT,0,none⟩ (.int .i64 1)).setCell ⟨aT,1,none⟩ (.slice (some ⟨W.heap.size,0,none⟩) (n+1) (n+1))).alloc (.cells (madeCells (i_ false).cells (n+1)) 4)).drew) G hs cb s aT aQ n W.heap.size (List.replicate (n+1) false)/\
  aF (λ b=>K b/\b≠aT) W ((((W.setCell ⟨aT,0,none⟩ (.int .i64 1)).setCell ⟨aT,1,none⟩ (.slice (some ⟨W.heap.size,0,none⟩) (n+1) (n+1))).alloc (.cells (madeCells (i_ false).cells (n+1)) 4)).drew):=by
 have g:=(S.gA.vh S.rK 0 (.int .i64 1)).vh S.rK 1 (.slice (some ⟨W.heap.size,0,none⟩) (n+1) (n+1));have j:=(aF.D6 S 0 (.int .i64 1)).trans (aF.set (K:=λ b=>K b/\b≠aT) aT 1 (.slice (some ⟨W.heap.size,0,none⟩) (n+1) (n+1)) (λ c=>c.2 rfl));have k:=(S.lH.set 0 (.int .i64 1)).set 1 (.slice (some ⟨W.heap.size,0,none⟩) (n+1) (n+1));have l:((W.setCell ⟨aT,0,none⟩ (.int .i64 1)).setCell ⟨aT,1,none⟩ (.slice (some ⟨W.heap.size,0,none⟩) (n+1) (n+1))).heap.size=W.heap.size:=by simp
 have q:=S.lH.lt;generalize (W.setCell ⟨aT,0,none⟩ (.int .i64 1)).setCell ⟨aT,1,none⟩ (.slice (some ⟨W.heap.size,0,none⟩) (n+1) (n+1))=f at*;have c:=(bg f (.cells (madeCells (i_ false).cells (n+1)) 4)).drew;have m:((f.alloc (.cells (madeCells (i_ false).cells (n+1)) 4)).drew).ownsRow W.heap.size 4 1 (.slice (some ⟨W.heap.size,0,none⟩) (n+1) (n+1)) (n+1) ((List.replicate (n+1) false).map i_):=by
  rw[<-l];refine⟨by simp,Or.inr ⟨f.heap.size,n+1,_,rfl,q_ _,heap_alloc_new f _,q_ _,by unfold maxLen;omega,by rw[size_madeCells];omega,?_⟩⟩;show(madeCells #[i_ false] (n+1)).toList.take ((n+1)*1)=_;rw[toList_madeCells_one];simp
 have i:=(g.below c)
 refine⟨⟨i.1.qN (by show _<(f.alloc _).heap.size;simp;omega) (by have:=g.e.box.lt;omega) (λ r e=>by have:=(g.e.rows.lt e).2;omega) (λ d o e=>by have:=(g.e.cls d o).lt;omega),k.below c,m,by omega⟩,j.trans (i.2.mono λ b c=>c.1)⟩
theorem Nt
  (C:sE bq gN w0 F ax n gy jk aG jm gX jo aX) (S:next=0->mN bq gN base w0 G F ax n gy jk aG aT aX K W hs cb s aQ s.c.ag/\s.c.ag=s.c.av.length/\s.c.lC=false/\ax.length<=s.c.st.length/\s.ord.length=0)
  (p:∀(gx gz gQ gG gp dm gr gC u16 dn dr dw gd dx dy dz dA dB dD dF dG cr ct cu u32 cv cw cz cA cB cC cD cE cF cG cH dH dI gM gK gL bu bw bx bz bA bB bC bD bE bK bL bM bN bO bP u64 bQ bR bS bT bU bV bW bX bY bZ b5 b6 b7 b8 b9 cc cg ck cm cn cp dJ dK dL dM dN dO dP dQ cI cK cL cM cN cO cQ cR cS cT cU cV cW cZ c7 c8 dc dR dS dU dV dW dX dY dZ ec ee ef ei ej ek en eo ep er eu ew ey ez eA eB eC eD eE eF eG eH gh gi gj eL eM eN eO eP eR eS eT eU eV eW eX gl gm gn eY eZ e3 e4 e5 e6 e7 e8 e9 fc fe ff fh fk fm fo fq fu fA fB fC fD fE fF fG fH fI fJ fK fL fM fN fO fP fQ fR gu gv fS fT fU fV fW fZ ga ir iu iw iy iz iA iB iC iD iE iF iG iX iY iZ ja jb jc jd je jL jM jN jO jP jQ:Value),next≠0->Q .normal {tmps:= #[.pointer (some ⟨G,0,none⟩),.slice jm gX jo,.int .i64 (aX:Int),gx,gz,gQ,.pointer (some ⟨aT,0,none⟩),.int .i64 (iS:Int),.int .i64 left,.int .i64 2000,gG,gp,dm,.int .i64 next,gr,gC,u16,dn,dr,dw,gd,dx,dy,dz,dA,dB,dD,dF,dG,cr,ct,cu,u32,cv,cw,cz,cA,cB,cC,cD,cE,cF,cG,cH,dH,dI,gM,gK,gL,bu,bw,bx,bz,bA,bB,bC,bD,bE,bK,bL,bM,bN,bO,bP,u64,bQ,bR,bS,bT,bU,bV,bW,bX,bY,bZ,b5,b6,b7,b8,b9,cc,cg,ck,cm,cn,cp,dJ,dK,dL,dM,dN,dO,dP,dQ,cI,cK,cL,cM,cN,cO,cQ,cR,cS,cT,cU,cV,cW,cZ,c7,c8,dc,dR,dS,dU,dV,dW,dX,dY,dZ,ec,ee,ef,ei,ej,ek,en,eo,ep,er,eu,ew,ey,ez,eA,eB,eC,eD,eE,eF,eG,eH,gh,gi,gj,eL,eM,eN,eO,eP,eR,eS,eT,eU,eV,eW,eX,gl,gm,gn,eY,eZ,e3,e4,e5,e6,e7,e8,e9,fc,fe,ff,fh,fk,fm,fo,fq,fu,fA,fB,fC,fD,fE,fF,fG,fH,fI,fJ,fK,fL,fM,fN,fO,fP,fQ,fR,gu,gv,fS,fT,fU,fV,fW,fZ,ga,ir,iu,iw,iy,iz,iA,iB,iC,iD,iE,iF,iG,iX,iY,iZ,ja,jb,jc,jd,je,jL,jM,jN,jO,jP,jQ],defers:=[]} W)
  (r:∀(K:Nat->Prop)(hs:Nat->aq)(cb:Nat->Nat)(s':an)(h':Nat)(t:Option Addr)(u w:Nat)(gx gz gQ gG gp dm y gr gC u16 dn dr dw gd dx dy dz dA dB dD dF dG cr ct cu u32 cv cw cz cA cB cC cD cE cF cG cH dH dI gM gK gL bu bw bx bz bA bB bC bD bE bK bL bM bN bO bP u64 bQ bR bS bT bU bV bW bX bY bZ b5 b6 b7 b8 b9 cc cg ck cm cn cp dJ dK dL dM dN dO dP dQ cI cK cL cM cN cO cQ cR cS cT cU cV cW cZ c7 c8 dc dR dS dU dV dW dX dY dZ ec ee ef ei ej ek en eo ep er eu ew ey ez eA eB eC eD eE eF eG eH gh gi gj eL eM eN eO eP eR eS eT eU eV eW eX gl gm gn eY eZ e3 e4 e5 e6 e7 e8 e9 fc fe ff fh fk fm fo fq fu fA fB fC fD fE fF fG fH fI fJ fK fL fM fN fO fP fQ fR gu gv fS fT fU fV fW fZ ga ir iu iw iy iz iA iB iC iD iE iF iG iX iY iZ ja jb jc jd je jL jM jN jO jP jQ:Value)(W':World),sF bq gN base w0 G F ax n gy aG aT aX K W' hs cb s' aQ h' 1 t u w none 0 0->aM W' aT 30 [.int .i64 1,.slice t u w,mW,.int .i64 (aQ:Int)]->Q .ret {tmps:= #[.pointer (some ⟨G,0,none⟩),.slice jm gX jo,.int .i64 (aX:Int),gx,gz,gQ,.pointer (some ⟨aT,0,none⟩),.int .i64 (iS:Int),.int .i64 left,.int .i64 2000,gG,gp,dm,y,gr,gC,u16,dn,dr,dw,gd,dx,dy,dz,dA,dB,dD,dF,dG,cr,ct,cu,u32,cv,cw,cz,cA,cB,cC,cD,cE,cF,cG,cH,dH,dI,gM,gK,gL,bu,bw,bx,bz,bA,bB,bC,bD,bE,bK,bL,bM,bN,bO,bP,u64,bQ,bR,bS,bT,bU,bV,bW,bX,bY,bZ,b5,b6,b7,b8,b9,cc,cg,ck,cm,cn,cp,dJ,dK,dL,dM,dN,dO,dP,dQ,cI,cK,cL,cM,cN,cO,cQ,cR,cS,cT,cU,cV,cW,cZ,c7,c8,dc,dR,dS,dU,dV,dW,dX,dY,dZ,ec,ee,ef,ei,ej,ek,en,eo,ep,er,eu,ew,ey,ez,eA,eB,eC,eD,eE,eF,eG,eH,gh,gi,gj,eL,eM,eN,eO,eP,eR,eS,eT,eU,eV,eW,eX,gl,gm,gn,eY,eZ,e3,e4,e5,e6,e7,e8,e9,fc,fe,ff,fh,fk,fm,fo,fq,fu,fA,fB,fC,fD,fE,fF,fG,fH,fI,fJ,fK,fL,fM,fN,fO,fP,fQ,fR,gu,gv,fS,fT,fU,fV,fW,fZ,ga,ir,iu,iw,iy,iz,iA,iB,iC,iD,iE,iF,iG,iX,iY,iZ,ja,jb,jc,jd,je,jL,jM,jN,jO,jP,jQ],defers:=[]} W'):
  c_ y_ HA Q {tmps:= #[.pointer (some ⟨G,0,none⟩),.slice jm gX jo,.int .i64 (aX:Int),gx,gz,gQ,.pointer (some ⟨aT,0,none⟩),.int .i64 (iS:Int),.int .i64 left,.int .i64 2000,gG,gp,dm,.int .i64 next,gr,gC,u16,dn,dr,dw,gd,dx,dy,dz,dA,dB,dD,dF,dG,cr,ct,cu,u32,cv,cw,cz,cA,cB,cC,cD,cE,cF,cG,cH,dH,dI,gM,gK,gL,bu,bw,bx,bz,bA,bB,bC,bD,bE,bK,bL,bM,bN,bO,bP,u64,bQ,bR,bS,bT,bU,bV,bW,bX,bY,bZ,b5,b6,b7,b8,b9,cc,cg,ck,cm,cn,cp,dJ,dK,dL,dM,dN,dO,dP,dQ,cI,cK,cL,cM,cN,cO,cQ,cR,cS,cT,cU,cV,cW,cZ,c7,c8,dc,dR,dS,dU,dV,dW,dX,dY,dZ,ec,ee,ef,ei,ej,ek,en,eo,ep,er,eu,ew,ey,ez,eA,eB,eC,eD,eE,eF,eG,eH,gh,gi,gj,eL,eM,eN,eO,eP,eR,eS,eT,eU,eV,eW,eX,gl,gm,gn,eY,eZ,e3,e4,e5,e6,e7,e8,e9,fc,fe,ff,fh,fk,fm,fo,fq,fu,fA,fB,fC,fD,fE,fF,fG,fH,fI,fJ,fK,fL,fM,fN,fO,fP,fQ,fR,gu,gv,fS,fT,fU,fV,fW,fZ,ga,ir,iu,iw,iy,iz,iA,iB,iC,iD,iE,iF,iG,iX,iY,iZ,ja,jb,jc,jd,je,jL,jM,jN,jO,jP,jQ],defers:=[]} W:=by
 have R:=U p;have T:=U r;have i:=U C;have l:=U S;clear p r C S
 conv=>arg 2;whnf
 dsimp only
 by_cases m:next=0
 ·subst m;have d:=U (l.o rfl);clear l;have c0:W.cell? ⟨G,0,none⟩=some (.int .i64 (n:Int)):=by have:=d.o.1.gA.e.kA (k:=0) (v:=.int .i64 (s.c.n:Int)) rfl;rw[d.o.1.jX.rg.gV] at this;exact this
  have V:=d.o.1.lH.cell 0;have X:=d.o.1.lH.cell 1;have Z:=d.o.1.lH.cell 2;have aa:=d.o.1.lH.cell 3;have az:=d.o.1.lH.free 0;have aA:=d.o.1.lH.free 1;have aB:=d.o.1.lH.free 2;have aC:=d.o.1.lH.free 3;simp only[mW,x_,w_] at V X Z aa;obtain⟨i0,z,A,B,D⟩:=info_parts yf;have aD:=i.o.n10;have ab:∀W:World,(Instr.makeSlice 28 (.int .i64 ((n:Int)+1)) (.int .i64 ((n:Int)+1))).run y_ W=.ok (.slice (some ⟨W.heap.size,0,none⟩) (n+1) (n+1)) (W.alloc (.cells (madeCells (i_ false).cells (n+1)) 4)):=λ W=>by
   have:=run_make (P:=y_) W 28 4 i0 (.bool false) Tryz.underlying28 z A .i64 .i64 ((n:Int)+1) ((n:Int)+1) (by omega) (by omega) (by rw[D];omega) (by omega);rw[B,show((n:Int)+1).toNat=n+1 by omega,Nat.mul_one] at this;exact this
  have wn:e_.wrap ((n:Int)+1)=(n:Int)+1:=by rw[j_];omega
  have aE:=d.o.1.lH.lt;have aH:=d.o.1.gA.e.box.lt;have ad:G≠aT:=λ e=>d.o.1.gA.s.g (by rw[e];exact d.o.1.rK)
  have aI:aT≠G:=λ e=>ad e.symm
  clear z A B D;generalize E:madeCells (i_ false).cells (n+1)=cs at ab;have ae:=U E;clear E
  go_upto_region 42 with fail
  rename_i af H;have ah:=U H;clear H
  go_region_held3 (λ w'=>w'.cell? ⟨G,0,none⟩=some (.int .i64 (n:Int))) (first|exact c0|go_keep) (fail)
  all_goals
   show af _ _;apply ah.o;rw[<-ae.o];obtain⟨ai,I⟩:=Ns (jm:=jm) (gX:=gX) (jo:=jo) d.o.1 i.o.n10;refine Nr ai (by simp) i.o.n10 (by rw[d.o.1.jX.gH.au.rP,d.o.1.jX.rg.gV]) ?_;intro J gx gz gQ gG gp dm y gr gC u16 dn dr dw gd dx dy dz dA dB dD dF dG cr ct cu u32 cv cw cz cA cB cC cD cE cF cG cH dH dI gM gK gL bu bw bx bz bA bB bC bD bE bK bL bM bN bO bP u64 bQ bR bS bT bU bV bW bX bY bZ b5 b6 b7 b8 b9 cc cg ck cm cn cp dJ dK dL dM dN dO dP dQ cI cK cL cM cN cO cQ cR cS cT cU cV cW cZ c7 c8 dc dR dS dU dV dW dX dY dZ ec ee ef ei ej ek en eo ep er eu ew ey ez eA eB eC eD eE eF eG eH gh gi gj eL eM eN eO eP eR eS eT eU eV eW eX gl gm gn eY eZ e3 e4 e5 e6 e7 e8 e9 fc fe ff fh fk fm fo fq fu fA fB fC fD fE fF fG fH fI fJ fK fL fM fN fO fP fQ fR gu gv fS fT fU fV fW fZ ga ir iu iw iy iz iA iB iC iD iE iF iG iX iY iZ ja jb jc jd je jL jM jN jO jP jQ W' Y L aj ak;have M:=d.o.1.jX.rg.gV;have hm:J=wj s:=by
    refine List.ext_getElem (by rw[KH,L,M]) (λ j h1 al=>?_);have N:=aj j (by omega);rw[Bq h1] at N;rw[<-Bq al,Dy s (by rw[M];omega),N]
   have O:aF (λ b=>K b/\b≠aT) W W':=I.trans (aF.grown ak (λ b f=>l_ (d.o.1.gA.s.lt b f.1) I.size) (λ b e f=>by injection e with e;have:=d.o.1.gA.s.lt b f.1;omega));have f0:aF gN W W':=O.mono λ b f=>⟨d.o.1.rJ b f,λ e=>d.o.1.ue (e▸f)⟩
   obtain⟨hF,ao⟩:=d.o.1.jX.yes d.o.2.1 d.o.2.2.1 d.o.2.2.2.2 i.o.lit d.o.2.2.2.1;have ar:sF bq gN base w0 G F ax n gy aG aT aX (qN K W.heap.size) W' hs cb s aQ s.c.ag 1 (some ⟨W.heap.size,0,none⟩) (n+1) (n+1) none 0 0:=by
    refine⟨λ b f=>.inl (d.o.1.rJ b f),Y.gA,d.o.1.iQ.trans f0,d.o.1.jX,.inl d.o.1.rK,d.o.1.ue,d.o.1.xm.kept (f0.mono λ b f=>f.1) rfl rfl,λ q aw=>((d.o.1.xo q aw).iQ (O.mono λ b f=>f.1)).mono λ b f=>⟨⟨.inl f.1.1,f.1.2⟩,f.2⟩,d.o.1.xq,d.o.1.vi,d.o.1.r4,.inl ⟨rfl,rfl,J,kS.lq Y.row (by have:=i.o.n10;omega),λ b e=>?_,L,by rw[hm];exact d.o.1.jX.KI,by rw[hm];exact hF,by rw[hm];exact ao⟩⟩;injection e with e
    have e:W.heap.size=b:=e;subst e;exact⟨⟨.inr rfl,Y.ne⟩,i.o.D4 (d.o.1.iQ.size)⟩
   apply T.o
   ·exact((((ar.set 0 _).set 1 _).set 2 _).set 3 _)
   ·exact(((Y.lH.set 0 _).set 1 _).set 2 _).set 3 _
 ·have aJ:decide (next=0)=false:=decide_eq_false m;have ay:=U m;clear l
  go_wp2_with fail
  apply R.o;exact ay.o
noncomputable def Nu:Code:=nw (nw (nw (nw (nw (nw Cf)))))
theorem Nv
  (C:sE bq gN w0 F ax n gy jk aG jm gX jo aX) (D:Eb bq gN base w0 G F ax n gy jk aG aT aX K cb aQ kW oO hs s next W)
  (B:∀(hs':Nat->aq)(s':an)(gx gz gQ gG gp dm X gr gC u16 dn dr dw gd dx dy dz dA dB dD dF dG cr ct cu u32 cv cw cz cA cB cC cD cE cF cG cH dH dI gM gK gL bu bw bx bz bA bB bC bD bE bK bL bM bN bO bP u64 bQ bR bS bT bU bV bW bX bY bZ b5 b6 b7 b8 b9 cc cg ck cm cn cp dJ dK dL dM dN dO dP dQ cI cK cL cM cN cO cQ cR cS cT cU cV cW cZ c7 c8 dc dR dS dU dV dW dX dY dZ ec ee ef ei ej ek en eo ep er eu ew ey ez eA eB eC eD eE eF eG eH gh gi gj eL eM eN eO eP eR eS eT eU eV eW eX gl gm gn eY eZ e3 e4 e5 e6 e7 e8 e9 fc fe ff fh fk fm fo fq fu fA fB fC fD fE fF fG fH fI fJ fK fL fM fN fO fP fQ fR gu gv fS fT fU fV fW fZ ga ir iu iw iy iz iA iB iC iD iE iF iG iX iY iZ ja jb jc jd je jL jM jN jO jP jQ:Value)(W':World),mN bq gN base w0 G F ax n gy jk aG aT aX K W' hs' cb s' aQ s'.c.ag->s'.aJ.length=kW->s'.c.av.length=oO.length+1->Q .normal {tmps:= #[.pointer (some ⟨G,0,none⟩),.slice jm gX jo,.int .i64 (aX:Int),gx,gz,gQ,.pointer (some ⟨aT,0,none⟩),.int .i64 (iS:Int),.int .i64 left,.int .i64 2000,gG,gp,dm,X,gr,gC,u16,dn,dr,dw,gd,dx,dy,dz,dA,dB,dD,dF,dG,cr,ct,cu,u32,cv,cw,cz,cA,cB,cC,cD,cE,cF,cG,cH,dH,dI,gM,gK,gL,bu,bw,bx,bz,bA,bB,bC,bD,bE,bK,bL,bM,bN,bO,bP,u64,bQ,bR,bS,bT,bU,bV,bW,bX,bY,bZ,b5,b6,b7,b8,b9,cc,cg,ck,cm,cn,cp,dJ,dK,dL,dM,dN,dO,dP,dQ,cI,cK,cL,cM,cN,cO,cQ,cR,cS,cT,cU,cV,cW,cZ,c7,c8,dc,dR,dS,dU,dV,dW,dX,dY,dZ,ec,ee,ef,ei,ej,ek,en,eo,ep,er,eu,ew,ey,ez,eA,eB,eC,eD,eE,eF,eG,eH,gh,gi,gj,eL,eM,eN,eO,eP,eR,eS,eT,eU,eV,eW,eX,gl,gm,gn,eY,eZ,e3,e4,e5,e6,e7,e8,e9,fc,fe,ff,fh,fk,fm,fo,fq,fu,fA,fB,fC,fD,fE,fF,fG,fH,fI,fJ,fK,fL,fM,fN,fO,fP,fQ,fR,gu,gv,fS,fT,fU,fV,fW,fZ,ga,ir,iu,iw,iy,iz,iA,iB,iC,iD,iE,iF,iG,iX,iY,iZ,ja,jb,jc,jd,je,jL,jM,jN,jO,jP,jQ],defers:=[]} W'):
  c_ y_ Nu Q {tmps:= #[.pointer (some ⟨G,0,none⟩),.slice jm gX jo,.int .i64 (aX:Int),gx,gz,gQ,.pointer (some ⟨aT,0,none⟩),.int .i64 (iS:Int),.int .i64 left,.int .i64 2000,gG,gp,dm,.int .i64 next,gr,gC,u16,dn,dr,dw,gd,dx,dy,dz,dA,dB,dD,dF,dG,cr,ct,cu,u32,cv,cw,cz,cA,cB,cC,cD,cE,cF,cG,cH,dH,dI,gM,gK,gL,bu,bw,bx,bz,bA,bB,bC,bD,bE,bK,bL,bM,bN,bO,bP,u64,bQ,bR,bS,bT,bU,bV,bW,bX,bY,bZ,b5,b6,b7,b8,b9,cc,cg,ck,cm,cn,cp,dJ,dK,dL,dM,dN,dO,dP,dQ,cI,cK,cL,cM,cN,cO,cQ,cR,cS,cT,cU,cV,cW,cZ,c7,c8,dc,dR,dS,dU,dV,dW,dX,dY,dZ,ec,ee,ef,ei,ej,ek,en,eo,ep,er,eu,ew,ey,ez,eA,eB,eC,eD,eE,eF,eG,eH,gh,gi,gj,eL,eM,eN,eO,eP,eR,eS,eT,eU,eV,eW,eX,gl,gm,gn,eY,eZ,e3,e4,e5,e6,e7,e8,e9,fc,fe,ff,fh,fk,fm,fo,fq,fu,fA,fB,fC,fD,fE,fF,fG,fH,fI,fJ,fK,fL,fM,fN,fO,fP,fQ,fR,gu,gv,fS,fT,fU,fV,fW,fZ,ga,ir,iu,iw,iy,iz,iA,iB,iC,iD,iE,iF,iG,iX,iY,iZ,ja,jb,jc,jd,je,jL,jM,jN,jO,jP,jQ],defers:=[]} W:=by
 have Y:=U B;have Z:=U C;have d:=U D;obtain⟨aA,aB,s',u,E,he⟩:=D.old;have f:=U (z_ u (z_ E he));have H:=U (u.ov C);clear B C D u E he
 conv=>arg 2;whnf
 dsimp only;have I:s.c=s'.c:=by rw[f.o.2.2]
 obtain⟨j,jZ,c5,m⟩:∃A n c,hs 5=⟨A,n,c⟩:=⟨_,_,_,rfl⟩
 have aa:W.cell? ⟨G,6,none⟩=some (.slice j jZ c5):=by have:=d.o.gA.e.kA (k:=6) (v:=(hs 5).v) rfl;rw[m] at this;exact this
 have J:jZ=s.c.st.length:=by have:=d.o.gA.e.jZ;rw[m] at this;exact this
 obtain⟨L,j8,c4,p⟩:∃A n c,hs 4=⟨A,n,c⟩:=⟨_,_,_,rfl⟩
 have ab:W.cell? ⟨G,5,none⟩=some (.slice L j8 c4):=by have:=d.o.gA.e.kA (k:=5) (v:=(hs 4).v) rfl;rw[p] at this;exact this
 have M:j8=s.c.av.length:=by have:=d.o.gA.e.j8;rw[p] at this;exact this
 have b:=U (z_ I (z_ m (z_ J (z_ p M))));clear I m J p M
 go_upto_region 49 with fail
 have g:=U (d.o.gA.below ((bg W (.cells #[.int .i64 (j8:Int)] 3)).drew));have ad:bF (((W.alloc (.cells #[.int .i64 (j8:Int)] 3)).drew).ownsRow base 3 1 (.slice j jZ c5) jZ ((s.c.st.map λ k:Nat=>(k:Int)).map (f_ .i64))):=U (by
  have h1:=g.o.1.e.rows.row 5;rw[b.o.2.1] at h1;rw[Ci];exact h1)
 have ae:=U (Nat.le_of_lt g.o.1.e.lt);have af:bF (jZ<=1100):=U (by have h1:=H.o;have ah:=b.o.2.2.1;rw[b.o.1] at ah;omega);have ai:bF (∀v9 gb,n9 ((W.alloc (.cells #[.int .i64 (j8:Int)] 3)).drew) base 3 (.slice j jZ c5) (jZ+1) (((s.c.st.map λ k:Nat=>(k:Int))++[(j8:Int)]).map (f_ .i64)) v9 gb->n9 ((W.alloc (.cells #[.int .i64 (j8:Int)] 3)).drew) base 3 (hs 5).v (s.c.st.length+1) (qo (s.c.st++[j8])) v9 gb):=U (λ v9 gb q=>by
  rw[b.o.2.1,<-b.o.2.2.1,<-Ci,List.map_append];exact q)
 have r:=g.o.1.e.kA (k:=6) (v:=(hs 5).v) rfl;have t:=g.o.1.e.kA (k:=5) (v:=(hs 4).v) rfl;rw[b.o.2.1] at r;rw[b.o.2.2.2.1] at t;replace r:((W.alloc (.cells #[.int .i64 (j8:Int)] 3)).drew).cell? ⟨G,6,none⟩=some (.slice j jZ c5):=r;replace t:((W.alloc (.cells #[.int .i64 (j8:Int)] 3)).drew).cell? ⟨G,5,none⟩=some (.slice L j8 c4):=t;rename_i aj N;have ak:=U N;clear N;refine wp_region_noPanic ?_
 go_region_law (refine Fh rfl (.tmp 217) (.tmp 223) rfl base (.slice j jZ c5) jZ (s.c.st.map λ k:Nat=>(k:Int)) rfl ad.o (some ⟨W.heap.size,0,none⟩) 1 1 [(j8:Int)] rfl ((aN.lit W [(j8:Int)] 1 _ rfl rfl (by omega)).drew) (by have:=af.o;omega) ae.o ?_;intro v9 gb q;obtain⟨⟨A',l,c'⟩,al,aC,ao,f9,i,O⟩:=aP.Gi (x:=j8) g.o.1 (ai.o v9 gb q);obtain rfl:v9=.slice A' l c':=al;clear q)
 all_goals
  show aj _ _;apply ak.o;rw[b.o.2.2.2.2] at i;have i:aP K base (gb.setCell ⟨G,6,none⟩ (.slice A' l c')) G (iH hs 5 ⟨A',l,c'⟩) cb {s with c:=nJ s.c}:=i;have i:=U i;have ar:=U (f.o.2.1.trans (g.o.2.trans O));clear O ao f9 r t aa ab;generalize gb.setCell ⟨G,6,none⟩ (.slice A' l c')=V at*;have w:s'.c.ag=s'.c.av.length:=by rw[<-b.o.1];exact d.o.fix
  have y:s'.c.lC=false:=by rw[<-b.o.1];exact d.o.lC
  have P:kf F F s'.c s'.c.av.length []:=by rw[<-w];exact f.o.1.jX.gH
  have R:jU (nJ s.c):=by rw[b.o.1];exact(P.level y).au
  have z:s.c.n=n:=by rw[b.o.1];exact f.o.1.jX.rg.gV
  have aw:=U (BR i.o next none R (by show gF s.c.n next;rw[z];exact d.o.nl) (by show s.c.n<=60000;have:=Z.o.n10;omega) (by show(s.c.st++[s.c.av.length]).length<=1000000;rw[r_,b.o.1];have:=H.o;simp;omega));have S:=U (z_ w (z_ y z));clear w y P R z
  go_wp2_with (go_at_call 156;refine aw.o.mono ?_;rintro e aD ⟨rfl,h',ay,az⟩;dsimp only)
  have mI:=d.o.mI;rw[b.o.1] at mI;have T:=f.o.1.jX.decide (aG:=s) S.o.1 S.o.2.1 d.o.nl (by rw[<-b.o.1];exact d.o.od) (by rw[<-b.o.1];exact d.o.l7) f.o.2.2 d.o.lJ mI;rw[<-b.o.1] at T;apply Y.o (iH (iH hs 5 ⟨A',l,c'⟩) 4 h') {s with c:=k5 (nJ s.c) next none}
  ·refine f.o.1.move ay (ar.o.trans az) ?_ (by rw[f.o.2.2]) (by rw[f.o.2.2]) (by show s.c.cl.length=_;rw[b.o.1]);exact T
  ·exact d.o.aJ
  ·show(s.c.av++[next]).length=_;rw[r_,d.o.av];rfl
theorem Nw{aO:Ending->World->Prop}{v0 v1 v2 v3:Value}(b:a.defers=[])(c:a.tmps.getD 6 undef=.pointer (some ⟨aT,0,none⟩))(d:aM W aT 30 [v0,v1,v2,v3])(h:aO (.returned (.agg #[v0,v1,v2,v3])) W):bodyPost y_ Tryz.f99 aO .ret a W:=
 bodyPost_ret (results_cell_row (p:=6) (ty:=30) rfl a.tmps W aT 30 #[v0,v1,v2,v3] (0,0) _ c d Tryz.underlying30 rfl (by kernel_rfl)) b h
structure Ck(bq gN:Nat->Prop)(base:Nat)(w0:World)(G:Nat)(F:List (List Int))(ax:List Int)(n gy jk:Nat)(aG:an)(aT aX:Nat)(K:Nat->Prop)(hs:Nat->aq)(cb:Nat->Nat)(s:an)(aQ iS:Nat)(left:Int)(W:World)(g:Nat):Prop where
 S:mN bq gN base w0 G F ax n gy jk aG aT aX K W hs cb s aQ s.c.ag
 t1:1<=iS
 t2:iS<=aQ+1
 t3:left<=0->iS<=aQ
 hM: -(aQ:Int)<=left
 jK:left<=3000000
 g:g=(59050-aQ)*1000+(if left<=0 then 100 else 0)+(20-s.c.av.length)
inductive xA(bq gN:Nat->Prop)(base:Nat)(w0:World)(G:Nat)(F:List (List Int))(ax:List Int)(n gy jk:Nat)(aG:an)(jm:Option Addr)(gX jo aT aX:Nat):Nat->Act->World->Prop
 |mk {K:Nat->Prop} {hs:Nat->aq} {cb:Nat->Nat} {s:an} {aQ iS:Nat} {left:Int} {g:Nat} {gx gz gQ gG gp dm gP gr gC u16 dn dr dw gd dx dy dz dA dB dD dF dG cr ct cu u32 cv cw cz cA cB cC cD cE cF cG cH dH dI gM gK gL bu bw bx bz bA bB bC bD bE bK bL bM bN bO bP u64 bQ bR bS bT bU bV bW bX bY bZ b5 b6 b7 b8 b9 cc cg ck cm cn cp dJ dK dL dM dN dO dP dQ cI cK cL cM cN cO cQ cR cS cT cU cV cW cZ c7 c8 dc dR dS dU dV dW dX dY dZ ec ee ef ei ej ek en eo ep er eu ew ey ez eA eB eC eD eE eF eG eH gh gi gj eL eM eN eO eP eR eS eT eU eV eW eX gl gm gn eY eZ e3 e4 e5 e6 e7 e8 e9 fc fe ff fh fk fm fo fq fu fA fB fC fD fE fF fG fH fI fJ fK fL fM fN fO fP fQ fR gu gv fS fT fU fV fW fZ ga ir iu iw iy iz iA iB iC iD iE iF iG iX iY iZ ja jb jc jd je jL jM jN jO jP jQ:Value} {W:World} (h:Ck bq gN base w0 G F ax n gy jk aG aT aX K hs cb s aQ iS left W g):xA bq gN base w0 G F ax n gy jk aG jm gX jo aT aX g {tmps:= #[.pointer (some ⟨G,0,none⟩),.slice jm gX jo,.int .i64 (aX:Int),gx,gz,gQ,.pointer (some ⟨aT,0,none⟩),.int .i64 (iS:Int),.int .i64 left,.int .i64 2000,gG,gp,dm,gP,gr,gC,u16,dn,dr,dw,gd,dx,dy,dz,dA,dB,dD,dF,dG,cr,ct,cu,u32,cv,cw,cz,cA,cB,cC,cD,cE,cF,cG,cH,dH,dI,gM,gK,gL,bu,bw,bx,bz,bA,bB,bC,bD,bE,bK,bL,bM,bN,bO,bP,u64,bQ,bR,bS,bT,bU,bV,bW,bX,bY,bZ,b5,b6,b7,b8,b9,cc,cg,ck,cm,cn,cp,dJ,dK,dL,dM,dN,dO,dP,dQ,cI,cK,cL,cM,cN,cO,cQ,cR,cS,cT,cU,cV,cW,cZ,c7,c8,dc,dR,dS,dU,dV,dW,dX,dY,dZ,ec,ee,ef,ei,ej,ek,en,eo,ep,er,eu,ew,ey,ez,eA,eB,eC,eD,eE,eF,eG,eH,gh,gi,gj,eL,eM,eN,eO,eP,eR,eS,eT,eU,eV,eW,eX,gl,gm,gn,eY,eZ,e3,e4,e5,e6,e7,e8,e9,fc,fe,ff,fh,fk,fm,fo,fq,fu,fA,fB,fC,fD,fE,fF,fG,fH,fI,fJ,fK,fL,fM,fN,fO,fP,fQ,fR,gu,gv,fS,fT,fU,fV,fW,fZ,ga,ir,iu,iw,iy,iz,iA,iB,iC,iD,iE,iF,iG,iX,iY,iZ,ja,jb,jc,jd,je,jL,jM,jN,jO,jP,jQ],defers:=[]} W
theorem xA.elim(b:xA bq gN base w0 G F ax n gy jk aG jm gX jo aT aX g a W){P:Prop}
  (k:∀{K:Nat->Prop}{hs:Nat->aq}{cb:Nat->Nat}{s:an}{c iS:Nat}{left:Int}{d e f i j l m o p u16 q r t u v w y z A B C D E H I u32 J L M N O Q R S T U V X Y Z aa ab ad ae af ag ah ai aj ak al ao ar au av aw ay u64 az aA aB aC aD aE aF aH aI aJ aK aL aM aN aO aP aQ aR aS aU aV aW aY aZ a6 a7 a8 a' ba bb bc bd bf bg bh bj bk bl bn bo bp br bs bt bu bw bx bz bA bB bC bD bE bF bG bH bI bJ bK bL bM bN bO bP bQ bR bS bT bU bV bW bX bY bZ b0 b1 b2 b3 b4 b5 b6 b7 b8 b9 b' ca cc cd cf cg ch cj ck cm cn cp cq cr ct cu cv cw cx cy cz cA cB cC cD cE cF cG cH cI cJ cK cL cM cN cO cP cQ cR cS cT cU cV cW cX cY cZ c7 c8 da db dc dd de df dh di dj dk dm dn dp dq dr dt du dv dw dx dy dz dA dB dC dD dE dF dG dH dI dJ:Value},a={tmps:= #[.pointer (some ⟨G,0,none⟩),.slice jm gX jo,.int .i64 (aX:Int),d,e,f,.pointer (some ⟨aT,0,none⟩),.int .i64 (iS:Int),.int .i64 left,.int .i64 2000,i,j,l,m,o,p,u16,q,r,t,u,v,w,y,z,A,B,C,D,E,H,I,u32,J,L,M,N,O,Q,R,S,T,U,V,X,Y,Z,aa,ab,ad,ae,af,ag,ah,ai,aj,ak,al,ao,ar,au,av,aw,ay,u64,az,aA,aB,aC,aD,aE,aF,aH,aI,aJ,aK,aL,aM,aN,aO,aP,aQ,aR,aS,aU,aV,aW,aY,aZ,a6,a7,a8,a',ba,bb,bc,bd,bf,bg,bh,bj,bk,bl,bn,bo,bp,br,bs,bt,bu,bw,bx,bz,bA,bB,bC,bD,bE,bF,bG,bH,bI,bJ,bK,bL,bM,bN,bO,bP,bQ,bR,bS,bT,bU,bV,bW,bX,bY,bZ,b0,b1,b2,b3,b4,b5,b6,b7,b8,b9,b',ca,cc,cd,cf,cg,ch,cj,ck,cm,cn,cp,cq,cr,ct,cu,cv,cw,cx,cy,cz,cA,cB,cC,cD,cE,cF,cG,cH,cI,cJ,cK,cL,cM,cN,cO,cP,cQ,cR,cS,cT,cU,cV,cW,cX,cY,cZ,c7,c8,da,db,dc,dd,de,df,dh,di,dj,dk,dm,dn,dp,dq,dr,dt,du,dv,dw,dx,dy,dz,dA,dB,dC,dD,dE,dF,dG,dH,dI,dJ],defers:=[]}->Ck bq gN base w0 G F ax n gy jk aG aT aX K hs cb s c iS left W g->P):P:=by
 cases b with
 |mk h=>exact k rfl h
noncomputable def Nx:Code:=(Tryz.f99.body.bind λ c=>qw c 0).getD .skip
theorem Ny{bq gN:Nat->Prop}{base:Nat}{w0:World}{G:Nat}{F:List (List Int)}{ax:List Int}{n gy jk:Nat}{aG:an}{jm:Option Addr}{gX jo aT aX:Nat}{K:Nat->Prop}{W:World}{hs:Nat->aq}{cb:Nat->Nat}{s:an}{aQ iS g:Nat}{left:Int}{gx gz gQ gG gp dm gP gr gC u16 dn dr dw gd dx dy dz dA dB dD dF dG cr ct cu u32 cv cw cz cA cB cC cD cE cF cG cH dH dI gM gK gL bu bw bx bz bA bB bC bD bE bK bL bM bN bO bP u64 bQ bR bS bT bU bV bW bX bY bZ b5 b6 b7 b8 b9 cc cg ck cm cn cp dJ dK dL dM dN dO dP dQ cI cK cL cM cN cO cQ cR cS cT cU cV cW cZ c7 c8 dc dR dS dU dV dW dX dY dZ ec ee ef ei ej ek en eo ep er eu ew ey ez eA eB eC eD eE eF eG eH gh gi gj eL eM eN eO eP eR eS eT eU eV eW eX gl gm gn eY eZ e3 e4 e5 e6 e7 e8 e9 fc fe ff fh fk fm fo fq fu fA fB fC fD fE fF fG fH fI fJ fK fL fM fN fO fP fQ fR gu gv fS fT fU fV fW fZ ga ir iu iw iy iz iA iB iC iD iE iF iG iX iY iZ ja jb jc jd je jL jM jN jO jP jQ:Value}{Q:Exit->Act->World->Prop}
  (C:sE bq gN w0 F ax n gy jk aG jm gX jo aX) (D:Ck bq gN base w0 G F ax n gy jk aG aT aX K hs cb s aQ iS left W g)
  (E:∀(iS:Nat)(left:Int)(v0 v1 v2 v3:Value)(gx gz gQ gG gp dm gP gr gC u16 dn dr dw gd dx dy dz dA dB dD dF dG cr ct cu u32 cv cw cz cA cB cC cD cE cF cG cH dH dI gM gK gL bu bw bx bz bA bB bC bD bE bK bL bM bN bO bP u64 bQ bR bS bT bU bV bW bX bY bZ b5 b6 b7 b8 b9 cc cg ck cm cn cp dJ dK dL dM dN dO dP dQ cI cK cL cM cN cO cQ cR cS cT cU cV cW cZ c7 c8 dc dR dS dU dV dW dX dY dZ ec ee ef ei ej ek en eo ep er eu ew ey ez eA eB eC eD eE eF eG eH gh gi gj eL eM eN eO eP eR eS eT eU eV eW eX gl gm gn eY eZ e3 e4 e5 e6 e7 e8 e9 fc fe ff fh fk fm fo fq fu fA fB fC fD fE fF fG fH fI fJ fK fL fM fN fO fP fQ fR gu gv fS fT fU fV fW fZ ga ir iu iw iy iz iA iB iC iD iE iF iG iX iY iZ ja jb jc jd je jL jM jN jO jP jQ:Value)(W':World),aM W' aT 30 [v0,v1,v2,v3]->D5 bq gN base w0 G F ax n gy aG aX (.returned (.agg #[v0,v1,v2,v3])) W'->Q .ret {tmps:= #[.pointer (some ⟨G,0,none⟩),.slice jm gX jo,.int .i64 (aX:Int),gx,gz,gQ,.pointer (some ⟨aT,0,none⟩),.int .i64 (iS:Int),.int .i64 left,.int .i64 2000,gG,gp,dm,gP,gr,gC,u16,dn,dr,dw,gd,dx,dy,dz,dA,dB,dD,dF,dG,cr,ct,cu,u32,cv,cw,cz,cA,cB,cC,cD,cE,cF,cG,cH,dH,dI,gM,gK,gL,bu,bw,bx,bz,bA,bB,bC,bD,bE,bK,bL,bM,bN,bO,bP,u64,bQ,bR,bS,bT,bU,bV,bW,bX,bY,bZ,b5,b6,b7,b8,b9,cc,cg,ck,cm,cn,cp,dJ,dK,dL,dM,dN,dO,dP,dQ,cI,cK,cL,cM,cN,cO,cQ,cR,cS,cT,cU,cV,cW,cZ,c7,c8,dc,dR,dS,dU,dV,dW,dX,dY,dZ,ec,ee,ef,ei,ej,ek,en,eo,ep,er,eu,ew,ey,ez,eA,eB,eC,eD,eE,eF,eG,eH,gh,gi,gj,eL,eM,eN,eO,eP,eR,eS,eT,eU,eV,eW,eX,gl,gm,gn,eY,eZ,e3,e4,e5,e6,e7,e8,e9,fc,fe,ff,fh,fk,fm,fo,fq,fu,fA,fB,fC,fD,fE,fF,fG,fH,fI,fJ,fK,fL,fM,fN,fO,fP,fQ,fR,gu,gv,fS,fT,fU,fV,fW,fZ,ga,ir,iu,iw,iy,iz,iA,iB,iC,iD,iE,iF,iG,iX,iY,iZ,ja,jb,jc,jd,je,jL,jM,jN,jO,jP,jQ],defers:=[]} W'):
  c_ y_ Nx Q {tmps:= #[.pointer (some ⟨G,0,none⟩),.slice jm gX jo,.int .i64 (aX:Int),gx,gz,gQ,.pointer (some ⟨aT,0,none⟩),.int .i64 (iS:Int),.int .i64 left,.int .i64 2000,gG,gp,dm,gP,gr,gC,u16,dn,dr,dw,gd,dx,dy,dz,dA,dB,dD,dF,dG,cr,ct,cu,u32,cv,cw,cz,cA,cB,cC,cD,cE,cF,cG,cH,dH,dI,gM,gK,gL,bu,bw,bx,bz,bA,bB,bC,bD,bE,bK,bL,bM,bN,bO,bP,u64,bQ,bR,bS,bT,bU,bV,bW,bX,bY,bZ,b5,b6,b7,b8,b9,cc,cg,ck,cm,cn,cp,dJ,dK,dL,dM,dN,dO,dP,dQ,cI,cK,cL,cM,cN,cO,cQ,cR,cS,cT,cU,cV,cW,cZ,c7,c8,dc,dR,dS,dU,dV,dW,dX,dY,dZ,ec,ee,ef,ei,ej,ek,en,eo,ep,er,eu,ew,ey,ez,eA,eB,eC,eD,eE,eF,eG,eH,gh,gi,gj,eL,eM,eN,eO,eP,eR,eS,eT,eU,eV,eW,eX,gl,gm,gn,eY,eZ,e3,e4,e5,e6,e7,e8,e9,fc,fe,ff,fh,fk,fm,fo,fq,fu,fA,fB,fC,fD,fE,fF,fG,fH,fI,fJ,fK,fL,fM,fN,fO,fP,fQ,fR,gu,gv,fS,fT,fU,fV,fW,fZ,ga,ir,iu,iw,iy,iz,iA,iB,iC,iD,iE,iF,iG,iX,iY,iZ,ja,jb,jc,jd,je,jL,jM,jN,jO,jP,jQ],defers:=[]} W:=by
 have r:=U E;have d:=U C;clear E C
 conv=>arg 2;whnf
 dsimp only;refine h_ (xA bq gN base w0 G F ax n gy jk aG jm gX jo aT aX) g ?start ?round
 case start=>exact xA.mk D
 case round=>
  clear D K W hs cb s aQ iS g left;intro g a W I a8 t J L;refine I.elim ?_;intro K hs cb s aQ iS left gx gz gQ gG gp dm gP gr gC u16 dn dr dw gd dx dy dz dA dB dD dF dG cr ct cu u32 cv cw cz cA cB cC cD cE cF cG cH dH dI gM gK gL bu bw bx bz bA bB bC bD bE bK bL bM bN bO bP u64 bQ bR bS bT bU bV bW bX bY bZ b5 b6 b7 b8 b9 cc cg ck cm cn cp dJ dK dL dM dN dO dP dQ cI cK cL cM cN cO cQ cR cS cT cU cV cW cZ c7 c8 dc dR dS dU dV dW dX dY dZ ec ee ef ei ej ek en eo ep er eu ew ey ez eA eB eC eD eE eF eG eH gh gi gj eL eM eN eO eP eR eS eT eU eV eW eX gl gm gn eY eZ e3 e4 e5 e6 e7 e8 e9 fc fe ff fh fk fm fo fq fu fA fB fC fD fE fF fG fH fI fJ fK fL fM fN fO fP fQ fR gu gv fS fT fU fV fW fZ ga ir iu iw iy iz iA iB iC iD iE iF iG iX iY iZ ja jb jc jd je jL jM jN jO jP jQ aA H;clear I;subst aA;have b:=U H;have u:=U J;have w:=U L;have i:=U (H.S.ov d.o);clear H J L;refine wp_block ?_;refine wp_seq_k ?_;intro aB M;have aC:=U M;clear M;refine MW d.o b.o.S (by have:=b.o.hM;have:=b.o.jK;have:=i.o;omega) ?_ ?_ ?_
  ·intro a' s1 gx gz gQ gG gp dm gP gr gC u16 dn dr dw gd dx dy dz dA dB dD dF dG cr ct cu u32 cv cw cz cA cB cC cD cE cF cG cH dH dI gM gK gL bu bw bx bz bA bB bC bD bE bK bL bM bN bO bP u64 bQ bR bS bT bU bV bW bX bY bZ b5 b6 b7 b8 b9 cc cg ck cm cn cp dJ dK dL dM dN dO dP dQ cI cK cL cM cN cO cQ cR cS cT cU cV cW cZ c7 c8 dc dR dS dU dV dW dX dY dZ ec ee ef ei ej ek en eo ep er eu ew ey ez eA eB eC eD eE eF eG eH gh gi gj eL eM eN eO eP eR eS eT eU eV eW eX gl gm gn eY eZ e3 e4 e5 e6 e7 e8 e9 fc fe ff fh fk fm fo fq fu fA fB fC fD fE fF fG fH fI fJ fK fL fM fN fO fP fQ fR gu gv fS fT fU fV fW fZ ga ir iu iw iy iz iA iB iC iD iE iF iG iX iY iZ ja jb jc jd je jL jM jN jO jP jQ ba N O P R T;have j:=U (z_ N (z_ O (z_ P (z_ R T))));clear N O P R T;show aB _ _;apply aC.o;refine wp_seq_k ?_;intro qi V;have aD:=U V;clear V;refine M9 d.o j.o.1 ⟨b.o.t1,by have:=b.o.t2;have:=i.o;omega⟩ ?_ ?_
   ·intro gx gz gQ gG gp dm gP gr gC u16 dn dr dw gd dx dy dz dA dB dD dF dG cr ct cu u32 cv cw cz cA cB cC cD cE cF cG cH dH dI gM gK gL bu bw bx bz bA bB bC bD bE bK bL bM bN bO bP u64 bQ bR bS bT bU bV bW bX bY bZ b5 b6 b7 b8 b9 cc cg ck cm cn cp dJ dK dL dM dN dO dP dQ cI cK cL cM cN cO cQ cR cS cT cU cV cW cZ c7 c8 dc dR dS dU dV dW dX dY dZ ec ee ef ei ej ek en eo ep er eu ew ey ez eA eB eC eD eE eF eG eH gh gi gj eL eM eN eO eP eR eS eT eU eV eW eX gl gm gn eY eZ e3 e4 e5 e6 e7 e8 e9 fc fe ff fh fk fm fo fq fu fA fB fC fD fE fF fG fH fI fJ fK fL fM fN fO fP fQ fR gu gv fS fT fU fV fW fZ ga ir iu iw iy iz iA iB iC iD iE iF iG iX iY iZ ja jb jc jd je jL jM jN jO jP jQ hl;show qi _ _;apply aD.o;refine wp_seq_k ?_;intro bb X;have aE:=U X;clear X
    go_wp2_with fail
    apply aE.o;refine wp_seq_k ?_;intro aH aa;have aI:=U aa;clear aa;refine wp_block ?_;refine Nn d.o j.o.1 j.o.2.1 j.o.2.2.1 ?_ ?_
    ·intro m s2 next gx gz gQ gG gp dm gr gC u16 dn dr dw gd dx dy dz dA dB dD dF dG cr ct cu u32 cv cw cz cA cB cC cD cE cF cG cH dH dI gM gK gL bu bw bx bz bA bB bC bD bE bK bL bM bN bO bP u64 bQ bR bS bT bU bV bW bX bY bZ b5 b6 b7 b8 b9 cc cg ck cm cn cp dJ dK dL dM dN dO dP dQ cI cK cL cM cN cO cQ cR cS cT cU cV cW cZ c7 c8 dc dR dS dU dV dW dX dY dZ ec ee ef ei ej ek en eo ep er eu ew ey ez eA eB eC eD eE eF eG eH gh gi gj eL eM eN eO eP eR eS eT eU eV eW eX gl gm gn eY eZ e3 e4 e5 e6 e7 e8 e9 fc fe ff fh fk fm fo fq fu fA fB fC fD fE fF fG fH fI fJ fK fL fM fN fO fP fQ fR gu gv fS fT fU fV fW fZ ga ir iu iw iy iz iA iB iC iD iE iF iG iX iY iZ ja jb jc jd je jL jM jN jO jP jQ p f y z A ab B
     show aH _ _;apply aI.o;refine wp_seq_k ?_;intro aK ad;have aL:=U ad;clear ad;refine wp_block ?_;have ae:AD bq gN base w0 G F ax n gy jk aG aT aX K cb aQ s2.aJ.length s2.c.av m s2 next p (s2.ord.length+(if next=0 then 1 else 0)):=by
      refine⟨λ e=>⟨f,y,z,rfl,rfl,?_⟩,λ e=>?_,f.gA,rfl⟩
      ·rcases B with h|h
       ·rw[d.o.yd];exact h.2
       ·exact absurd e h.1
      ·rcases B with h|h
       ·exact absurd h.1 e
       ·exact⟨⟨p,m,s2,f,aF.refl,rfl⟩,f.gA,y,z,rfl,rfl,f.jX.rg.lJ,λ v h1 q af _=>f.jX.un v h1 q af,h.1,h.2.1,h.2.2.1,λ _=>h.2.2.2.2.symm⟩
     refine Np (g0:=0) d.o ae ?_;intro bc s3 bd g3 gx gz gQ gG gp dm gr gC u16 dn dr dw gd dx dy dz dA dB dD dF dG cr ct cu u32 cv cw cz cA cB cC cD cE cF cG cH dH dI gM gK gL bu bw bx bz bA bB bC bD bE bK bL bM bN bO bP u64 bQ bR bS bT bU bV bW bX bY bZ b5 b6 b7 b8 b9 cc cg ck cm cn cp dJ dK dL dM dN dO dP dQ cI cK cL cM cN cO cQ cR cS cT cU cV cW cZ c7 c8 dc dR dS dU dV dW dX dY dZ ec ee ef ei ej ek en eo ep er eu ew ey ez eA eB eC eD eE eF eG eH gh gi gj eL eM eN eO eP eR eS eT eU eV eW eX gl gm gn eY eZ e3 e4 e5 e6 e7 e8 e9 fc fe ff fh fk fm fo fq fu fA fB fC fD fE fF fG fH fI fJ fK fL fM fN fO fP fQ fR gu gv fS fT fU fV fW fZ ga ir iu iw iy iz iA iB iC iD iE iF iG iX iY iZ ja jb jc jd je jL jM jN jO jP jQ bf ag ah;have Y:=U (z_ ag ah);have Z:=U (z_ A ab);clear ag ah ae B f y z A ab;show aK _ _;apply aL.o;refine wp_seq_k ?_;intro aN ai;have aO:=U ai;clear ai;refine Nt d.o (λ e=>⟨(Y.o.1.no e).1,(Y.o.1.no e).2.1,(Y.o.1.no e).2.2.1,(Y.o.1.no e).2.2.2.2.2,Y.o.2 e⟩) ?_ ?_
     ·intro gx gz gQ gG gp dm gr gC u16 dn dr dw gd dx dy dz dA dB dD dF dG cr ct cu u32 cv cw cz cA cB cC cD cE cF cG cH dH dI gM gK gL bu bw bx bz bA bB bC bD bE bK bL bM bN bO bP u64 bQ bR bS bT bU bV bW bX bY bZ b5 b6 b7 b8 b9 cc cg ck cm cn cp dJ dK dL dM dN dO dP dQ cI cK cL cM cN cO cQ cR cS cT cU cV cW cZ c7 c8 dc dR dS dU dV dW dX dY dZ ec ee ef ei ej ek en eo ep er eu ew ey ez eA eB eC eD eE eF eG eH gh gi gj eL eM eN eO eP eR eS eT eU eV eW eX gl gm gn eY eZ e3 e4 e5 e6 e7 e8 e9 fc fe ff fh fk fm fo fq fu fA fB fC fD fE fF fG fH fI fJ fK fL fM fN fO fP fQ fR gu gv fS fT fU fV fW fZ ga ir iu iw iy iz iA iB iC iD iE iF iG iX iY iZ ja jb jc jd je jL jM jN jO jP jQ aP;show aN _ _;apply aO.o;refine Nv d.o (Y.o.1.yes aP) ?_;intro bg iI gx gz gQ gG gp dm gP gr gC u16 dn dr dw gd dx dy dz dA dB dD dF dG cr ct cu u32 cv cw cz cA cB cC cD cE cF cG cH dH dI gM gK gL bu bw bx bz bA bB bC bD bE bK bL bM bN bO bP u64 bQ bR bS bT bU bV bW bX bY bZ b5 b6 b7 b8 b9 cc cg ck cm cn cp dJ dK dL dM dN dO dP dQ cI cK cL cM cN cO cQ cR cS cT cU cV cW cZ c7 c8 dc dR dS dU dV dW dX dY dZ ec ee ef ei ej ek en eo ep er eu ew ey ez eA eB eC eD eE eF eG eH gh gi gj eL eM eN eO eP eR eS eT eU eV eW eX gl gm gn eY eZ e3 e4 e5 e6 e7 e8 e9 fc fe ff fh fk fm fo fq fu fA fB fC fD fE fF fG fH fI fJ fK fL fM fN fO fP fQ fR gu gv fS fT fU fV fW fZ ga ir iu iw iy iz iA iB iC iD iE iF iG iX iY iZ ja jb jc jd je jL jM jN jO jP jQ bh aj bj aR;show t _ _;refine w.o _ _ (s_ ((59050-aQ)*1000+(if left<=0 then 100 else 0)+(20-iI.c.av.length)) ?_ (u.o _ _ _ (xA.mk ⟨aj,b.o.t1,b.o.t2,b.o.t3,b.o.hM,b.o.jK,rfl⟩)));have h1:=b.o.g;have q:=Z.o.2;have af:=j.o.2.2.2.2;have aS:=(aj.ov d.o).2.2.2.2.2.2;have ak:=d.o.n10;rw[q] at aR;omega
     ·intro al ao ar au aw aU aV aW gx gz gQ gG gp dm gP gr gC u16 dn dr dw gd dx dy dz dA dB dD dF dG cr ct cu u32 cv cw cz cA cB cC cD cE cF cG cH dH dI gM gK gL bu bw bx bz bA bB bC bD bE bK bL bM bN bO bP u64 bQ bR bS bT bU bV bW bX bY bZ b5 b6 b7 b8 b9 cc cg ck cm cn cp dJ dK dL dM dN dO dP dQ cI cK cL cM cN cO cQ cR cS cT cU cV cW cZ c7 c8 dc dR dS dU dV dW dX dY dZ ec ee ef ei ej ek en eo ep er eu ew ey ez eA eB eC eD eE eF eG eH gh gi gj eL eM eN eO eP eR eS eT eU eV eW eX gl gm gn eY eZ e3 e4 e5 e6 e7 e8 e9 fc fe ff fh fk fm fo fq fu fA fB fC fD fE fF fG fH fI fJ fK fL fM fN fO fP fQ fR gu gv fS fT fU fV fW fZ ga ir iu iw iy iz iA iB iC iD iE iF iG iX iY iZ ja jb jc jd je jL jM jN jO jP jQ ay k l;have h:=r.o iS left (.int .i64 1) (.slice aU aV aW) mW (.int .i64 (aQ:Int));show Q .ret _ _;apply h
      ·exact l
      ·exact k.done
    ·intro al ao ar au aw aY aZ a6 gx gz gQ gG gp dm gP gr gC u16 dn dr dw gd dx dy dz dA dB dD dF dG cr ct cu u32 cv cw cz cA cB cC cD cE cF cG cH dH dI gM gK gL bu bw bx bz bA bB bC bD bE bK bL bM bN bO bP u64 bQ bR bS bT bU bV bW bX bY bZ b5 b6 b7 b8 b9 cc cg ck cm cn cp dJ dK dL dM dN dO dP dQ cI cK cL cM cN cO cQ cR cS cT cU cV cW cZ c7 c8 dc dR dS dU dV dW dX dY dZ ec ee ef ei ej ek en eo ep er eu ew ey ez eA eB eC eD eE eF eG eH gh gi gj eL eM eN eO eP eR eS eT eU eV eW eX gl gm gn eY eZ e3 e4 e5 e6 e7 e8 e9 fc fe ff fh fk fm fo fq fu fA fB fC fD fE fF fG fH fI fJ fK fL fM fN fO fP fQ fR gu gv fS fT fU fV fW fZ ga ir iu iw iy iz iA iB iC iD iE iF iG iX iY iZ ja jb jc jd je jL jM jN jO jP jQ ay k l;have h:=r.o iS left (.int .i64 2) mW (.slice aY aZ a6) (.int .i64 (aQ:Int));show Q .ret _ _;apply h
     ·exact l
     ·exact k.done
   ·intro m s2 a7 gx gz gQ gG gp dm gP gr gC u16 dn dr dw gd dx dy dz dA dB dD dF dG cr ct cu u32 cv cw cz cA cB cC cD cE cF cG cH dH dI gM gK gL bu bw bx bz bA bB bC bD bE bK bL bM bN bO bP u64 bQ bR bS bT bU bV bW bX bY bZ b5 b6 b7 b8 b9 cc cg ck cm cn cp dJ dK dL dM dN dO dP dQ cI cK cL cM cN cO cQ cR cS cT cU cV cW cZ c7 c8 dc dR dS dU dV dW dX dY dZ ec ee ef ei ej ek en eo ep er eu ew ey ez eA eB eC eD eE eF eG eH gh gi gj eL eM eN eO eP eR eS eT eU eV eW eX gl gm gn eY eZ e3 e4 e5 e6 e7 e8 e9 fc fe ff fh fk fm fo fq fu fA fB fC fD fE fF fG fH fI fJ fK fL fM fN fO fP fQ fR gu gv fS fT fU fV fW fZ ga ir iu iw iy iz iA iB iC iD iE iF iG iX iY iZ ja jb jc jd je jL jM jN jO jP jQ p f A az bk bl;show t _ _;refine w.o _ _ (s_ ((59050-aQ)*1000+(if a7<=0 then 100 else 0)+(20-s2.c.av.length)) ?_ (u.o _ _ _ (xA.mk (iS:=iS+1) ⟨f,by omega,by have:=b.o.t3 az;omega,λ h=>by omega,by omega,by have:=b.o.t2;have:=i.o;omega,rfl⟩)));have h1:=b.o.g;rw[if_pos az] at h1;rw[if_neg (by omega)];have aS:=i.o.2.2.2.2.2.2;have ak:=d.o.n10;omega
  ·intro qi m bn s2 gx gz gQ gG gp dm gP gr gC u16 dn dr dw gd dx dy dz dA dB dD dF dG cr ct cu u32 cv cw cz cA cB cC cD cE cF cG cH dH dI gM gK gL bu bw bx bz bA bB bC bD bE bK bL bM bN bO bP u64 bQ bR bS bT bU bV bW bX bY bZ b5 b6 b7 b8 b9 cc cg ck cm cn cp dJ dK dL dM dN dO dP dQ cI cK cL cM cN cO cQ cR cS cT cU cV cW cZ c7 c8 dc dR dS dU dV dW dX dY dZ ec ee ef ei ej ek en eo ep er eu ew ey ez eA eB eC eD eE eF eG eH gh gi gj eL eM eN eO eP eR eS eT eU eV eW eX gl gm gn eY eZ e3 e4 e5 e6 e7 e8 e9 fc fe ff fh fk fm fo fq fu fA fB fC fD fE fF fG fH fI fJ fK fL fM fN fO fP fQ fR gu gv fS fT fU fV fW fZ ga ir iu iw iy iz iA iB iC iD iE iF iG iX iY iZ ja jb jc jd je jL jM jN jO jP jQ p f;show t _ _;refine w.o _ _ (s_ ((59050-(aQ+1))*1000+(if left-1<=0 then 100 else 0)+(20-s2.c.av.length)) ?_ (u.o _ _ _ (xA.mk (left:=left-1) ⟨f,b.o.t1,by have:=b.o.t2;omega,λ h=>by have:=b.o.t2;omega,by have:=b.o.hM;omega,by have:=b.o.jK;omega,rfl⟩)));have h1:=b.o.g;have q:=i.o;have ak:=d.o.n10;split<;>omega
  ·intro al ao ar au aw kind gx gz gQ gG gp dm gP gr gC u16 dn dr dw gd dx dy dz dA dB dD dF dG cr ct cu u32 cv cw cz cA cB cC cD cE cF cG cH dH dI gM gK gL bu bw bx bz bA bB bC bD bE bK bL bM bN bO bP u64 bQ bR bS bT bU bV bW bX bY bZ b5 b6 b7 b8 b9 cc cg ck cm cn cp dJ dK dL dM dN dO dP dQ cI cK cL cM cN cO cQ cR cS cT cU cV cW cZ c7 c8 dc dR dS dU dV dW dX dY dZ ec ee ef ei ej ek en eo ep er eu ew ey ez eA eB eC eD eE eF eG eH gh gi gj eL eM eN eO eP eR eS eT eU eV eW eX gl gm gn eY eZ e3 e4 e5 e6 e7 e8 e9 fc fe ff fh fk fm fo fq fu fA fB fC fD fE fF fG fH fI fJ fK fL fM fN fO fP fQ fR gu gv fS fT fU fV fW fZ ga ir iu iw iy iz iA iB iC iD iE iF iG iX iY iZ ja jb jc jd je jL jM jN jO jP jQ ay k l;have h:=r.o iS left (.int .i64 kind) mW mW (.int .i64 (aQ:Int));show Q .ret _ _;apply h
   ·exact l
   ·exact k.done
theorem Nz{aT:Nat}(C:sE bq gN w0 F ax n gy jk aG jm gX jo aX)(E:aP gN base w0 G hs cb aG)(S:mj F ax n gy aG 0 aG.c.ag)(P:o4 (λ b=>gN b/\¬bq b) w0 aG)(L:∀p∈aG.aD,qj (λ b=>gN b/\¬bq b) w0 n F p)(m:aG.c.cl.length=jk):
  Calls y_ 99 #[.pointer (some ⟨G,0,none⟩),.slice jm gX jo,.int .i64 (aX:Int)] w0 (D5 bq gN base w0 G F ax n gy aG aX):=by
 have f:=bg w0 (.cells #[.int .i64 0,.slice none 0 0,.slice none 0 0,.int .i64 0] 30);have i:aM (w0.alloc (.cells #[.int .i64 0,.slice none 0 0,.slice none 0 0,.int .i64 0] 30)) w0.heap.size 30 [.int .i64 0,mW,mW,.int .i64 ((0:Nat):Int)]:=aM.new w0 30 _;have g:=E.below f;have j:∀b,gN b->b<w0.heap.size:=E.s.lt;have l:mN bq gN base w0 G F ax n gy jk aG w0.heap.size aX (qN gN w0.heap.size) (w0.alloc (.cells #[.int .i64 0,.slice none 0 0,.slice none 0 0,.int .i64 0] 30)) hs cb aG 0 aG.c.ag:=by
  refine⟨λ b f=>.inl f,g.1.qN (by simp) (by have:=E.e.box.lt;omega) (λ r e=>by have:=(E.e.rows.lt e).2;omega) (λ d ag e=>by have:=(E.e.cls d ag).lt;omega),g.2,S,i,.inr rfl,λ h=>by have:=j _ h;omega,P.kept (g.2.mono λ b f=>f.1) rfl rfl,λ p hp=>((L p hp).iQ (g.2.mono λ b f=>f.1)).mono λ b f=>⟨⟨.inl f.1,by have:=j b f.1;omega⟩,f.2⟩,List.prefix_refl _,rfl,by omega,Nat.zero_le _⟩
 have k:Ck bq gN base w0 G F ax n gy jk aG w0.heap.size aX (qN gN w0.heap.size) hs cb aG 0 1 32 (w0.alloc (.cells #[.int .i64 0,.slice none 0 0,.slice none 0 0,.int .i64 0] 30)) ((59050-0)*1000+(if (32:Int)<=0 then 100 else 0)+(20-aG.c.av.length)):=
  ⟨l,q_ _,by omega,λ h=>by omega,by omega,by omega,rfl⟩
 have k:=U k;have q:=U C;clear C E S P L f i g j l m;go_enter Tryz.func99,Tryz.ntmps99
 go_wp2_with fail
 refine Ny q.o k.o ?_;intro iS left v0 v1 v2 v3 u v w y z A B D H u16 I J K M N O Q R T V W X Y Z aa u32 ab ad ae af ah ai aj ak al ao ar au aw ay az aA aB aC aE aF aH aI aJ aK aL aN aO aQ aR aS aU u64 aV aW aY aZ a6 a7 a8 a' ba bb bc bd bf bh bj bk bl bn bo bp br bs bt bu bw bx bz bA bB bC bD bE bF bG bH bI bJ bK bL bM bN bO bP bQ bR bS bT bU bV bW bX bY bZ b0 b1 b2 b3 b4 b5 b6 b7 b8 b9 b' ca cc cd cf cg ch cj ck cm cn cp cq cr ct cu cv cw cx cy cz cA cB cC cD cE cF cG cH cI cJ cK cL cM cN cO cP cQ cR cS cT cU cV cW cX cY cZ c7 c8 da db dc dd de df dh di dj dk dm dn dp dq dr dt du dv dw dx dy dz dA dB dC dD dE dF dG dH dI dJ dK dL dM dN dO dP dQ dR dS dT dU dV dW dX dY dZ d' ea eb ec ed W' i t;refine Nw rfl rfl i ?_;exact t
end
section
open Go.RowKit Go.Shelf Go.Sort Go.Lib
theorem NA:∀args w,(callFunc 158 args).run y_ w=.ok (.enter 158 args) w:=enters_of Tryz.func158 (by kernel_rfl) rfl
theorem NB{aH:Nat}(v u:Nat)(x y:Int)(b:w.cell? ⟨aH,0,none⟩=some (.pointer (some ⟨G,0,none⟩)))(q:w.cell? ⟨G,8,none⟩=some (.slice (some ⟨g,0,none⟩) n c))(d:(v:Int)<(n:Int))(hu:(u:Int)<(n:Int))(f:v<=65536)(i:u<=65536)
  (j:w.cell? ⟨g,v,none⟩=some (.int .i64 x)) (k:w.cell? ⟨g,u,none⟩=some (.int .i64 y)):
  Calls y_ 158 #[.int .i64 v,.int .i64 u,.pointer (some ⟨aH,0,none⟩)] w λ e w'=>e=.returned (.int .i64 (sg (oE y x) ((v:Int)-(u:Int))))/\w'=(w.drew.alloc (.cells #[.int .i64 (oE y x),.int .i64 ((v:Int)-(u:Int))] 3)):=by
 have l:wrap64 ((v:Int)-(u:Int))=(v:Int)-(u:Int):=by unfold wrap64;omega
 go_enter Tryz.func158,Tryz.ntmps158
 go_wp2;refine o_ 18 (by kernel_rfl) (by kernel_rfl) ?_;simp only[u_,n_,t_,m_]
 iterate 14 still_step
 still_call ((zJ _ _ _).mono (λ e w' h=>⟨h.1,h.2.symm⟩))
 iterate 3 still_step
 refine k_ ?_;change wpList _ _ _ _ _ w.drew
 go_wp2_with fail
 refine(Bb w.heap.size (oE y x) ((v:Int)-(u:Int)) _ (by go_simp) (by go_simp)).mono ?_;rintro e w' ⟨rfl,rfl⟩;go_wp2;go_ret;exact⟨rfl,rfl⟩
abbrev vj(n:Nat):={x:Int//1<=x/\x<=n}
def yg{n:Nat}(x:vj n):Value:=.int .i64 x.1
def Cl(act:List Int)(x y:Int):Int:=sg (oE (ai act y.toNat) (ai act x.toNat)) (x-y)
def uJ(act:List Int){n:Nat}(x y:vj n):Int:=Cl act x.1 y.1
theorem Ed(a b:Int):(a<b/\oE a b= -1)\/(a=b/\oE a b=0)\/(b<a/\oE a b=1):=by
 unfold oE;rcases Int.lt_trichotomy a b with h|h|h
 ·left;exact⟨h,by simp[h]⟩
 ·right;left;subst h;exact⟨rfl,by simp⟩
 ·right;right;refine⟨h,?_⟩;rw[if_neg (by omega),if_pos (by omega)]
theorem AE{x y:Int}:Cl act x y<0↔ai act y.toNat<ai act x.toNat\/(ai act y.toNat=ai act x.toNat/\x<y):=by
 unfold Cl sg;rcases Ed (ai act y.toNat) (ai act x.toNat) with⟨h,e⟩|⟨h,e⟩|⟨h,e⟩<;>rw[e]
 ·simp;omega
 ·simp;omega
 ·simp;omega
theorem AF(x y:vj n):ltOf (uJ act) x y=decide (Cl act x.1 y.1<0):=rfl
theorem Cm(act:List Int)(n:Nat):SWO (ltOf (uJ act (n:=n))) where
 irrefl x:=by rw[AF,decide_eq_false_iff_not,AE];omega
 trans x y z h1 b:=by rw[AF,decide_eq_true_eq,AE] at*;omega
 ntrans x y z h1 b:=by rw[AF,decide_eq_false_iff_not,AE] at*;omega
theorem NC(act:List Int)(n:Nat)(x y:vj n)(h1:ltOf (uJ act) x y=false)(b:ltOf (uJ act) y x=false):x=y:=by
 rw[AF,decide_eq_false_iff_not,AE] at*;apply Subtype.ext;omega
theorem ND{α:Type}[Inhabited α](enc:α->Value)(w:World)(g m:Nat)(c:Array α)(os:Array Obj){b:Nat}(d:b<w.heap.size)(f:b≠g):(sortWorld enc w g 0 m c os).heap[b]? =w.heap[b]? :=by
 unfold sortWorld;rw[Sort.heap_grow_old _ _ (by rw[Sort.size_putRow];exact d)];unfold Sort.putRow Sort.mapBlock;rw[Array.getElem?_modify,if_neg (λ e=>f e.symm)];rfl
theorem HB(l:List (vj n)):l.map yg=(l.map (·.1)).map (f_ .i64):=by rw[Zu];rfl
def pL(act:List Int){n:Nat}(ls:List (vj n)):List (vj n):=ls.mergeSort λ x y=> !(ltOf (uJ act)) y x
theorem NF{cap:Nat}{ls:List (vj n)}(h:Own w base g m cap (ls.map (·.1)))(t:base<=g)(hm:m<=1000)(H:1<=n)(I:n<=60000){aH G sY oK:Nat}(z:w.cell? ⟨aH,0,none⟩=some (.pointer (some ⟨G,0,none⟩)))(q:w.cell? ⟨G,8,none⟩=some (.slice (some ⟨sY,0,none⟩) (n+1) oK))
  (f:∀v,v<=n->w.cell? ⟨sY,v,none⟩=some (.int .i64 (ai act v))) (A:aH<w.heap.size/\aH≠g) (B:G<w.heap.size/\G≠g) (i:sY<w.heap.size/\sY≠g):
  Calls y_ 157 #[.slice (some ⟨g,0,none⟩) m cap,.func (.func 158) #[] #[.pointer (some ⟨aH,0,none⟩)]] w λ e w'=>
   e=.returned (.tuple #[])/\Own w' base g m cap ((pL act ls).map (·.1))/\Below base w w':=by
 haveI:Inhabited (vj n):=⟨⟨1,by omega⟩⟩
 have h':w.ownsRow base 3 1 (.slice (some ⟨g,0,none⟩) m cap) m (ls.map yg):=by rw[HB];exact h
 obtain⟨J,K,he,h1,C,L,M,c,D⟩:=holds_of_ownsRow h' (by intro e;cases e)
 cases he
 have E:CmpLays1 y_ 158 #[.pointer (some ⟨aH,0,none⟩)] (yg (n:=n)) (uJ act) g 0 ls.toArray.size w:=by
  intro k os l hs x y;obtain⟨x,N⟩:=x;obtain⟨y,O⟩:=y;obtain⟨v,rfl⟩:∃v:Nat,x=v:=⟨x.toNat,by omega⟩
  obtain⟨u,rfl⟩:∃u:Nat,y=u:=⟨y.toNat,by omega⟩
  have hw:∀b j,b<w.heap.size/\b≠g->(sortWorld yg w g 0 k l os).cell? ⟨b,j,none⟩=w.cell? ⟨b,j,none⟩:=λ b j o=>v_ (a:=⟨b,j,none⟩) (ND yg w g k l os o.1 o.2)
  refine(NB v u (ai act v) (ai act u) ((hw aH 0 A).trans z) ((hw G 8 B).trans q) (by omega) (by omega) (by omega) (by omega) ((hw sY v i).trans (f v (by omega))) ((hw sY u i).trans (f u (by omega)))).mono ?_;rintro e w' ⟨rfl,rfl⟩;exact⟨rfl,1, #[_],by rw[alloc_eq_grow];rfl⟩
 have p:=Tryz.slices_SortFunc_total yg (λ _=>rfl) (uJ act) (Cm act n) 158 #[.pointer (some ⟨aH,0,none⟩)] g 0 cap ls.toArray w NA E D C (by simp[c];omega) (NC act n);have hs:ls.toArray.size=m:=by simp[c]
 rw[hs] at p;refine p.mono ?_;rintro e w' ⟨rfl,r,os,rfl⟩;have s:=ownsRow_putRow (q:=r) (k:=m) (ys:=ls.mergeSort λ x y=> !(ltOf (uJ act)) y x) h' (by simp[c]) (q_ _);rw[List.take_of_length_le (by simp[c]),HB] at s;refine⟨rfl,?_,?_⟩
 ·have:=ownsRow_grow s 0 os;exact this
 ·have F:=below_putRow (enc:=yg) (q:=r) (d:=(ls.mergeSort λ x y=> !(ltOf (uJ act)) y x).toArray) (p_ base w) t;exact below_grow F (by simp[putRow,mapBlock,Sort.ahead];omega) os
def n4(n:Nat):List (vj n):=(Zw n).attach.map λ k=>⟨(k.1:Int)+1,by have:=List.mem_range.1 k.2;omega⟩
theorem Ee(n:Nat):(n4 n).map (·.1)=(Zw n).map λ k:Nat=>(k:Int)+1:=by
 unfold n4;rw[Zu];show(Zw n).attach.map (λ k=>(k.1:Int)+1)=_;rw[List.attach_map_val (l:=Zw n) (f:=λ k:Nat=>(k:Int)+1)]
end
section
open Go.RowKit Go.Shelf
theorem NG:(y_.info? 74).map (λ i=>(i.zero,i.size,i.bytes))=some (some (.agg #[.slice none 0 0,.int .i64 0,.int .i64 0]),3,40):=by kernel_rfl
structure mO where
 r:Row
 aS:Int
 ac:Int
def sZ(e:mO):List Value:=[kF e.r,.int .i64 e.aS,.int .i64 e.ac]
def p8(es:List mO):List Value:=(es.map sZ).flatten
theorem HC:∀es:List mO,(p8 es).length=es.length*3
 |[]=>rfl
 |e::es=>by
  have:=HC es;unfold p8 at this⊢;simp only[List.map_cons,List.flatten_cons,r_,this,sZ,List.length_cons,List.length_nil];omega
theorem NH(a b:List mO):p8 (a++b)=p8 a++p8 b:=by simp[p8]
theorem Cn:∀(es:List mO)(j:Nat)(h:j<es.length)(k:Nat),k<3->(p8 es)[j*3+k]? =(sZ es[j])[k]?
 |[],j,h,k,hk=>by simp at h
 |e::es,0,h,k,hk=>by
  show(sZ e++p8 es)[0*3+k]? =_;rw[List.getElem?_append_left (by simp[sZ];omega)];simp
 |e::es,j+1,h,k,hk=>by
  show(sZ e++p8 es)[(j+1)*3+k]? =_;rw[List.getElem?_append_right (by simp[sZ];omega)];have:=Cn es j (by simpa using h) k hk;rw[show(j+1)*3+k-(sZ e).length=j*3+k by simp[sZ];omega,this];rfl
structure r8(w:World)(A:Option Addr)(n c:Nat)(es:List mO):Prop where
 len:es.length=n
 cap:n<=c
 mP:n*40<=140737488355328
 oo:c<=maxLen
 cells:0<n->∃b off,A=some ⟨b,off,none⟩/\b<w.heap.size/\∀k,k<n*3->w.cell? ⟨b,off+k,none⟩=(p8 es)[k]?
 rows:∀e∈es,aN w e.r.A e.r.n e.r.c e.r.ah
theorem r8.below{w w':World}{A:Option Addr}{n c:Nat}{es:List mO}(h:r8 w A n c es)(d:Below w.heap.size w w'):r8 w' A n c es:=
 ⟨h.len,h.cap,h.mP,h.oo,λ g=>by
  obtain⟨b,off,rfl,f,i⟩:=h.cells g;exact⟨b,off,rfl,l_ f d.size,λ k hk=>(d.cell (p:=⟨b,_,none⟩) f).trans (i k hk)⟩,λ e he=>(h.rows e he).below d⟩
structure mG where
 jf:Int
 r:Row
def r9(e:mG):List Value:=[.int .i64 e.jf,kF e.r]
def nk(es:List mG):List Value:=(es.map r9).flatten
structure nM(w:World)(A:Option Addr)(n c:Nat)(es:List mG):Prop where
 len:es.length=n
 cap:n<=c
 mP:n*32<=140737488355328
 oo:c<=maxLen
 cells:0<n->∃b off,A=some ⟨b,off,none⟩/\b<w.heap.size/\∀k,k<n*2->w.cell? ⟨b,off+k,none⟩=(nk es)[k]?
 rows:∀e∈es,aN w e.r.A e.r.n e.r.c e.r.ah
theorem nM.below{w w':World}{A:Option Addr}{n c:Nat}{es:List mG}(h:nM w A n c es)(d:Below w.heap.size w w'):nM w' A n c es:=
 ⟨h.len,h.cap,h.mP,h.oo,λ g=>by
  obtain⟨b,off,rfl,f,i⟩:=h.cells g;exact⟨b,off,rfl,l_ f d.size,λ k hk=>(d.cell (p:=⟨b,_,none⟩) f).trans (i k hk)⟩,λ e he=>(h.rows e he).below d⟩
def NI(w:World)(base:Nat)(v:Value)(k:Nat)(es:List mO)(v':Value)(w':World):Prop:=
 w'.ownsRow base 74 3 v' k (p8 es)/\w.grownBy w' v.ownBlock/\(v'.ownBlock=v.ownBlock\/v'.ownBlock=some w.heap.size)
theorem NJ(w:World)(ty:TypeId)(base:Nat)(v:Value)(n:Nat)(es:List mO)(d:w.ownsRow base 74 3 v n (p8 es))(c c1:Nat)(e:mO)(f:w.cell? ⟨c,0,none⟩=some (kF e.r))(h1:w.cell? ⟨c,1,none⟩=some (.int .i64 e.aS))(g:w.cell? ⟨c,2,none⟩=some (.int .i64 e.ac))(t:n<=1000000)(i:base<=w.heap.size):
  ∃v' w',(Builtin.append_ #[42,42] ty #[v,.slice (some ⟨c,0,none⟩) 1 c1]).run y_ w=.ok v' w'/\NI w base v (n+1) (es++[e]) v' w':=by
 obtain⟨i0,k,l,m,o⟩:=info_parts NG;have p:∀j u,(sZ e)[j]? =some u->w.cell? ((⟨c,0,none⟩:Addr).add j)=some u:=by
  intro j u b;have y:j<3:=(List.getElem?_eq_some_iff.1 b).1;rw[Addr.add_lit,Nat.zero_add];unfold sZ at b;rcases(show j=0\/j=1\/j=2 by omega) with rfl|rfl|rfl
  ·simp only[x_,d_] at b;subst b;exact f
  ·simp only[w_,x_,d_] at b;subst b;exact h1
  ·simp only[w_,x_,d_] at b;subst b;exact g
 have q:∀u∈sZ e,u.oneCell'=true:=by
  intro u hu;unfold sZ at hu;simp only[List.mem_cons,List.not_mem_nil,or_false] at hu;rcases hu with rfl|rfl|rfl<;>rfl
 have s:p8 (es++[e])=p8 es++sZ e:=by rw[NH];simp[p8]
 obtain⟨v',w',g1,g2,g3,_,g5⟩:=run_append_own_at (P:=y_) w base 42 ty 74 i0 (.agg #[.slice none 0 0,.int .i64 0,.int .i64 0]) 3 40 Tryz.underlying42 k l m o rfl (by decide) v n (p8 es) d ⟨c,0,none⟩ 1 c1 (sZ e) rfl p q (by unfold maxLen;omega) (by omega) i;rw[<-s] at g2;exact⟨v',w',g1,g2,g3,g5⟩
theorem r8.lq{A:Option Addr}{es:List mO}(h:w.ownsRow base 74 3 (.slice A n c) n (p8 es))(d:n*40<=140737488355328)(f:∀e∈es,aN w e.r.A e.r.n e.r.c e.r.ah):r8 w A n c es:=by
 have hl:es.length=n:=by have:=h.1;rw[HC] at this;omega
 rcases h.2 with⟨b,i⟩|⟨g,cap,cur,b,m,o,j,l,p,q⟩
 ·simp only[Zt] at b;obtain⟨rfl,_,rfl⟩:=b;subst i;exact⟨hl,q_ _,d,Nat.zero_le _,λ h=>absurd h (by omega),f⟩
 ·simp only[Zt] at b;obtain⟨rfl,_,rfl⟩:=b;refine⟨hl,j,d,l,λ i=>⟨g,0,rfl,(h.lt g rfl).2,λ k hk=>?_⟩,f⟩;rw[Nat.zero_add];exact h.cellAt k hk
theorem aP.still(h:aP K base w G hs cb s){P:Nat->Prop}(f:aF (λ b=>b<w.heap.size/\¬P b) w W)(c:∀b,P b->K b):aP K base W G hs cb s:=by
 have k:¬P G:=λ e=>h.s.g (c _ e)
 refine⟨⟨f.blk h.e.box ⟨h.e.box.lt,k⟩,⟨λ r=>mK (h.e.rows.row r) (λ b i=>?_),h.e.rows.apart⟩,λ d j=>f.blk (h.e.cls d j) ⟨(h.e.cls d j).lt,λ e=>h.s.cl d j (c _ e)⟩,h.e.inj,h.e.rB,h.e.rW⟩,h.s.more f.size⟩;rw[aq.own] at i;exact f.keep b ⟨(h.e.rows.lt i).2,λ e=>h.s.row r b i (c _ e)⟩
end
end Go.Proofs.YtogdlkfacflmaaaGreat
