/- Parts of the walk of the solver and its core; no condition. -/
import Derived.Test.YtogdlkfacflmaaaGreatZW6
import Derived.Deep.LoopGhost
import Derived.Test.YtogdlkfacflmaaaGreatZW1
import Derived.Maps.RangeWalk
import Derived.Test.YtogdlkfacflmaaaGreatZW3
namespace Go.Proofs.YtogdlkfacflmaaaGreat
set_option linter.unusedVariables false
set_option linter.unusedSimpArgs false
set_option maxRecDepth 1000000
set_option maxHeartbeats 8000000
open _root_.And renaming intro→z_
open _root_.Go.Proofs.Tryz renaming prog→y_,underlying3→q_,underlying4→d_
open _root_.Go.IntKind renaming wrap_i64→x_,i64→v_
open _root_.Go.World renaming putObj_heap_other→w_,cell?_of_block→u_
open _root_.Go renaming wp_region_still_tail→t_,callsIn_wide→c_,wpStill_nil→a_
open _root_.List renaming take_succ_cons→s_,drop_succ_cons→r_,length_filter_le→p_,length_singleton→o_,take_zero→i_,drop_zero→h_,length_append→g_,mem_singleton→f_,length_pos_of_mem→b_
open _root_.Go.RowKit.Below renaming refl→n_
open _root_.Nat renaming mul_le_mul_right→m_
open _root_.Go.CallsIn renaming inRound→l_
open _root_.Int renaming mul_le_mul_of_nonneg_left→k_
open _root_.Go.KeepsFrom renaming refl→j_,of_grownBy→Zx
open _root_.Go.Fence renaming wide→e_
open _root_.Array renaming replicate_succ→Zz,replicate_zero→Zy
variable{x B kF lit:Int}{K:Nat->Prop}{base G aH bI bL c6 bt n h i d b lg lX bm:Nat}{w W A:World}{hs ls:Nat->ax}{cb:Nat->Nat}{F Fd:List (List Int)}{s aI:an}{aL mk:List Int}{X:Nat->List Value}{aP:List Bool}{ds:List Nat}{jJ c5 iW lB gE gl iw gI gQ u16 gm gn gp gD gq gr gu gv gw gx gy gz fN fO fP u32 fQ fR fS fT fU fV fW fZ ga gb gd gA gB gX gY bM bN bO bP bQ bR bS bT bU bV bW bX bY bZ b5 u64 b6 b7 b8 b9 cc cg ck cm cn cp cr ct cu cv cw cz cA cB cC cD cE c7 c8 c9 dc de dh di dm cG cH cI cK cL cM cN cO cQ cR cS cT cU cV cW cZ c4 dn dr dw dx dy dz dA dB dD dF dG dH dI dJ dK dL dM dN dO dP dQ dR dS dU dV dW dX dY dZ ec fF fG fH ee ef ei ej ek en eo ep er eu ew ey fI fJ fK ez eA eB eC eD eE eF eG eH eL eM eN eO eP eR eS eT eU eV eW eX eY eZ e3 e4 e5 e6 e7 e8 e9 fc fe ff fh fk fm gh gi fo fq fu fA fB fC fD ig:Value}{Q:Exit->Act->World->Prop}{hU:ax}{iO:List Value}{a:Act}
section
open Go.RowKit Go.Shelf
attribute [local go_sem] Oper.semAt_some
noncomputable def KR:Code:=(Tryz.f146.body.bind λ c=>qj c 2).getD .skip
def BA(K:Nat->Prop)(base:Nat)(w:World)(G:Nat)(hs:Nat->ax)(cb:Nat->Nat)(n:Nat)(B:Int)(F:List (List Int))(aI:an)(aH b c d bt:Nat)(e:ax)(f:List Value)(i:Nat)(ex:List Int)(ds:List Nat)(pre:List Int)(V:World):Prop:=
 ∃(s:an)(g:List Bool)(j mk:List Int)(ls:Nat->ax)(X:Nat->List Value),mV K base w V G hs cb n B F aI aH b c d bt e f i (ex.drop pre.length) ds s g j mk ls X
theorem KS{pre ex:List Int}(h:(pre++[x])<+:ex):ex.drop pre.length=x::ex.drop (pre++[x]).length:=by
 obtain⟨r,rfl⟩:=h;rw[List.append_assoc,List.drop_left,<-List.append_assoc,List.drop_left];rfl
theorem KT{gZ jD:Nat}{gR:Value}
  (C:vk F Fd aI n h kF) (Y:0<=B) (Z:B<=4611686018427387904) (H:mV K base w W G hs cb n B F aI aH bI bL c6 bt (om jD) [.int .i64 lit] i (others (az aI.c.cl d) lit) ds s aP aL mk ls X) (ag:d<aI.c.cl.length) (hm:1<=(az aI.c.cl d).length) (c1:W.cell? ⟨gZ,0,none⟩=some (.pointer (some ⟨cb d,0,none⟩))) (aw:gZ<W.heap.size)
  (ab:∀(D:Nat)(W':World)(s':an)(M:List Bool)(N mk':List Int)(O:Nat->ax)(P:Nat->List Value),mV K base w W' G hs cb n B F aI aH bI bL c6 bt (om jD) [.int .i64 lit] i [] (D::ds) s' M N mk' O P->Q .normal {tmps:= #[.pointer (some ⟨G,0,none⟩),jJ,.pointer (some ⟨aH,0,none⟩),c5,.pointer (some ⟨bI,0,none⟩),iW,.pointer (some ⟨bL,0,none⟩),.pointer (some ⟨bt,0,none⟩),.pointer (some ⟨c6,0,none⟩),lB,gR,gE,gl,iw,gI,gQ,u16,gm,gn,gp,gD,gq,gr,gu,gv,gw,gx,gy,gz,fN,fO,fP,u32,fQ,fR,fS,fT,fU,fV,fW,fZ,ga,gb,gd,gA,gB,.func (.func 224) #[] #[.pointer (some ⟨gZ,0,none⟩),.pointer (some ⟨jD,0,none⟩)],gX,gY,bM,bN,bO,bP,bQ,bR,bS,bT,bU,bV,bW,bX,bY,bZ,b5,u64,b6,b7,b8,b9,cc,cg,ck,cm,cn,cp,cr,ct,cu,cv,cw,cz,cA,cB,cC,cD,cE,c7,c8,c9,dc,de,dh,di,dm,cG,cH,cI,cK,cL,cM,cN,cO,cQ,cR,cS,cT,cU,cV,cW,cZ,c4,dn,dr,dw,dx,dy,dz,dA,dB,dD,dF,dG,dH,dI,dJ,dK,dL,dM,dN,dO,dP,dQ,dR,dS,dU,dV,dW,dX,dY,dZ,ec,fF,fG,fH,ee,ef,ei,ej,ek,en,eo,ep,er,eu,ew,ey,fI,fJ,fK,ez,eA,eB,eC,eD,eE,eF,eG,eH,eL,eM,eN,eO,eP,eR,eS,eT,eU,eV,eW,eX,eY,eZ,e3,e4,e5,e6,e7,e8,e9,fc,fe,ff,fh,fk,fm,gh,gi,fo,fq,fu,fA,fB,fC,fD],defers:=oD D::ds.map oD} W'):
  Code.wp y_ KR Q {tmps:= #[.pointer (some ⟨G,0,none⟩),jJ,.pointer (some ⟨aH,0,none⟩),c5,.pointer (some ⟨bI,0,none⟩),iW,.pointer (some ⟨bL,0,none⟩),.pointer (some ⟨bt,0,none⟩),.pointer (some ⟨c6,0,none⟩),lB,gR,gE,gl,iw,gI,gQ,u16,gm,gn,gp,gD,gq,gr,gu,gv,gw,gx,gy,gz,fN,fO,fP,u32,fQ,fR,fS,fT,fU,fV,fW,fZ,ga,gb,gd,gA,gB,.func (.func 224) #[] #[.pointer (some ⟨gZ,0,none⟩),.pointer (some ⟨jD,0,none⟩)],gX,gY,bM,bN,bO,bP,bQ,bR,bS,bT,bU,bV,bW,bX,bY,bZ,b5,u64,b6,b7,b8,b9,cc,cg,ck,cm,cn,cp,cr,ct,cu,cv,cw,cz,cA,cB,cC,cD,cE,c7,c8,c9,dc,de,dh,di,dm,cG,cH,cI,cK,cL,cM,cN,cO,cQ,cR,cS,cT,cU,cV,cW,cZ,c4,dn,dr,dw,dx,dy,dz,dA,dB,dD,dF,dG,dH,dI,dJ,dK,dL,dM,dN,dO,dP,dQ,dR,dS,dU,dV,dW,dX,dY,dZ,ec,fF,fG,fH,ee,ef,ei,ej,ek,en,eo,ep,er,eu,ew,ey,fI,fJ,fK,ez,eA,eB,eC,eD,eE,eF,eG,eH,eL,eM,eN,eO,eP,eR,eS,eT,eU,eV,eW,eX,eY,eZ,e3,e4,e5,e6,e7,e8,e9,fc,fe,ff,fh,fk,fm,gh,gi,fo,fq,fu,fA,fB,fC,fD],defers:=ds.map oD} W:=by
 have R:=aa H;have u:s.c=aI.c:=H.kV.c;obtain⟨bz,m1,ay,f⟩:=H.aO.gj.gH.yP (d:=d) (by rw[u];exact ag) (by rw[u];exact hm);rw[u] at f;have aA:m1<=22:=by have:=(C.gP.jF.mB d ag).len;have:=C.jt;have:=C.n10;have:=f.len;omega
 have aB:=(H.aO.gj.gH.e.rows.lt f.b).2;have aC:=(H.aO.gj.gH.e.cls d (by rw[u];exact ag)).lt;have c2:W.cell? ⟨jD,0,none⟩=some (.int .i64 lit):=(H.aO.gj.kC (r:=11) (g:=jD) (by rw[H.aO.s4];rfl) (by rw[H.aO.uR];rfl)).1;have aD:=(H.aO.gj.lt (r:=11) (g:=jD) (by rw[H.aO.s4];rfl)).2;have j:=aa C;have aZ:=aa (z_ f (z_ aA (z_ ag hm)));have ad:=aa (z_ Y Z);have aE:=aa ab;have ae:OwnFrom W.heap.size (BA K base w G hs cb n B F aI aH bI bL c6 bt (om jD) [.int .i64 lit] i (others (az aI.c.cl d) lit) ds):=by
  rintro pre a6 gZ row ⟨s1,q,z,A,I,J,h1⟩ aF aG;exact⟨s1,q,z,A,I,J,h1.uP aF aG R.o.aO.gj.iR.size (λ D T=>R.o.ms.lt T)⟩
 have af:=aa ae;have aJ:fE (∀(V m:World)(pre ah:List Int),BA K base w G hs cb n B F aI aH bI bL c6 bt (om jD) [.int .i64 lit] i (others (az aI.c.cl d) lit) ds pre V->BA K base w G hs cb n B F aI aH bI bL c6 bt (om jD) [.int .i64 lit] i (others (az aI.c.cl d) lit) ds ah m->o9 jD bz m1 V m):=aa (by
  rintro V m pre ah ⟨s1,q,z,A,I,J,h1⟩ ⟨s2,a7,a8,a',ba,bb,p⟩;have aK:V.cell? ⟨jD,0,none⟩=some (.int .i64 lit):=(h1.aO.gj.kC (r:=11) (g:=jD) (by rw[h1.aO.s4];rfl) (by rw[h1.aO.uR];rfl)).1;have aM:m.cell? ⟨jD,0,none⟩=some (.int .i64 lit):=(p.aO.gj.kC (r:=11) (g:=jD) (by rw[p.aO.s4];rfl) (by rw[p.aO.uR];rfl)).1;refine⟨λ v t=>by rw[aK] at t;rw[aM,<-t],λ k v hk t=>?_⟩;have ai:=h1.aO.gj.gH.e.xZ (d:=d) f.b (k:=k) (by rw[h1.kV.c,f.len];exact hk);have aj:=p.aO.gj.gH.e.xZ (d:=d) f.b (k:=k) (by rw[p.kV.c,f.len];exact hk);rw[h1.kV.c] at ai;rw[p.kV.c] at aj;rw[ai] at t;rw[aj,<-t])
 have bc:=H.aO.gj.iR.size;clear H C u ag hm Y Z ab ae
 conv=>arg 2;whnf
 refine(wpIn_wide (n:=6)).1 ?_;refine CI (F:=e_) (w0:=W) rfl (by omega) (gf:=224) (lb:= #[.pointer (some ⟨gZ,0,none⟩),.pointer (some ⟨jD,0,none⟩)]) rfl trivial C9
  (Db (6-1) (by omega) gZ jD (cb d) bz m1 ay (az aI.c.cl d) lit f.len (by omega) W c1 c2 f.ag f.kC aw aD aC aB)
  (λ h k=>h.trans k) (λ V l o bd hl t ak _=>⟨λ v U=>(u_ (w:=V) (w_ (by show jD≠l;omega))).trans U,λ k v _ U=>(u_ (w:=V) (w_ (by show bz≠l;omega))).trans U⟩) (n_ _ _) (λ _=>rfl)
  (BA K base w G hs cb n B F aI aH bI bL c6 bt (om jD) [.int .i64 lit] i (others (az aI.c.cl d) lit) ds) (λ _ _ _=>False)
  af.o (λ _ _ _ _ _ h=>h.elim) ⟨s,aP,aL,mk,ls,X,R.o⟩
  ?a1 ?w1 ?assign ?kw1 ?body ?done ?stop
 case assign=>
  intro l pre y m bf S al aN
  gi_wp2
  exact aN
 case kw1=>
  intro pre y m S;exact⟨j_ _ _,o9.refl _ _ _ _⟩
 case body=>
  rintro l pre y ao m S ⟨o,aQ,aq,ak,ar,au⟩ al bg;have av:=af.o _ _ _ _ S (show ao.grownBy m (some (W.heap.size+1)) by rw[aq];exact grownBy_putObj' ao (W.heap.size+1) o) (λ r e=>by cases e;exact⟨by omega,aQ,ar,au⟩);have aR:=aa av;clear S aq ak ar au;obtain⟨s1,q,z,A,I,J,h1⟩:=av;rw[KS al] at h1;have aS:=h1.mT j.o;have aT:gW n y:=by have:=h1.li.wG y (by simp);rw[j.o.jt] at this;exact this
  have bh:=Ab aI.c q i;have bj:=h1.li.qO;have aU:=j.o.gP.aL.len;rw[j.o.jt] at aU;have bk:=j.o.n10;refine wpIn_block ?_;refine KQ (l:=l) (x:=y) h1.aO h1.kV j.o.n10 j.o.st2 j.o.kX aS.2 (by have:=j.o.gP.aL.o7;rw[j.o.jt] at this;exact this) ad.o.1 ad.o.2 aT (by omega) (by have:=h1.sC;simp;omega) (by omega) ?_ ?_
  ·intro a W' h;exact h
  intro a W' s' O P M bl mk' bn aV aW L k;obtain⟨N,p⟩:=h1.step j.o aV aW L k;exact⟨k.from _,aJ.o _ _ _ _ aR.o ⟨s',M,N,mk',O,P,p⟩,s',M,N,mk',O,P,p⟩
 case done=>
  rintro D ys m T rfl ⟨s1,q,z,A,I,J,h1⟩ aX;rw[List.drop_length] at h1;exact aE.o D m s1 q z A I J (h1.mark (by omega) aX (λ E aY=>by have:=R.o.ms.lt aY;omega))
 case stop=>
  rintro D bo pre m T bp h;exact h.elim
end
section
open Go.RowKit Go.Shelf
noncomputable def KU:Code:=(Tryz.f146.body.bind λ c=>qj c 4).getD .skip
theorem KV
  (C:vk F Fd aI n h kF) (H:mV K base w W G hs cb n B F aI aH bI bL c6 bt hU iO i [] ds s aP aL mk ls X)
  (t:∀(j:Nat)(cG cH cI cK cL cM cN cO cQ cR cS cT cU cV cW cZ c4:Value)(W':World),mV K base w W' G hs cb n B F aI aH bI bL c6 bt hU iO (j+1) [] ds s aP aL mk ls X->j<i->iU aP (aG (aj aI.c.ay j))=true->Q (.exit 4) {tmps:= #[.pointer (some ⟨G,0,none⟩),jJ,.pointer (some ⟨aH,0,none⟩),c5,.pointer (some ⟨bI,0,none⟩),iW,.pointer (some ⟨bL,0,none⟩),.pointer (some ⟨bt,0,none⟩),.pointer (some ⟨c6,0,none⟩),lB,.int .i64 (j:Int),gE,gl,iw,gI,gQ,u16,gm,gn,gp,gD,gq,gr,gu,gv,gw,gx,gy,gz,fN,fO,fP,u32,fQ,fR,fS,fT,fU,fV,fW,fZ,ga,gb,gd,gA,gB,ig,gX,gY,bM,bN,bO,bP,bQ,bR,bS,bT,bU,bV,bW,bX,bY,bZ,b5,u64,b6,b7,b8,b9,cc,cg,ck,cm,cn,cp,cr,ct,cu,cv,cw,cz,cA,cB,cC,cD,cE,c7,c8,c9,dc,de,dh,di,dm,cG,cH,cI,cK,cL,cM,cN,cO,cQ,cR,cS,cT,cU,cV,cW,cZ,c4,dn,dr,dw,dx,dy,dz,dA,dB,dD,dF,dG,dH,dI,dJ,dK,dL,dM,dN,dO,dP,dQ,dR,dS,dU,dV,dW,dX,dY,dZ,ec,fF,fG,fH,ee,ef,ei,ej,ek,en,eo,ep,er,eu,ew,ey,fI,fJ,fK,ez,eA,eB,eC,eD,eE,eF,eG,eH,eL,eM,eN,eO,eP,eR,eS,eT,eU,eV,eW,eX,eY,eZ,e3,e4,e5,e6,e7,e8,e9,fc,fe,ff,fh,fk,fm,gh,gi,fo,fq,fu,fA,fB,fC,fD],defers:=ds.map oD} W'):
  Code.wp y_ KU Q {tmps:= #[.pointer (some ⟨G,0,none⟩),jJ,.pointer (some ⟨aH,0,none⟩),c5,.pointer (some ⟨bI,0,none⟩),iW,.pointer (some ⟨bL,0,none⟩),.pointer (some ⟨bt,0,none⟩),.pointer (some ⟨c6,0,none⟩),lB,.int .i64 ((i:Int)-1),gE,gl,iw,gI,gQ,u16,gm,gn,gp,gD,gq,gr,gu,gv,gw,gx,gy,gz,fN,fO,fP,u32,fQ,fR,fS,fT,fU,fV,fW,fZ,ga,gb,gd,gA,gB,ig,gX,gY,bM,bN,bO,bP,bQ,bR,bS,bT,bU,bV,bW,bX,bY,bZ,b5,u64,b6,b7,b8,b9,cc,cg,ck,cm,cn,cp,cr,ct,cu,cv,cw,cz,cA,cB,cC,cD,cE,c7,c8,c9,dc,de,dh,di,dm,cG,cH,cI,cK,cL,cM,cN,cO,cQ,cR,cS,cT,cU,cV,cW,cZ,c4,dn,dr,dw,dx,dy,dz,dA,dB,dD,dF,dG,dH,dI,dJ,dK,dL,dM,dN,dO,dP,dQ,dR,dS,dU,dV,dW,dX,dY,dZ,ec,fF,fG,fH,ee,ef,ei,ej,ek,en,eo,ep,er,eu,ew,ey,fI,fJ,fK,ez,eA,eB,eC,eD,eE,eF,eG,eH,eL,eM,eN,eO,eP,eR,eS,eT,eU,eV,eW,eX,eY,eZ,e3,e4,e5,e6,e7,e8,e9,fc,fe,ff,fh,fk,fm,gh,gi,fo,fq,fu,fA,fB,fC,fD],defers:=ds.map oD} W:=by
 have O:=aa t;have g:=aa C;have P:=aa H;have R:=H.li.open
 have h1:=Ab aI.c aP i;have ad:1<=i:=by omega
 clear C H t R h1
 conv=>arg 2;whnf
 dsimp only
 go_loopw [10] (λ x W'=>∃j:Nat,x=.int .i64 (j:Int)/\j<i/\mV K base w W' G hs cb n B F aI aH bI bL c6 bt hU iO (j+1) [] ds s aP aL mk ls X) (λ x _=>(intOf x).toNat)
 case atStart=>
  refine⟨i-1,by congr 1;omega,by omega,?_⟩;rw[show i-1+1=i by omega];exact P.o
 case round=>
  obtain⟨j,rfl,S,d⟩:=hrel;have L:=aa d;have aF:=d.aO.aF;have p:j<aI.c.ay.length:=by have:=d.li.qO;omega
  have ae:=g.o.gP.aL.len;have af:=g.o.n10;have T:=g.o.jt;obtain⟨x,m⟩:∃x,aj aI.c.ay j=x:=⟨_,rfl⟩
  have u:gW n x:=by have:=g.o.gP.aL.lit _ (lZ p);rw[m,T] at this;exact this
  obtain⟨v,l⟩:∃v,aG x=v:=⟨_,rfl⟩
  have U:v<=n:=by have:=u.2;omega
  have V:fE (∀w:World,Calls y_ 97 #[.int .i64 x] w λ e w'=>e=.returned (.int .i64 (v:Int))/\w=w'):=aa (λ w=>by have:=sZ x w (by unfold aG at l;omega) (by unfold aG at l;omega);rw[l] at this;exact this);have Y:=(d.mT g.o).2;obtain⟨g12,y,Z,f12⟩:=d.aO.gj.gH.e.lW 16 12 rfl d.aO.gj.gH.e.n12 (by rw[d.kV.aP];omega);have z:=d.aO.gj.gH.e.zQ y (k:=v) (by rw[d.kV.aP];omega);have ag:(v:Int)<(s.aP.length:Int):=by rw[d.kV.aP];omega
  obtain⟨g4,A,ab,f4⟩:=d.aO.gj.gH.e.lW 5 4 rfl d.aO.gj.gH.e.j5 (by rw[d.kV.c];omega);have E:=d.aO.gj.gH.e.zP A (k:=j) (by rw[d.kV.c];exact p);have ah:(j:Int)<(s.c.ay.length:Int):=by rw[d.kV.c];omega
  rw[show aj s.c.ay j=x by rw[d.kV.c];exact m] at E;obtain⟨I,q⟩:∃b,iU s.aP v=b:=⟨_,rfl⟩
  rw[q] at z;have J:iU aP (aG (aj aI.c.ay j))=I:=by rw[m,l,<-d.kV.aP];exact q
  have r:=aa (z_ J (z_ S p));have ai:v_.wrap ((j:Int)-1)=(j:Int)-1:=by rw[x_];omega
  clear d u l U Y y f12 A f4 q J m
  go_wp2_with fail
  refine t_ 14 (by kernel_rfl) (by kernel_rfl) ?_;simp only[s_,i_,r_,h_]
  iterate 11 still_step
  still_call ((V.o _).mono (λ e w' h=>⟨h.1,h.2.symm⟩))
  iterate 2 still_step
  refine a_ ?_;change wpList _ _ _ _ _ wr.drew;have f:=aa (L.o.grow ((n_ _ wr).drew));clear aF Z z ab E;generalize wr.drew=ak at*
  cases I with
  |true=>
   go_wp2_with fail
   exact O.o j _ _ _ _ _ _ _ _ _ _ _ _ _ _ _ _ _ _ f.o r.o.2.1 r.o.1
  |false=>
   obtain⟨a1,a2⟩:=f.o.li.down r.o.1;have M:=a1.open
   have N:=Ab aI.c aP j;have D:=aa (z_ a1 (z_ a2 (z_ M N)));clear a1 a2 M N
   go_wp2_with fail
   go_roundw
   case rel=>
    refine⟨j-1,by congr 1;have:=D.o;omega,by have:=D.o;omega,?_⟩;rw[show j-1+1=j by have:=D.o;omega];exact⟨by rw[D.o.2.1];exact f.o.aO,f.o.kV,D.o.1,f.o.sB,f.o.qE,f.o.sC,f.o.ms⟩
   case measure=>simp[intOf];have:=D.o;omega
structure BB(K:Nat->Prop)(base:Nat)(w W:World)(G:Nat)(hs:Nat->ax)(cb:Nat->Nat)(n:Nat)(B:Int)(F:List (List Int))(aI:an)(aH bI bL c6 bt:Nat)(op:Int)(hU:ax)(iO:List Value)(j:Nat)(ds:List Nat)(s:an)(aP:List Bool)(aL mk:List Int)(ls:Nat->ax)(X:Nat->List Value):Prop where
 aO:kM K base w W G hs cb s aH bI bL c6 bt (0::aL) mk op hU iO ls X
 kV:r6 n B aI aP s
 li:oh F aI.c (j+1) aP aL []
 sB:mk.Nodup
 qE:∀z:Int,z∈mk↔∃v:Nat,z=v/\iU aP v=true
 sC:aL.length<=mk.length
 ms:oT w.heap.size W ds
 x3:iU aP (aG (aj aI.c.ay j))=true
 one:mS aI.c aP (j+1)=1
noncomputable def F6:Code:=mU ((Tryz.f146.body.bind λ c=>qj c 1).getD .skip)
theorem KW
  (C:vk F Fd aI n h kF) (V:0<=B) (Y:B<=4611686018427387904) (H:mV K base w W G hs cb n B F aI aH bI bL c6 bt hU iO i (others (az aI.c.cl d) lit) ds s aP aL mk ls X) (Z:d<aI.c.cl.length) (hm:1<=(az aI.c.cl d).length)
  (q:∀(j:Nat)(op:Int)(hU:ax)(iO:List Value)(s:an)(aP:List Bool)(aL mk:List Int)(ls:Nat->ax)(X:Nat->List Value)(ds:List Nat)(aB c5 aC gE gl iw gI gQ u16 gm gn gp gD gq gr gu gv gw gx gy gz fN fO fP u32 fQ fR fS fT fU fV fW fZ ga gb gd gA gB ig gX gY bM bN bO bP bQ bR bS bT bU bV bW bX bY bZ b5 u64 b6 b7 b8 b9 cc cg ck cm cn cp cr ct cu cv cw cz cA cB cC cD cE c7 c8 c9 dc de dh di dm cG cH cI cK cL cM cN cO cQ cR cS cT cU cV cW cZ c4 dn dr dw dx dy dz dA dB dD dF dG dH dI dJ dK dL dM dN dO dP dQ dR dS dU dV dW dX dY dZ ec fF fG fH ee ef ei ej ek en eo ep er eu ew ey fI fJ fK ez eA eB eC eD eE eF eG eH eL eM eN eO eP eR eS eT eU eV eW eX eY eZ e3 e4 e5 e6 e7 e8 e9 fc fe ff fh fk fm gh gi fo fq fu fA fB fC fD:Value)(W':World),BB K base w W' G hs cb n B F aI aH bI bL c6 bt op hU iO j ds s aP aL mk ls X->Q (.exit 0) {tmps:= #[.pointer (some ⟨G,0,none⟩),aB,.pointer (some ⟨aH,0,none⟩),c5,.pointer (some ⟨bI,0,none⟩),.int .i64 0,.pointer (some ⟨bL,0,none⟩),.pointer (some ⟨bt,0,none⟩),.pointer (some ⟨c6,0,none⟩),.int .i64 (aj aI.c.ay j),aC,gE,gl,iw,gI,gQ,u16,gm,gn,gp,gD,gq,gr,gu,gv,gw,gx,gy,gz,fN,fO,fP,u32,fQ,fR,fS,fT,fU,fV,fW,fZ,ga,gb,gd,gA,gB,ig,gX,gY,bM,bN,bO,bP,bQ,bR,bS,bT,bU,bV,bW,bX,bY,bZ,b5,u64,b6,b7,b8,b9,cc,cg,ck,cm,cn,cp,cr,ct,cu,cv,cw,cz,cA,cB,cC,cD,cE,c7,c8,c9,dc,de,dh,di,dm,cG,cH,cI,cK,cL,cM,cN,cO,cQ,cR,cS,cT,cU,cV,cW,cZ,c4,dn,dr,dw,dx,dy,dz,dA,dB,dD,dF,dG,dH,dI,dJ,dK,dL,dM,dN,dO,dP,dQ,dR,dS,dU,dV,dW,dX,dY,dZ,ec,fF,fG,fH,ee,ef,ei,ej,ek,en,eo,ep,er,eu,ew,ey,fI,fJ,fK,ez,eA,eB,eC,eD,eE,eF,eG,eH,eL,eM,eN,eO,eP,eR,eS,eT,eU,eV,eW,eX,eY,eZ,e3,e4,e5,e6,e7,e8,e9,fc,fe,ff,fh,fk,fm,gh,gi,fo,fq,fu,fA,fB,fC,fD],defers:=ds.map oD} W')
  (hk:∀(j m:Nat)(ab:Int)(hU:ax)(iO:List Value)(s:an)(aP:List Bool)(aL mk:List Int)(ls:Nat->ax)(X:Nat->List Value)(ds:List Nat)(c5 gE gl iw gI gQ u16 gm gn gp gD gq gr gu gv gw gx gy gz fN fO fP u32 fQ fR fS fT fU fV fW fZ ga gb gd gA gB ig gX gY bM bN bO bP bQ bR bS bT bU bV bW bX bY bZ b5 u64 b6 b7 b8 b9 cc cg ck cm cn cp cr ct cu cv cw cz cA cB cC cD cE c7 c8 c9 dc de dh di dm cG cH cI cK cL cM cN cO cQ cR cS cT cU cV cW cZ c4 dn dr dw dx dy dz dA dB dD dF dG dH dI dJ dK dL dM dN dO dP dQ dR dS dU dV dW dX dY dZ ec fF fG fH ee ef ei ej ek en eo ep er eu ew ey fI fJ fK ez eA eB eC eD eE eF eG eH eL eM eN eO eP eR eS eT eU eV eW eX eY eZ e3 e4 e5 e6 e7 e8 e9 fc fe ff fh fk fm gh gi fo fq fu fA fB fC fD:Value)(W':World),mV K base w W' G hs cb n B F aI aH bI bL c6 bt hU iO j (others (az aI.c.cl m) ab) ds s aP aL mk ls X->m<aI.c.cl.length->1<=(az aI.c.cl m).length->j<i->Q .normal {tmps:= #[.pointer (some ⟨G,0,none⟩),.pointer (some ⟨cb m,0,none⟩),.pointer (some ⟨aH,0,none⟩),c5,.pointer (some ⟨bI,0,none⟩),.int .i64 0,.pointer (some ⟨bL,0,none⟩),.pointer (some ⟨bt,0,none⟩),.pointer (some ⟨c6,0,none⟩),.int .i64 ab,.int .i64 (j:Int),gE,gl,iw,gI,gQ,u16,gm,gn,gp,gD,gq,gr,gu,gv,gw,gx,gy,gz,fN,fO,fP,u32,fQ,fR,fS,fT,fU,fV,fW,fZ,ga,gb,gd,gA,gB,ig,gX,gY,bM,bN,bO,bP,bQ,bR,bS,bT,bU,bV,bW,bX,bY,bZ,b5,u64,b6,b7,b8,b9,cc,cg,ck,cm,cn,cp,cr,ct,cu,cv,cw,cz,cA,cB,cC,cD,cE,c7,c8,c9,dc,de,dh,di,dm,cG,cH,cI,cK,cL,cM,cN,cO,cQ,cR,cS,cT,cU,cV,cW,cZ,c4,dn,dr,dw,dx,dy,dz,dA,dB,dD,dF,dG,dH,dI,dJ,dK,dL,dM,dN,dO,dP,dQ,dR,dS,dU,dV,dW,dX,dY,dZ,ec,fF,fG,fH,ee,ef,ei,ej,ek,en,eo,ep,er,eu,ew,ey,fI,fJ,fK,ez,eA,eB,eC,eD,eE,eF,eG,eH,eL,eM,eN,eO,eP,eR,eS,eT,eU,eV,eW,eX,eY,eZ,e3,e4,e5,e6,e7,e8,e9,fc,fe,ff,fh,fk,fm,gh,gi,fo,fq,fu,fA,fB,fC,fD],defers:=ds.map oD} W'):
  Code.wp y_ F6 Q {tmps:= #[.pointer (some ⟨G,0,none⟩),.pointer (some ⟨cb d,0,none⟩),.pointer (some ⟨aH,0,none⟩),c5,.pointer (some ⟨bI,0,none⟩),.int .i64 0,.pointer (some ⟨bL,0,none⟩),.pointer (some ⟨bt,0,none⟩),.pointer (some ⟨c6,0,none⟩),.int .i64 lit,.int .i64 (i:Int),gE,gl,iw,gI,gQ,u16,gm,gn,gp,gD,gq,gr,gu,gv,gw,gx,gy,gz,fN,fO,fP,u32,fQ,fR,fS,fT,fU,fV,fW,fZ,ga,gb,gd,gA,gB,ig,gX,gY,bM,bN,bO,bP,bQ,bR,bS,bT,bU,bV,bW,bX,bY,bZ,b5,u64,b6,b7,b8,b9,cc,cg,ck,cm,cn,cp,cr,ct,cu,cv,cw,cz,cA,cB,cC,cD,cE,c7,c8,c9,dc,de,dh,di,dm,cG,cH,cI,cK,cL,cM,cN,cO,cQ,cR,cS,cT,cU,cV,cW,cZ,c4,dn,dr,dw,dx,dy,dz,dA,dB,dD,dF,dG,dH,dI,dJ,dK,dL,dM,dN,dO,dP,dQ,dR,dS,dU,dV,dW,dX,dY,dZ,ec,fF,fG,fH,ee,ef,ei,ej,ek,en,eo,ep,er,eu,ew,ey,fI,fJ,fK,ez,eA,eB,eC,eD,eE,eF,eG,eH,eL,eM,eN,eO,eP,eR,eS,eT,eU,eV,eW,eX,eY,eZ,e3,e4,e5,e6,e7,e8,e9,fc,fe,ff,fh,fk,fm,gh,gi,fo,fq,fu,fA,fB,fC,fD],defers:=ds.map oD} W:=by
 have aD:=aa q;have aE:=aa hk;have l:=aa C;have ad:=aa H;have u:=aa (z_ V (z_ Y (z_ Z hm)));clear C H q hk V Y Z hm
 conv=>arg 2;whnf
 dsimp only
 go_wp2_with (go_at_call 183;refine(Da _ _ _).mono ?_;rintro e w1 ⟨rfl,rfl⟩;dsimp only)
 have H1:=ad.o.grow (bB W (.cells #[.pointer (some ⟨cb d,0,none⟩)] 164));obtain⟨aZ,a6,L⟩:=H1.aO.KJ (.int .i64 lit);have ae:(W.alloc (.cells #[.pointer (some ⟨cb d,0,none⟩)] 164)).heap.size=W.heap.size+1:=by simp
 rw[ae] at L;have af:=H1.r5 L (KeepsOthers.below (bB _ _));have c1:((W.alloc (.cells #[.pointer (some ⟨cb d,0,none⟩)] 164)).alloc (.cells #[.int .i64 lit] 3)).cell? ⟨W.heap.size,0,none⟩=some (.pointer (some ⟨cb d,0,none⟩)):=by go_simp
 have ag:W.heap.size<((W.alloc (.cells #[.pointer (some ⟨cb d,0,none⟩)] 164)).alloc (.cells #[.int .i64 lit] 3)).heap.size:=by simp;omega
 clear H1 L ae ad;generalize ((W.alloc (.cells #[.pointer (some ⟨cb d,0,none⟩)] 164)).alloc (.cells #[.int .i64 lit] 3))=a7 at*;refine KT l.o u.o.1 u.o.2.1 af u.o.2.2.1 u.o.2.2.2 c1 ag ?_;clear af c1 ag;intro D a8 s3 p y z A a' E;have aJ:=E.li.qO;have N:=E.li.open
 have O:=Ab aI.c p i;have ba:=l.o.gP.aL.len;have aK:=l.o.jt;have bb:=l.o.n10;have aM:=aa E;have aN:v_.wrap ((i:Int)-1)=(i:Int)-1:=by rw[x_];omega
 clear E
 go_wp2_with fail
 refine KV (ds:=D::ds) l.o aM.o ?_;intro j cG cH cI cK cL cM cN cO cQ cR cS cT cU cV cW cZ c4 P b aQ ah;clear aJ N O aN;have f:=aa b;have R:j<aI.c.ay.length:=by have:=b.li.qO;omega
 have aF:=b.aO.aF;obtain⟨g4,ai,aR,f4⟩:=b.aO.gj.gH.e.lW 5 4 rfl b.aO.gj.gH.e.j5 (by rw[b.kV.c];omega);have ak:=b.aO.gj.gH.e.zP ai (k:=j) (by rw[b.kV.c];exact R);have bc:(j:Int)<(s3.c.ay.length:Int):=by rw[b.kV.c];omega
 obtain⟨x,q⟩:∃x,aj aI.c.ay j=x:=⟨_,rfl⟩
 rw[show aj s3.c.ay j=x by rw[b.kV.c];exact q] at ak;have al:gW n x:=by have:=l.o.gP.aL.lit _ (lZ R);rw[q,aK] at this;exact this
 have wU:=b.aO.wU.1;have aS:=b.aO.wU.2;have N:=b.li.open
 have O:=Ab aI.c p (j+1);obtain⟨g,S⟩:∃o:Nat,mS aI.c p (j+1)=o:=⟨_,rfl⟩
 rw[S] at wU N O;have bd:v_.wrap ((g:Int)-1)=(g:Int)-1:=by rw[x_];omega
 have M:=aa (z_ q (z_ al (z_ S (z_ R (z_ aQ ah)))));clear b ai f4 q al S ah
 by_cases h1:g=1
 ·have aT:((g:Int)-1==0)=true:=by simp;omega
  have H1:=aa h1;clear h1
  go_wp2_with fail
  obtain⟨t,I,J⟩:=f.o.aO.Dq ((g:Int)-1);have aU:BB K base w (P.setCell ⟨c6,0,none⟩ (.int .i64 ((g:Int)-1))) G hs cb n B F aI aH bI bL c6 bt ((g:Int)-1) _ _ j (D::ds) s3 p y z A t:=⟨I,f.o.kV,f.o.li,f.o.sB,f.o.qE,f.o.sC,f.o.ms.others J,M.o.2.2.2.2.2,by rw[M.o.2.2.1];exact H1.o⟩
  have ao:=aD.o j ((g:Int)-1) (om (W.heap.size+1)) [.int .i64 lit] s3 p y z A t (D::ds);rw[M.o.1] at ao;apply ao;exact aU
 ·have aT:((g:Int)-1==0)=false:=by simp;omega
  have H1:=aa h1;clear h1
  go_upto_region 23 with fail
  obtain⟨t,I,J⟩:=f.o.aO.Dq ((g:Int)-1);obtain⟨m,hw,aq,ar,au⟩:=f.o.li.reason l.o.gP.aL l.o.gP.jF M.o.2.2.2.2.2 (by rw[M.o.2.2.1];exact H1.o);have T:=l.o.gP.aL.pV j M.o.2.2.2.1;rw[hw] at T;have av:(g:Int)-1=(mS aI.c p j:Int):=by rw[M.o.2.2.1] at au;omega
  have hH:mV K base w (P.setCell ⟨c6,0,none⟩ (.int .i64 ((g:Int)-1))) G hs cb n B F aI aH bI bL c6 bt _ _ j (others (az aI.c.cl m) x) (D::ds) s3 p y z A t:=⟨by rw[<-av];exact I,f.o.kV,by rw[<-M.o.1];exact ar,f.o.sB,f.o.qE,f.o.sC,f.o.ms.others J⟩
  have hH:=aa hH;rw[M.o.1] at hw;have aw:=aa (z_ aq (b_ T.2.1));clear I J aq ar au T av aF aR ak wU aS;generalize P.setCell ⟨c6,0,none⟩ (.int .i64 ((g:Int)-1))=U at*;have aF:=hH.o.aO.aF;obtain⟨v,r⟩:∃v,aG x=v:=⟨_,rfl⟩
  have bf:v<=n:=by have:=M.o.2.1.2;omega
  have aV:fE (∀w:World,Calls y_ 97 #[.int .i64 x] w λ e w'=>e=.returned (.int .i64 (v:Int))/\w=w'):=aa (λ w=>by have:=sZ x w (by unfold aG at r;omega) (by unfold aG at r;omega);rw[r] at this;exact this);obtain⟨g3,aA,aW,f3⟩:=hH.o.aO.gj.gH.e.lW 4 3 rfl hH.o.aO.gj.gH.e.nN (by rw[hH.o.kV.c];have:=l.o.gP.aL.pH;omega);have c3:=hH.o.aO.gj.gH.e.yB aA (k:=v) (by rw[hH.o.kV.c];have:=l.o.gP.aL.pH;omega);have bg:(v:Int)<(s3.c.j6.length:Int):=by rw[hH.o.kV.c];have:=l.o.gP.aL.pH;omega
  rw[hH.o.kV.c,<-r,hw] at c3;rw[r] at c3;have c3:U.cell? ⟨g3,v,none⟩=some (.pointer (some ⟨cb m,0,none⟩)):=c3;clear hw aA f3 r;refine t_ 8 (by kernel_rfl) (by kernel_rfl) ?_;simp only[s_,i_,r_,h_]
  iterate 5 still_step
  still_call ((aV.o _).mono (λ e w' h=>⟨h.1,h.2.symm⟩))
  iterate 2 still_step
  refine a_ ?_;change wpList _ _ _ _ _ U.drew;have aX:=aa (hH.o.grow ((n_ _ U).drew));clear aF aW c3
  go_wp2_with fail
  have aY:=aE.o j m x (om (W.heap.size+1)) [.int .i64 lit] s3 p y z A t (D::ds);apply aY
  ·exact aX.o
  ·exact aw.o.1
  ·exact aw.o.2
  ·exact M.o.2.2.2.2.1
noncomputable def KX:Code:=(Tryz.f146.body.bind λ c=>qj c 0).getD .skip
def BC(K:Nat->Prop)(base:Nat)(w:World)(G:Nat)(hs:Nat->ax)(cb:Nat->Nat)(n:Nat)(b:Int)(F:List (List Int))(aI:an)(aH e f g bt:Nat)(i d:Nat)(lit:Int)(ds:List Nat)(W:World):Prop:=
 ∃(j:ax)(k:List Value)(s:an)(l:List Bool)(m mk:List Int)(ls:Nat->ax)(X:Nat->List Value),mV K base w W G hs cb n (b+jw*((aI.c.ay.length-i:Nat):Int)) F aI aH e f g bt j k i (others (az aI.c.cl d) lit) ds s l m mk ls X/\d<aI.c.cl.length/\1<=(az aI.c.cl d).length
inductive yU(K:Nat->Prop)(base:Nat)(w:World)(G:Nat)(hs:Nat->ax)(cb:Nat->Nat)(n:Nat)(kF:Int)(F:List (List Int))(aI:an)(aH bI bL c6 bt:Nat):Nat->Act->World->Prop
 |mk {i d:Nat} {lit:Int} {ds:List Nat} {c5 gE gl iw gI gQ u16 gm gn gp gD gq gr gu gv gw gx gy gz fN fO fP u32 fQ fR fS fT fU fV fW fZ ga gb gd gA gB ig gX gY bM bN bO bP bQ bR bS bT bU bV bW bX bY bZ b5 u64 b6 b7 b8 b9 cc cg ck cm cn cp cr ct cu cv cw cz cA cB cC cD cE c7 c8 c9 dc de dh di dm cG cH cI cK cL cM cN cO cQ cR cS cT cU cV cW cZ c4 dn dr dw dx dy dz dA dB dD dF dG dH dI dJ dK dL dM dN dO dP dQ dR dS dU dV dW dX dY dZ ec fF fG fH ee ef ei ej ek en eo ep er eu ew ey fI fJ fK ez eA eB eC eD eE eF eG eH eL eM eN eO eP eR eS eT eU eV eW eX eY eZ e3 e4 e5 e6 e7 e8 e9 fc fe ff fh fk fm gh gi fo fq fu fA fB fC fD:Value} {W:World} (h:BC K base w G hs cb n kF F aI aH bI bL c6 bt i d lit ds W):yU K base w G hs cb n kF F aI aH bI bL c6 bt i {tmps:= #[.pointer (some ⟨G,0,none⟩),.pointer (some ⟨cb d,0,none⟩),.pointer (some ⟨aH,0,none⟩),c5,.pointer (some ⟨bI,0,none⟩),.int .i64 0,.pointer (some ⟨bL,0,none⟩),.pointer (some ⟨bt,0,none⟩),.pointer (some ⟨c6,0,none⟩),.int .i64 lit,.int .i64 (i:Int),gE,gl,iw,gI,gQ,u16,gm,gn,gp,gD,gq,gr,gu,gv,gw,gx,gy,gz,fN,fO,fP,u32,fQ,fR,fS,fT,fU,fV,fW,fZ,ga,gb,gd,gA,gB,ig,gX,gY,bM,bN,bO,bP,bQ,bR,bS,bT,bU,bV,bW,bX,bY,bZ,b5,u64,b6,b7,b8,b9,cc,cg,ck,cm,cn,cp,cr,ct,cu,cv,cw,cz,cA,cB,cC,cD,cE,c7,c8,c9,dc,de,dh,di,dm,cG,cH,cI,cK,cL,cM,cN,cO,cQ,cR,cS,cT,cU,cV,cW,cZ,c4,dn,dr,dw,dx,dy,dz,dA,dB,dD,dF,dG,dH,dI,dJ,dK,dL,dM,dN,dO,dP,dQ,dR,dS,dU,dV,dW,dX,dY,dZ,ec,fF,fG,fH,ee,ef,ei,ej,ek,en,eo,ep,er,eu,ew,ey,fI,fJ,fK,ez,eA,eB,eC,eD,eE,eF,eG,eH,eL,eM,eN,eO,eP,eR,eS,eT,eU,eV,eW,eX,eY,eZ,e3,e4,e5,e6,e7,e8,e9,fc,fe,ff,fh,fk,fm,gh,gi,fo,fq,fu,fA,fB,fC,fD],defers:=ds.map oD} W
theorem yU.elim{g:Nat}(b:yU K base w G hs cb n kF F aI aH bI bL c6 bt g a W){P:Prop}(k:∀{i d:Nat}{lit:Int}{ds:List Nat}{c e f j l m u16 o p q r s t u v y z A B C D E u32 H I J L M N O Q R S T U V X Y Z aa ab ad ae af ag ah ai aj ak al ao aq ar au u64 av aw ay az aA aB aC aD aE aF aG aJ aK aL aM aN aO aP aQ aR aS aT aU aV aW aX aY aZ a6 a7 a8 a' ba bb bc bd bf bg bh bj bk bl bn bo bp bq br bs bu bw bx bz bA bB bC bD bE bF bG bH bJ bK bM bN bO bP bQ bR bS bT bU bV bW bX bY bZ b0 b1 b2 b3 b4 b5 b6 b7 b8 b9 b' ca cc cd cf cg ch cj ck cm cn cp cq cr ct cu cv cw cx cy cz cA cB cC cD cE cF cG cH cI cJ cK cL cM cN cO cP cQ cR cS cT cU cV cW cX cY cZ c0 c4 c5 c7 c8 c9:Value},a={tmps:= #[.pointer (some ⟨G,0,none⟩),.pointer (some ⟨cb d,0,none⟩),.pointer (some ⟨aH,0,none⟩),c,.pointer (some ⟨bI,0,none⟩),.int .i64 0,.pointer (some ⟨bL,0,none⟩),.pointer (some ⟨bt,0,none⟩),.pointer (some ⟨c6,0,none⟩),.int .i64 lit,.int .i64 (i:Int),e,f,j,l,m,u16,o,p,q,r,s,t,u,v,y,z,A,B,C,D,E,u32,H,I,J,L,M,N,O,Q,R,S,T,U,V,X,Y,Z,aa,ab,ad,ae,af,ag,ah,ai,aj,ak,al,ao,aq,ar,au,u64,av,aw,ay,az,aA,aB,aC,aD,aE,aF,aG,aJ,aK,aL,aM,aN,aO,aP,aQ,aR,aS,aT,aU,aV,aW,aX,aY,aZ,a6,a7,a8,a',ba,bb,bc,bd,bf,bg,bh,bj,bk,bl,bn,bo,bp,bq,br,bs,bu,bw,bx,bz,bA,bB,bC,bD,bE,bF,bG,bH,bJ,bK,bM,bN,bO,bP,bQ,bR,bS,bT,bU,bV,bW,bX,bY,bZ,b0,b1,b2,b3,b4,b5,b6,b7,b8,b9,b',ca,cc,cd,cf,cg,ch,cj,ck,cm,cn,cp,cq,cr,ct,cu,cv,cw,cx,cy,cz,cA,cB,cC,cD,cE,cF,cG,cH,cI,cJ,cK,cL,cM,cN,cO,cP,cQ,cR,cS,cT,cU,cV,cW,cX,cY,cZ,c0,c4,c5,c7,c8,c9],defers:=ds.map oD}->g=i->BC K base w G hs cb n kF F aI aH bI bL c6 bt i d lit ds W->P):P:=by
 cases b with
 |mk h=>exact k rfl rfl h
theorem mV.xT{K:Nat->Prop}{base:Nat}{w W:World}{G:Nat}{hs:Nat->ax}{cb:Nat->Nat}{n:Nat}{B qS:Int}{F:List (List Int)}{aI s:an}{aH bI bL c6 bt:Nat}{hU:ax}{iO:List Value}{i:Nat}{ex:List Int}{ds:List Nat}{aP:List Bool}{aL mk:List Int}{ls:Nat->ax}{X:Nat->List Value}
  (H:mV K base w W G hs cb n B F aI aH bI bL c6 bt hU iO i ex ds s aP aL mk ls X) {d:Nat} (f:d<s.c.cl.length) {x:Int} (g:0<=x) (h1:x<=qS) (j:B<=qS):mV K base w (W.setCell ⟨cb d,3,none⟩ (.int .i64 x)) G hs cb n qS F aI aH bI bL c6 bt hU iO i ex ds (s.wQ d x) aP aL mk ls X:=by
 have e:=H.aO.gj.call.FD f H.kV.rg.nF x;have b:=H.aO.gj.back e.1 e.2;exact⟨H.aO.r5 b.1,H.kV.F4 (n5.xT s d x) (H.kV.rg.xT j g h1),H.li,H.sB,H.qE,H.sC,H.ms.others b.2⟩
theorem KY
  (C:vk F Fd aI n h kF) (H:BC K base w G hs cb n kF F aI aH bI bL c6 bt i d lit ds W)
  (ag:∀(j:Nat)(B:Int)(op:Int)(y:ax)(z:List Value)(s:an)(A:List Bool)(aL mk:List Int)(ls:Nat->ax)(X:Nat->List Value)(ds:List Nat)(ah c5 ai gE gl iw gI gQ u16 gm gn gp gD gq gr gu gv gw gx gy gz fN fO fP u32 fQ fR fS fT fU fV fW fZ ga gb gd gA gB ig gX gY bM bN bO bP bQ bR bS bT bU bV bW bX bY bZ b5 u64 b6 b7 b8 b9 cc cg ck cm cn cp cr ct cu cv cw cz cA cB cC cD cE c7 c8 c9 dc de dh di dm cG cH cI cK cL cM cN cO cQ cR cS cT cU cV cW cZ c4 dn dr dw dx dy dz dA dB dD dF dG dH dI dJ dK dL dM dN dO dP dQ dR dS dU dV dW dX dY dZ ec fF fG fH ee ef ei ej ek en eo ep er eu ew ey fI fJ fK ez eA eB eC eD eE eF eG eH eL eM eN eO eP eR eS eT eU eV eW eX eY eZ e3 e4 e5 e6 e7 e8 e9 fc fe ff fh fk fm gh gi fo fq fu fA fB fC fD:Value)(W':World),B<=kF+16*jw->BB K base w W' G hs cb n B F aI aH bI bL c6 bt op y z j ds s A aL mk ls X->Q (.exit 0) {tmps:= #[.pointer (some ⟨G,0,none⟩),ah,.pointer (some ⟨aH,0,none⟩),c5,.pointer (some ⟨bI,0,none⟩),.int .i64 0,.pointer (some ⟨bL,0,none⟩),.pointer (some ⟨bt,0,none⟩),.pointer (some ⟨c6,0,none⟩),.int .i64 (aj aI.c.ay j),ai,gE,gl,iw,gI,gQ,u16,gm,gn,gp,gD,gq,gr,gu,gv,gw,gx,gy,gz,fN,fO,fP,u32,fQ,fR,fS,fT,fU,fV,fW,fZ,ga,gb,gd,gA,gB,ig,gX,gY,bM,bN,bO,bP,bQ,bR,bS,bT,bU,bV,bW,bX,bY,bZ,b5,u64,b6,b7,b8,b9,cc,cg,ck,cm,cn,cp,cr,ct,cu,cv,cw,cz,cA,cB,cC,cD,cE,c7,c8,c9,dc,de,dh,di,dm,cG,cH,cI,cK,cL,cM,cN,cO,cQ,cR,cS,cT,cU,cV,cW,cZ,c4,dn,dr,dw,dx,dy,dz,dA,dB,dD,dF,dG,dH,dI,dJ,dK,dL,dM,dN,dO,dP,dQ,dR,dS,dU,dV,dW,dX,dY,dZ,ec,fF,fG,fH,ee,ef,ei,ej,ek,en,eo,ep,er,eu,ew,ey,fI,fJ,fK,ez,eA,eB,eC,eD,eE,eF,eG,eH,eL,eM,eN,eO,eP,eR,eS,eT,eU,eV,eW,eX,eY,eZ,e3,e4,e5,e6,e7,e8,e9,fc,fe,ff,fh,fk,fm,gh,gi,fo,fq,fu,fA,fB,fC,fD],defers:=ds.map oD} W'):
  Code.wp y_ KX Q {tmps:= #[.pointer (some ⟨G,0,none⟩),.pointer (some ⟨cb d,0,none⟩),.pointer (some ⟨aH,0,none⟩),c5,.pointer (some ⟨bI,0,none⟩),.int .i64 0,.pointer (some ⟨bL,0,none⟩),.pointer (some ⟨bt,0,none⟩),.pointer (some ⟨c6,0,none⟩),.int .i64 lit,.int .i64 (i:Int),gE,gl,iw,gI,gQ,u16,gm,gn,gp,gD,gq,gr,gu,gv,gw,gx,gy,gz,fN,fO,fP,u32,fQ,fR,fS,fT,fU,fV,fW,fZ,ga,gb,gd,gA,gB,ig,gX,gY,bM,bN,bO,bP,bQ,bR,bS,bT,bU,bV,bW,bX,bY,bZ,b5,u64,b6,b7,b8,b9,cc,cg,ck,cm,cn,cp,cr,ct,cu,cv,cw,cz,cA,cB,cC,cD,cE,c7,c8,c9,dc,de,dh,di,dm,cG,cH,cI,cK,cL,cM,cN,cO,cQ,cR,cS,cT,cU,cV,cW,cZ,c4,dn,dr,dw,dx,dy,dz,dA,dB,dD,dF,dG,dH,dI,dJ,dK,dL,dM,dN,dO,dP,dQ,dR,dS,dU,dV,dW,dX,dY,dZ,ec,fF,fG,fH,ee,ef,ei,ej,ek,en,eo,ep,er,eu,ew,ey,fI,fJ,fK,ez,eA,eB,eC,eD,eE,eF,eG,eH,eL,eM,eN,eO,eP,eR,eS,eT,eU,eV,eW,eX,eY,eZ,e3,e4,e5,e6,e7,e8,e9,fc,fe,ff,fh,fk,fm,gh,gi,fo,fq,fu,fA,fB,fC,fD],defers:=ds.map oD} W:=by
 have aM:=aa ag;have p:=aa C;clear C ag
 conv=>arg 2;whnf
 dsimp only;refine wp_loop_ghost_k (yU K base w G hs cb n kF F aI aH bI bL c6 bt) i ?start ?round
 case start=>exact yU.mk H
 case round=>
  clear H;intro g a W ak bc al ao aq;refine ak.elim ?_;intro i d lit ds c5 gE gl iw gI gQ u16 gm gn gp gD gq gr gu gv gw gx gy gz fN fO fP u32 fQ fR fS fT fU fV fW fZ ga gb gd gA gB ig gX gY bM bN bO bP bQ bR bS bT bU bV bW bX bY bZ b5 u64 b6 b7 b8 b9 cc cg ck cm cn cp cr ct cu cv cw cz cA cB cC cD cE c7 c8 c9 dc de dh di dm cG cH cI cK cL cM cN cO cQ cR cS cT cU cV cW cZ c4 dn dr dw dx dy dz dA dB dD dF dG dH dI dJ dK dL dM dN dO dP dQ dR dS dU dV dW dX dY dZ ec fF fG fH ee ef ei ej ek en eo ep er eu ew ey fI fJ fK ez eA eB eC eD eE eF eG eH eL eM eN eO eP eR eS eT eU eV eW eX eY eZ e3 e4 e5 e6 e7 e8 e9 fc fe ff fh fk fm gh gi fo fq fu fA fB fC fD aN D aP;clear ak;subst aN;replace D:=D.symm;subst D;obtain⟨y,z,s,A,aL,mk,ls,X,f,E,hm⟩:=aP;have ar:=aa (z_ E hm);have I:d<s.c.cl.length:=by rw[f.kV.c];exact E
  obtain⟨aQ,J,aR,M,au⟩:=f.aO.gj.gH.zV I;have q:=f.kV.rg.pZ d;have av:=f.kV.rg.ru;have aw:=f.kV.rg.oH;have O:=f.li.qO;have aA:=p.o.gP.aL.len;have aS:=p.o.jt;have aT:=p.o.n10;have aU:=p.o.bp;have aV:=p.o.bK;have aB:W.cell? ⟨G,9,none⟩=some (.int .i64 s.aZ):=f.aO.gj.gH.e.ku (k:=9) (v:=.int .i64 s.aZ) rfl;have aF:=f.aO.aF;obtain⟨ac,aC⟩:∃a,(lF s d).ac=a:=⟨_,rfl⟩
  obtain⟨r,aD⟩:∃a,s.aZ=a:=⟨_,rfl⟩
  rw[aC] at M q;rw[aD] at aB av aw;obtain⟨m,P⟩:∃t,aI.c.ay.length=t:=⟨_,rfl⟩
  rw[P] at q O aA f;have f3:=au 3;have hmul:jw*((m-i:Nat):Int)<=jw*10:=k_ (by omega) (by unfold jw;omega);have aE:0<=jw*((m-i:Nat):Int):=Int.mul_nonneg (by unfold jw;omega) (by omega);obtain⟨l,R⟩:∃b,jw*((m-i:Nat):Int)=b:=⟨_,rfl⟩
  rw[R] at hmul aE q f;have aW:jw=1099511627776:=rfl;have bd:v_.wrap (ac+r)=ac+r:=by rw[x_];omega
  have L:=aa f;have N:=aa (z_ P (z_ R (z_ (show 0<=kF+l+jw by omega) (z_ (show kF+l+jw<=4611686018427387904 by omega) (z_ (show kF+l+jw<=kF+16*jw by omega) (z_ (show 0<=ac+r by omega) (z_ (show ac+r<=kF+l+jw by omega) (z_ I (z_ O (show kF+l<=kF+l+jw by omega))))))))));have rest:fE (∀(s1:an)(fN fO fP u32 fQ fR fS fT fU fV fW fZ ga gb gd:Value)(S:World),mV K base w S G hs cb n (kF+l+jw) F aI aH bI bL c6 bt y z i (others (az aI.c.cl d) lit) ds s1 A aL mk ls X->Code.wp y_ F6 (Exit.inBlock 1 (Exit.then al (Q))) {tmps:= #[.pointer (some ⟨G,0,none⟩),.pointer (some ⟨cb d,0,none⟩),.pointer (some ⟨aH,0,none⟩),c5,.pointer (some ⟨bI,0,none⟩),.int .i64 0,.pointer (some ⟨bL,0,none⟩),.pointer (some ⟨bt,0,none⟩),.pointer (some ⟨c6,0,none⟩),.int .i64 lit,.int .i64 (i:Int),gE,gl,iw,gI,gQ,u16,gm,gn,gp,gD,gq,gr,gu,gv,gw,gx,gy,gz,fN,fO,fP,u32,fQ,fR,fS,fT,fU,fV,fW,fZ,ga,gb,gd,gA,gB,ig,gX,gY,bM,bN,bO,bP,bQ,bR,bS,bT,bU,bV,bW,bX,bY,bZ,b5,u64,b6,b7,b8,b9,cc,cg,ck,cm,cn,cp,cr,ct,cu,cv,cw,cz,cA,cB,cC,cD,cE,c7,c8,c9,dc,de,dh,di,dm,cG,cH,cI,cK,cL,cM,cN,cO,cQ,cR,cS,cT,cU,cV,cW,cZ,c4,dn,dr,dw,dx,dy,dz,dA,dB,dD,dF,dG,dH,dI,dJ,dK,dL,dM,dN,dO,dP,dQ,dR,dS,dU,dV,dW,dX,dY,dZ,ec,fF,fG,fH,ee,ef,ei,ej,ek,en,eo,ep,er,eu,ew,ey,fI,fJ,fK,ez,eA,eB,eC,eD,eE,eF,eG,eH,eL,eM,eN,eO,eP,eR,eS,eT,eU,eV,eW,eX,eY,eZ,e3,e4,e5,e6,e7,e8,e9,fc,fe,ff,fh,fk,fm,gh,gi,fo,fq,fu,fA,fB,fC,fD],defers:=ds.map oD} S):=aa (by
   intro s1 fN fO fP u32 fQ fR fS fT fU fV fW fZ ga gb gd S h1;refine KW p.o N.o.2.2.1 N.o.2.2.2.1 h1 ar.o.1 ar.o.2 ?_ ?_
   ·intro j op T U s' Y Z mk' ab ad ae ah c5 ai gE gl iw gI gQ u16 gm gn gp gD gq gr gu gv gw gx gy gz fN fO fP u32 fQ fR fS fT fU fV fW fZ ga gb gd gA gB ig gX gY bM bN bO bP bQ bR bS bT bU bV bW bX bY bZ b5 u64 b6 b7 b8 b9 cc cg ck cm cn cp cr ct cu cv cw cz cA cB cC cD cE c7 c8 c9 dc de dh di dm cG cH cI cK cL cM cN cO cQ cR cS cT cU cV cW cZ c4 dn dr dw dx dy dz dA dB dD dF dG dH dI dJ dK dL dM dN dO dP dQ dR dS dU dV dW dX dY dZ ec fF fG fH ee ef ei ej ek en eo ep er eu ew ey fI fJ fK ez eA eB eC eD eE eF eG eH eL eM eN eO eP eR eS eT eU eV eW eX eY eZ e3 e4 e5 e6 e7 e8 e9 fc fe ff fh fk fm gh gi fo fq fu fA fB fC fD W' aX;have af:=aM.o j (kF+l+jw) op T U s' Y Z mk' ab ad ae;show Q (.exit 0) _ _;apply af
    ·exact N.o.2.2.2.2.1
    ·exact aX
   ·intro j aY a6 T U s' Y Z mk' ab ad ae c5 gE gl iw gI gQ u16 gm gn gp gD gq gr gu gv gw gx gy gz fN fO fP u32 fQ fR fS fT fU fV fW fZ ga gb gd gA gB ig gX gY bM bN bO bP bQ bR bS bT bU bV bW bX bY bZ b5 u64 b6 b7 b8 b9 cc cg ck cm cn cp cr ct cu cv cw cz cA cB cC cD cE c7 c8 c9 dc de dh di dm cG cH cI cK cL cM cN cO cQ cR cS cT cU cV cW cZ c4 dn dr dw dx dy dz dA dB dD dF dG dH dI dJ dK dL dM dN dO dP dQ dR dS dU dV dW dX dY dZ ec fF fG fH ee ef ei ej ek en eo ep er eu ew ey fI fJ fK ez eA eB eC eD eE eF eG eH eL eM eN eO eP eR eS eT eU eV eW eX eY eZ e3 e4 e5 e6 e7 e8 e9 fc fe ff fh fk fm gh gi fo fq fu fA fB fC fD W' af a7 a8 a';show al _ _;refine aq _ _ (Handed.intro j a' (ao _ _ _ (yU.mk (d:=aY) (lit:=a6) (ds:=ae) ⟨T,U,s',Y,Z,mk',ab,ad,af.up ?_,a7,a8⟩)));rw[N.o.1,<-N.o.2.1];have bf:jw*((m-i:Nat):Int)+jw<=jw*((m-j:Nat):Int):=by
     have ba:((m-i:Nat):Int)+1<=((m-j:Nat):Int):=by have:=N.o.2.2.2.2.2.2.2.2.1;omega
     have aG:=k_ ba (show 0<=jw by unfold jw;omega);rw[Int.mul_add,Int.mul_one] at aG;exact aG
    omega)
  clear f E hm aC aD P hmul aE R q aQ aR I au av aw O aA aS aT aU aV aW ao aq;refine wp_block ?_;refine wp_seq_k ?_;intro bg aJ;have aK:=aa aJ;clear aJ
  cases u:(lF s d).kV with
  |true=>
   rw[u] at J;clear u
   go_wp2_with fail
   refine t_ 11 (by kernel_rfl) (by kernel_rfl) ?_;simp only[s_,i_,r_,h_]
   iterate 11 still_step
   refine a_ ?_;change wpList _ _ _ _ _ W.drew;have M:W.drew.cell? ⟨cb d,3,none⟩=some (.int .i64 ac):=M;have f3:W.drew.frozen? ⟨cb d,3,none⟩=false:=f3;have bb:=aa ((L.o.grow ((n_ _ W).drew)).xT (d:=d) N.o.2.2.2.2.2.2.2.1 N.o.2.2.2.2.2.1 N.o.2.2.2.2.2.2.1 N.o.2.2.2.2.2.2.2.2.2);clear aF aB J;generalize W.drew=V at*
   go_wp2_with fail
   apply aK.o;apply rest.o;exact bb.o
  |false=>
   rw[u] at J;clear u
   go_wp2_with fail
   apply aK.o;apply rest.o;exact L.o.up N.o.2.2.2.2.2.2.2.2.2
end
section
open Go.RowKit Go.Shelf
def vQ(x:Int):Bool:=(Lit.int .i64 x).wf
theorem KZ(c: -9223372036854775808<=x)(h1:x<=9223372036854775807):vQ x=true:=by
 have a:v_.min= -9223372036854775808:=by decide
 have b:v_.max=9223372036854775807:=by decide
 unfold vQ Lit.wf;simp[a,b];omega
structure Du{β:Type}(e:TypeId)(pX:β->Value)(lV:β->DataW Unit)(ok:β->Prop)(z0:β):Prop where
 Dv:∀x,ok x->plainElem (H:=Unit) y_ e (pX x)=some (lV x,[])
 inv:∀v x sP,plainElem (H:=Unit) y_ e v=some (lV x,sP)->v=pX x
 all:∀v y,plainElem (H:=Unit) y_ e v=some y->∃x,v=pX x/\y.1=lV x
 zero:∀w,(zeroValue e).run y_ w=.ok (pX z0) w
 F8:ok z0
def um(v:Bool):DataW Unit:=.lit (.bool v)
theorem F9:Du 4 Value.bool um (λ _=>True) false where
 Dv x _:=plainElem_bool d_ x
 inv v x b h:=ED d_ h
 all v y h:=by
  have hu:=d_;generalize y_=P at h hu;unfold plainElem at h;rw[hu] at h
  cases v<;>simp at h
  subst h;exact⟨_,rfl,rfl⟩
 zero:=Tryz.zeroValue4
 F8:=trivial
section
variable {β:Type}{e:TypeId}{pX:β->Value}{lV:β->DataW Unit}{ok:β->Prop}{z0:β}
def BD(lV:β->DataW Unit)(D:DataW Unit)(f:Int->Option β):Prop:=
 (∀x,vQ x=true->Maps.has D (.int .i64 x)=(f x).isSome)/\∀x v,vQ x=true->f x=some v->∀b,D.atKey (.int .i64 x) b=lV v
def mW(e:TypeId)(lV:β->DataW Unit)(w:World)(b n:Nat)(f:Int->Option β):Prop:=
 ∃D:DataW Unit,w.ownsMap y_ 3 (plainElem y_ e) b n D/\BD lV D f
def Dw:Int->Option β:=λ _=>none
def vR(f:Int->Option β)(x:Int)(v:β):Int->Option β:=λ y=>if y=x then some v else f y
theorem mW.made(w:World):mW e lV (w.alloc (.map #[] 0)) w.heap.size 0 Dw:=
 ⟨_,World.ownsMap_made w _ _ _,λ x _=>rfl,λ x v _ h=>by cases h⟩
theorem mW.lt{w:World}{b n:Nat}{f:Int->Option β}(h:mW e lV w b n f):b<w.heap.size:=by
 obtain⟨D,h1,c⟩:=h;exact h1.lt
theorem mW.kept{w w':World}{b n:Nat}{f:Int->Option β}{row:Option Nat}(h:mW e lV w b n f)(c:w.grownBy w' row)(d:some b≠row):mW e lV w' b n f:=by
 obtain⟨D,h1,g⟩:=h;exact⟨D,h1.kept c d,g⟩
theorem mW.alloc{w:World}{b n:Nat}{f:Int->Option β}(h:mW e lV w b n f)(o:Obj):mW e lV (w.alloc o) b n f:=by
 obtain⟨D,h1,c⟩:=h;exact⟨D,h1.alloc o,c⟩
theorem mW.below{w w':World}{b n B:Nat}{f:Int->Option β}(h:mW e lV w b n f)(c:Below B w w')(d:b<B):mW e lV w' b n f:=by
 obtain⟨D,⟨es,clock,h1,g⟩,i⟩:=h;exact⟨D,⟨es,clock,(c.block b d).trans h1,g⟩,i⟩
theorem mW.setCell{w:World}{b n:Nat}{f:Int->Option β}(h:mW e lV w b n f){a:Addr}(c:b≠a.block)(u:Value):mW e lV (w.setCell a u) b n f:=by
 obtain⟨D,h1,d⟩:=h;exact⟨D,h1.setCell c u,d⟩
theorem mW.K0(E:Du e pX lV ok z0){t:TypeId}(j:y_.underlying t=some (.map 3 e)){w:World}{b n:Nat}{f:Int->Option β}(h:mW e lV w b n f){x:Int}(c:vQ x=true):
  (Instr.lookup t (.map (some b)) (.int .i64 x) true).run y_ w=.ok (.tuple #[pX ((f x).getD z0),.bool (f x).isSome]) w:=by
 obtain⟨D,h1,g,k⟩:=h;obtain⟨v,m,l,d⟩:=h1.look_ok (Maps.int_keyed q_) j (E.zero w) (E.Dv _ E.F8) (Maps.keyOf_int_mk q_ c);rw[l,g x c]
 cases i:f x with
 |none=>
  rw[Maps.atKey_of_not_has (by rw[g x c,i];rfl)] at d;rw[E.inv _ _ _ d];rfl
 |some y=>
  rw[k x y c i] at d;rw[E.inv _ _ _ d];rfl
theorem Ga{x y:Int}(h:y≠x):(Lit.int .i64 y)≠(Lit.int .i64 x):=by simpa using h
theorem BD.put{D:DataW Unit}{f:Int->Option β}(d:Maps.IsMap D)(h:BD lV D f)(x:Int)(v:β):BD lV (D.put (.int .i64 x) (lV v)) (vR f x v):=by
 refine⟨λ y c=>?_,λ y u c hu e=>?_⟩
 ·by_cases b:y=x
  ·subst b;rw[Maps.has_put_same d (by simp[WideAt.IsKeyLit])];simp[vR]
  ·rw[Maps.has_put_other (Ga b),h.1 y c];simp[vR,b]
 ·by_cases b:y=x
  ·subst b;rw[Maps.atKey_put_same d (by simp[WideAt.IsKeyLit])];simp[vR] at hu;rw[hu]
  ·rw[Maps.atKey_put_other (Ga b)];simp[vR,b] at hu;exact h.2 y u c hu e
theorem mW.put(E:Du e pX lV ok z0){t:TypeId}(c:y_.underlying t=some (.map 3 e)){w:World}{b n:Nat}{f:Int->Option β}(h:mW e lV w b n f)(d:n<maxLen){x:Int}(g:vQ x=true){v:β}(i:ok v):
  ∃w',(Instr.mapUpdate t (.map (some b)) (.int .i64 x) (pX v)).run y_ w=.ok () w'/\mW e lV w' b (n+1) (vR f x v)/\w.mapTurned w' b:=by
 obtain⟨D,h1,j⟩:=h;obtain⟨w',k,l,m⟩:=h1.store (Maps.int_keyed q_) c d (Maps.keyOf_int_mk q_ g) (E.Dv v i);exact⟨w',k,⟨_,l,j.put h1.isMap x v⟩,m⟩
variable {ops:Array Oper}{rest:List Oper}{o:Oper}{a:Act}{Q:Exit->Act->World->Prop}
end
end
section
open Go.RowKit Go.Shelf
theorem mW.BE{β:Type}{e:TypeId}{lV:β->DataW Unit}{f:Int->Option β}(h:mW e lV w b n f):∃es clock,w.heap[b]? =some (.map es clock):=by
 obtain⟨D,⟨es,clock,h1,c⟩,d⟩:=h;exact⟨es,clock,h1⟩
theorem yW{B C:World}{row:Option Nat}(h:A.grownBy B (some b))(k:B.grownBy C row)(f:∀r,row=some r->A.heap.size<=r\/r=b):A.grownBy C (some b):=
 ⟨k.os.trans h.os,k.tape.trans h.tape,k.output.trans h.output,Nat.le_trans h.size k.size,λ i c d=>(k.block i (Nat.lt_of_lt_of_le c h.size) (λ e=>by
  rcases f i e.symm with h1|h1
  ·omega
  ·exact d (by rw[h1]))).trans (h.block i c d)⟩
theorem Gb(A:World)(row:Option Nat):A.grownBy A row:=⟨rfl,rfl,rfl,Nat.le_refl _,λ _ _ _=>rfl⟩
theorem Ac{B:World}(row:Option Nat)(h:Below A.heap.size A B):A.grownBy B row:=⟨h.os,h.tape,h.output,h.size,λ k hk _=>h.block k hk⟩
structure r7(base:Nat)(W:World)(G:Nat)(hs:Nat->ax)(cb:Nat->Nat)(s:an)(lg aH lX bm m:Nat)(f:Int->Option Bool):Prop where
 e:jb base W G hs cb s
 vz:aN W lg 114 [.map (some bm)]
 p5:aN W aH 115 [.pointer (some ⟨G,0,none⟩)]
 tI:aN W lX 129 [.func (.func 185) #[] #[.pointer (some ⟨lg,0,none⟩),.pointer (some ⟨aH,0,none⟩),.pointer (some ⟨lX,0,none⟩)]]
 pg:mW 4 um W bm m f
 snd:∀y,f y=some true->q5 s.c s.aP y
section
variable {base:Nat}{W W':World}{G:Nat}{hs:Nat->ax}{cb:Nat->Nat}{s:an}{lg aH lX bm m:Nat}{f:Int->Option Bool}
theorem r7.below(h:r7 base W G hs cb s lg aH lX bm m f)(b:Below W.heap.size W W'):r7 base W' G hs cb s lg aH lX bm m f:=
 ⟨h.e.below b,h.vz.below b,h.p5.below b,h.tI.below b,h.pg.below b h.pg.lt,h.snd⟩
theorem x4{b:Nat}{t:TypeId}{cs:List Value}(h:aN W b t cs){row:Option Nat}(d:∀r,row=some r->∃o:Obj,W.heap[r]? =some o/\o.isCells=false):some b≠row:=λ e=>by
 obtain⟨o,c,f⟩:=d b e.symm;have:W.heap[b]? =_:=h;rw[this] at c;cases c;cases f
theorem r7.isMap(h:r7 base W G hs cb s lg aH lX bm m f):∀r,some bm=some r->∃o:Obj,W.heap[r]? =some o/\o.isCells=false:=λ r e=>by
 obtain⟨es,cl,h1⟩:=h.pg.BE;cases e;exact⟨_,h1,rfl⟩
theorem r7.put(h:r7 base W G hs cb s lg aH lX bm m f){lS:Nat}{mL:Int->Option Bool}(b:W.grownBy W' (some bm))(hm:mW 4 um W' bm lS mL)(hs':∀y,mL y=some true->q5 s.c s.aP y):r7 base W' G hs cb s lg aH lX bm lS mL:=
 ⟨h.e.uP b h.isMap,h.vz.kept b (x4 h.vz h.isMap),h.p5.kept b (x4 h.p5 h.isMap),h.tI.kept b (x4 h.tI h.isMap),hm,hs'⟩
theorem r7.box(h:r7 base W G hs cb s lg aH lX bm m f)(d:W.grownBy W' (some bm)){b:Nat}{t:TypeId}{cs:List Value}(c:aN W b t cs):aN W' b t cs:=c.kept d (x4 c h.isMap)
end
theorem K1(mE lg mO bm m:Nat)(f:Int->Option Bool)(x:Int)(yes:Bool)(u:FrameMode)(n:Nat)(W:World)(b:aN W mE 4 [.bool yes])(hk:aN W lg 114 [.map (some bm)])(c:aN W mO 3 [.int .i64 x])(hm:mW 4 um W bm m f)(i:vQ x=true)(j:m<maxLen):
  CallsDIn e_ n y_ 186 #[.pointer (some ⟨mE,0,none⟩),.pointer (some ⟨lg,0,none⟩),.pointer (some ⟨mO,0,none⟩)] u W λ e k W'=>k=u/\(e=.returned (.tuple #[])/\mW 4 um W' bm (m+1) (vR f x yes)/\W.grownBy W' (some bm)):=by
 obtain⟨W',l,d,g⟩:=hm.put F9 Tryz.underlying114 j i (v:=yes) trivial;have p:W.cell? ⟨mE,0,none⟩=some (.bool yes):=b.cell 0;have q:W.cell? ⟨lg,0,none⟩=some (.map (some bm)):=hk.cell 0;have r:W.cell? ⟨mO,0,none⟩=some (.int .i64 x):=c.cell 0;have H:=aa (z_ d g.grown);clear d g b hk c hm;refine callsDIn_of_wp Tryz.func186 rfl trivial ?_;simp only[Tryz.ntmps186,List.size_toArray,List.length_cons,List.length_nil,Nat.reduceAdd,Nat.reduceSub,Zz,Zy,List.push_toArray,List.append_toArray,List.nil_append,List.cons_append]
 gi_wp2
 go_end0;exact⟨rfl,H.o.1,H.o.2⟩
def Gc(base:Nat)(W:World)(G:Nat)(hs:Nat->ax)(cb:Nat->Nat)(s:an)(lg aH lX bm m:Nat)(x:Int)(q:Nat)(e:Ending)(W':World):Prop:=
 ∃(b:Bool)(d:Nat)(f:Int->Option Bool),e=.returned (.bool b)/\(b=true->q5 s.c s.aP x)/\r7 base W' G hs cb s lg aH lX bm d f/\W.grownBy W' (some bm)/\d<=m+q
theorem Gd(tmps:Array Value)(mE:Nat)(yes:Bool)(W:World)(b:tmps[7]? =some (.pointer (some ⟨mE,0,none⟩)))(c:W.cell? ⟨mE,0,none⟩=some (.bool yes)):(results Tryz.f185 tmps).run y_ W=.ok (.bool yes) W:=by
 simp[results,Tryz.f185,b,c,go_sem]
def Ge(mE lg mO:Nat):Deferred:={target:=.fn (.func 186) #[.pointer (some ⟨mE,0,none⟩),.pointer (some ⟨lg,0,none⟩),.pointer (some ⟨mO,0,none⟩)],args:= #[]}
theorem BF{kJ:World}{m0 m:Nat}{f:Int->Option Bool}{yes:Bool}{mE mO q:Nat}
  (w:a.defers=ds.map oD++[Ge mE lg mO]) (J:a.tmps[7]? =some (.pointer (some ⟨mE,0,none⟩))) (h:r7 base W G hs cb s lg aH lX bm m f) (o:kJ.grownBy W (some bm)) (v:oT kJ.heap.size W ds) (C:aN W mE 4 [.bool yes]) (K:aN W mO 3 [.int .i64 x]) (L:vQ x=true) (E:yes=true->q5 s.c s.aP x) (z:m<maxLen) (M:m+1<=m0+q):
  bodyPostM e_ 6 y_ Tryz.f185 (Gc base kJ G hs cb s lg aH lX bm m0 x q) .ret a W:=by
 show LeavesInM e_ 6 y_ Tryz.f185 a.tmps _ a.defers .returning W;rw[w];refine EO (by simp) _ ds W v.ng (λ D p=>(v.kC D p).2) (λ i l=>?_);have u:∀b,(∃cs t F,W.heap[b]? =some (Obj.cells cs t F))\/(∃es cl,W.heap[b]? =some (Obj.map es cl))->i.heap[b]? =W.heap[b]? :=λ b u=>l.block b (λ p=>by
  have h1:=(v.kC b p).2;rcases u with⟨cs,t,F,j⟩|⟨es,cl,j⟩
  ·rw[j] at h1;cases h1
  ·rw[j] at h1;cases h1)
 have hblk:∀{b:Nat}{t:TypeId}{cs:List Value},aN W b t cs->aN i b t cs:=λ H=>(u _ (.inl ⟨_,_,_,H⟩)).trans H
 have N:kJ.grownBy i (some bm):=⟨l.os.trans o.os,l.tape.trans o.tape,l.output.trans o.output,by rw[l.size];exact o.size,λ k hk z=>(l.block k (λ p=>by have:=(v.kC k p).1;omega)).trans (o.block k hk z)⟩
 have O:jb base i G hs cb s:=by
  refine⟨hblk h.e.box,⟨λ r=>pL (h.e.rows.row r) (λ b P=>?_),h.e.rows.apart⟩,λ d w=>hblk (h.e.cls d w),h.e.inj,h.e.q7,h.e.rL⟩;obtain⟨cs,j⟩:=vj (h.e.rows.row r) P;exact u b (.inl ⟨_,_,_,j⟩)
 have I:mW 4 um i bm m f:=by
  obtain⟨D,⟨es,clock,h1,Q⟩,j⟩:=h.pg;exact⟨D,⟨es,clock,(u bm (.inr ⟨es,clock,h1⟩)).trans h1,Q⟩,j⟩
 have A:r7 base i G hs cb s lg aH lX bm m f:=⟨O,hblk h.vz,hblk h.p5,hblk h.tI,I,h.snd⟩
 refine⟨by simp,.inr ⟨λ _=>by omega,_,_,186, #[.pointer (some ⟨mE,0,none⟩),.pointer (some ⟨lg,0,none⟩),.pointer (some ⟨mO,0,none⟩)],rfl,?_,λ g V=>trivial,?_⟩⟩
 ·simp[Ge,invoke,go_sem,enters_of Tryz.func186 (by kernel_rfl) rfl]
 ·refine(K1 mE lg mO bm m f x yes .returning _ i (hblk C) A.vz (hblk K) I L z).mono ?_;rintro e X R ⟨rfl,rfl,S,B⟩;have T:r7 base R G hs cb s lg aH lX bm (m+1) (vR f x yes):=A.put B S (λ y n=>by
   unfold vR at n;split at n
   ·rename_i e;subst e;injection n with n;exact E n
   ·exact h.snd y n)
  have U:=A.box B (hblk C);exact⟨_,Gd _ _ _ _ J (U.cell 0),yes,m+1,_,rfl,E,T,yW N B (λ r e=>by cases e;exact .inr rfl),M⟩
end
section
open Go.RowKit Go.Shelf
attribute [local go_sem] Oper.semAt_some
theorem K2(h:gW n x)(b:n<=60000):vQ x=true:=KZ (by have:=h.2;unfold aG at this;omega) (by have:=h.2;unfold aG at this;omega)
def BG(W:World)(s:an)(bm m Q:Nat)(x deep:Int)(st:Bool)(pre:List Int)(b:World):Prop:=
 ∃(d:Nat)(e:Int->Option Bool),W.grownBy b (some bm)/\mW 4 um b bm d e/\(∀y,e y=some true->q5 s.c s.aP y)/\aN b W.heap.size 3 [.int .i64 x]/\aN b (W.heap.size+1) 3 [.int .i64 deep]/\aN b (W.heap.size+1+1) 4 [.bool false]/\(st=true->∀y∈pre,iU s.aP (aG y)=false->bg s.c y≠0->q5 s.c s.aP y)/\d<=m+pre.length*Q
def K3(W:World)(s:an)(bm m Q:Nat)(x deep:Int)(c:Code)(pre:List Int)(b:World):Prop:=c=.ret/\BG W s bm m Q x deep false pre b
theorem K4(T:jT s.c)(D:rF F Fd s.c)(cR:s.c.n<=10)(cS:s.aP.length=s.c.n+1):
  ∀(p:Nat)(x:Int)(deep:Int)(W:World)(m:Nat)(f:Int->Option Bool),p<s.c.ay.length->aj s.c.ay p= -x->0<=deep->deep<=1001->r7 base W G hs cb s lg aH lX bm m f->m+24^(p+1)<=4611686018427387904->
  Calls y_ 185 #[.int .i64 x,.int .i64 deep,.pointer (some ⟨lg,0,none⟩),.pointer (some ⟨aH,0,none⟩),.pointer (some ⟨lX,0,none⟩)] W (Gc base W G hs cb s lg aH lX bm m x (24^(p+1))):=by
 intro p
 induction p using Nat.strongRecOn with
 |ind p bc=>?_
 intro x deep W m f hp bd cm cn bE bF;have aI:gW s.c.n x:=by have:=T.lit _ (lZ hp);rw[bd] at this;have:=this.neg;rwa[Int.neg_neg] at this
 have bG:=K2 aI (by omega);obtain⟨Q,aJ⟩:∃Q,24^p=Q:=⟨_,rfl⟩
 have bf:24^(p+1)=24*Q:=by rw[Nat.pow_succ,aJ,Nat.mul_comm]
 have bH:1<=Q:=by rw[<-aJ];exact Nat.pow_pos (by omega)
 rw[bf] at bF⊢;have bc:=aa bc;have cp:=aa (z_ cm cn);have I:=aa bE;have ae:=aa T;have cq:=aa D;have q:=aa (z_ hp (z_ bd (z_ aI (z_ bG (z_ aJ (z_ bf (z_ bH bF)))))));obtain⟨v,al⟩:∃v,aG x=v:=⟨_,rfl⟩
 have bI:v<=s.c.n:=by have:=aI.2;omega
 have cr:fE (∀w:World,Calls y_ 97 #[.int .i64 x] w λ e w'=>e=.returned (.int .i64 (v:Int))/\w=w'):=aa (λ w=>by have:=sZ x w (by unfold aG at al;omega) (by unfold aG at al;omega);rw[al] at this;exact this);have cT:∀(fn:Fn)(first cap:Array Value)(w:World),(Instr.makeFunc fn first cap).run y_ w=.ok (.func fn first cap) w:=λ _ _ _ _=>rfl
 have aK:=aa (z_ al bI);clear hp bd aI bG aJ bf bH bE T D al bI;refine CL Tryz.func185 rfl ?_;simp only[Tryz.ntmps185,List.size_toArray,List.length_cons,List.length_nil,Nat.reduceAdd,Nat.reduceSub,Zz,Zy,List.push_toArray,List.append_toArray,List.nil_append,List.cons_append]
 go_upto_region 1 with fail
 have aL:Below W.heap.size W (((W.alloc (.cells #[.int .i64 x] 3)).alloc (.cells #[.int .i64 deep] 3)).alloc (.cells #[.bool false] 4)):=(((n_ _ W).alloc (Nat.le_refl _) _).alloc (by simp) _).alloc (by simp;omega) _;have mO:aN (((W.alloc (.cells #[.int .i64 x] 3)).alloc (.cells #[.int .i64 deep] 3)).alloc (.cells #[.bool false] 4)) W.heap.size 3 [.int .i64 x]:=((aN.new W 3 [.int .i64 x]).below (bB _ _)).below (bB _ _);have bJ:aN (((W.alloc (.cells #[.int .i64 x] 3)).alloc (.cells #[.int .i64 deep] 3)).alloc (.cells #[.bool false] 4)) (W.heap.size+1) 3 [.int .i64 deep]:=by
  have:=(aN.new (W.alloc (.cells #[.int .i64 x] 3)) 3 [.int .i64 deep]).below (bB _ (.cells #[.bool false] 4));simpa using this
 have mE:aN (((W.alloc (.cells #[.int .i64 x] 3)).alloc (.cells #[.int .i64 deep] 3)).alloc (.cells #[.bool false] 4)) (W.heap.size+1+1) 4 [.bool false]:=by
  have:=aN.new ((W.alloc (.cells #[.int .i64 x] 3)).alloc (.cells #[.int .i64 deep] 3)) 4 [.bool false];simpa using this
 have aM:(((W.alloc (.cells #[.int .i64 x] 3)).alloc (.cells #[.int .i64 deep] 3)).alloc (.cells #[.bool false] 4)).heap.size=W.heap.size+1+1+1:=by simp
 generalize ((W.alloc (.cells #[.int .i64 x] 3)).alloc (.cells #[.int .i64 deep] 3)).alloc (.cells #[.bool false] 4)=V at*;have af:=aa (I.o.below aL);have ct:=aa (Ac (some bm) aL);have aO:=aa (z_ mO (z_ bJ mE));have cu:V.cell? ⟨lg,0,none⟩=some (.map (some bm)):=af.o.vz.cell 0;have bK:V.cell? ⟨W.heap.size,0,none⟩=some (.int .i64 x):=mO.cell 0;have aQ:V.cell? ⟨W.heap.size+1+1,0,none⟩=some (.bool false):=mE.cell 0;have f7:=mE.free 0;have ar:=af.o.pg.K0 F9 Tryz.underlying114 q.o.2.2.2.1;have bg:=aa aL;clear aL mO bJ mE
 cases au:f x with
 |some b=>
  rw[au] at ar;dsimp only[Option.getD_some,Option.isSome_some] at ar;have cv:=aa au;clear au
  go_wp2_with fail
  have X:Below W.heap.size W (V.setCell ⟨W.heap.size+1+1,0,none⟩ (.bool b)):=bg.o.setCell (p:=⟨W.heap.size+1+1,0,none⟩) (by simp;omega) _;refine Jm (Gd _ (W.heap.size+1+1) b _ rfl (((aO.o.2.2).set 0 (.bool b)).cell 0)) rfl ?_;exact⟨b,m,f,rfl,λ e=>I.o.snd x (by rw[cv.o,e]),I.o.below X,Ac _ X,by omega⟩
 |none=>
  rw[au] at ar;dsimp only[Option.getD_none,Option.isSome_none] at ar;clear au
  go_upto_region 5 with fail
  have aF:V.cell? ⟨aH,0,none⟩=some (.pointer (some ⟨G,0,none⟩)):=af.o.p5.cell 0;obtain⟨g3,bL,aR,f3⟩:=af.o.e.lW 4 3 rfl af.o.e.nN (by have:=ae.o.pH;omega);have c3:=af.o.e.yB bL (k:=v) (by have:=ae.o.pH;have:=aK.o;omega);have cU:(v:Int)<(s.c.j6.length:Int):=by have:=ae.o.pH;have:=aK.o;omega
  have bM:V.cell? ⟨W.heap.size+1,0,none⟩=some (.int .i64 deep):=aO.o.2.1.cell 0;have bh:=ae.o.pV p q.o.1;have bN:aG (aj s.c.ay p)=v:=by rw[q.o.2.1,oN];exact aK.o.1
  rw[bN] at bh;obtain⟨pv,B⟩:∃pv:Option Addr,qQ cb (mo s.c.j6 v)=.pointer pv:=by cases mo s.c.j6 v with
   |none=>exact⟨_,rfl⟩
   |some d=>exact⟨_,rfl⟩
  rw[B] at c3;have bO:=aa B;clear B;refine t_ 8 (by kernel_rfl) (by kernel_rfl) ?_;simp only[s_,i_,r_,h_]
  iterate 5 still_step
  still_call ((cr.o _).mono (λ e w' h=>⟨h.1,h.2.symm⟩))
  iterate 2 still_step
  refine a_ ?_;change wpList _ _ _ _ _ V.drew;have bP:=aa bh;have bj:Below W.heap.size W V.drew:=bg.o.drew;have Y:=aa (show aN V.drew W.heap.size 3 [.int .i64 x]/\aN V.drew (W.heap.size+1) 3 [.int .i64 deep]/\aN V.drew (W.heap.size+1+1) 4 [.bool false] from aO.o);have av:=aa bj;have cw:=aa (I.o.below bj);have bK:V.drew.cell? ⟨W.heap.size,0,none⟩=some (.int .i64 x):=bK;have bM:V.drew.cell? ⟨W.heap.size+1,0,none⟩=some (.int .i64 deep):=bM;have aQ:V.drew.cell? ⟨W.heap.size+1+1,0,none⟩=some (.bool false):=aQ;have f7:V.drew.frozen? ⟨W.heap.size+1+1,0,none⟩=false:=f7;have aM:V.drew.heap.size=W.heap.size+1+1+1:=aM;clear bj bh bN bL f3 aR aF ar cu aO bg af ct c3;have B:=bO.o;clear bO;generalize V.drew=u at*
  cases hw:mo s.c.j6 v with
  |none=>
   rw[hw] at B;clear hw bP;have B:Value.pointer none=.pointer pv:=B;injection B with B
   subst B
   go_wp2_with fail
   have X:Below W.heap.size W (u.setCell ⟨W.heap.size+1+1,0,none⟩ (.bool false)):=av.o.setCell (p:=⟨W.heap.size+1+1,0,none⟩) (by simp;omega) _;exact BF (ds:=[]) (yes:=false) (mE:=W.heap.size+1+1) (mO:=W.heap.size) rfl rfl (I.o.below X) (Ac _ X) ⟨List.nodup_nil,λ D h=>by cases h⟩ (Y.o.2.2.set 0 (.bool false)) (Y.o.1.kept (kZ _ _ _ _) (by simp;omega)) q.o.2.2.2.1 (λ e=>by cases e) (by have:=q.o;unfold maxLen;omega) (by have:=q.o;omega)
  |some d=>
   rw[hw] at B;have bQ:=aa hw;clear hw;have B:Value.pointer (some ⟨cb d,0,none⟩)=.pointer pv:=B;injection B with B
   subst B
   by_cases bR:1000<deep
   ·have d1:decide (1000<deep)=true:=by simp;omega
    go_wp2_with fail
    have X:Below W.heap.size W (u.setCell ⟨W.heap.size+1+1,0,none⟩ (.bool false)):=av.o.setCell (p:=⟨W.heap.size+1+1,0,none⟩) (by simp;omega) _;exact BF (ds:=[]) (yes:=false) (mE:=W.heap.size+1+1) (mO:=W.heap.size) rfl rfl (I.o.below X) (Ac _ X) ⟨List.nodup_nil,λ D h=>by cases h⟩ (Y.o.2.2.set 0 (.bool false)) (Y.o.1.kept (kZ _ _ _ _) (by simp;omega)) q.o.2.2.2.1 (λ e=>by cases e) (by have:=q.o;unfold maxLen;omega) (by have:=q.o;omega)
   ·have d1:decide (1000<deep)=false:=by simp;omega
    have cx:=aa bR;clear bR
    go_upto_region 8 with fail
    have bS:=bP.o;rw[bQ.o] at bS;obtain⟨ag,bk,bT⟩:=bS;have cV:v_.wrap (-x)= -x:=by rw[x_];have:=q.o.2.2.1.2;unfold aG at this;omega
    have cy:=aa aM;clear aM
    go_wp2_with (go_at_call 183;refine(Da _ _ _).mono ?_;rintro e w1 ⟨rfl,rfl⟩;dsimp only)
    have aw:Below u.heap.size u ((u.alloc (.cells #[.pointer (some ⟨cb d,0,none⟩)] 164)).alloc (.cells #[.int .i64 (-x)] 3)):=(bB u (.cells #[.pointer (some ⟨cb d,0,none⟩)] 164)).trans ((bB _ (.cells #[.int .i64 (-x)] 3)).mono (by simp));have cz:((u.alloc (.cells #[.pointer (some ⟨cb d,0,none⟩)] 164)).alloc (.cells #[.int .i64 (-x)] 3)).cell? ⟨u.heap.size,0,none⟩=some (.pointer (some ⟨cb d,0,none⟩)):=by go_simp
    have cA:((u.alloc (.cells #[.pointer (some ⟨cb d,0,none⟩)] 164)).alloc (.cells #[.int .i64 (-x)] 3)).cell? ⟨u.heap.size+1,0,none⟩=some (.int .i64 (-x)):=by go_simp
    have cW:((u.alloc (.cells #[.pointer (some ⟨cb d,0,none⟩)] 164)).alloc (.cells #[.int .i64 (-x)] 3)).heap.size=u.heap.size+1+1:=by simp
    have bl:=aa (av.o.trans (aw.mono av.o.size));have bn:=aa (z_ (Y.o.1.below aw) (z_ (Y.o.2.1.below aw) (Y.o.2.2.below aw)));clear aw Y av cw;generalize (u.alloc (.cells #[.pointer (some ⟨cb d,0,none⟩)] 164)).alloc (.cells #[.int .i64 (-x)] 3)=ao at*;have aA:=aa (I.o.below bl.o);have bU:aX (λ _=>False) base ao G hs cb s:=⟨aA.o.e,⟨λ b h=>h.elim,λ h=>h,λ r b _ h=>h,λ d ag h=>h⟩⟩
    obtain⟨bz,m1,cB,C⟩:=bU.yP ag (b_ bk);have bo:=cq.o.mB d ag;have cC:m1<=22:=by have:=bo.len;have:=C.len;omega
    have cX:=(I.o.e.rows.lt C.b).2;have cY:=(I.o.e.cls d ag).lt;have Z:=aa (z_ ag (z_ bk (z_ bo (z_ cC (z_ C bT)))));have cD:fE (bz≠bm):=aa (λ e=>by
     obtain⟨cs,h1⟩:=vj (aA.o.e.rows.row (kr d)) (g:=bz) (by rw[ax.own];exact C.b);obtain⟨es,cl,J⟩:=aA.o.pg.BE;rw[e,J] at h1;cases h1)
    have K:=aa (z_ bl.o.size (z_ I.o.pg.lt cy.o));have bV:∀(st:Bool),OwnFrom ao.heap.size (λ(pre:List Int)(j:World)=>BG W s bm m Q x deep st pre j):=by
     rintro st pre bW bX row ⟨P,ab,h1,J,M,N,R,L,S,O⟩ ah ai;exact⟨P,ab,yW h1 ah (λ r e=>.inl (by have:=(ai r e).1;have:=K.o.1;omega)),J.kept ah (λ e=>by have:=(ai bm e.symm).1;have:=K.o;omega),M,N.kept ah (x4 N (λ r e=>(ai r e).2)),R.kept ah (x4 R (λ r e=>(ai r e).2)),L.kept ah (x4 L (λ r e=>(ai r e).2)),S,O⟩
    have bp:=aa bV;clear ag bk bo bV bT bU;refine(wpIn_wide (n:=6)).1 ?_;refine CI (F:=e_) (w0:=ao) rfl (by omega) (gf:=224) (lb:= #[.pointer (some ⟨u.heap.size,0,none⟩),.pointer (some ⟨u.heap.size+1,0,none⟩)]) rfl trivial C9
     (Db (6-1) (by omega) u.heap.size (u.heap.size+1) (cb d) bz m1 cB (az s.c.cl d) (-x) C.len (by omega) ao cz cA C.ag C.kC (by omega) (by omega) (by have:=K.o;omega) (by have:=K.o;omega))
     (λ h k=>h.trans k) (λ V l o cZ hl al bY _=>⟨λ v bq=>(u_ (w:=V) (w_ (by show u.heap.size+1≠l;omega))).trans bq,λ k v _ bq=>(u_ (w:=V) (w_ (by show bz≠l;have:=K.o;omega))).trans bq⟩) (n_ _ _) (λ _=>rfl)
     (λ(pre:List Int)(j:World)=>BG W s bm m Q x deep true pre j)
     (λ c pre j=>K3 W s bm m Q x deep c pre j)
     (bp.o true) (λ c pre bW bX row h ah ai=>⟨h.1,bp.o false pre bW bX row h.2 ah ai⟩) ⟨m,f,Ac _ bl.o,aA.o.pg,aA.o.snd,bn.o.1,bn.o.2.1,bn.o.2.2,λ _ y h=>absurd h List.not_mem_nil,by simp⟩
     ?a1 ?w1 ?assign ?kw1 ?body ?done ?stop
    case assign=>
     intro l pre y j c0 aS aT cE
     gi_wp2
     exact cE
    case kw1=>
     intro pre y j aS;exact⟨j_ _ _,o9.refl _ _ _ _⟩
    case body=>
     rintro l pre y bZ j aS ⟨o,cF,b0,bY,b1,b2⟩ aT c4;have cG:=bp.o true _ _ _ _ aS (show bZ.grownBy j (some (ao.heap.size+1)) by rw[b0];exact grownBy_putObj' bZ (ao.heap.size+1) o) (λ r e=>by cases e;exact⟨by omega,cF,b1,b2⟩);clear aS b0 bY b1 b2;obtain⟨P,ab,h1,J,M,N,R,L,S,O⟩:=cG;have b3:y∈others (az s.c.cl d) (-x):=aT.subset (by simp);obtain⟨br,b4⟩:=List.mem_filter.1 b3;have aB:gW s.c.n y:=Z.o.2.2.1.lt y br;have b5:=Z.o.2.2.2.2.2 y br (by rw[q.o.2.1];simpa using b4);obtain⟨aU,b6,b7,b8⟩:=pG.1 b5;obtain⟨ad,aC⟩:∃v,aG y=v:=⟨_,rfl⟩
     have b9:ad<=s.c.n:=by have:=aB.2;omega
     have bs:fE (∀w:World,Calls y_ 97 #[.int .i64 y] w λ e w'=>e=.returned (.int .i64 (ad:Int))/\w=w'):=aa (λ w=>by have:=sZ y w (by unfold aG at aC;omega) (by unfold aG at aC;omega);rw[aC] at this;exact this);have hlen:pre.length+1<=22:=by
      have aD:=aT.length_le;have aV:(others (az s.c.cl d) (-x)).length<=(az s.c.cl d).length:=p_ _ _;have aR:=Z.o.2.2.2.2.1.len;have b':=Z.o.2.2.2.1;rw[g_,o_] at aD;omega
     have A:=I.o.put h1 J M;obtain⟨g12,ca,c5,f12⟩:=A.e.lW 16 12 rfl A.e.n12 (by omega);have cH:=A.e.zQ ca (k:=ad) (by omega);obtain⟨g2,cc,aV,f2⟩:=A.e.lW 3 2 rfl A.e.mu (by have:=ae.o.o7;omega);have c2:=A.e.vH cc (k:=ad) (by have:=ae.o.o7;omega);have c6:(ad:Int)<(s.aP.length:Int):=by omega
     have c7:(ad:Int)<(s.c.lvl.length:Int):=by have:=ae.o.o7;omega
     have c8:j.cell? ⟨aH,0,none⟩=some (.pointer (some ⟨G,0,none⟩)):=A.p5.cell 0;have c9:j.cell? ⟨lX,0,none⟩=some (.func (.func 185) #[] #[.pointer (some ⟨lg,0,none⟩),.pointer (some ⟨aH,0,none⟩),.pointer (some ⟨lX,0,none⟩)]):=A.tI.cell 0;have da:j.cell? ⟨W.heap.size+1,0,none⟩=some (.int .i64 deep):=R.cell 0;have wd:v_.wrap (deep+1)=deep+1:=by rw[x_];omega
     obtain⟨aq,bt⟩:∃l,gV s.c.lvl ad=l:=⟨_,rfl⟩
     obtain⟨cd,bu⟩:∃b,iU s.aP ad=b:=⟨_,rfl⟩
     rw[bt] at c2;rw[bu] at cH;have hmul:(pre.length+1)*Q<=22*Q:=m_ Q hlen;have aW:(pre.length+1)*Q=pre.length*Q+Q:=Nat.succ_mul _ _;obtain⟨cf,bw⟩:∃cf,pre.length*Q=cf:=⟨_,rfl⟩
     rw[bw] at O aW;rw[aW] at hmul;have i:=aa (z_ h1 (z_ J (z_ M (z_ N (z_ R (z_ L (z_ S O)))))));have U:=aa (z_ aB (z_ aC (z_ b9 (z_ hlen (z_ bt (z_ bu (z_ b6 (z_ b7 (z_ b8 (z_ hmul (z_ aW bw)))))))))));have A:=aa A;have bx:fE (P+24^(aU+1)<=4611686018427387904/\24^(aU+1)<=Q):=aa (by
      have aD:24^(aU+1)<=24^p:=Nat.pow_le_pow_right (by omega) (by omega);rw[q.o.2.2.2.2.1] at aD;have aV:=q.o.2.2.2.2.2.2.2;exact⟨by omega,aD⟩)
     have bA:fE (∀(aY:Nat)(aZ:Int->Option Bool)(ak:World),W.grownBy ak (some bm)->mW 4 um ak bm aY aZ->(∀y,aZ y=some true->q5 s.c s.aP y)->aN ak W.heap.size 3 [.int .i64 x]->aN ak (W.heap.size+1) 3 [.int .i64 deep]->aN ak (W.heap.size+1+1) 4 [.bool false]->(cd=false->aq≠0->q5 s.c s.aP y)->aY<=P+Q->
       BG W s bm m Q x deep true (pre++[y]) ak):=aa (λ aY aZ ak a1 a2 a3 a4 a5 cI cJ db=>⟨aY,aZ,a1,a2,a3,a4,a5,cI,λ _ z cK a6 a7=>(List.mem_append.1 cK).elim (λ h=>i.o.2.2.2.2.2.2.1 rfl z h a6 a7) (λ h=>by
        rw[f_] at h;subst h;exact cJ (by rw[<-U.o.2.2.2.2.2.1,<-U.o.2.1];exact a6) (by rw[<-U.o.2.2.2.2.1,<-U.o.2.1];exact a7)),by rw[g_,o_,U.o.2.2.2.2.2.2.2.2.2.2.1];have:=i.o.2.2.2.2.2.2.2;omega⟩)
     clear h1 J M N R L S O aB aC b9 hlen bt bu b6 b7 b8 hmul aW bw b3 br b4 b5 ca cc f12 f2 aT
     cases cd with
     |true=>
      gi_wp2_with (refine⟨trivial,?_⟩;gi_at_call 97;refine(l_ l (c_.2 (bs.o _))).mono ?_;rintro e w1 ⟨rfl,rfl⟩)
      refine⟨λ _ h=>(by cases h),?_⟩
      gi_wp2
      exact⟨j_ _ _,o9.refl _ _ _ _,bA.o P ab j i.o.1 i.o.2.1 i.o.2.2.1 i.o.2.2.2.1 i.o.2.2.2.2.1 i.o.2.2.2.2.2.1 (λ h=>by cases h) (by omega)⟩
     |false=>
      by_cases aB:0<aq
      ·have d1:decide ((0:Int)<(aq:Int))=true:=by simp;omega
       have cL:(0:Int)<(aq:Int):=by omega
       have cg:=bc.o aU U.o.2.2.2.2.2.2.1 y (deep+1) j P ab (by have:=U.o.2.2.2.2.2.2.2.1;exact this) U.o.2.2.2.2.2.2.2.2.1 (by have:=cp.o;omega) (by have:=cx.o;omega) A.o bx.o.1
       gi_wp2_with (refine⟨trivial,?_⟩;gi_at_call 97;refine(l_ l (c_.2 (bs.o _))).mono ?_;rintro e w1 ⟨rfl,rfl⟩)
       refine⟨trivial,?_⟩
       gi_at_call 185
       refine(l_ l (c_.2 cg)).mono ?_;clear cg;rintro e w1 ⟨b,m2,ch,rfl,a8,a',ba,bb⟩;dsimp only
       cases b with
       |true=>
        have t:=aa (z_ a8 (z_ a' (z_ ba bb)));clear a8 a' ba bb
        gi_wp2
        exact⟨Zx t.o.2.2.1 (λ r e=>by cases e;have:=K.o;omega),o9.FH t.o.2.2.1 (λ e=>by injection e with e;have:=K.o;omega) (λ e=>by injection e with e;exact cD.o e),bA.o m2 ch w1 (yW i.o.1 t.o.2.2.1 (λ r e=>by cases e;exact .inr rfl)) t.o.2.1.pg t.o.2.1.snd (A.o.box t.o.2.2.1 i.o.2.2.2.1) (A.o.box t.o.2.2.1 i.o.2.2.2.2.1) (A.o.box t.o.2.2.1 i.o.2.2.2.2.2.1) (λ _ _=>t.o.1 trivial) (by have:=t.o.2.2.2;have:=bx.o.2;omega)⟩
       |false=>
        have t:=aa (z_ a8 (z_ a' (z_ ba bb)));clear a8 a' ba bb;have bC:=aa (A.o.box t.o.2.2.1 i.o.2.2.2.2.2.1);have aQ:w1.cell? ⟨W.heap.size+1+1,0,none⟩=some (.bool false):=bC.o.cell 0;have f7:w1.frozen? ⟨W.heap.size+1+1,0,none⟩=false:=bC.o.free 0
        gi_wp2
        refine⟨(Zx t.o.2.2.1 (λ r e=>by cases e;have:=K.o;omega)).trans ((KeepsOthers.setCell _ _ _).from _),rfl,m2,ch,yW (yW i.o.1 t.o.2.2.1 (λ r e=>by cases e;exact .inr rfl)) (kZ _ _ _ _) (λ r e=>by cases e;exact .inl (by omega)),t.o.2.1.pg.setCell (λ e=>by have:=K.o;simp at e;omega) _,t.o.2.1.snd,(A.o.box t.o.2.2.1 i.o.2.2.2.1).kept (kZ _ _ _ _) (by simp;omega),(A.o.box t.o.2.2.1 i.o.2.2.2.2.1).kept (kZ _ _ _ _) (by simp),bC.o.set 0 (.bool false),(λ h=>absurd h (by decide)),?_⟩;rw[g_,o_,U.o.2.2.2.2.2.2.2.2.2.2.1];have:=t.o.2.2.2;have:=bx.o.2;have:=i.o.2.2.2.2.2.2.2;omega
      ·have d1:decide ((0:Int)<(aq:Int))=false:=by simp;omega
       have cL:¬(0:Int)<(aq:Int):=by omega
       gi_wp2_with (refine⟨trivial,?_⟩;gi_at_call 97;refine(l_ l (c_.2 (bs.o _))).mono ?_;rintro e w1 ⟨rfl,rfl⟩)
       refine⟨λ _ h=>(by cases h),?_⟩
       gi_wp2
       exact⟨j_ _ _,o9.refl _ _ _ _,bA.o P ab j i.o.1 i.o.2.1 i.o.2.2.1 i.o.2.2.2.1 i.o.2.2.2.2.1 i.o.2.2.2.2.2.1 (λ _ h=>absurd (Nat.pos_of_ne_zero h) aB) (by omega)⟩
    case done=>
     rintro D ys j cM rfl ⟨P,ab,h1,J,M,N,R,L,S,O⟩ aE;have hlen:(others (az s.c.cl d) (-x)).length<=22:=by
      have aV:(others (az s.c.cl d) (-x)).length<=(az s.c.cl d).length:=p_ _ _;have aR:=Z.o.2.2.2.2.1.len;have b':=Z.o.2.2.2.1;omega
     have hmul:(others (az s.c.cl d) (-x)).length*Q<=22*Q:=m_ Q hlen;have cj:q5 s.c s.aP x:=q5.mk x d (by rw[aK.o.1];exact bQ.o) (λ y cN cO a6 a7=>S rfl y (List.mem_filter.2 ⟨cN,by simpa using cO⟩) a6 a7);have aQ:j.cell? ⟨W.heap.size+1+1,0,none⟩=some (.bool false):=L.cell 0;have f7:j.frozen? ⟨W.heap.size+1+1,0,none⟩=false:=L.free 0;have H:=aa (z_ h1 (z_ J (z_ M (z_ N (z_ L (z_ O (z_ hmul (z_ cj aE))))))));clear h1 J M N R L S O hmul cj aE hlen
     gi_wp2
     go_wp2_with fail
     have ck:W.grownBy (j.setCell ⟨W.heap.size+1+1,0,none⟩ (.bool true)) (some bm):=yW H.o.1 (kZ _ _ _ _) (λ r e=>by cases e;exact .inl (by omega));have cP:mW 4 um (j.setCell ⟨W.heap.size+1+1,0,none⟩ (.bool true)) bm P ab:=H.o.2.1.setCell (λ e=>by have:=K.o;simp at e;omega) _;exact BF (ds:=[D]) (yes:=true) (mE:=W.heap.size+1+1) (mO:=W.heap.size) rfl rfl (I.o.put ck cP H.o.2.2.1) ck ⟨by simp,λ E bD=>by
      obtain rfl:=f_.1 bD;refine⟨by have:=K.o;omega,?_⟩;exact((kZ j (W.heap.size+1+1) 0 (.bool true)).block E (Array.getElem?_eq_some_iff.1 H.o.2.2.2.2.2.2.2.2).1 (λ e=>by have:=K.o;injection e with e;omega)).trans H.o.2.2.2.2.2.2.2.2⟩ (H.o.2.2.2.2.1.set 0 (.bool true)) (H.o.2.2.2.1.kept (kZ _ _ _ _) (by simp;omega)) q.o.2.2.2.1 (λ _=>H.o.2.2.2.2.2.2.2.1) (by have:=q.o.2.2.2.2.2.2;have:=H.o.2.2.2.2.2.1;have:=H.o.2.2.2.2.2.2.1;unfold maxLen;omega) (by have:=q.o.2.2.2.2.2.2;have:=H.o.2.2.2.2.2.1;have:=H.o.2.2.2.2.2.2.1;omega)
    case stop=>
     rintro D dc pre j cM cQ ⟨rfl,P,ab,h1,J,M,N,R,L,S,O⟩ aE;have hlen:pre.length<=22:=by
      have aD:=cQ.length_le;have aV:(others (az s.c.cl d) (-x)).length<=(az s.c.cl d).length:=p_ _ _;have aR:=Z.o.2.2.2.2.1.len;have b':=Z.o.2.2.2.1;omega
     have hmul:pre.length*Q<=22*Q:=m_ Q hlen;have H:=aa (z_ h1 (z_ J (z_ M (z_ N (z_ L (z_ O (z_ hmul aE)))))));clear h1 J M N R L S O hmul aE hlen
     gi_wp2
     exact BF (ds:=[D]) (yes:=false) (mE:=W.heap.size+1+1) (mO:=W.heap.size) rfl rfl (I.o.put H.o.1 H.o.2.1 H.o.2.2.1) H.o.1 ⟨by simp,λ E bD=>by
      obtain rfl:=f_.1 bD;exact⟨by have:=K.o;omega,H.o.2.2.2.2.2.2.2⟩⟩ H.o.2.2.2.2.1 H.o.2.2.2.1 q.o.2.2.2.1 (λ e=>by cases e) (by have:=q.o.2.2.2.2.2.2;have:=H.o.2.2.2.2.2.1;have:=H.o.2.2.2.2.2.2.1;unfold maxLen;omega) (by have:=q.o.2.2.2.2.2.2;have:=H.o.2.2.2.2.2.1;have:=H.o.2.2.2.2.2.2.1;omega)
end
end Go.Proofs.YtogdlkfacflmaaaGreat
