/- Parts of the walk of the solver and its core; no condition. -/
import Derived.Test.YtogdlkfacflmaaaGreatZY7
import Derived.Test.YtogdlkfacflmaaaGreatZY4
import Derived.Test.YtogdlkfacflmaaaGreatZY6
import Derived.Laws.EntriesVeiled
import Derived.Laws.ResultCell
import Derived.Test.YtogdlkfacflmaaaGreatZY1
namespace Go.Proofs.YtogdlkfacflmaaaGreat
set_option linter.unusedVariables false
set_option linter.unusedSimpArgs false
set_option maxRecDepth 1000000
set_option maxHeartbeats 8000000
open _root_.And renaming intro→z_
open _root_.Go.Proofs.Tryz renaming prog→y_
open _root_.List renaming replicate→x_,length_cons→v_,mem_append→t_,mem_singleton→s_,take_of_length_le→r_,getElem?_eq_getElem→p_,length_filter_le→m_,length_singleton→l_,nodup_nil→i_,length_append→h_,getElem?_map→g_
open _root_.Nat renaming le_refl→w_,mul_le_mul_right→k_
open _root_.Go.IntKind renaming wrap_i64→u_,i64→n_
open _root_.Go.World renaming cell?_of_block→q_,putObj_heap_other→e_
open _root_.Go.RowKit.Below renaming refl→o_
open _root_.Go.CallsIn renaming inRound→j_
open _root_.Go renaming callsIn_wide→f_
open _root_.Go.Instr renaming makeFunc→d_
open _root_.Go.KeepsFrom renaming refl→c_,of_grownBy→Zz
open _root_.Array renaming replicate_succ→b_,replicate_zero→a_
variable{n base G lE aH l9 bm bP bS dh bD h:Nat}{hs ls:Nat->ay}{cb:Nat->Nat}{s aI:au}{F Fd:List (List Int)}{K:Nat->Prop}{w W:World}{X:Nat->List Value}{mk aN out r:List Int}{op kV:Int}{ij:ay}{iX:List Value}{ds:List Nat}{aQ:List Bool}{fK bk lK gY gJ gu u16 gv gw gx gI gy gz gA gB gC gD gE gF fS fT fU u32 fV fW fZ ga gb gd gh gi gj gl gm gG gH iz iq ir bT bU bV bW bX bY bZ b5 b6 b7 b8 b9 cc cg ck u64 cm cn cp cr ct cu cv cw cz cA cB cC cD cE cF cG cH cI cK cL cM di dm dn dr dw dx dy dz cN cO cQ cR cS cT cU cV cW cZ c4 c5 c6 c7 c8 c9 dc dA dB dD dF dG dH dI dJ dK dL dM dN dO dP dQ dR dS dU dV dW dX dY dZ ec ee ef ei ej ek en eo ep er eu ew ey ez eA eB eC eD eE fO fP fQ eF eG eH eL eM eN eO eP eR eS eT eU eV eW eX eY eZ e3 e4 e5 e6 e7 e8 e9 fc fe ff fh fk fm fo fq fu fA fB fC gn gp fD fE fF fG fH fI fJ iF gL fL fM fN:Value}{Q:Exit->Act->World->Prop}
section
open Go.RowKit Go.Shelf
attribute [local go_sem] Oper.semAt_some
theorem LI{x:Int}(h:gP n x)(b:n<=60000):wu x=true:=LF (by have:=h.2;unfold aD at this;omega) (by have:=h.2;unfold aD at this;omega)
def B3(W:World)(s:au)(bm m Q:Nat)(x deep:Int)(st:Bool)(pre:List Int)(b:World):Prop:=
 ∃(d:Nat)(e:Int->Option Bool),W.grownBy b (some bm)/\ni 4 uD b bm d e/\(∀y,e y=some true->q4 s.c s.aQ y)/\aR b W.heap.size 3 [.int .i64 x]/\aR b (W.heap.size+1) 3 [.int .i64 deep]/\aR b (W.heap.size+1+1) 4 [.bool false]/\(st=true->∀y∈pre,iY s.aQ (aD y)=false->bp s.c y≠0->q4 s.c s.aQ y)/\d<=m+pre.length*Q
def LJ(W:World)(s:au)(bm m Q:Nat)(x deep:Int)(c:Code)(pre:List Int)(b:World):Prop:=c=.ret/\B3 W s bm m Q x deep false pre b
theorem LK(T:j9 s.c)(D:rF F Fd s.c)(cS:s.c.n<=10)(cT:s.aQ.length=s.c.n+1):
  ∀(p:Nat)(x:Int)(deep:Int)(W:World)(m:Nat)(f:Int->Option Bool),p<s.c.ax.length->ak s.c.ax p= -x->0<=deep->deep<=1001->r6 base W G hs cb s lE aH l9 bm m f->m+24^(p+1)<=4611686018427387904->
  Calls y_ 185 #[.int .i64 x,.int .i64 deep,.pointer (some ⟨lE,0,none⟩),.pointer (some ⟨aH,0,none⟩),.pointer (some ⟨l9,0,none⟩)] W (GV base W G hs cb s lE aH l9 bm m x (24^(p+1))):=by
 intro p
 induction p using Nat.strongRecOn with
 |ind p ba=>?_
 intro x deep W m f hp bb cm cn bB bD;have aG:gP s.c.n x:=by have:=T.lit _ (mc hp);rw[bb] at this;have:=this.neg;rwa[Int.neg_neg] at this
 have bE:=LI aG (by omega);obtain⟨Q,aI⟩:∃Q,24^p=Q:=⟨_,rfl⟩
 have bc:24^(p+1)=24*Q:=by rw[Nat.pow_succ,aI,Nat.mul_comm]
 have bG:1<=Q:=by rw[<-aI];exact Nat.pow_pos (by omega)
 rw[bc] at bD⊢;have ba:=U ba;have cp:=U (z_ cm cn);have I:=U bB;have ae:=U T;have cq:=U D;have q:=U (z_ hp (z_ bb (z_ aG (z_ bE (z_ aI (z_ bc (z_ bG bD)))))));obtain⟨v,al⟩:∃v,aD x=v:=⟨_,rfl⟩
 have bH:v<=s.c.n:=by have:=aG.2;omega
 have cr:bF (∀w:World,Calls y_ 97 #[.int .i64 x] w λ e w'=>e=.returned (.int .i64 (v:Int))/\w=w'):=U (λ w=>by have:=s7 x w (by unfold aD at al;omega) (by unfold aD at al;omega);rw[al] at this;exact this);have cU:∀(fn:Fn)(first cap:Array Value)(w:World),(d_ fn first cap).run y_ w=.ok (.func fn first cap) w:=λ _ _ _ _=>rfl
 have aJ:=U (z_ al bH);clear hp bb aG bE aI bc bG bB T D al bH;refine C5 Tryz.func185 rfl ?_;simp only[Tryz.ntmps185,List.size_toArray,v_,List.length_nil,Nat.reduceAdd,Nat.reduceSub,b_,a_,List.push_toArray,List.append_toArray,List.nil_append,List.cons_append]
 go_upto_region 1 with fail
 have aK:Below W.heap.size W (((W.alloc (.cells #[.int .i64 x] 3)).alloc (.cells #[.int .i64 deep] 3)).alloc (.cells #[.bool false] 4)):=(((o_ _ W).alloc (w_ _) _).alloc (by simp) _).alloc (by simp;omega) _;have nP:aR (((W.alloc (.cells #[.int .i64 x] 3)).alloc (.cells #[.int .i64 deep] 3)).alloc (.cells #[.bool false] 4)) W.heap.size 3 [.int .i64 x]:=((aR.new W 3 [.int .i64 x]).below (bC _ _)).below (bC _ _);have bI:aR (((W.alloc (.cells #[.int .i64 x] 3)).alloc (.cells #[.int .i64 deep] 3)).alloc (.cells #[.bool false] 4)) (W.heap.size+1) 3 [.int .i64 deep]:=by
  have:=(aR.new (W.alloc (.cells #[.int .i64 x] 3)) 3 [.int .i64 deep]).below (bC _ (.cells #[.bool false] 4));simpa using this
 have lP:aR (((W.alloc (.cells #[.int .i64 x] 3)).alloc (.cells #[.int .i64 deep] 3)).alloc (.cells #[.bool false] 4)) (W.heap.size+1+1) 4 [.bool false]:=by
  have:=aR.new ((W.alloc (.cells #[.int .i64 x] 3)).alloc (.cells #[.int .i64 deep] 3)) 4 [.bool false];simpa using this
 have aL:(((W.alloc (.cells #[.int .i64 x] 3)).alloc (.cells #[.int .i64 deep] 3)).alloc (.cells #[.bool false] 4)).heap.size=W.heap.size+1+1+1:=by simp
 generalize ((W.alloc (.cells #[.int .i64 x] 3)).alloc (.cells #[.int .i64 deep] 3)).alloc (.cells #[.bool false] 4)=V at*;have af:=U (I.o.below aK);have ct:=U (As (some bm) aK);have aM:=U (z_ nP (z_ bI lP));have cu:V.cell? ⟨lE,0,none⟩=some (.map (some bm)):=af.o.vR.cell 0;have bJ:V.cell? ⟨W.heap.size,0,none⟩=some (.int .i64 x):=nP.cell 0;have aN:V.cell? ⟨W.heap.size+1+1,0,none⟩=some (.bool false):=lP.cell 0;have f7:=lP.free 0;have aq:=af.o.pI.LG GR Tryz.underlying114 q.o.2.2.2.1;have bd:=U aK;clear aK nP bI lP
 cases ar:f x with
 |some b=>
  rw[ar] at aq;dsimp only[Option.getD_some,Option.isSome_some] at aq;have cv:=U ar;clear ar
  go_wp2_with fail
  have Y:Below W.heap.size W (V.setCell ⟨W.heap.size+1+1,0,none⟩ (.bool b)):=bd.o.setCell (p:=⟨W.heap.size+1+1,0,none⟩) (by simp;omega) _;refine JZ (GW _ (W.heap.size+1+1) b _ rfl (((aM.o.2.2).set 0 (.bool b)).cell 0)) rfl ?_;exact⟨b,m,f,rfl,λ e=>I.o.snd x (by rw[cv.o,e]),I.o.below Y,As _ Y,by omega⟩
 |none=>
  rw[ar] at aq;dsimp only[Option.getD_none,Option.isSome_none] at aq;clear ar
  go_upto_region 5 with fail
  have cw:V.cell? ⟨aH,0,none⟩=some (.pointer (some ⟨G,0,none⟩)):=af.o.qf.cell 0;obtain⟨g3,bK,aO,f3⟩:=af.o.e.l7 4 3 rfl af.o.e.nU (by have:=ae.o.pQ;omega);have c3:=af.o.e.yT bK (k:=v) (by have:=ae.o.pQ;have:=aJ.o;omega);have cV:(v:Int)<(s.c.kF.length:Int):=by have:=ae.o.pQ;have:=aJ.o;omega
  have bM:V.cell? ⟨W.heap.size+1,0,none⟩=some (.int .i64 deep):=aM.o.2.1.cell 0;have bg:=ae.o.p7 p q.o.1;have bN:aD (ak s.c.ax p)=v:=by rw[q.o.2.1,oW];exact aJ.o.1
  rw[bN] at bg;obtain⟨pv,B⟩:∃pv:Option Addr,qT cb (mH s.c.kF v)=.pointer pv:=by cases mH s.c.kF v with
   |none=>exact⟨_,rfl⟩
   |some d=>exact⟨_,rfl⟩
  rw[B] at c3;have bO:=U B;clear B;refine wp_region_still_tail 8 (by kernel_rfl) (by kernel_rfl) ?_;simp only[List.take_succ_cons,List.take_zero,List.drop_succ_cons,List.drop_zero]
  iterate 5 still_step
  still_call ((cr.o _).mono (λ e w' h=>⟨h.1,h.2.symm⟩))
  iterate 2 still_step
  refine wpStill_nil ?_;change wpList _ _ _ _ _ V.drew;have bP:=U bg;have bh:Below W.heap.size W V.drew:=bd.o.drew;have aa:=U (show aR V.drew W.heap.size 3 [.int .i64 x]/\aR V.drew (W.heap.size+1) 3 [.int .i64 deep]/\aR V.drew (W.heap.size+1+1) 4 [.bool false] from aM.o);have av:=U bh;have cx:=U (I.o.below bh);have bJ:V.drew.cell? ⟨W.heap.size,0,none⟩=some (.int .i64 x):=bJ;have bM:V.drew.cell? ⟨W.heap.size+1,0,none⟩=some (.int .i64 deep):=bM;have aN:V.drew.cell? ⟨W.heap.size+1+1,0,none⟩=some (.bool false):=aN;have f7:V.drew.frozen? ⟨W.heap.size+1+1,0,none⟩=false:=f7;have aL:V.drew.heap.size=W.heap.size+1+1+1:=aL;clear bh bg bN bK f3 aO cw aq cu aM bd af ct c3;have B:=bO.o;clear bO;generalize V.drew=u at*
  cases hw:mH s.c.kF v with
  |none=>
   rw[hw] at B;clear hw bP;have B:Value.pointer none=.pointer pv:=B;injection B with B
   subst B
   go_wp2_with fail
   have Y:Below W.heap.size W (u.setCell ⟨W.heap.size+1+1,0,none⟩ (.bool false)):=av.o.setCell (p:=⟨W.heap.size+1+1,0,none⟩) (by simp;omega) _;exact B2 (ds:=[]) (yes:=false) (lP:=W.heap.size+1+1) (nP:=W.heap.size) rfl rfl (I.o.below Y) (As _ Y) ⟨i_,λ D h=>by cases h⟩ (aa.o.2.2.set 0 (.bool false)) (aa.o.1.kept (lq _ _ _ _) (by simp;omega)) q.o.2.2.2.1 (λ e=>by cases e) (by have:=q.o;unfold maxLen;omega) (by have:=q.o;omega)
  |some d=>
   rw[hw] at B;have bQ:=U hw;clear hw;have B:Value.pointer (some ⟨cb d,0,none⟩)=.pointer pv:=B;injection B with B
   subst B
   by_cases bR:1000<deep
   ·have d1:decide (1000<deep)=true:=by simp;omega
    go_wp2_with fail
    have Y:Below W.heap.size W (u.setCell ⟨W.heap.size+1+1,0,none⟩ (.bool false)):=av.o.setCell (p:=⟨W.heap.size+1+1,0,none⟩) (by simp;omega) _;exact B2 (ds:=[]) (yes:=false) (lP:=W.heap.size+1+1) (nP:=W.heap.size) rfl rfl (I.o.below Y) (As _ Y) ⟨i_,λ D h=>by cases h⟩ (aa.o.2.2.set 0 (.bool false)) (aa.o.1.kept (lq _ _ _ _) (by simp;omega)) q.o.2.2.2.1 (λ e=>by cases e) (by have:=q.o;unfold maxLen;omega) (by have:=q.o;omega)
   ·have d1:decide (1000<deep)=false:=by simp;omega
    have cy:=U bR;clear bR
    go_upto_region 8 with fail
    have bS:=bP.o;rw[bQ.o] at bS;obtain⟨ag,bj,bT⟩:=bS;have cW:n_.wrap (-x)= -x:=by rw[u_];have:=q.o.2.2.1.2;unfold aD at this;omega
    have cz:=U aL;clear aL
    go_wp2_with (go_at_call 183;refine(Dv _ _ _).mono ?_;rintro e w1 ⟨rfl,rfl⟩;dsimp only)
    have aw:Below u.heap.size u ((u.alloc (.cells #[.pointer (some ⟨cb d,0,none⟩)] 164)).alloc (.cells #[.int .i64 (-x)] 3)):=(bC u (.cells #[.pointer (some ⟨cb d,0,none⟩)] 164)).trans ((bC _ (.cells #[.int .i64 (-x)] 3)).mono (by simp));have cA:((u.alloc (.cells #[.pointer (some ⟨cb d,0,none⟩)] 164)).alloc (.cells #[.int .i64 (-x)] 3)).cell? ⟨u.heap.size,0,none⟩=some (.pointer (some ⟨cb d,0,none⟩)):=by go_simp
    have cB:((u.alloc (.cells #[.pointer (some ⟨cb d,0,none⟩)] 164)).alloc (.cells #[.int .i64 (-x)] 3)).cell? ⟨u.heap.size+1,0,none⟩=some (.int .i64 (-x)):=by go_simp
    have cX:((u.alloc (.cells #[.pointer (some ⟨cb d,0,none⟩)] 164)).alloc (.cells #[.int .i64 (-x)] 3)).heap.size=u.heap.size+1+1:=by simp
    have bk:=U (av.o.trans (aw.mono av.o.size));have bl:=U (z_ (aa.o.1.below aw) (z_ (aa.o.2.1.below aw) (aa.o.2.2.below aw)));clear aw aa av cx;generalize (u.alloc (.cells #[.pointer (some ⟨cb d,0,none⟩)] 164)).alloc (.cells #[.int .i64 (-x)] 3)=an at*;have aA:=U (I.o.below bk.o);have bU:bf (λ _=>False) base an G hs cb s:=⟨aA.o.e,⟨λ b h=>h.elim,λ h=>h,λ r b _ h=>h,λ d ag h=>h⟩⟩
    obtain⟨bL,m1,cC,C⟩:=bU.zb ag (List.length_pos_of_mem bj);have bn:=cq.o.mM d ag;have cD:m1<=22:=by have:=bn.len;have:=C.len;omega
    have cY:=(I.o.e.rows.lt C.b).2;have cZ:=(I.o.e.cls d ag).lt;have Z:=U (z_ ag (z_ bj (z_ bn (z_ cD (z_ C bT)))));have cE:bF (bL≠bm):=U (λ e=>by
     obtain⟨cs,h1⟩:=vz (aA.o.e.rows.row (kO d)) (g:=bL) (by rw[ay.own];exact C.b);obtain⟨es,cl,J⟩:=aA.o.pI.B1;rw[e,J] at h1;cases h1)
    have K:=U (z_ bk.o.size (z_ I.o.pI.lt cz.o));have bV:∀(st:Bool),OwnFrom an.heap.size (λ(pre:List Int)(j:World)=>B3 W s bm m Q x deep st pre j):=by
     rintro st pre bW bX row ⟨P,ab,h1,J,M,N,R,L,S,O⟩ ah ai;exact⟨P,ab,zj h1 ah (λ r e=>.inl (by have:=(ai r e).1;have:=K.o.1;omega)),J.kept ah (λ e=>by have:=(ai bm e.symm).1;have:=K.o;omega),M,N.kept ah (yl N (λ r e=>(ai r e).2)),R.kept ah (yl R (λ r e=>(ai r e).2)),L.kept ah (yl L (λ r e=>(ai r e).2)),S,O⟩
    have bo:=U bV;clear ag bj bn bV bT bU;refine(wpIn_wide (n:=6)).1 ?_;refine C2 (F:=Fence.wide) (w0:=an) rfl (by omega) (gf:=224) (lb:= #[.pointer (some ⟨u.heap.size,0,none⟩),.pointer (some ⟨u.heap.size+1,0,none⟩)]) rfl trivial Du
     (Dw (6-1) (by omega) u.heap.size (u.heap.size+1) (cb d) bL m1 cC (az s.c.cl d) (-x) C.len (by omega) an cA cB C.ag C.kR (by omega) (by omega) (by have:=K.o;omega) (by have:=K.o;omega))
     (λ h k=>h.trans k) (λ V l o c0 hl al bY _=>⟨λ v bp=>(q_ (w:=V) (e_ (by show u.heap.size+1≠l;omega))).trans bp,λ k v _ bp=>(q_ (w:=V) (e_ (by show bL≠l;have:=K.o;omega))).trans bp⟩) (o_ _ _) (λ _=>rfl)
     (λ(pre:List Int)(j:World)=>B3 W s bm m Q x deep true pre j)
     (λ c pre j=>LJ W s bm m Q x deep c pre j)
     (bo.o true) (λ c pre bW bX row h ah ai=>⟨h.1,bo.o false pre bW bX row h.2 ah ai⟩) ⟨m,f,As _ bk.o,aA.o.pI,aA.o.snd,bl.o.1,bl.o.2.1,bl.o.2.2,λ _ y h=>absurd h List.not_mem_nil,by simp⟩
     ?a1 ?w1 ?assign ?kw1 ?body ?done ?stop
    case assign=>
     intro l pre y j c4 aP aS cF
     gi_wp2
     exact cF
    case kw1=>
     intro pre y j aP;exact⟨c_ _ _,pG.refl _ _ _ _⟩
    case body=>
     rintro l pre y bZ j aP ⟨o,cG,b0,bY,b1,b2⟩ aS c5;have cH:=bo.o true _ _ _ _ aP (show bZ.grownBy j (some (an.heap.size+1)) by rw[b0];exact grownBy_putObj' bZ (an.heap.size+1) o) (λ r e=>by cases e;exact⟨by omega,cG,b1,b2⟩);clear aP b0 bY b1 b2;obtain⟨P,ab,h1,J,M,N,R,L,S,O⟩:=cH;have b3:y∈others (az s.c.cl d) (-x):=aS.subset (by simp);obtain⟨bq,b4⟩:=List.mem_filter.1 b3;have aB:gP s.c.n y:=Z.o.2.2.1.lt y bq;have b5:=Z.o.2.2.2.2.2 y bq (by rw[q.o.2.1];simpa using b4);obtain⟨aT,b6,b7,b8⟩:=pP.1 b5;obtain⟨ad,aC⟩:∃v,aD y=v:=⟨_,rfl⟩
     have b9:ad<=s.c.n:=by have:=aB.2;omega
     have br:bF (∀w:World,Calls y_ 97 #[.int .i64 y] w λ e w'=>e=.returned (.int .i64 (ad:Int))/\w=w'):=U (λ w=>by have:=s7 y w (by unfold aD at aC;omega) (by unfold aD at aC;omega);rw[aC] at this;exact this);have hlen:pre.length+1<=22:=by
      have aE:=aS.length_le;have aU:(others (az s.c.cl d) (-x)).length<=(az s.c.cl d).length:=m_ _ _;have aO:=Z.o.2.2.2.2.1.len;have b':=Z.o.2.2.2.1;rw[h_,l_] at aE;omega
     have A:=I.o.put h1 J M;obtain⟨g12,ca,c6,f12⟩:=A.e.l7 16 12 rfl A.e.n12 (by omega);have cI:=A.e.Ad ca (k:=ad) (by omega);obtain⟨g2,cc,aU,f2⟩:=A.e.l7 3 2 rfl A.e.kJ (by have:=ae.o.pz;omega);have c2:=A.e.vZ cc (k:=ad) (by have:=ae.o.pz;omega);have c7:(ad:Int)<(s.aQ.length:Int):=by omega
     have c8:(ad:Int)<(s.c.lvl.length:Int):=by have:=ae.o.pz;omega
     have c9:j.cell? ⟨aH,0,none⟩=some (.pointer (some ⟨G,0,none⟩)):=A.qf.cell 0;have da:j.cell? ⟨l9,0,none⟩=some (.func (.func 185) #[] #[.pointer (some ⟨lE,0,none⟩),.pointer (some ⟨aH,0,none⟩),.pointer (some ⟨l9,0,none⟩)]):=A.tQ.cell 0;have db:j.cell? ⟨W.heap.size+1,0,none⟩=some (.int .i64 deep):=R.cell 0;have wd:n_.wrap (deep+1)=deep+1:=by rw[u_];omega
     obtain⟨ao,bs⟩:∃l,hU s.c.lvl ad=l:=⟨_,rfl⟩
     obtain⟨cd,bt⟩:∃b,iY s.aQ ad=b:=⟨_,rfl⟩
     rw[bs] at c2;rw[bt] at cI;have hmul:(pre.length+1)*Q<=22*Q:=k_ Q hlen;have aV:(pre.length+1)*Q=pre.length*Q+Q:=Nat.succ_mul _ _;obtain⟨cf,bu⟩:∃cf,pre.length*Q=cf:=⟨_,rfl⟩
     rw[bu] at O aV;rw[aV] at hmul;have i:=U (z_ h1 (z_ J (z_ M (z_ N (z_ R (z_ L (z_ S O)))))));have X:=U (z_ aB (z_ aC (z_ b9 (z_ hlen (z_ bs (z_ bt (z_ b6 (z_ b7 (z_ b8 (z_ hmul (z_ aV bu)))))))))));have A:=U A;have bw:bF (P+24^(aT+1)<=4611686018427387904/\24^(aT+1)<=Q):=U (by
      have aE:24^(aT+1)<=24^p:=Nat.pow_le_pow_right (by omega) (by omega);rw[q.o.2.2.2.2.1] at aE;have aU:=q.o.2.2.2.2.2.2.2;exact⟨by omega,aE⟩)
     have bx:bF (∀(aW:Nat)(aX:Int->Option Bool)(aj:World),W.grownBy aj (some bm)->ni 4 uD aj bm aW aX->(∀y,aX y=some true->q4 s.c s.aQ y)->aR aj W.heap.size 3 [.int .i64 x]->aR aj (W.heap.size+1) 3 [.int .i64 deep]->aR aj (W.heap.size+1+1) 4 [.bool false]->(cd=false->ao≠0->q4 s.c s.aQ y)->aW<=P+Q->
       B3 W s bm m Q x deep true (pre++[y]) aj):=U (λ aW aX aj a1 a2 a3 a4 a5 cJ cK dc=>⟨aW,aX,a1,a2,a3,a4,a5,cJ,λ _ z cL aY aZ=>(t_.1 cL).elim (λ h=>i.o.2.2.2.2.2.2.1 rfl z h aY aZ) (λ h=>by
        rw[s_] at h;subst h;exact cK (by rw[<-X.o.2.2.2.2.2.1,<-X.o.2.1];exact aY) (by rw[<-X.o.2.2.2.2.1,<-X.o.2.1];exact aZ)),by rw[h_,l_,X.o.2.2.2.2.2.2.2.2.2.2.1];have:=i.o.2.2.2.2.2.2.2;omega⟩)
     clear h1 J M N R L S O aB aC b9 hlen bs bt b6 b7 b8 hmul aV bu b3 bq b4 b5 ca cc f12 f2 aS
     cases cd with
     |true=>
      gi_wp2_with (refine⟨trivial,?_⟩;gi_at_call 97;refine(j_ l (f_.2 (br.o _))).mono ?_;rintro e w1 ⟨rfl,rfl⟩)
      refine⟨λ _ h=>(by cases h),?_⟩
      gi_wp2
      exact⟨c_ _ _,pG.refl _ _ _ _,bx.o P ab j i.o.1 i.o.2.1 i.o.2.2.1 i.o.2.2.2.1 i.o.2.2.2.2.1 i.o.2.2.2.2.2.1 (λ h=>by cases h) (by omega)⟩
     |false=>
      by_cases aB:0<ao
      ·have d1:decide ((0:Int)<(ao:Int))=true:=by simp;omega
       have cM:(0:Int)<(ao:Int):=by omega
       have cg:=ba.o aT X.o.2.2.2.2.2.2.1 y (deep+1) j P ab (by have:=X.o.2.2.2.2.2.2.2.1;exact this) X.o.2.2.2.2.2.2.2.2.1 (by have:=cp.o;omega) (by have:=cy.o;omega) A.o bw.o.1
       gi_wp2_with (refine⟨trivial,?_⟩;gi_at_call 97;refine(j_ l (f_.2 (br.o _))).mono ?_;rintro e w1 ⟨rfl,rfl⟩)
       refine⟨trivial,?_⟩
       gi_at_call 185
       refine(j_ l (f_.2 cg)).mono ?_;clear cg;rintro e w1 ⟨b,m2,ch,rfl,a6,a7,a8,a'⟩;dsimp only
       cases b with
       |true=>
        have t:=U (z_ a6 (z_ a7 (z_ a8 a')));clear a6 a7 a8 a'
        gi_wp2
        exact⟨Zz t.o.2.2.1 (λ r e=>by cases e;have:=K.o;omega),pG.Gq t.o.2.2.1 (λ e=>by injection e with e;have:=K.o;omega) (λ e=>by injection e with e;exact cE.o e),bx.o m2 ch w1 (zj i.o.1 t.o.2.2.1 (λ r e=>by cases e;exact .inr rfl)) t.o.2.1.pI t.o.2.1.snd (A.o.box t.o.2.2.1 i.o.2.2.2.1) (A.o.box t.o.2.2.1 i.o.2.2.2.2.1) (A.o.box t.o.2.2.1 i.o.2.2.2.2.2.1) (λ _ _=>t.o.1 trivial) (by have:=t.o.2.2.2;have:=bw.o.2;omega)⟩
       |false=>
        have t:=U (z_ a6 (z_ a7 (z_ a8 a')));clear a6 a7 a8 a';have bz:=U (A.o.box t.o.2.2.1 i.o.2.2.2.2.2.1);have aN:w1.cell? ⟨W.heap.size+1+1,0,none⟩=some (.bool false):=bz.o.cell 0;have f7:w1.frozen? ⟨W.heap.size+1+1,0,none⟩=false:=bz.o.free 0
        gi_wp2
        refine⟨(Zz t.o.2.2.1 (λ r e=>by cases e;have:=K.o;omega)).trans ((KeepsOthers.setCell _ _ _).from _),rfl,m2,ch,zj (zj i.o.1 t.o.2.2.1 (λ r e=>by cases e;exact .inr rfl)) (lq _ _ _ _) (λ r e=>by cases e;exact .inl (by omega)),t.o.2.1.pI.setCell (λ e=>by have:=K.o;simp at e;omega) _,t.o.2.1.snd,(A.o.box t.o.2.2.1 i.o.2.2.2.1).kept (lq _ _ _ _) (by simp;omega),(A.o.box t.o.2.2.1 i.o.2.2.2.2.1).kept (lq _ _ _ _) (by simp),bz.o.set 0 (.bool false),(λ h=>absurd h (by decide)),?_⟩;rw[h_,l_,X.o.2.2.2.2.2.2.2.2.2.2.1];have:=t.o.2.2.2;have:=bw.o.2;have:=i.o.2.2.2.2.2.2.2;omega
      ·have d1:decide ((0:Int)<(ao:Int))=false:=by simp;omega
       have cM:¬(0:Int)<(ao:Int):=by omega
       gi_wp2_with (refine⟨trivial,?_⟩;gi_at_call 97;refine(j_ l (f_.2 (br.o _))).mono ?_;rintro e w1 ⟨rfl,rfl⟩)
       refine⟨λ _ h=>(by cases h),?_⟩
       gi_wp2
       exact⟨c_ _ _,pG.refl _ _ _ _,bx.o P ab j i.o.1 i.o.2.1 i.o.2.2.1 i.o.2.2.2.1 i.o.2.2.2.2.1 i.o.2.2.2.2.2.1 (λ _ h=>absurd (Nat.pos_of_ne_zero h) aB) (by omega)⟩
    case done=>
     rintro D ys j cN rfl ⟨P,ab,h1,J,M,N,R,L,S,O⟩ aF;have hlen:(others (az s.c.cl d) (-x)).length<=22:=by
      have aU:(others (az s.c.cl d) (-x)).length<=(az s.c.cl d).length:=m_ _ _;have aO:=Z.o.2.2.2.2.1.len;have b':=Z.o.2.2.2.1;omega
     have hmul:(others (az s.c.cl d) (-x)).length*Q<=22*Q:=k_ Q hlen;have cj:q4 s.c s.aQ x:=q4.mk x d (by rw[aJ.o.1];exact bQ.o) (λ y cO cP aY aZ=>S rfl y (List.mem_filter.2 ⟨cO,by simpa using cP⟩) aY aZ);have aN:j.cell? ⟨W.heap.size+1+1,0,none⟩=some (.bool false):=L.cell 0;have f7:j.frozen? ⟨W.heap.size+1+1,0,none⟩=false:=L.free 0;have H:=U (z_ h1 (z_ J (z_ M (z_ N (z_ L (z_ O (z_ hmul (z_ cj aF))))))));clear h1 J M N R L S O hmul cj aF hlen
     gi_wp2
     go_wp2_with fail
     have ck:W.grownBy (j.setCell ⟨W.heap.size+1+1,0,none⟩ (.bool true)) (some bm):=zj H.o.1 (lq _ _ _ _) (λ r e=>by cases e;exact .inl (by omega));have cQ:ni 4 uD (j.setCell ⟨W.heap.size+1+1,0,none⟩ (.bool true)) bm P ab:=H.o.2.1.setCell (λ e=>by have:=K.o;simp at e;omega) _;exact B2 (ds:=[D]) (yes:=true) (lP:=W.heap.size+1+1) (nP:=W.heap.size) rfl rfl (I.o.put ck cQ H.o.2.2.1) ck ⟨by simp,λ E bA=>by
      obtain rfl:=s_.1 bA;refine⟨by have:=K.o;omega,?_⟩;exact((lq j (W.heap.size+1+1) 0 (.bool true)).block E (Array.getElem?_eq_some_iff.1 H.o.2.2.2.2.2.2.2.2).1 (λ e=>by have:=K.o;injection e with e;omega)).trans H.o.2.2.2.2.2.2.2.2⟩ (H.o.2.2.2.2.1.set 0 (.bool true)) (H.o.2.2.2.1.kept (lq _ _ _ _) (by simp;omega)) q.o.2.2.2.1 (λ _=>H.o.2.2.2.2.2.2.2.1) (by have:=q.o.2.2.2.2.2.2;have:=H.o.2.2.2.2.2.1;have:=H.o.2.2.2.2.2.2.1;unfold maxLen;omega) (by have:=q.o.2.2.2.2.2.2;have:=H.o.2.2.2.2.2.1;have:=H.o.2.2.2.2.2.2.1;omega)
    case stop=>
     rintro D dd pre j cN cR ⟨rfl,P,ab,h1,J,M,N,R,L,S,O⟩ aF;have hlen:pre.length<=22:=by
      have aE:=cR.length_le;have aU:(others (az s.c.cl d) (-x)).length<=(az s.c.cl d).length:=m_ _ _;have aO:=Z.o.2.2.2.2.1.len;have b':=Z.o.2.2.2.1;omega
     have hmul:pre.length*Q<=22*Q:=k_ Q hlen;have H:=U (z_ h1 (z_ J (z_ M (z_ N (z_ L (z_ O (z_ hmul aF)))))));clear h1 J M N R L S O hmul aF hlen
     gi_wp2
     exact B2 (ds:=[D]) (yes:=false) (lP:=W.heap.size+1+1) (nP:=W.heap.size) rfl rfl (I.o.put H.o.1 H.o.2.1 H.o.2.2.1) H.o.1 ⟨by simp,λ E bA=>by
      obtain rfl:=s_.1 bA;exact⟨by have:=K.o;omega,H.o.2.2.2.2.2.2.2⟩⟩ H.o.2.2.2.2.1 H.o.2.2.2.1 q.o.2.2.2.1 (λ e=>by cases e) (by have:=q.o.2.2.2.2.2.2;have:=H.o.2.2.2.2.2.1;have:=H.o.2.2.2.2.2.2.1;unfold maxLen;omega) (by have:=q.o.2.2.2.2.2.2;have:=H.o.2.2.2.2.2.1;have:=H.o.2.2.2.2.2.2.1;omega)
end
section
open Go.RowKit Go.Shelf
noncomputable def LL:Code:=(Tryz.f146.body.bind λ c=>qv c 6).getD .skip
theorem lF.blk(h:lF K base w W G hs cb s ls X){r B:Nat}{v:Value}(hl:ls r=oq B)(d:X r=[v]):aR W B (yc r) [v]:=by
 have h1:=h.rows.row r;rw[hl,d] at h1;rcases h1.2 with⟨c,_⟩|⟨g,cap,cur,c,_,e,_,_,f,i⟩
 ·cases c
 ·simp only[oq,ay.v] at c;injection c with b l j
  injection b with b
  injection b with b
  subst b;subst j;have:cur= #[v]:=by
   apply Array.toList_inj.1;have k:cur.toList.length=1:=by simpa using f
   rw[<-i,r_ (by rw[k];simp[oq])]
  show W.heap[B]? =_;rw[e,this]
structure qV(K:Nat->Prop)(base:Nat)(w W:World)(G:Nat)(hs:Nat->ay)(cb:Nat->Nat)(s:au)(aH bP bS dh bD lE l9 bm m:Nat)(f:Int->Option Bool)(out mk:List Int)(op:Int)(ij:ay)(iX:List Value)(r:List Int)(ds:List Nat)(ls:Nat->ay)(X:Nat->List Value):Prop where
 aO:kY K base w W G hs cb s aH bP bS dh bD out mk op ij iX ls X
 qt:ls 7=oq lE
 mQ:X 7=[.map (some bm)]
 B4:ls 8=oq l9
 B5:X 8=[.func (.func 185) #[] #[.pointer (some ⟨lE,0,none⟩),.pointer (some ⟨aH,0,none⟩),.pointer (some ⟨l9,0,none⟩)]]
 uE:X 9=jj r
 pI:ni 4 uD W bm m f
 snd:∀y,f y=some true->q4 s.c s.aQ y
 B6:w.heap.size<=bm
 ms:o9 w.heap.size W ds
section
variable {K:Nat->Prop}{base:Nat}{w W W' rQ:World}{G:Nat}{hs:Nat->ay}{cb:Nat->Nat}{s:au}{aH bP bS dh bD lE l9 bm m:Nat}{f:Int->Option Bool}{out mk:List Int}{op:Int}{ij:ay}{iX:List Value}{r:List Int}{ds:List Nat}{ls:Nat->ay}{X:Nat->List Value}
theorem qV.tQ(h:qV K base w W G hs cb s aH bP bS dh bD lE l9 bm m f out mk op ij iX r ds ls X):r6 base W G hs cb s lE aH l9 bm m f:=
 ⟨h.aO.gr.gK.e,h.aO.gr.blk h.qt h.mQ,h.aO.gr.blk h.aO.nV h.aO.jJ,h.aO.gr.blk h.B4 h.B5,h.pI,h.snd⟩
theorem qV.put(h:qV K base w W G hs cb s aH bP bS dh bD lE l9 bm m f out mk op ij iX r ds ls X){lX:Nat}{nK:Int->Option Bool}(b:W.grownBy W' (some bm))(hm:ni 4 uD W' bm lX nK)(hs':∀y,nK y=some true->q4 s.c s.aQ y):qV K base w W' G hs cb s aH bP bS dh bD lE l9 bm lX nK out mk op ij iX r ds ls X:=by
 obtain⟨es,cl,h1⟩:=h.pI.B1;refine⟨h.aO.tR (h.aO.gr.u0 b (λ r e=>by cases e;exact⟨h.B6,_,h1,rfl⟩)),h.qt,h.mQ,h.B4,h.B5,h.uE,hm,hs',h.B6,h.ms.kept b (λ D d e=>?_)⟩;injection e with e
 subst e;rw[(h.ms.kR D d).2] at h1;cases h1
theorem qV.grow(h:qV K base w W G hs cb s aH bP bS dh bD lE l9 bm m f out mk op ij iX r ds ls X)(b:Below W.heap.size W W'):qV K base w W' G hs cb s aH bP bS dh bD lE l9 bm m f out mk op ij iX r ds ls X:=
 ⟨h.aO.grow b,h.qt,h.mQ,h.B4,h.B5,h.uE,h.pI.below b h.pI.lt,h.snd,h.B6,h.ms.below b⟩
theorem qV.kf(h:qV K base w W G hs cb s aH bP bS dh bD lE l9 bm m f out mk op ij iX r ds ls X):(ls 9).n=r.length:=by have:=h.aO.gr.rows.len 9;rw[h.uE] at this;simpa[jj] using this.symm
theorem qV.app(h:qV K base w W G hs cb s aH bP bS dh bD lE l9 bm m f out mk op ij iX r ds ls X){x:Int}{v':Value}(d:mY W w.heap.size 3 (ls 9).v ((ls 9).n+1) ((r++[x]).map (Value.int .i64)) v' rQ):
  ∃A' c' b i,v'=.slice A' ((ls 9).n+1) c'/\b 9=⟨A',(ls 9).n+1,c'⟩/\b 5=ls 5/\qV K base w rQ G hs cb s aH bP bS dh bD lE l9 bm m f out mk op ij iX (r++[x]) ds b i:=by
 obtain⟨⟨A',j,c'⟩,rfl,c,p,k,l⟩:=h.aO.gr.app (r:=9) rfl d;have c:j=(ls 9).n+1:=c;subst c;obtain⟨es,cl,h1⟩:=h.pI.B1;have o:=d.2.1;refine⟨A',c',_,_,rfl,jT _ _ _,bq _ _ (by omega),⟨⟨k,?_,?_,?_,?_,?_,?_,?_,?_,?_,?_,?_,?_,?_,?_⟩,?_,?_,?_,?_,jT _ _ _,h.pI.kept o (λ e=>?_),h.snd,h.B6,h.ms.others l⟩⟩
 all_goals first|(rw[bq _ _ (by omega)];first|exact h.aO.nV|exact h.aO.jJ|exact h.aO.ja|exact h.aO.l8|exact h.aO.kB|exact h.aO.lG|exact h.aO.nF|exact h.aO.lD|exact h.aO.pW|exact h.aO.mP|exact h.aO.td|exact h.aO.u9|exact h.qt|exact h.mQ|exact h.B4|exact h.B5)|skip
 ·rw[bq _ _ (by omega),bq _ _ (by omega)];exact h.aO.kC
 ·rw[bq _ _ (by omega),bq _ _ (by omega)];exact h.aO.k4
 ·obtain⟨cs,g⟩:=vz (h.aO.gr.rows.row 9) e.symm;rw[h1] at g;cases g
end
theorem LM{f:Int->Option Bool}{u:Int}{go qw co:Nat}{pe th:Option Addr}{kL aY LN:Nat}
  (C:vB F Fd aI n h kV) (H:qV K base w W G hs cb s aH bP bS dh bD lE l9 bm 0 f (u::aN) mk op ij iX [u] ds ls X) (t:ls 5=⟨some ⟨go,0,none⟩,qw+1,co⟩) (v:ls 9=⟨pe,kL,aY⟩) (Y:aN.length=qw) (a8:qw<=20) (Z:s.c=aI.c) (aa:s.aQ=aQ) (ab:aQ.length=n+1) (ad:∀x∈aN,-x∈aI.c.ax) (B:0<qw->th=some ⟨go,1,none⟩)
  (ae:∀(m:Nat)(f:Int->Option Bool)(r:List Int)(d:Option Addr)(kf i:Nat)(ls:Nat->ay)(X:Nat->List Value)(fK bk lK gY gJ gu aE aF u16 gv gw gx gI gy gz gA gB gC gD gE gF fS fT fU u32 fV fW fZ ga gb gd gh gi gj gl gm gG gH iz iq ir bT bU bV bW bX bY bZ b5 b6 b7 b8 b9 cc cg ck u64 cm cn cp cr ct cu cv cw cz cA cB cC cD cE cF cG cH cI cK cL cM di dm dn dr dw dx dy dz cN cO cQ cR cS cT cU cV cW cZ c4 c5 c6 c7 c8 c9 dc dA dB dD dF dG dH dI dJ dK dL dM dN dO dP dQ dR dS dU dV dW dX dY dZ ec ee ef ei ej ek en aG aJ aK eo ep er eu ew ey ez eA eB eC eD eE fO fP fQ eF eG eH eL eM eN eO eP eR eS eT eU eV eW eX eY eZ e3 e4 e5 e6 e7 e8 e9 fc fe ff fh fk fm fo fq fu fA fB fC gn gp fD fE fF fG fH fI fJ:Value)(W':World),qV K base w W' G hs cb s aH bP bS dh bD lE l9 bm m f (u::aN) mk op ij iX (u::r) ds ls X->ls 9=⟨d,kf,i⟩->r.Sublist aN->(∀x∈aN,x∈r\/q4 aI.c aQ x)->Q (.exit 6) {tmps:= #[.pointer (some ⟨G,0,none⟩),fK,.pointer (some ⟨aH,0,none⟩),bk,.pointer (some ⟨bP,0,none⟩),.int .i64 0,.pointer (some ⟨bS,0,none⟩),.pointer (some ⟨bD,0,none⟩),.pointer (some ⟨dh,0,none⟩),lK,gY,gJ,gu,aE,aF,.slice d kf i,u16,gv,gw,gx,gI,gy,gz,gA,gB,gC,gD,gE,gF,fS,fT,fU,u32,fV,fW,fZ,ga,gb,gd,gh,gi,gj,gl,gm,gG,gH,iz,iq,ir,bT,bU,bV,bW,bX,bY,bZ,b5,b6,b7,b8,b9,cc,cg,ck,u64,cm,cn,cp,cr,ct,cu,cv,cw,cz,cA,cB,cC,cD,cE,cF,cG,cH,cI,cK,cL,cM,di,dm,dn,dr,dw,dx,dy,dz,cN,cO,cQ,cR,cS,cT,cU,cV,cW,cZ,c4,c5,c6,c7,c8,c9,dc,dA,dB,dD,dF,dG,dH,dI,dJ,dK,dL,dM,dN,dO,dP,dQ,dR,dS,dU,dV,dW,dX,dY,dZ,ec,ee,ef,ei,ej,ek,en,aG,aJ,aK,eo,ep,er,eu,ew,ey,ez,eA,eB,eC,eD,eE,fO,fP,fQ,eF,eG,eH,eL,eM,eN,eO,eP,eR,eS,eT,eU,eV,eW,eX,eY,eZ,e3,e4,e5,e6,e7,e8,e9,fc,fe,ff,fh,fk,fm,fo,fq,fu,fA,fB,fC,gn,gp,fD,fE,fF,fG,fH,fI,fJ],defers:=ds.map oL} W'):
  Code.wp y_ LL Q {tmps:= #[.pointer (some ⟨G,0,none⟩),fK,.pointer (some ⟨aH,0,none⟩),bk,.pointer (some ⟨bP,0,none⟩),.int .i64 0,.pointer (some ⟨bS,0,none⟩),.pointer (some ⟨bD,0,none⟩),.pointer (some ⟨dh,0,none⟩),lK,gY,gJ,gu,.pointer (some ⟨lE,0,none⟩),.pointer (some ⟨l9,0,none⟩),.slice pe kL aY,u16,gv,gw,gx,gI,gy,gz,gA,gB,gC,gD,gE,gF,fS,fT,fU,u32,fV,fW,fZ,ga,gb,gd,gh,gi,gj,gl,gm,gG,gH,iz,iq,ir,bT,bU,bV,bW,bX,bY,bZ,b5,b6,b7,b8,b9,cc,cg,ck,u64,cm,cn,cp,cr,ct,cu,cv,cw,cz,cA,cB,cC,cD,cE,cF,cG,cH,cI,cK,cL,cM,di,dm,dn,dr,dw,dx,dy,dz,cN,cO,cQ,cR,cS,cT,cU,cV,cW,cZ,c4,c5,c6,c7,c8,c9,dc,dA,dB,dD,dF,dG,dH,dI,dJ,dK,dL,dM,dN,dO,dP,dQ,dR,dS,dU,dV,dW,dX,dY,dZ,ec,ee,ef,ei,ej,ek,en,.slice th qw LN,.int .i64 (qw:Int),.int .i64 0,eo,ep,er,eu,ew,ey,ez,eA,eB,eC,eD,eE,fO,fP,fQ,eF,eG,eH,eL,eM,eN,eO,eP,eR,eS,eT,eU,eV,eW,eX,eY,eZ,e3,e4,e5,e6,e7,e8,e9,fc,fe,ff,fh,fk,fm,fo,fq,fu,fA,fB,fC,gn,gp,fD,fE,fF,fG,fH,fI,fJ],defers:=ds.map oL} W:=by
 have aL:=U ae;have j:=U C;have aM:=U H;have V:=U (z_ t (z_ v (z_ Y (z_ Z (z_ aa (z_ ab ad))))));have aR:=U B;clear C H ae t v Y Z aa ab ad B
 conv=>arg 2;whnf
 dsimp only
 go_loopw [15,143] (λ aS O W'=>∃(k m:Nat)(f:Int->Option Bool)(r:List Int)(d:Option Addr)(kf i:Nat)(ls:Nat->ay)(X:Nat->List Value),aS=.slice d kf i/\O=.int .i64 (k:Int)/\k<=qw/\qV K base w W' G hs cb s aH bP bS dh bD lE l9 bm m f (u::aN) mk op ij iX (u::r) ds ls X/\ls 9=⟨d,kf,i⟩/\ls 5=⟨some ⟨go,0,none⟩,qw+1,co⟩/\r.Sublist (aN.take k)/\(∀x∈aN.take k,x∈r\/q4 aI.c aQ x)/\m<=k*63403380965376) (λ _ O _=>qw-(intOf O).toNat)
 case atStart=>exact⟨0,0,f,[],pe,kL,aY,ls,X,rfl,rfl,Nat.zero_le _,aM.o,V.o.2.1,V.o.1,by simp,λ x E=>by simp at E,w_ _⟩
 case round=>
  obtain⟨k,m,f,r,d,kf,i,ls,X,rfl,rfl,hk,af,v,t,ag,E,hm⟩:=hrel;have L:=U af;have D:=U (z_ hk (z_ v (z_ t (z_ ag (z_ E hm)))));clear hk v t ag E hm af
  by_cases I:k<qw
  ·have aT:(k:Int)<(qw:Int):=by omega
   have B:=aR.o (by omega);subst B;obtain⟨x,J⟩:∃x,ak aN k=x:=⟨_,rfl⟩
   have z:k<aN.length:=by rw[V.o.2.2.1];exact I
   have ah:x∈aN:=by rw[<-J];exact mc z
   have aU:wr.cell? ⟨go,1+k,none⟩=some (.int .i64 x):=by
    refine(L.o.aO.gr.kR (r:=5) (g:=go) (by rw[D.o.2.2.1];rfl) (k:=1+k) ?_).1;rw[L.o.aO.l8];unfold jj;rw[List.map_cons,Nat.add_comm,List.getElem?_cons_succ,g_,p_ z,<-J,nu z];rfl
   have aV:wr.cell? ⟨l9,0,none⟩=some (.func (.func 185) #[] #[.pointer (some ⟨lE,0,none⟩),.pointer (some ⟨aH,0,none⟩),.pointer (some ⟨l9,0,none⟩)]):=L.o.tQ.tQ.cell 0;obtain⟨p,hp,ai⟩:=qn.1 (V.o.2.2.2.2.2.2 x ah);have aj:=j.o.gV.aN.len;rw[j.o.jH] at aj;have al:24^(p+1)<=63403380965376:=Nat.le_trans (Nat.pow_le_pow_right (by omega) (show p+1<=10 by have:=j.o.n10;omega)) (by decide);have an:=LK (base:=base) (G:=G) (hs:=hs) (cb:=cb) (s:=s) (lE:=lE) (aH:=aH) (l9:=l9) (bm:=bm) (F:=F) (Fd:=Fd) (by rw[V.o.2.2.2.1];exact j.o.gV.aN) (by rw[V.o.2.2.2.1];exact j.o.gV.jS) (by rw[V.o.2.2.2.1,j.o.jH];exact j.o.n10) (by rw[V.o.2.2.2.2.1,V.o.2.2.2.2.2.1,V.o.2.2.2.1,j.o.jH]) p x 0 wr m f (by rw[V.o.2.2.2.1];exact hp) (by rw[V.o.2.2.2.1];exact ai) (Int.le_refl _) (by omega) L.o.tQ (by have:=D.o.2.2.2.2.2;omega);have l:=U (z_ J (z_ z (z_ al I)));have a':n_.wrap ((k:Int)+1)=(k:Int)+1:=by rw[u_];omega
   clear J z ah hp ai al I aj
   go_wp2_with fail
   refine an.mono ?_;clear an;rintro e w1 ⟨b,m2,f2,rfl,ao,P,aq,ar⟩;dsimp only;have R:=U (L.o.put aq P.pI P.snd);have S:=U (z_ ao ar);clear ao P aq ar aU aV;have M:bF (aN.take (k+1)=aN.take k++[x]):=U (by rw[y5 l.o.2.1,l.o.1])
   cases b with
   |true=>
    go_wp2_with fail
    go_roundw
    case rel=>
     refine⟨k+1,m2,f2,r,d,kf,i,ls,X,rfl,by go_num,by have:=l.o;omega,R.o,D.o.2.1,D.o.2.2.1,?_,?_,by have:=S.o.2;have:=l.o.2.2.1;have:=D.o.2.2.2.2.2;omega⟩
     ·rw[M.o];exact D.o.2.2.2.1.trans (List.sublist_append_left _ _)
     ·rw[M.o];intro y T;rcases t_.1 T with h|h
      ·exact D.o.2.2.2.2.1 y h
      ·rw[s_] at h;subst h;have q:=S.o.1 rfl;rw[V.o.2.2.2.1,V.o.2.2.2.2.1] at q;exact .inr q
    case measure=>have:=l.o;simp[intOf];omega
   |false=>
    have N:=U (R.o.grow (bC w1 (lH [x])));have av:kf=(u::r).length:=by have:=R.o.kf;rw[D.o.2.1] at this;exact this
    have aw:r.length<=20:=by have h1:=D.o.2.2.2.1.length_le;rw[List.length_take] at h1;omega
    have aW:bF ((w1.alloc (lH [x])).ownsRow w.heap.size 3 1 (.slice d kf i) kf ((u::r).map (Value.int .i64))):=U (by have:=N.o.aO.gr.rows.row 9;rw[D.o.2.1,N.o.uE] at this;exact this);have aX:=U (aP.lit w1 [x] 1 w1.heap.size rfl rfl (by omega));have aZ:=U (z_ av aw);clear av aw
    go_wp2_with (at_builtin;refine rB rfl (.tmp 151) (.tmp 153) rfl w.heap.size (.slice d kf i) kf (u::r) rfl aW.o (some ⟨w1.heap.size,0,none⟩) 1 1 [x] rfl aX.o (by have:=aZ.o;simp at this;omega) N.o.aO.gr.jB.size ?_;intro v9 bE az;obtain⟨A',c',a6,a7,rfl,aA,aB,A⟩:=N.o.app (x:=x) (v':=v9) (by rw[D.o.2.1];exact az);have A:=U (z_ A (z_ aA aB));clear az aA aB)
    go_roundw
    case rel=>
     refine⟨k+1,m2,f2,r++[x],A',_,c',a6,a7,rfl,by go_num,by have:=l.o;omega,A.o.1,A.o.2.1,by rw[A.o.2.2];exact D.o.2.2.1,?_,?_,by have:=S.o.2;have:=l.o.2.2.1;have:=D.o.2.2.2.2.2;omega⟩
     ·rw[M.o];exact D.o.2.2.2.1.append (List.Sublist.refl _)
     ·rw[M.o];intro y T;rcases t_.1 T with h|h
      ·rcases D.o.2.2.2.2.1 y h with q|q
       ·exact .inl (t_.2 (.inl q))
       ·exact .inr q
      ·exact .inl (t_.2 (.inr h))
    case measure=>have:=l.o;simp[intOf];omega
  ·have aT:¬(k:Int)<(qw:Int):=by omega
   have aC:k=qw:=by have:=D.o.1;omega
   have aD:=U aC;clear I aC
   go_wp2_with fail
   apply aL.o
   ·exact L.o
   ·exact D.o.2.1
   ·have:=D.o.2.2.2.1;rwa[aD.o,r_ (by rw[V.o.2.2.1];exact w_ _)] at this
   ·have:=D.o.2.2.2.2.1;rwa[aD.o,r_ (by rw[V.o.2.2.1];exact w_ _)] at this
end
section
open Go.RowKit Go.Shelf
noncomputable def LO:Code:=(Tryz.f146.body.bind λ c=>qv c 8).getD .skip
structure r7(K:Nat->Prop)(base:Nat)(w W:World)(G:Nat)(hs:Nat->ay)(cb:Nat->Nat)(s:au)(aH bP bS dh bD:Nat)(out mk:List Int)(op:Int)(ij:ay)(iX:List Value)(r:List Int)(ds:List Nat)(ls:Nat->ay)(X:Nat->List Value):Prop where
 aO:kY K base w W G hs cb s aH bP bS dh bD out mk op ij iX ls X
 uE:X 9=jj r
 ms:o9 w.heap.size W ds
theorem r7.grow{K:Nat->Prop}{base:Nat}{w W W':World}{G:Nat}{hs:Nat->ay}{cb:Nat->Nat}{s:au}{aH bP bS dh bD:Nat}{out mk:List Int}{op:Int}{ij:ay}{iX:List Value}{r:List Int}{ds:List Nat}{ls:Nat->ay}{X:Nat->List Value}(h:r7 K base w W G hs cb s aH bP bS dh bD out mk op ij iX r ds ls X)(b:Below W.heap.size W W'):r7 K base w W' G hs cb s aH bP bS dh bD out mk op ij iX r ds ls X:=
 ⟨h.aO.grow b,h.uE,h.ms.below b⟩
theorem r7.xd{K:Nat->Prop}{base:Nat}{w W:World}{G:Nat}{hs:Nat->ay}{cb:Nat->Nat}{s:au}{aH bP bS dh bD:Nat}{out mk:List Int}{op:Int}{ij:ay}{iX:List Value}{r:List Int}{ds:List Nat}{ls:Nat->ay}{X:Nat->List Value}(h:r7 K base w W G hs cb s aH bP bS dh bD out mk op ij iX r ds ls X){g:Nat}(c:(hs 12).b=some g)(v:Nat)(b:Bool):r7 K base w (W.setCell ⟨g,v,none⟩ (.bool b)) G hs cb (s.s6 v b) aH bP bS dh bD out mk op ij iX r ds ls X:=by
 have e:=h.aO.gr.back (h.aO.gr.call.xd c v b).1 (h.aO.gr.call.xd c v b).2;exact⟨h.aO.tR e.1,h.uE,h.ms.others e.2⟩
theorem LP{l:List Bool}(hl:l.length=n)(h:∀v,iY l v=false):l=x_ n false:=by
 refine List.ext_getElem (by simp[hl]) (λ k h1 b=>?_);rw[<-Bp h1,h k,List.getElem_replicate]
theorem LQ{aK:Option Addr}{aU aJ:Nat}{jg:Option Addr}{kf iy:Nat}
  (H:r7 K base w W G hs cb s aH bP bS dh bD out mk op ij iX r ds ls X) (i:ls 6=⟨aK,aU,aJ⟩) (ad:aU<=1000) (t:s.aQ=aQ) (y:∀z:Int,z∈mk↔∃v:Nat,z=v/\iY aQ v=true)
  (A:∀(fK bk lK gY gJ gu iF gL u16 gv gw gx gI gy gz gA gB gC gD gE gF fS fT fU u32 fV fW fZ ga gb gd gh gi gj gl gm gG gH iz iq ir bT bU bV bW bX bY bZ b5 b6 b7 b8 b9 cc cg ck u64 cm cn cp cr ct cu cv cw cz cA cB cC cD cE cF cG cH cI cK cL cM di dm dn dr dw dx dy dz cN cO cQ cR cS cT cU cV cW cZ c4 c5 c6 c7 c8 c9 dc dA dB dD dF dG dH dI dJ dK dL dM dN dO dP dQ dR dS dU dV dW dX dY dZ ec ee ef ei ej ek en fL fM fN eo ep er eu ew ey ez eA eB eC eD eE O P R eF eG eH eL eM eN eO eP eR eS eT eU eV eW eX eY eZ e3 e4 e5 e6 e7 e8 e9 fc fe ff fh fk fm fo fq fu fA fB fC gn gp fD fE fF fG fH fI fJ:Value)(W':World),r7 K base w W' G hs cb {s with aQ:=x_ aQ.length false} aH bP bS dh bD out mk op ij iX r ds ls X->Q (.exit 8) {tmps:= #[.pointer (some ⟨G,0,none⟩),fK,.pointer (some ⟨aH,0,none⟩),bk,.pointer (some ⟨bP,0,none⟩),.int .i64 0,.pointer (some ⟨bS,0,none⟩),.pointer (some ⟨bD,0,none⟩),.pointer (some ⟨dh,0,none⟩),lK,gY,gJ,gu,iF,gL,.slice jg kf iy,u16,gv,gw,gx,gI,gy,gz,gA,gB,gC,gD,gE,gF,fS,fT,fU,u32,fV,fW,fZ,ga,gb,gd,gh,gi,gj,gl,gm,gG,gH,iz,iq,ir,bT,bU,bV,bW,bX,bY,bZ,b5,b6,b7,b8,b9,cc,cg,ck,u64,cm,cn,cp,cr,ct,cu,cv,cw,cz,cA,cB,cC,cD,cE,cF,cG,cH,cI,cK,cL,cM,di,dm,dn,dr,dw,dx,dy,dz,cN,cO,cQ,cR,cS,cT,cU,cV,cW,cZ,c4,c5,c6,c7,c8,c9,dc,dA,dB,dD,dF,dG,dH,dI,dJ,dK,dL,dM,dN,dO,dP,dQ,dR,dS,dU,dV,dW,dX,dY,dZ,ec,ee,ef,ei,ej,ek,en,fL,fM,fN,eo,ep,er,eu,ew,ey,ez,eA,eB,eC,eD,eE,O,P,R,eF,eG,eH,eL,eM,eN,eO,eP,eR,eS,eT,eU,eV,eW,eX,eY,eZ,e3,e4,e5,e6,e7,e8,e9,fc,fe,ff,fh,fk,fm,fo,fq,fu,fA,fB,fC,gn,gp,fD,fE,fF,fG,fH,fI,fJ],defers:=ds.map oL} W'):
  Code.wp y_ LO Q {tmps:= #[.pointer (some ⟨G,0,none⟩),fK,.pointer (some ⟨aH,0,none⟩),bk,.pointer (some ⟨bP,0,none⟩),.int .i64 0,.pointer (some ⟨bS,0,none⟩),.pointer (some ⟨bD,0,none⟩),.pointer (some ⟨dh,0,none⟩),lK,gY,gJ,gu,iF,gL,.slice jg kf iy,u16,gv,gw,gx,gI,gy,gz,gA,gB,gC,gD,gE,gF,fS,fT,fU,u32,fV,fW,fZ,ga,gb,gd,gh,gi,gj,gl,gm,gG,gH,iz,iq,ir,bT,bU,bV,bW,bX,bY,bZ,b5,b6,b7,b8,b9,cc,cg,ck,u64,cm,cn,cp,cr,ct,cu,cv,cw,cz,cA,cB,cC,cD,cE,cF,cG,cH,cI,cK,cL,cM,di,dm,dn,dr,dw,dx,dy,dz,cN,cO,cQ,cR,cS,cT,cU,cV,cW,cZ,c4,c5,c6,c7,c8,c9,dc,dA,dB,dD,dF,dG,dH,dI,dJ,dK,dL,dM,dN,dO,dP,dQ,dR,dS,dU,dV,dW,dX,dY,dZ,ec,ee,ef,ei,ej,ek,en,fL,fM,fN,eo,ep,er,eu,ew,ey,ez,eA,eB,eC,eD,eE,.slice aK aU aJ,.int .i64 (aU:Int),.int .i64 0,eF,eG,eH,eL,eM,eN,eO,eP,eR,eS,eT,eU,eV,eW,eX,eY,eZ,e3,e4,e5,e6,e7,e8,e9,fc,fe,ff,fh,fk,fm,fo,fq,fu,fA,fB,fC,gn,gp,fD,fE,fF,fG,fH,fI,fJ],defers:=ds.map oL} W:=by
 have S:=U A;have T:=U H;have B:mk.length=aU:=by have:=H.aO.n6;rw[i] at this;exact this.symm
 have V:=U (z_ i (z_ t (z_ y B)));clear H A t y B
 conv=>arg 2;whnf
 dsimp only
 go_loopw [158] (λ x W'=>∃(k:Nat)(b:List Bool),x=.int .i64 (k:Int)/\k<=aU/\b.length=aQ.length/\(∀v:Nat,iY b v=true->iY aQ v=true/\¬(v:Int)∈mk.take k)/\r7 K base w W' G hs cb {s with aQ:=b} aH bP bS dh bD out mk op ij iX r ds ls X) (λ x _=>aU-(intOf x).toNat)
 case atStart=>exact⟨0,aQ,rfl,Nat.zero_le _,rfl,λ v h=>⟨h,by simp⟩,by rw[<-V.o.2.1];exact T.o⟩
 case round=>
  obtain⟨k,b,rfl,hk,C,E,F⟩:=hrel;have L:=U F;have D:=U (z_ hk (z_ C E));clear F hk C E
  by_cases j:k<aU
  ·have Y:(k:Int)<(aU:Int):=by omega
   obtain⟨I,l,J⟩:=L.o.aO.gr.rows.addr (r:=6) (by rw[i];show aU≠0;omega);rw[i] at l;have l:aK=some ⟨I,0,none⟩:=l;subst l;have f:k<mk.length:=by rw[V.o.2.2.2];exact j
   obtain⟨v,g,m⟩:=(V.o.2.2.1 (ak mk k)).1 (mc f);have ae:wr.cell? ⟨I,k,none⟩=some (.int .i64 (v:Int)):=by
    refine(L.o.aO.gr.kR J (k:=k) ?_).1;rw[L.o.aO.lG];unfold jj;rw[g_,p_ f,<-g,nu f];rfl
   have n:v<b.length:=by rw[D.o.2.1];exact GN m
   have aS:=L.o.aO.aS;obtain⟨g12,p,M,f12⟩:=L.o.aO.gr.gK.e.l7 16 12 rfl L.o.aO.gr.gK.e.n12 (by show b.length≠0;omega);have af:=f12 v;have ag:=L.o.aO.gr.gK.e.Ad p (k:=v) n;have ah:(v:Int)<(b.length:Int):=by omega
   have M:wr.cell? ⟨G,16,none⟩=some (.slice (some ⟨g12,0,none⟩) b.length (hs 12).c):=M;have ai:n_.wrap ((k:Int)+1)=(k:Int)+1:=by rw[u_];omega
   have d:=U (z_ j (z_ f (z_ g (z_ m (z_ n p)))));clear j f g m n p f12 J
   go_wp2_with fail
   have Z:=L.o.xd d.o.2.2.2.2.2 v false;go_roundw
   case rel=>
    refine⟨k+1,b.set v false,by go_num,by have:=d.o.1;omega,by rw[List.length_set];exact D.o.2.1,λ u hu=>?_,Z⟩;rw[zS] at hu;split at hu
    ·cases hu
    ·rename_i aa;obtain⟨h1,q⟩:=D.o.2.2 u hu;refine⟨h1,λ hm=>?_⟩;rw[y5 d.o.2.1,t_,s_,d.o.2.2.1] at hm;rcases hm with hm|hm
     ·exact q hm
     ·exact aa ⟨by omega,d.o.2.2.2.2.1⟩
   case measure=>have:=d.o;simp[intOf];omega
  ·have Y:¬(k:Int)<(aU:Int):=by omega
   have N:k=aU:=by have:=D.o.1;omega
   have ab:=U N;clear j N
   go_wp2_with fail
   apply S.o;have e:b=x_ aQ.length false:=LP D.o.2.1 (λ v=>by
    cases g:iY b v with
    |false=>rfl
    |true=>
     obtain⟨h1,q⟩:=D.o.2.2 v g;refine absurd ?_ q;rw[ab.o,r_ (by rw[V.o.2.2.2];exact w_ _)];exact(V.o.2.2.1 _).2 ⟨v,rfl,h1⟩)
   rw[<-e];exact L.o
noncomputable def LR:Code:=(Tryz.f146.body.bind λ c=>qv c 10).getD .skip
theorem r7.swap(h:r7 K base w W G hs cb s aH bP bS dh bD out mk op ij iX r ds ls X){g:Nat}(c:(ls 9).b=some g)(i:Nat):
  ∃d,r7 K base w ((W.setCell ⟨g,1,none⟩ (.int .i64 (ak r i))).setCell ⟨g,i,none⟩ (.int .i64 (ak r 1))) G hs cb s aH bP bS dh bD out mk op ij iX (kX r 1 i) ds ls d:=by
 obtain⟨e,f⟩:=h.aO.gr.set c 1 (.int .i64 (ak r i));obtain⟨j,k⟩:=e.set c i (.int .i64 (ak r 1));refine⟨_,⟨j,h.aO.nV,?_,h.aO.ja,?_,?_,h.aO.kB,?_,?_,h.aO.nF,?_,h.aO.pW,?_,h.aO.td,?_⟩,?_,(h.ms.others f).others k⟩
 all_goals first|(rw[bq _ _ (by omega),bq _ _ (by omega)];first|exact h.aO.jJ|exact h.aO.kC|exact h.aO.l8|exact h.aO.k4|exact h.aO.lG|exact h.aO.lD|exact h.aO.mP|exact h.aO.u9)|skip
 rw[jT,jT,h.uE];unfold kX jj;rw[List.map_set,List.map_set]
theorem LS{me:List Int}{nj kT lY:Nat}
  (H:r7 K base w W G hs cb s aH bP bS dh bD out mk op ij iX me ds ls X) (E:ls 9=⟨some ⟨nj,0,none⟩,kT,lY⟩) (aa:1<=kT) (aX:kT<=1000) (aY:n<=60000) (ab:me.Nodup) (ad:0<s.c.st.length) (ae:s.c.st.length<=1000000) (i:∀x∈me,gP n x) (af:s.c.lvl.length=n+1) (ah:∀x∈me,x≠ak me 0->1<=bp s.c x/\bp s.c x<s.c.st.length)
  (ai:∀(level:Nat)(r:List Int)(X:Nat->List Value)(fK bk lK gY gJ gu iF gL u16 gv gw gx aF gy gz gA gB gC gD gE gF fS fT fU u32 fV fW fZ ga gb gd gh gi gj gl gm gG gH iz iq ir bT bU bV bW bX bY bZ b5 b6 b7 b8 b9 cc cg ck u64 cm cn cp cr ct cu cv cw cz cA cB cC cD cE cF cG cH cI cK cL cM di dm dn dr dw dx dy dz cN cO cQ cR cS cT cU cV cW cZ c4 c5 c6 c7 c8 c9 dc dA dB dD dF dG dH dI dJ dK dL dM dN dO dP dQ dR dS dU dV dW dX dY dZ ec ee ef ei ej ek en fL fM fN eo ep er eu ew ey ez eA eB eC eD eE fO fP fQ eF eG eH eL eM eN eO eP eR eS eT eU eV eW eX eY eZ e3 e4 e5 e6 e7 e8 e9 fc fe ff fh fk fm fo fq fu fA fB fC gn gp fD fE fF fG fH fI fJ:Value)(W':World),r7 K base w W' G hs cb s aH bP bS dh bD out mk op ij iX r ds ls X->mO s.c me kT level r->Q (.exit 10) {tmps:= #[.pointer (some ⟨G,0,none⟩),fK,.pointer (some ⟨aH,0,none⟩),bk,.pointer (some ⟨bP,0,none⟩),.int .i64 (level:Int),.pointer (some ⟨bS,0,none⟩),.pointer (some ⟨bD,0,none⟩),.pointer (some ⟨dh,0,none⟩),lK,gY,gJ,gu,iF,gL,.slice (some ⟨nj,0,none⟩) kT lY,u16,gv,gw,gx,aF,gy,gz,gA,gB,gC,gD,gE,gF,fS,fT,fU,u32,fV,fW,fZ,ga,gb,gd,gh,gi,gj,gl,gm,gG,gH,iz,iq,ir,bT,bU,bV,bW,bX,bY,bZ,b5,b6,b7,b8,b9,cc,cg,ck,u64,cm,cn,cp,cr,ct,cu,cv,cw,cz,cA,cB,cC,cD,cE,cF,cG,cH,cI,cK,cL,cM,di,dm,dn,dr,dw,dx,dy,dz,cN,cO,cQ,cR,cS,cT,cU,cV,cW,cZ,c4,c5,c6,c7,c8,c9,dc,dA,dB,dD,dF,dG,dH,dI,dJ,dK,dL,dM,dN,dO,dP,dQ,dR,dS,dU,dV,dW,dX,dY,dZ,ec,ee,ef,ei,ej,ek,en,fL,fM,fN,eo,ep,er,eu,ew,ey,ez,eA,eB,eC,eD,eE,fO,fP,fQ,eF,eG,eH,eL,eM,eN,eO,eP,eR,eS,eT,eU,eV,eW,eX,eY,eZ,e3,e4,e5,e6,e7,e8,e9,fc,fe,ff,fh,fk,fm,fo,fq,fu,fA,fB,fC,gn,gp,fD,fE,fF,fG,fH,fI,fJ],defers:=ds.map oL} W'):
  Code.wp y_ LR Q {tmps:= #[.pointer (some ⟨G,0,none⟩),fK,.pointer (some ⟨aH,0,none⟩),bk,.pointer (some ⟨bP,0,none⟩),.int .i64 0,.pointer (some ⟨bS,0,none⟩),.pointer (some ⟨bD,0,none⟩),.pointer (some ⟨dh,0,none⟩),lK,gY,gJ,gu,iF,gL,.slice (some ⟨nj,0,none⟩) kT lY,u16,gv,gw,gx,.int .i64 1,gy,gz,gA,gB,gC,gD,gE,gF,fS,fT,fU,u32,fV,fW,fZ,ga,gb,gd,gh,gi,gj,gl,gm,gG,gH,iz,iq,ir,bT,bU,bV,bW,bX,bY,bZ,b5,b6,b7,b8,b9,cc,cg,ck,u64,cm,cn,cp,cr,ct,cu,cv,cw,cz,cA,cB,cC,cD,cE,cF,cG,cH,cI,cK,cL,cM,di,dm,dn,dr,dw,dx,dy,dz,cN,cO,cQ,cR,cS,cT,cU,cV,cW,cZ,c4,c5,c6,c7,c8,c9,dc,dA,dB,dD,dF,dG,dH,dI,dJ,dK,dL,dM,dN,dO,dP,dQ,dR,dS,dU,dV,dW,dX,dY,dZ,ec,ee,ef,ei,ej,ek,en,fL,fM,fN,eo,ep,er,eu,ew,ey,ez,eA,eB,eC,eD,eE,fO,fP,fQ,eF,eG,eH,eL,eM,eN,eO,eP,eR,eS,eT,eU,eV,eW,eX,eY,eZ,e3,e4,e5,e6,e7,e8,e9,fc,fe,ff,fh,fk,fm,fo,fq,fu,fA,fB,fC,gn,gp,fD,fE,fF,fG,fH,fI,fJ],defers:=ds.map oL} W:=by
 have aG:=U ai;have aI:=U H;have F:me.length=kT:=by have:=H.aO.gr.rows.len 9;rw[H.uE,E] at this;simpa[jj] using this
 have V:=U (z_ E (z_ aa (z_ ab (z_ ad (z_ ae (z_ i (z_ af (z_ ah F))))))));clear H ai E ab ad ae i af ah F
 conv=>arg 2;whnf
 dsimp only
 go_loopw [5,20] (λ aJ I W'=>∃(k level:Nat)(r:List Int)(X:Nat->List Value),aJ=.int .i64 (level:Int)/\I=.int .i64 (k:Int)/\1<=k/\k<=kT/\mO s.c me k level r/\r7 K base w W' G hs cb s aH bP bS dh bD out mk op ij iX r ds ls X) (λ _ I _=>kT-(intOf I).toNat)
 case atStart=>exact⟨1,0,me,X,rfl,rfl,w_ _,aa,mO.start V.o.2.2.1 V.o.2.2.2.1,aI.o⟩
 case round=>
  obtain⟨k,level,r,X,rfl,rfl,aj,hk,J,al⟩:=hrel;have L:=U al;have D:=U (z_ aj (z_ hk J));have F:r.length=kT:=J.len.trans V.o.2.2.2.2.2.2.2.2;clear al hk J aj
  by_cases i:k<kT
  ·have aK:(k:Int)<(kT:Int):=by omega
   have A:k<r.length:=by omega
   obtain⟨x,f⟩:∃x,ak r k=x:=⟨_,rfl⟩
   have M:x∈me:=(D.o.2.2.mem x).1 (by rw[<-f];exact mc A);have an:=V.o.2.2.2.2.2.1 x M;have ao:(ls 9).b=some nj:=by rw[V.o.1];rfl
   have N:∀j,j<kT->wr.cell? ⟨nj,j,none⟩=some (.int .i64 (ak r j))/\wr.frozen? ⟨nj,j,none⟩=false:=λ j aZ=>L.o.aO.gr.kR ao (k:=j) (by
    rw[L.o.uE];unfold jj;rw[g_,p_ (by omega),nu (by omega)];rfl)
   have l:=(N k i).1;rw[f] at l;have aS:=L.o.aO.aS;obtain⟨v,p⟩:∃v,aD x=v:=⟨_,rfl⟩
   have aL:v<=n:=by have:=an.2;omega
   have aM:bF (∀w:World,Calls y_ 97 #[.int .i64 x] w λ e w'=>e=.returned (.int .i64 (v:Int))/\w=w'):=U (λ w=>by have:=s7 x w (by unfold aD at p;omega) (by unfold aD at p;omega);rw[p] at this;exact this);obtain⟨g2,aq,aN,f2⟩:=L.o.aO.gr.gK.e.l7 3 2 rfl L.o.aO.gr.gK.e.kJ (by have:=V.o;omega);have c2:=L.o.aO.gr.gK.e.vZ aq (k:=v) (by have:=V.o;omega);have a6:(v:Int)<(s.c.lvl.length:Int):=by have:=V.o;omega
   obtain⟨y,O⟩:∃y,hU s.c.lvl v=y:=⟨_,rfl⟩
   rw[O] at c2;have a7:n_.wrap ((k:Int)+1)=(k:Int)+1:=by rw[u_];omega
   have P:bp s.c (ak r k)=y:=by rw[f];show hU s.c.lvl (aD x)=y;rw[p,O]
   have ar:x≠ak me 0:=by
    rw[<-f,<-D.o.2.2.ag];intro e;have:=uX D.o.2.2.nt A (by omega) e;have:=D.o.1;omega
   have R:=V.o.2.2.2.2.2.2.2.1 x M ar;rw[show bp s.c x=y by rw[<-P,f]] at R;have d:=U (z_ f (z_ A (z_ i (z_ P (z_ R N)))));clear f A M an p aL O P ar R aq f2 N ao
   go_wp2_with fail
   refine wp_region_still_tail 11 (by kernel_rfl) (by kernel_rfl) ?_;simp only[List.take_succ_cons,List.take_zero,List.drop_succ_cons,List.drop_zero]
   iterate 8 still_step
   still_call ((aM.o _).mono (λ e w' h=>⟨h.1,h.2.symm⟩))
   iterate 2 still_step
   refine wpStill_nil ?_;change wpList _ _ _ _ _ wr.drew;have S:=U (L.o.grow ((o_ _ wr).drew));have l:wr.drew.cell? ⟨nj,k,none⟩=some (.int .i64 x):=l;have c1:wr.drew.cell? ⟨nj,1,none⟩=some (.int .i64 (ak r 1)):=(d.o.2.2.2.2.2 1 (by have:=D.o;have:=d.o.2.2.1;omega)).1;have f1:wr.drew.frozen? ⟨nj,1,none⟩=false:=(d.o.2.2.2.2.2 1 (by have:=D.o;have:=d.o.2.2.1;omega)).2;have av:wr.drew.frozen? ⟨nj,k,none⟩=false:=(d.o.2.2.2.2.2 k d.o.2.2.1).2;have aP:(1:Int)<(kT:Int):=by have:=D.o;have:=d.o.2.2.1;omega
   clear aS aN c2;generalize wr.drew=aw at*
   by_cases B:level<y
   ·have d1:decide ((level:Int)<(y:Int))=true:=by simp;omega
    have aQ:(level:Int)<(y:Int):=by omega
    have C:=U B;clear B;obtain⟨z,T⟩:∃z,ak r 1=z:=⟨_,rfl⟩
    rw[T] at c1;have ax:=U T;clear T
    by_cases az:k=1
    ·subst az;obtain rfl:z=x:=by rw[<-ax.o,d.o.1]
     go_upto_region 46 with fail
     clear av l
     go_region_held3 (λ w'=>w'.cell? ⟨nj,1,none⟩=some (.int .i64 z)/\w'.frozen? ⟨nj,1,none⟩=false) (first|exact⟨c1,f1⟩|(refine⟨?_,?_⟩<;>go_simp)) (fail)
     all_goals
      go_wp2_with fail
      obtain⟨Y,q⟩:=S.o.swap (g:=nj) (by rw[V.o.1];rfl) 1;rw[d.o.1] at q;go_roundw
      case rel=>
       refine⟨1+1,y,_,Y,rfl,by go_num,by omega,by have:=d.o.2.2.1;omega,?_,q.grow ((o_ _ _).drew)⟩;have:=D.o.2.2.ji D.o.1 d.o.2.1 (by rw[d.o.2.2.2.1];exact C.o) (by rw[d.o.2.2.2.1];exact d.o.2.2.2.2.1.2);rw[d.o.2.2.2.1] at this;exact this
      case measure=>have:=d.o;simp[intOf];omega
    ·have aA:1≠k:=λ e=>az e.symm
     have aR:¬1=k:=aA
     go_upto_region 46 with fail
     have aB:(k:Int)<(kT:Int):=by have:=d.o.2.2.1;omega
     refine Ap (qb Tryz.f146 46) 13 11 12 204 [some 190,some 191,some 192,some 193,some 194,some 195,some 196,some 197,some 198,some 199,some 200,none,some 201,none] _ [(15,.slice (some ⟨nj,0,none⟩) kT lY),(20,.int .i64 (k:Int))] (λ _=>True) [.slice (some ⟨nj,0,none⟩) kT lY,.slice (some ⟨nj,0,none⟩) kT lY,.int .i64 (k:Int),.slice (some ⟨nj,0,none⟩) kT lY,.int .i64 (k:Int),.pointer (some ⟨nj,k,none⟩),.int .i64 x,.slice (some ⟨nj,0,none⟩) kT lY,.pointer (some ⟨nj,1,none⟩),.int .i64 z,.pointer (some ⟨nj,1,none⟩),undef,undef] (aw.drew.setCell ⟨nj,1,none⟩ (.int .i64 x)) (λ v w'=>v=.pointer (some ⟨nj,k,none⟩)/\w'=(aw.drew.setCell ⟨nj,1,none⟩ (.int .i64 x))) (by kernel_rfl) (by kernel_rfl) (by kernel_rfl) rfl (by kernel_rfl) (by kernel_rfl) rfl ⟨rfl,rfl,trivial⟩ trivial trivial (λ _ _ _=>trivial) (λ m ag Z hp=>?_) (λ m ag Z hp=>?_) ?_ ?_
     ·have h1:m (.tmp 200)=.pointer (some ⟨nj,1,none⟩):=ag.1 rfl (by decide) (by decide) _ rfl;have t:m (.tmp 196)=.int .i64 x:=ag.2.1 rfl (by decide) (by decide) _ rfl;show bh _ _ (Oper.mk _ _ _ _ _ _) _ _;simp[bh,execOp,bQ,go_sem,h1,t,c1,f1]
     ·have h1:m (.tmp 191)=.slice (some ⟨nj,0,none⟩) kT lY:=ag.1 rfl (by decide) (by decide) _ rfl;have t:m (.tmp 192)=.int .i64 (k:Int):=ag.2.1 rfl (by decide) (by decide) _ rfl;show bh _ _ (Oper.mk _ _ _ _ _ _) _ _;simp[bh,execOp,bQ,go_sem,h1,t,aB]
     ·refine⟨?_,?_,?_,?_,?_,?_,?_,?_,?_,?_,?_,?_,?_,trivial⟩
      all_goals
       intro h1 t m w _ aT ag Z hp
       first
        |exact absurd rfl h1
        |exact absurd rfl t
        |(obtain⟨aU,aV,-⟩:=Z;(try obtain rfl:=aT rfl);(try simp[mz,p9,Region.binds] at ag);simp[bh,execOp,bQ,go_sem,aU,aV,ag,c1,l,aB,aP,hp.1];done)
     rintro u v w' ⟨rfl,rfl⟩ a8 aC;simp[mJ,Act.put,kH] at aC;subst aC;rw[show((qb Tryz.f146 46).getD 13 default).dst=none from rfl];show bh _ _ (Oper.mk _ _ _ _ _ _) _ _;simp[bh,execOp,bQ,go_sem,Act.eval,Act.put,l,av,aA,aR]
     iterate 1
      go_wp2_with fail
      obtain⟨Y,q⟩:=S.o.swap (g:=nj) (by rw[V.o.1];rfl) k;rw[d.o.1,ax.o] at q;go_roundw
      case rel=>
       refine⟨k+1,y,_,Y,rfl,by go_num,by omega,by have:=d.o.2.2.1;omega,?_,q.grow ((o_ _ _).drew)⟩;have:=D.o.2.2.ji D.o.1 d.o.2.1 (by rw[d.o.2.2.2.1];exact C.o) (by rw[d.o.2.2.2.1];exact d.o.2.2.2.2.1.2);rw[d.o.2.2.2.1] at this;exact this
      case measure=>have:=d.o;simp[intOf];omega
   ·have d1:decide ((level:Int)<(y:Int))=false:=by simp;omega
    have aQ:¬(level:Int)<(y:Int):=by omega
    have C:=U B;clear B
    go_wp2_with fail
    go_roundw
    case rel=>
     exact⟨k+1,level,r,X,rfl,by go_num,by omega,by have:=d.o.2.2.1;omega,D.o.2.2.stay D.o.1 d.o.2.1 (by rw[d.o.2.2.2.1];have:=C.o;omega) (λ e=>by subst e;rw[d.o.2.2.2.1];exact d.o.2.2.2.2.1.1),S.o⟩
    case measure=>have:=d.o;simp[intOf];omega
  ·have aK:¬(k:Int)<(kT:Int):=by omega
   have aE:k=kT:=by have:=D.o;omega
   have aW:=U aE;clear i aE
   go_wp2_with fail
   apply aG.o
   ·exact L.o
   ·rw[<-aW.o];exact D.o.2.2
def GY(K:Nat->Prop)(base:Nat)(w:World)(G:Nat)(hs:Nat->ay)(cb:Nat->Nat)(n:Nat)(f:Int)(F:List (List Int))(aI:au)(e:Ending)(w':World):Prop:=
 ∃(bL c level:Nat)(l:List Int)(s':au),e=.returned (.tuple #[.slice (some ⟨bL,0,none⟩) l.length c,.int .i64 (level:Int)])/\uY F aI.c l level/\bf K base w' G hs cb s'/\aG K w w'/\od aI s'/\mE n jK (f+16*jK) s'/\
  w'.ownsRow base 3 1 (.slice (some ⟨bL,0,none⟩) l.length c) l.length (jj l)/\(bL≠G/\(∀r,(hs r).b≠some bL)/\∀d,d<s'.c.cl.length->cb d≠bL)/\¬K bL
def vC(lE aH l9:Nat):Value:=.func (.func 185) #[] #[.pointer (some ⟨lE,0,none⟩),.pointer (some ⟨aH,0,none⟩),.pointer (some ⟨l9,0,none⟩)]
theorem qV.make{V:World}(L:kY K base w V G hs cb s aH bP bS dh bD out mk op ij iX ls X)(i:o9 w.heap.size V ds)(u:Int):
  ∃b j,b 9=⟨some ⟨V.heap.size+1+1+1,0,none⟩,1,1⟩/\b 5=ls 5/\b 6=ls 6/\qV K base w ((((V.alloc (.map #[] 0)).alloc (.cells #[.map (some V.heap.size)] 114)).alloc (.cells #[vC (V.heap.size+1) aH (V.heap.size+1+1)] 129)).alloc (.cells #[.int .i64 u] 3)) G hs cb s aH bP bS dh bD (V.heap.size+1) (V.heap.size+1+1) V.heap.size 0 DQ out mk op ij iX [u] ds b j:=by
 have k:=L.gr.grow (bC V (.map #[] 0));have s1:(V.alloc (.map #[] 0)).heap.size=V.heap.size+1:=by simp
 have c:=k.box 7 (.map (some V.heap.size));rw[s1] at c;have c:lF K base w ((V.alloc (.map #[] 0)).alloc (.cells #[.map (some V.heap.size)] 114)) G hs cb s _ _:=c;have s2:((V.alloc (.map #[] 0)).alloc (.cells #[.map (some V.heap.size)] 114)).heap.size=V.heap.size+1+1:=by simp
 have d:=c.box 8 (vC (V.heap.size+1) aH (V.heap.size+1+1));rw[s2] at d;have d:lF K base w (((V.alloc (.map #[] 0)).alloc (.cells #[.map (some V.heap.size)] 114)).alloc (.cells #[vC (V.heap.size+1) aH (V.heap.size+1+1)] 129)) G hs cb s _ _:=d;have s3:(((V.alloc (.map #[] 0)).alloc (.cells #[.map (some V.heap.size)] 114)).alloc (.cells #[vC (V.heap.size+1) aH (V.heap.size+1+1)] 129)).heap.size=V.heap.size+1+1+1:=by simp
 have hw:=L.gr.jB.size;have l:=d.fresh (r:=9) (h':=⟨some ⟨V.heap.size+1+1+1,0,none⟩,1,1⟩) (ys:=jj [u]) (bC _ (.cells (jj [u]).toArray 3)) (by have:=Dx (((V.alloc (.map #[] 0)).alloc (.cells #[.map (some V.heap.size)] 114)).alloc (.cells #[vC (V.heap.size+1) aH (V.heap.size+1+1)] 129)) w.heap.size [u] 1 rfl (by omega) (by omega);rw[s3] at this;exact this) (λ g e=>by
  have f:some (V.heap.size+1+1+1)=some g:=e;injection f with f
  omega)
 have m:ni 4 uD ((((V.alloc (.map #[] 0)).alloc (.cells #[.map (some V.heap.size)] 114)).alloc (.cells #[vC (V.heap.size+1) aH (V.heap.size+1+1)] 129)).alloc (.cells #[.int .i64 u] 3)) V.heap.size 0 DQ:=(((ni.made V).alloc _).alloc _).alloc _;have n:Below V.heap.size V ((((V.alloc (.map #[] 0)).alloc (.cells #[.map (some V.heap.size)] 114)).alloc (.cells #[vC (V.heap.size+1) aH (V.heap.size+1+1)] 129)).alloc (.cells #[.int .i64 u] 3)):=((((o_ _ V).alloc (w_ _) _).alloc (by simp) _).alloc (by omega) _).alloc (by omega) _;refine⟨_,_,jT _ _ _,?_,?_,⟨⟨l,?_,?_,?_,?_,?_,?_,?_,?_,?_,?_,?_,?_,?_,?_⟩,?_,?_,?_,?_,jT _ _ _,m,(λ y h=>by cases h),hw,i.below n⟩⟩
 ·rw[bq _ _ (by omega),bq _ _ (by omega),bq _ _ (by omega)]
 ·rw[bq _ _ (by omega),bq _ _ (by omega),bq _ _ (by omega)]
 ·rw[bq _ _ (by omega),bq _ _ (by omega),bq _ _ (by omega)];exact L.nV
 ·rw[bq _ _ (by omega),bq _ _ (by omega),bq _ _ (by omega)];exact L.jJ
 ·rw[bq _ _ (by omega),bq _ _ (by omega),bq _ _ (by omega)];exact L.ja
 ·rw[bq _ _ (by omega),bq _ _ (by omega),bq _ _ (by omega),bq _ _ (by omega),bq _ _ (by omega),bq _ _ (by omega)];exact L.kC
 ·rw[bq _ _ (by omega),bq _ _ (by omega),bq _ _ (by omega)];exact L.l8
 ·rw[bq _ _ (by omega),bq _ _ (by omega),bq _ _ (by omega)];exact L.kB
 ·rw[bq _ _ (by omega),bq _ _ (by omega),bq _ _ (by omega),bq _ _ (by omega),bq _ _ (by omega),bq _ _ (by omega)];exact L.k4
 ·rw[bq _ _ (by omega),bq _ _ (by omega),bq _ _ (by omega)];exact L.lG
 ·rw[bq _ _ (by omega),bq _ _ (by omega),bq _ _ (by omega)];exact L.nF
 ·rw[bq _ _ (by omega),bq _ _ (by omega),bq _ _ (by omega)];exact L.lD
 ·rw[bq _ _ (by omega),bq _ _ (by omega),bq _ _ (by omega)];exact L.pW
 ·rw[bq _ _ (by omega),bq _ _ (by omega),bq _ _ (by omega)];exact L.mP
 ·rw[bq _ _ (by omega),bq _ _ (by omega),bq _ _ (by omega)];exact L.td
 ·rw[bq _ _ (by omega),bq _ _ (by omega),bq _ _ (by omega)];exact L.u9
 ·rw[bq _ _ (by omega),bq _ _ (by omega),jT]
 ·rw[bq _ _ (by omega),bq _ _ (by omega),jT]
 ·rw[bq _ _ (by omega),jT]
 ·rw[bq _ _ (by omega),jT];rfl
theorem lF.shut{W':World}(h:lF K base w W G hs cb s ls X)(k:o9 w.heap.size W ds)(c:Shut ds W W'):lF K base w W' G hs cb s ls X:=by
 have g:∀b cs t l,W.heap[b]? =some (Obj.cells cs t l)->W'.heap[b]? =W.heap[b]? :=λ b cs t l f=>c.block b (λ i=>by
  have h1:=(k.kR b i).2;rw[f] at h1;cases h1)
 have hblk:∀{b:Nat}{t:TypeId}{cs:List Value},aR W b t cs->aR W' b t cs:=λ m=>(g _ _ _ _ m).trans m
 refine⟨⟨⟨hblk h.gK.e.box,⟨λ r=>o6 (h.gK.e.rows.row r) (λ b j=>?_),h.gK.e.rows.apart⟩,λ d n=>hblk (h.gK.e.cls d n),h.gK.e.inj,h.gK.e.q6,h.gK.e.rL⟩,h.gK.s.more (by rw[c.size];exact w_ _)⟩,⟨λ r=>o6 (h.rows.row r) (λ b j=>?_),h.rows.apart⟩,⟨c.os.trans h.jB.os,c.tape.trans h.jB.tape,c.output.trans h.jB.output,by rw[c.size];exact h.jB.size,λ b hk=>(c.block b (λ i=>by have:=(k.kR b i).1;have:=h.kl b hk;omega)).trans (h.jB.keep b hk)⟩,h.kl⟩
 ·obtain⟨cs,f⟩:=vz (h.gK.e.rows.row r) j;exact g b _ _ _ f
 ·obtain⟨cs,f⟩:=vz (h.rows.row r) j;exact g b _ _ _ f
theorem LV(tmps:Array Value)(b:Nat)(v v5:Value)(W:World)(c:tmps[4]? =some (.pointer (some ⟨b,0,none⟩)))(d:tmps[5]? =some v5)(e:W.cell? ⟨b,0,none⟩=some v):(results Tryz.f146 tmps).run y_ W=.ok (.tuple #[v,v5]) W:=by
 rw[results_cell_tmp (p:=4) (u:=5) (ty:=25) rfl];simp[c,d,e,go_sem]
theorem LW{A:Option Addr}{iw c:Nat}{v:Value}(h:n=iw):Ending.returned (.tuple #[.slice A n c,v])=.returned (.tuple #[.slice A iw c,v]):=by rw[h]
noncomputable def LX:Code:=ng (ng (ng (ng (ng (ng (Tryz.f146.body.getD .skip))))))
theorem LY{B:Int}{j:Nat}{gW:Value}
  (aG:base<=w.heap.size) (C:vB F Fd aI n h kV) (aK:aI.aQ=x_ (n+1) false) (aL:B<=kV+16*jK) (H:BY K base w W G hs cb n B F aI aH bP bS dh bD op ij iX j ds s aQ aN mk ls X):
  Code.wp y_ LX (bodyPostM Fence.wide 6 y_ Tryz.f146 (GY K base w G hs cb n kV F aI)) {tmps:= #[.pointer (some ⟨G,0,none⟩),fK,.pointer (some ⟨aH,0,none⟩),bk,.pointer (some ⟨bP,0,none⟩),.int .i64 0,.pointer (some ⟨bS,0,none⟩),.pointer (some ⟨bD,0,none⟩),.pointer (some ⟨dh,0,none⟩),.int .i64 (ak aI.c.ax j),gY,gJ,gu,iF,gL,gW,u16,gv,gw,gx,gI,gy,gz,gA,gB,gC,gD,gE,gF,fS,fT,fU,u32,fV,fW,fZ,ga,gb,gd,gh,gi,gj,gl,gm,gG,gH,iz,iq,ir,bT,bU,bV,bW,bX,bY,bZ,b5,b6,b7,b8,b9,cc,cg,ck,u64,cm,cn,cp,cr,ct,cu,cv,cw,cz,cA,cB,cC,cD,cE,cF,cG,cH,cI,cK,cL,cM,di,dm,dn,dr,dw,dx,dy,dz,cN,cO,cQ,cR,cS,cT,cU,cV,cW,cZ,c4,c5,c6,c7,c8,c9,dc,dA,dB,dD,dF,dG,dH,dI,dJ,dK,dL,dM,dN,dO,dP,dQ,dR,dS,dU,dV,dW,dX,dY,dZ,ec,ee,ef,ei,ej,ek,en,fL,fM,fN,eo,ep,er,eu,ew,ey,ez,eA,eB,eC,eD,eE,fO,fP,fQ,eF,eG,eH,eL,eM,eN,eO,eP,eR,eS,eT,eU,eV,eW,eX,eY,eZ,e3,e4,e5,e6,e7,e8,e9,fc,fe,ff,fh,fk,fm,fo,fq,fu,fA,fB,fC,gn,gp,fD,fE,fF,fG,fH,fI,fJ],defers:=ds.map oL} W:=by
 have d:=U H;have i:=U C;have aj:=U (z_ aL (z_ aK aG));have bL:∀(fn:Fn)(first cap:Array Value)(w:World),(d_ fn first cap).run y_ w=.ok (.func fn first cap) w:=λ _ _ _ _=>rfl
 have bM:= @run_makeMap y_;obtain⟨x,T⟩:∃x,ak aI.c.ax j=x:=⟨_,rfl⟩
 have al:j<aI.c.ax.length:=by have:=H.li.qR;omega
 have an:gP n x:=by have:=C.gV.aN.lit _ (mc al);rw[T,C.jH] at this;exact this
 obtain⟨go,aM,ao⟩:=H.aO.gr.rows.addr (r:=5) (by rw[H.aO.kj];simp);have Y:ls 5=⟨some ⟨go,0,none⟩,aN.length+1,(ls 5).c⟩:=by
  have h1:=H.aO.kj;rw[v_] at h1;rw[<-h1,<-aM]
 have co:W.cell? ⟨bP,0,none⟩=some (.slice (some ⟨go,0,none⟩) (aN.length+1) (ls 5).c):=by have co:=H.aO.co.1;rw[Y] at co;exact co
 obtain⟨P,aq⟩:∃t,aN.length=t:=⟨_,rfl⟩
 obtain⟨ar,aP⟩:∃t,(ls 5).c=t:=⟨_,rfl⟩
 rw[aq,aP] at co Y;have g0:=H.aO.gr.kR ao (k:=0) (v:=.int .i64 0) (by rw[H.aO.l8];rfl);have gc:=g0.1;have gf:=g0.2;have bN:n_.wrap (-x)= -x:=by rw[u_];have h1:=an.2;have z:=C.n10;unfold aD at h1;omega
 have l:=U (z_ T (z_ an (z_ al (z_ Y (z_ ao aq)))));rw[T];clear H C aL aK T an al aM ao Y aq aP g0 aG
 conv=>arg 2;whnf
 dsimp only
 go_upto_region 25 with fail
 obtain⟨bO,E,aR⟩:=d.o.aO.Ll l.o.2.2.2.2.1 0 (-x);have aS:=d.o.ms.others aR;obtain⟨bQ,bR,J,aT,aU,I⟩:=qV.make E aS (-x);have I:=U I;have av:(W.setCell ⟨go,0,none⟩ (.int .i64 (-x))).cell? ⟨go,0,none⟩=some (.int .i64 (-x)):=(E.gr.kR l.o.2.2.2.2.1 (k:=0) (v:=.int .i64 (-x)) (by rw[E.l8];rfl)).1;have co:=E.co.1;rw[l.o.2.2.2.1] at co;have co:(W.setCell ⟨go,0,none⟩ (.int .i64 (-x))).cell? ⟨bP,0,none⟩=some (.slice (some ⟨go,0,none⟩) (P+1) ar):=co;have bo:=(E.gr.lt l.o.2.2.2.2.1).2;have br:=(E.gr.lt E.aZ).2;have Q:=U (z_ J (z_ aT aU));clear E aR aS J aT aU gc gf;generalize W.setCell ⟨go,0,none⟩ (.int .i64 (-x))=V at*
 go_upto_region 28 with fail
 have Z:Below V.heap.size V (((V.alloc (.map #[] 0)).alloc (.cells #[.map (some V.heap.size)] 114)).alloc (.cells #[vC (V.heap.size+1) aH (V.heap.size+1+1)] 129)):=(((o_ _ V).alloc (w_ _) _).alloc (by simp) _).alloc (by simp;omega) _;have bs:(((V.alloc (.map #[] 0)).alloc (.cells #[.map (some V.heap.size)] 114)).alloc (.cells #[vC (V.heap.size+1) aH (V.heap.size+1+1)] 129)).heap.size=V.heap.size+1+1+1:=by simp
 unfold vC at I Z bs;have co:=(q_ (a:=⟨bP,0,none⟩) (Z.block bP br)).trans co;have av:=(q_ (a:=⟨go,0,none⟩) (Z.block go bo)).trans av;clear Z;generalize (((V.alloc (.map #[] 0)).alloc (.cells #[.map (some V.heap.size)] 114)).alloc (.cells #[.func (.func 185) #[] #[.pointer (some ⟨V.heap.size+1,0,none⟩),.pointer (some ⟨aH,0,none⟩),.pointer (some ⟨V.heap.size+1+1,0,none⟩)]] 129))=aV at*
 go_upto_region 29 with fail
 have aa:(aV.alloc (.cells #[.int .i64 (-x)] 3)).cell? ⟨bP,0,none⟩=some (.slice (some ⟨go,0,none⟩) (P+1) ar):=by
  have aa:=I.o.aO.co.1;rw[Q.o.2.1,l.o.2.2.2.1] at aa;exact aa
 have bt:P+1<=ar:=by
  have h1:=I.o.aO.gr.gK.e.rows;have z:=I.o.aO.gr.rows.row 5;rw[Q.o.2.1,l.o.2.2.2.1] at z;rcases z.2 with⟨ab,_⟩|⟨g,cap,cur,ab,_,_,ad,_⟩
  ·cases ab
  ·simp only[ay.v] at ab;injection ab with b0 b1 b2
   have ad:P+1<=cap:=ad;omega
 clear co av;generalize aV.alloc (.cells #[.int .i64 (-x)] 3)=b3 at*;have aW:P<=20:=by
  have h1:=d.o.sC;have z:=DN d.o.sB d.o.qL;have bu:=d.o.li.tK;have bw:=i.o.jH;have ad:=i.o.n10;have R:=l.o.2.2.2.2.2;omega
 go_wp2_with fail
 all_goals
  refine LM i.o I.o (Q.o.2.1.trans l.o.2.2.2.1) Q.o.1 l.o.2.2.2.2.2 aW d.o.k6.c d.o.k6.aQ (by have:=d.o.li.tK;rw[i.o.jH] at this;exact this) (λ y f=>(d.o.li.uo y f).1) (λ b4=>by first|rfl|(exfalso;omega)) ?_;intro m5 f5 L bx kf aw az bz fK bk aX gY gJ gu iF gL u16 gv gw gx gI gy gz gA gB gC gD gE gF fS fT fU u32 fV fW fZ ga gb gd gh gi gj gl gm gG gH iz iq ir bT bU bV bW bX bY bZ b5 b6 b7 b8 b9 cc cg ck u64 cm cn cp cr ct cu cv cw cz cA cB cC cD cE cF cG cH cI cK cL cM di dm dn dr dw dx dy dz cN cO cQ cR cS cT cU cV cW cZ c4 c5 c6 c7 c8 c9 dc dA dB dD dF dG dH dI dJ dK dL dM dN dO dP dQ dR dS dU dV dW dX dY dZ ec ee ef ei ej ek en fL fM fN eo ep er eu ew ey ez eA eB eC eD eE fO fP fQ eF eG eH eL eM eN eO eP eR eS eT eU eV eW eX eY eZ e3 e4 e5 e6 e7 e8 e9 fc fe ff fh fk fm fo fq fu fA fB fC gn gp fD fE fF fG fH fI fJ aY u J ae a6;have bA:∀y∈aN,-y∈aI.c.ax:=λ y f=>(d.o.li.uo y f).1
  have a7:iD F aI.c (-x) L:=by
   have C:=i.o;have H:=d.o;have aA:ak aI.c.ax j=x:=l.o.1;have a8:=H.li.done C.gV.aN H.yj H.one;rw[aA] at a8;have bB:lI aI.c.st j=aI.c.st.length:=oo.top C.gV.aN H.li;refine⟨Kj C.gV.aN C.gV.jS H.li.wX (λ y f=>⟨(H.li.uo y f).1,(H.li.uo y f).2.2.1⟩) a8 a6,by rw[Int.neg_neg,<-aA];exact mc l.o.2.2.1,?_,λ y f=>?_,ae.nodup H.li.xZ⟩
   ·show hU aI.c.lvl (aD (-x))=_;rw[oW,<-aA];exact(C.gV.aN.mI j l.o.2.2.1).trans bB
   ·have:=H.li.uo y (ae.subset f);exact⟨this.1,this.2.1,this.2.2.1⟩
  obtain⟨N,af,ag⟩:=u.aO.gr.rows.addr (r:=9) (by have:=u.kf;rw[v_] at this;omega);rw[J] at af;have af:bx=some ⟨N,0,none⟩:=af;subst af;have a':kf=L.length+1:=by have:=u.kf;rw[J,v_] at this;exact this
  obtain⟨ba,ah,aJ,R⟩:∃A n c,az 6=⟨A,n,c⟩:=⟨_,_,_,rfl⟩
  have bC:aY.cell? ⟨bS,0,none⟩=some (.slice ba ah aJ):=by have:=u.aO.aJ.1;rw[R] at this;exact this
  have bb:ah<=1000:=by
   have h1:=u.aO.n6;rw[R] at h1;have h1:ah=mk.length:=h1;have z:=DN d.o.sB d.o.qL;have bu:=d.o.li.tK;have bw:=i.o.jH;have ad:=i.o.n10;omega
  have bc:L.length<=20:=by have:=ae.length_le;have:=l.o.2.2.2.2.2;omega
  have bd:r7 K base w aY G hs cb s aH bP bS dh bD (-x::aN) mk op ij iX (-x::L) ds az bz:=⟨u.aO,u.uE,u.ms⟩
  have p:=U (z_ bd (z_ J (z_ a7 (z_ a' bc))));clear bd u J ae a6 aa bt aW bA a7 ag bc I Q a'
  go_wp2_with fail
  refine LQ (kf:=kf) p.o.1 R bb d.o.k6.aQ d.o.qL ?_;intro fK bk aX gY gJ gu iF gL u16 gv gw gx gI gy gz gA gB gC gD gE gF fS fT fU u32 fV fW fZ ga gb gd gh gi gj gl gm gG gH iz iq ir bT bU bV bW bX bY bZ b5 b6 b7 b8 b9 cc cg ck u64 cm cn cp cr ct cu cv cw cz cA cB cC cD cE cF cG cH cI cK cL cM di dm dn dr dw dx dy dz cN cO cQ cR cS cT cU cV cW cZ c4 c5 c6 c7 c8 c9 dc dA dB dD dF dG dH dI dJ dK dL dM dN dO dP dQ dR dS dU dV dW dX dY dZ ec ee ef ei ej ek en fL fM fN eo ep er eu ew ey ez eA eB eC eD eE fO fP fQ eF eG eH eL eM eN eO eP eR eS eT eU eV eW eX eY eZ e3 e4 e5 e6 e7 e8 e9 fc fe ff fh fk fm fo fq fu fA fB fC gn gp fD fE fF fG fH fI fJ b' aB;have aB:=U aB;clear bC bb R ba ah aJ
  go_wp2_with fail
  have ai:=i.o.gV.aN;have O:s.c=aI.c:=d.o.k6.c;have bf:=p.o.2.2.1.nodup ai;have bg:∀y∈-x::L,gP n y:=λ y f=>by
   have h1: -y∈aI.c.ax:=by
    rcases List.mem_cons.1 f with rfl|f
    ·exact p.o.2.2.1.F2
    ·exact(p.o.2.2.1.BD y f).1
   have:=ai.lit _ h1;rw[i.o.jH] at this;have:=this.neg
   rwa[Int.neg_neg] at this
  refine LS (n:=n) aB.o p.o.2.1 (by have:=p.o.2.2.2.1;omega) (by have:=p.o.2.2.2;omega) (by have:=i.o.n10;omega) bf (by show 0<s.c.st.length;rw[O];exact i.o.st1) (by show s.c.st.length<=_;rw[O];exact i.o.st2) bg (by show s.c.lvl.length=_;rw[O,ai.pz,i.o.jH]) (λ y f bh=>by
   have h1:ak (-x::L) 0= -x:=rfl;rw[h1] at bh;show 1<=bp s.c y/\bp s.c y<s.c.st.length;rw[O];rcases List.mem_cons.1 f with z|f
   ·exact absurd z bh
   ·exact(p.o.2.2.1.BD y f).2) ?_
  intro level aC ca fK bk aX gY gJ gu iF gL u16 gv gw gx gI gy gz gA gB gC gD gE gF fS fT fU u32 fV fW fZ ga gb gd gh gi gj gl gm gG gH iz iq ir bT bU bV bW bX bY bZ b5 b6 b7 b8 b9 cc cg ck u64 cm cn cp cr ct cu cv cw cz cA cB cC cD cE cF cG cH cI cK cL cM di dm dn dr dw dx dy dz cN cO cQ cR cS cT cU cV cW cZ c4 c5 c6 c7 c8 c9 dc dA dB dD dF dG dH dI dJ dK dL dM dN dO dP dQ dR dS dU dV dW dX dY dZ ec ee ef ei ej ek en fL fM fN eo ep er eu ew ey ez eA eB eC eD eE fO fP fQ eF eG eH eL eM eN eO eP eR eS eT eU eV eW eX eY eZ e3 e4 e5 e6 e7 e8 e9 fc fe ff fh fk fm fo fq fu fA fB fC gn gp fD fE fF fG fH fI fJ cd bj S;have S:mO s.c (-x::L) kf level aC:=S;rw[O] at S;have q:=U (z_ bj S);have bl:=U p.o.2.1;clear bj S bf bg ai O;have cf:=q.o.1.aO.co.1;have ch:=q.o.1.aO.co.2
  go_wp2_with fail
  obtain⟨bE,bF⟩:=q.o.1.aO.gr.set q.o.1.aO.aZ 0 (.slice (some ⟨N,0,none⟩) kf aw);have aE:=q.o.1.ms.others bF;refine C6 ds rfl aE.nt (λ D bG=>(aE.kR D bG).2) (λ W' bH=>?_);have M:=bE.shut aE bH;have bI:=(M.kR q.o.1.aO.aZ (k:=0) (v:=.slice (some ⟨N,0,none⟩) kf aw) (by rw[jT,q.o.1.aO.kC];rfl)).1;refine⟨_,LV _ bP _ _ W' rfl rfl bI,?_⟩;have aF:aC.length=kf:=by have:=q.o.2.len;rw[this,v_];exact p.o.2.2.2.1.symm
  have bn:=M.rows.row 9;rw[bl.o,bq _ _ (by omega),q.o.1.uE] at bn;have bJ:({s with aQ:=x_ aQ.length false}:au)={s with aQ:=aI.aQ}:=by
   rw[aj.o.2.1,d.o.li.tK,i.o.jH]
  have ag:(az 9).b=some N:=by rw[bl.o];rfl
  have m:=d.o.k6.rg.mono (Int.le_refl _) aj.o.1;refine⟨N,aw,level,aC,_,LW aF.symm,q.o.2.done aF p.o.2.2.1 i.o.gV.aN,M.gK.BA (λ b bK=>.inl bK),M.jB,by rw[bJ];exact d.o.k6.hk,⟨m.jH,m.lW,m.lB,m.qp,m.a0,m.rm,m.oQ,m.nM,m.o8,m.nN,m.qc,m.k8⟩,?_,M.off ag,λ hk=>?_⟩
  ·rw[aF];exact yV bn aj.o.2.2
  ·have h1:=M.kl N hk;have z:=(M.lt ag).1;omega
theorem LZ(E:bf K base w G hs cb aI)(C:vB F Fd aI n h kV)(r:mE n jK kV aI)(M:aI.aQ=x_ (n+1) false){d:Nat}(N:d<aI.c.cl.length)(O:∀x∈az aI.c.cl d,-x∈aI.c.ax):
  Calls y_ 146 #[.pointer (some ⟨G,0,none⟩),.pointer (some ⟨cb d,0,none⟩)] w (GY K base w G hs cb n kV F aI):=by
 have P:=U E;have m:=U C;have oy:=U r;have b:=U (z_ M (z_ N O));have aC:∀(fn:Fn)(first cap:Array Value)(w:World),(d_ fn first cap).run y_ w=.ok (.func fn first cap) w:=λ _ _ _ _=>rfl
 have aD:= @run_makeMap y_;clear E C r M N O;refine C5 Tryz.func146 rfl ?_;simp only[Tryz.ntmps146,List.size_toArray,v_,List.length_nil,Nat.reduceAdd,Nat.reduceSub,b_,a_,List.push_toArray,List.append_toArray,List.nil_append,List.cons_append]
 go_upto_region 2 with fail
 have Q:=((lF.start P.o).box 0 (.pointer (some ⟨G,0,none⟩))).box 1 (.slice none 0 0);have f:=Q.box 2 (.slice none 0 0);have R:(w.alloc (.cells #[.pointer (some ⟨G,0,none⟩)] 115)).heap.size=w.heap.size+1:=by simp
 have S:((w.alloc (.cells #[.pointer (some ⟨G,0,none⟩)] 115)).alloc (.cells #[.slice none 0 0] 25)).heap.size=w.heap.size+1+1:=by simp
 have y:(((w.alloc (.cells #[.pointer (some ⟨G,0,none⟩)] 115)).alloc (.cells #[.slice none 0 0] 25)).alloc (.cells #[.slice none 0 0] 25)).heap.size=w.heap.size+1+1+1:=by simp
 have f:lF K base w (((w.alloc (.cells #[.pointer (some ⟨G,0,none⟩)] 115)).alloc (.cells #[.slice none 0 0] 25)).alloc (.cells #[.slice none 0 0] 25)) G hs cb aI (iV (iV (iV (λ _=>wO) 0 (oq w.heap.size)) 1 (oq (w.heap.size+1))) 2 (oq (w.heap.size+1+1))) (iV (iV (iV (λ _=> []) 0 [.pointer (some ⟨G,0,none⟩)]) 1 [.slice none 0 0]) 2 [.slice none 0 0]):=by
  rw[show oq (w.heap.size+1)=oq (w.alloc (.cells #[.pointer (some ⟨G,0,none⟩)] 115)).heap.size by rw[R],show oq (w.heap.size+1+1)=oq ((w.alloc (.cells #[.pointer (some ⟨G,0,none⟩)] 115)).alloc (.cells #[.slice none 0 0] 25)).heap.size by rw[S]];exact f
 have f:=U f;clear Q R S;generalize (((w.alloc (.cells #[.pointer (some ⟨G,0,none⟩)] 115)).alloc (.cells #[.slice none 0 0] 25)).alloc (.cells #[.slice none 0 0] 25))=H at*
 go_upto_region 3 with fail
 have i:=f.o.box 4 (.func (.func 182) #[] #[.pointer (some ⟨w.heap.size,0,none⟩),.pointer (some ⟨w.heap.size+1+1,0,none⟩)]);rw[y] at i;have T:(H.alloc (.cells #[.func (.func 182) #[] #[.pointer (some ⟨w.heap.size,0,none⟩),.pointer (some ⟨w.heap.size+1+1,0,none⟩)]] 170)).heap.size=w.heap.size+1+1+1+1:=by simp[y]
 have i:=U (show lF K base w (H.alloc (.cells #[.func (.func 182) #[] #[.pointer (some ⟨w.heap.size,0,none⟩),.pointer (some ⟨w.heap.size+1+1,0,none⟩)]] 170)) G hs cb aI _ _ from i);clear y f;generalize H.alloc (.cells #[.func (.func 182) #[] #[.pointer (some ⟨w.heap.size,0,none⟩),.pointer (some ⟨w.heap.size+1+1,0,none⟩)]] 170)=l at*;have V:=(i.o.set (r:=1) (g:=w.heap.size+1) (by rw[bq _ _ (by omega),bq _ _ (by omega),jT];rfl) 0 (.slice (some ⟨w.heap.size+1+1+1+1,0,none⟩) 1 1)).1;have c1:=i.o.kR (r:=1) (g:=w.heap.size+1) (by rw[bq _ _ (by omega),bq _ _ (by omega),jT];rfl) (k:=0) (v:=.slice none 0 0) (by rw[bq _ _ (by omega),bq _ _ (by omega),jT];rfl);have ak:=c1.1;have f1:=c1.2;have al:w.heap.size+1<l.heap.size:=by omega
 have I:(l.setCell ⟨w.heap.size+1,0,none⟩ (.slice (some ⟨w.heap.size+1+1+1+1,0,none⟩) 1 1)).heap.size=w.heap.size+1+1+1+1:=by simp[T]
 have W:=V.fresh (r:=5) (h':=⟨some ⟨w.heap.size+1+1+1+1,0,none⟩,1,1⟩) (ys:=jj [0]) (bC _ (.cells (jj [0]).toArray 3)) (by have:=Dx (l.setCell ⟨w.heap.size+1,0,none⟩ (.slice (some ⟨w.heap.size+1+1+1+1,0,none⟩) 1 1)) w.heap.size [0] 1 rfl (by omega) (by omega);rw[I] at this;exact this) (λ g e=>by
  have Y:some (w.heap.size+1+1+1+1)=some g:=e;injection Y with Y
  omega)
 have p:=W.box 3 (.int .i64 0);have Z:((l.setCell ⟨w.heap.size+1,0,none⟩ (.slice (some ⟨w.heap.size+1+1+1+1,0,none⟩) 1 1)).alloc (.cells (jj [0]).toArray 3)).heap.size=w.heap.size+1+1+1+1+1:=by simp[I]
 rw[Z] at p;have p:=U (show lF K base w (((l.setCell ⟨w.heap.size+1,0,none⟩ (.slice (some ⟨w.heap.size+1+1+1+1,0,none⟩) 1 1)).alloc (.cells #[.int .i64 0] 3)).alloc (.cells #[.int .i64 0] 3)) G hs cb aI _ _ from p);clear V c1 i W I Z
 go_upto_region 5 with fail
 clear ak f1 T al;generalize (((l.setCell ⟨w.heap.size+1,0,none⟩ (.slice (some ⟨w.heap.size+1+1+1+1,0,none⟩) 1 1)).alloc (.cells #[.int .i64 0] 3)).alloc (.cells #[.int .i64 0] 3))=t at*;have u:=m.o.gV;have an:=m.o.jH;have q:kY K base w t G hs cb aI w.heap.size (w.heap.size+1) (w.heap.size+1+1) (w.heap.size+1+1+1+1+1) (w.heap.size+1+1+1) [0] [] 0 wO [] _ _:=⟨p.o,rfl,rfl,rfl,rfl,rfl,rfl,rfl,rfl,rfl,rfl,rfl,rfl,rfl,rfl⟩
 have aa:nc aI.c (x_ (n+1) false) aI.c.ax.length=0:=by
  unfold nc;rw[List.countP_eq_zero];intro k hk h1;unfold o4 at h1;rw[Br] at h1;simp at h1
 have J:=oo.start u m.o.st1 b.o.2.1 b.o.2.2;rw[an] at J;have ab:others (az aI.c.cl d) 0=az aI.c.cl d:=by
  unfold others;rw[List.filter_eq_self];intro x ao;have:=(u.jS.mM d b.o.2.1).lt x ao;simpa using this.oM
 have ad:nh K base w t G hs cb n kV F aI w.heap.size (w.heap.size+1) (w.heap.size+1+1) (w.heap.size+1+1+1+1+1) (w.heap.size+1+1+1) wO [] aI.c.ax.length (others (az aI.c.cl d) 0) [] aI (x_ (n+1) false) [] [] _ _:=
  ⟨by rw[aa];exact q,⟨od.refl aI,b.o.1,oy.o⟩,by rw[ab];exact J,i_,λ z=>⟨λ h=>(by cases h),λ⟨v,_,h⟩=>by rw[Br] at h;cases h⟩,w_ _,⟨i_,λ D h=>by cases h⟩⟩
 have hH:BZ K base w G hs cb n kV F aI w.heap.size (w.heap.size+1) (w.heap.size+1+1) (w.heap.size+1+1+1+1+1) (w.heap.size+1+1+1) aI.c.ax.length d 0 [] t:=
  ⟨_,_,_,_,_,_,_,_,ad.up (by rw[Nat.sub_self];simp),b.o.2.1,by
   have:=(u.jS.mM d b.o.2.1).ne;exact List.length_pos_iff.2 this⟩
 have ae:=U hH;have aS:=q.aS;obtain⟨aq,kD,ar,L⟩:∃A n c,hs 4=⟨A,n,c⟩:=⟨_,_,_,rfl⟩
 have af:kD=aI.c.ax.length:=by have:=q.gr.gK.e.kD;rw[L] at this;exact this
 have av:t.cell? ⟨G,5,none⟩=some (.slice aq aI.c.ax.length ar):=by have:=q.gr.gK.e.kP (k:=5) (v:=(hs 4).v) rfl;rw[L,af] at this;exact this
 clear q aa J ab ad hH L af u p
 go_wp2_with fail
 refine LD (ds:=[]) m.o ae.o ?_;clear ae aS av;intro j B op aE aF s aQ aG mk ls X ds aJ aK aL aM aN aO aP aR u16 aT aU aV aW aX aY aZ a6 a7 a8 a' ba bb bc bd u32 bg bh bj bk bl bn bo bp br bs bt bu bw bx bz bA bB bE bF bG bH bI bJ bK bL bM bN bO bP bQ bR u64 bS bT bU bV bW bX bY bZ b0 b1 b2 b3 b4 b5 b6 b7 b8 b9 b' ca cc cd cf cg ch cj ck cm cn cp cq cr ct cu cv cw cx cy cz cA cB cC cD cE cF cG cH cI cJ cK cL cM cN cO cP cQ cR cS cT cU cV cW cX cY cZ c0 c4 c5 c6 c7 c8 c9 da db dc dd de df dh di dj dk dm dn dp dq dr dt du dv dw dx dy dz dA dB dC dD dE dF dG dH dI dJ dK dL dM dN dO dP dQ dR dS dT dU dV dW dX dY dZ d' ea eb ec ed ee ef eg eh ei ej ek en eo ep er et eu ev ew ag ah;have ai:=U ah;have aw:=U ag;generalize w.heap.size+1+1+1+1+1=ey at*;generalize w.heap.size+1+1+1=bD at*;generalize w.heap.size+1+1=ez at*;generalize w.heap.size+1=eA at*;generalize eB:w.heap.size=aH at ai⊢;clear ah ag;rename_i aA aj;have aB:=U aj;clear aj;show aA _ _;apply aB.o;exact LY (Nat.le_of_lt P.o.e.lt) m.o b.o.1 aw.o ai.o
end
end Go.Proofs.YtogdlkfacflmaaaGreat
