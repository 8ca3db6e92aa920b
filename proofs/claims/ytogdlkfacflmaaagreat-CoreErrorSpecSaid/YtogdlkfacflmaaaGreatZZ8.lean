/- Parts of the walk of the solver and its core; no condition. -/
import Derived.Test.YtogdlkfacflmaaaGreatZZ7
import Derived.Test.YtogdlkfacflmaaaGreatZZ4
import Derived.Test.YtogdlkfacflmaaaGreatZZ6
import Derived.Laws.EntriesVeiled
import Derived.Laws.ResultCell
import Derived.Test.YtogdlkfacflmaaaGreatZZ1
namespace Go.Proofs.YtogdlkfacflmaaaGreat
set_option linter.unusedVariables false
set_option linter.unusedSimpArgs false
set_option maxRecDepth 1000000
set_option maxHeartbeats 8000000
open _root_.And renaming intro→z_
open _root_.Go.Proofs.Tryz renaming prog→y_,f146→p_
open _root_.List renaming replicate→x_,length_cons→v_,mem_append→t_,mem_singleton→s_,take_of_length_le→r_,getElem?_eq_getElem→o_,length_filter_le→l_,length_singleton→k_,nodup_nil→h_,length_append→g_,getElem?_map→f_
open _root_.Nat renaming le_refl→w_,mul_le_mul_right→j_
open _root_.Go.IntKind renaming wrap_i64→u_,i64→m_
open _root_.Go.World renaming cell?_of_block→q_,putObj_heap_other→d_
open _root_.Go.RowKit.Below renaming refl→n_
open _root_.Go.CallsIn renaming inRound→i_
open _root_.Go renaming callsIn_wide→e_
open _root_.Go.Instr renaming makeFunc→c_
open _root_.Go.KeepsFrom renaming refl→b_,of_grownBy→Zy
open _root_.Array renaming replicate_succ→a_,replicate_zero→Zz
variable{n base G lz aH lX bm bN bO c8 bx h:Nat}{hs ls:Nat->ax}{cb:Nat->Nat}{s aI:aq}{F Fd:List (List Int)}{K:Nat->Prop}{w W:World}{X:Nat->List Value}{mk aK out r:List Int}{op kP:Int}{iw:ax}{iU:List Value}{ds:List Nat}{aO:List Bool}{gF bl lF gV gH gn u16 gp gq gr gG gu gv gw gx gy gz gA gB fO fP fQ u32 fR fS fT fU fV fW fZ ga gb gd gh gC gD ij hU ia bP bQ bR bS bT bU bV bW bX bY bZ b5 b6 b7 b8 u64 b9 cc cg ck cm cn cp cr ct cu cv cw cz cA cB cC cD cE cF cG cH c9 dc de dh di dm dn dr cK cL cM cN cO cQ cR cS cT cU cV cW cZ c4 c5 c6 c7 dw dx dy dz dA dB dD dF dG dH dI dJ dK dL dM dN dO dP dQ dR dS dU dV dW dX dY dZ ec ee ef ei ej ek en eo ep er eu ew ey ez eA fJ fK fL eB eC eD eE eF eG eH eL eM eN eO eP eR eS eT eU eV eW eX eY eZ e3 e4 e5 e6 e7 e8 e9 fc fe ff fh fk fm fo fq gi gj fu fA fB fC fD fE fF iy gI fG fH fI:Value}{Q:Exit->Act->World->Prop}
section
open Go.RowKit Go.Shelf
attribute [local go_sem] Oper.semAt_some
theorem Ll{x:Int}(h:gK n x)(a:n<=60000):vO x=true:=Li (by have:=h.2;unfold aC at this;omega) (by have:=h.2;unfold aC at this;omega)
def BG(W:World)(s:aq)(bm m Q:Nat)(x deep:Int)(st:Bool)(pre:List Int)(a:World):Prop:=
 ∃(b:Nat)(d:Int->Option Bool),W.grownBy a (some bm)/\mW 4 uj a bm b d/\(∀y,d y=some true->qV s.c s.aO y)/\aT a W.heap.size 3 [.int .i64 x]/\aT a (W.heap.size+1) 3 [.int .i64 deep]/\aT a (W.heap.size+1+1) 4 [.bool false]/\(st=true->∀y∈pre,iE s.aO (aC y)=false->bh s.c y≠0->qV s.c s.aO y)/\b<=m+pre.length*Q
def Lm(W:World)(s:aq)(bm m Q:Nat)(x deep:Int)(c:Code)(pre:List Int)(a:World):Prop:=c=.ret/\BG W s bm m Q x deep false pre a
theorem Lo(T:j6 s.c)(D:ry F Fd s.c)(cR:s.c.n<=10)(cS:s.aO.length=s.c.n+1):
  ∀(p:Nat)(x:Int)(deep:Int)(W:World)(m:Nat)(f:Int->Option Bool),p<s.c.av.length->aj s.c.av p= -x->0<=deep->deep<=1001->rX base W G hs cb s lz aH lX bm m f->m+24^(p+1)<=4611686018427387904->
  Calls y_ 185 #[.int .i64 x,.int .i64 deep,.pointer (some ⟨lz,0,none⟩),.pointer (some ⟨aH,0,none⟩),.pointer (some ⟨lX,0,none⟩)] W (GB base W G hs cb s lz aH lX bm m x (24^(p+1))):=by
 intro p
 induction p using Nat.strongRecOn with
 |ind p ba=>?_
 intro x deep W m f hp bb ck cm bB bC;have aF:gK s.c.n x:=by have:=T.lit _ (lZ hp);rw[bb] at this;have:=this.neg;rwa[Int.neg_neg] at this
 have bD:=Ll aF (by omega);obtain⟨Q,aG⟩:∃Q,24^p=Q:=⟨_,rfl⟩
 have bc:24^(p+1)=24*Q:=by rw[Nat.pow_succ,aG,Nat.mul_comm]
 have bE:1<=Q:=by rw[<-aG];exact Nat.pow_pos (by omega)
 rw[bc] at bC⊢;have ba:=U ba;have cn:=U (z_ ck cm);have B:=U bB;have ad:=U T;have cp:=U D;have j:=U (z_ hp (z_ bb (z_ aF (z_ bD (z_ aG (z_ bc (z_ bE bC)))))));obtain⟨v,ak⟩:∃v,aC x=v:=⟨_,rfl⟩
 have bF:v<=s.c.n:=by have:=aF.2;omega
 have cq:bJ (∀w:World,Calls y_ 97 #[.int .i64 x] w λ e w'=>e=.returned (.int .i64 (v:Int))/\w=w'):=U (λ w=>by have:=sV x w (by unfold aC at ak;omega) (by unfold aC at ak;omega);rw[ak] at this;exact this);have cT:∀(fn:Fn)(first cap:Array Value)(w:World),(c_ fn first cap).run y_ w=.ok (.func fn first cap) w:=λ _ _ _ _=>rfl
 have aI:=U (z_ ak bF);clear hp bb aF bD aG bc bE bB T D ak bF;refine CP Tryz.func185 rfl ?_;simp only[Tryz.ntmps185,List.size_toArray,v_,List.length_nil,Nat.reduceAdd,Nat.reduceSub,a_,Zz,List.push_toArray,List.append_toArray,List.nil_append,List.cons_append]
 go_upto_region 1 with fail
 have aJ:Below W.heap.size W (((W.alloc (.cells #[.int .i64 x] 3)).alloc (.cells #[.int .i64 deep] 3)).alloc (.cells #[.bool false] 4)):=(((n_ _ W).alloc (w_ _) _).alloc (by simp) _).alloc (by simp;omega) _;have nJ:aT (((W.alloc (.cells #[.int .i64 x] 3)).alloc (.cells #[.int .i64 deep] 3)).alloc (.cells #[.bool false] 4)) W.heap.size 3 [.int .i64 x]:=((aT.new W 3 [.int .i64 x]).below (bz _ _)).below (bz _ _);have bG:aT (((W.alloc (.cells #[.int .i64 x] 3)).alloc (.cells #[.int .i64 deep] 3)).alloc (.cells #[.bool false] 4)) (W.heap.size+1) 3 [.int .i64 deep]:=by
  have:=(aT.new (W.alloc (.cells #[.int .i64 x] 3)) 3 [.int .i64 deep]).below (bz _ (.cells #[.bool false] 4));simpa using this
 have mI:aT (((W.alloc (.cells #[.int .i64 x] 3)).alloc (.cells #[.int .i64 deep] 3)).alloc (.cells #[.bool false] 4)) (W.heap.size+1+1) 4 [.bool false]:=by
  have:=aT.new ((W.alloc (.cells #[.int .i64 x] 3)).alloc (.cells #[.int .i64 deep] 3)) 4 [.bool false];simpa using this
 have aK:(((W.alloc (.cells #[.int .i64 x] 3)).alloc (.cells #[.int .i64 deep] 3)).alloc (.cells #[.bool false] 4)).heap.size=W.heap.size+1+1+1:=by simp
 generalize ((W.alloc (.cells #[.int .i64 x] 3)).alloc (.cells #[.int .i64 deep] 3)).alloc (.cells #[.bool false] 4)=V at*;have ae:=U (B.o.below aJ);have cr:=U (Aa (some bm) aJ);have aL:=U (z_ nJ (z_ bG mI));have ct:V.cell? ⟨lz,0,none⟩=some (.map (some bm)):=ae.o.vv.cell 0;have bI:V.cell? ⟨W.heap.size,0,none⟩=some (.int .i64 x):=nJ.cell 0;have aM:V.cell? ⟨W.heap.size+1+1,0,none⟩=some (.bool false):=mI.cell 0;have f7:=mI.free 0;have ao:=ae.o.pn.Lj Gy Tryz.underlying114 j.o.2.2.2.1;have bd:=U aJ;clear aJ nJ bG mI
 cases ar:f x with
 |some b=>
  rw[ar] at ao;dsimp only[Option.getD_some,Option.isSome_some] at ao;have cu:=U ar;clear ar
  go_wp2_with fail
  have X:Below W.heap.size W (V.setCell ⟨W.heap.size+1+1,0,none⟩ (.bool b)):=bd.o.setCell (p:=⟨W.heap.size+1+1,0,none⟩) (by simp;omega) _;refine JF (GC _ (W.heap.size+1+1) b _ rfl (((aL.o.2.2).set 0 (.bool b)).cell 0)) rfl ?_;exact⟨b,m,f,rfl,λ e=>B.o.snd x (by rw[cu.o,e]),B.o.below X,Aa _ X,by omega⟩
 |none=>
  rw[ar] at ao;dsimp only[Option.getD_none,Option.isSome_none] at ao;clear ar
  go_upto_region 5 with fail
  have cv:V.cell? ⟨aH,0,none⟩=some (.pointer (some ⟨G,0,none⟩)):=ae.o.p7.cell 0;obtain⟨g3,bK,aN,f3⟩:=ae.o.e.lV 4 3 rfl ae.o.e.nM (by have:=ad.o.pK;omega);have c3:=ae.o.e.yy bK (k:=v) (by have:=ad.o.pK;have:=aI.o;omega);have cU:(v:Int)<(s.c.kB.length:Int):=by have:=ad.o.pK;have:=aI.o;omega
  have bL:V.cell? ⟨W.heap.size+1,0,none⟩=some (.int .i64 deep):=aL.o.2.1.cell 0;have bf:=ad.o.pY p j.o.1;have bM:aC (aj s.c.av p)=v:=by rw[j.o.2.1,oO];exact aI.o.1
  rw[bM] at bf;obtain⟨pv,A⟩:∃pv:Option Addr,qM cb (mz s.c.kB v)=.pointer pv:=by cases mz s.c.kB v with
   |none=>exact⟨_,rfl⟩
   |some d=>exact⟨_,rfl⟩
  rw[A] at c3;have bN:=U A;clear A;refine wp_region_still_tail 8 (by kernel_rfl) (by kernel_rfl) ?_;simp only[List.take_succ_cons,List.take_zero,List.drop_succ_cons,List.drop_zero]
  iterate 5 still_step
  still_call ((cq.o _).mono (λ e w' h=>⟨h.1,h.2.symm⟩))
  iterate 2 still_step
  refine wpStill_nil ?_;change wpList _ _ _ _ _ V.drew;have bO:=U bf;have bg:Below W.heap.size W V.drew:=bd.o.drew;have Y:=U (show aT V.drew W.heap.size 3 [.int .i64 x]/\aT V.drew (W.heap.size+1) 3 [.int .i64 deep]/\aT V.drew (W.heap.size+1+1) 4 [.bool false] from aL.o);have au:=U bg;have cw:=U (B.o.below bg);have bI:V.drew.cell? ⟨W.heap.size,0,none⟩=some (.int .i64 x):=bI;have bL:V.drew.cell? ⟨W.heap.size+1,0,none⟩=some (.int .i64 deep):=bL;have aM:V.drew.cell? ⟨W.heap.size+1+1,0,none⟩=some (.bool false):=aM;have f7:V.drew.frozen? ⟨W.heap.size+1+1,0,none⟩=false:=f7;have aK:V.drew.heap.size=W.heap.size+1+1+1:=aK;clear bg bf bM bK f3 aN cv ao ct aL bd ae cr c3;have A:=bN.o;clear bN;generalize V.drew=t at*
  cases hw:mz s.c.kB v with
  |none=>
   rw[hw] at A;clear hw bO;have A:Value.pointer none=.pointer pv:=A;injection A with A
   subst A
   go_wp2_with fail
   have X:Below W.heap.size W (t.setCell ⟨W.heap.size+1+1,0,none⟩ (.bool false)):=au.o.setCell (p:=⟨W.heap.size+1+1,0,none⟩) (by simp;omega) _;exact BF (ds:=[]) (yes:=false) (mI:=W.heap.size+1+1) (nJ:=W.heap.size) rfl rfl (B.o.below X) (Aa _ X) ⟨h_,λ D h=>by cases h⟩ (Y.o.2.2.set 0 (.bool false)) (Y.o.1.kept (k8 _ _ _ _) (by simp;omega)) j.o.2.2.2.1 (λ e=>by cases e) (by have:=j.o;unfold maxLen;omega) (by have:=j.o;omega)
  |some d=>
   rw[hw] at A;have bP:=U hw;clear hw;have A:Value.pointer (some ⟨cb d,0,none⟩)=.pointer pv:=A;injection A with A
   subst A
   by_cases bQ:1000<deep
   ·have d1:decide (1000<deep)=true:=by simp;omega
    go_wp2_with fail
    have X:Below W.heap.size W (t.setCell ⟨W.heap.size+1+1,0,none⟩ (.bool false)):=au.o.setCell (p:=⟨W.heap.size+1+1,0,none⟩) (by simp;omega) _;exact BF (ds:=[]) (yes:=false) (mI:=W.heap.size+1+1) (nJ:=W.heap.size) rfl rfl (B.o.below X) (Aa _ X) ⟨h_,λ D h=>by cases h⟩ (Y.o.2.2.set 0 (.bool false)) (Y.o.1.kept (k8 _ _ _ _) (by simp;omega)) j.o.2.2.2.1 (λ e=>by cases e) (by have:=j.o;unfold maxLen;omega) (by have:=j.o;omega)
   ·have d1:decide (1000<deep)=false:=by simp;omega
    have cx:=U bQ;clear bQ
    go_upto_region 8 with fail
    have bR:=bO.o;rw[bP.o] at bR;obtain⟨ag,bh,bS⟩:=bR;have cV:m_.wrap (-x)= -x:=by rw[u_];have:=j.o.2.2.1.2;unfold aC at this;omega
    have cy:=U aK;clear aK
    go_wp2_with (go_at_call 183;refine(Df _ _ _).mono ?_;rintro e w1 ⟨rfl,rfl⟩;dsimp only)
    have aw:Below t.heap.size t ((t.alloc (.cells #[.pointer (some ⟨cb d,0,none⟩)] 164)).alloc (.cells #[.int .i64 (-x)] 3)):=(bz t (.cells #[.pointer (some ⟨cb d,0,none⟩)] 164)).trans ((bz _ (.cells #[.int .i64 (-x)] 3)).mono (by simp));have cz:((t.alloc (.cells #[.pointer (some ⟨cb d,0,none⟩)] 164)).alloc (.cells #[.int .i64 (-x)] 3)).cell? ⟨t.heap.size,0,none⟩=some (.pointer (some ⟨cb d,0,none⟩)):=by go_simp
    have cA:((t.alloc (.cells #[.pointer (some ⟨cb d,0,none⟩)] 164)).alloc (.cells #[.int .i64 (-x)] 3)).cell? ⟨t.heap.size+1,0,none⟩=some (.int .i64 (-x)):=by go_simp
    have cW:((t.alloc (.cells #[.pointer (some ⟨cb d,0,none⟩)] 164)).alloc (.cells #[.int .i64 (-x)] 3)).heap.size=t.heap.size+1+1:=by simp
    have bj:=U (au.o.trans (aw.mono au.o.size));have bk:=U (z_ (Y.o.1.below aw) (z_ (Y.o.2.1.below aw) (Y.o.2.2.below aw)));clear aw Y au cw;generalize (t.alloc (.cells #[.pointer (some ⟨cb d,0,none⟩)] 164)).alloc (.cells #[.int .i64 (-x)] 3)=al at*;have az:=U (B.o.below bj.o);have bT:aY (λ _=>False) base al G hs cb s:=⟨az.o.e,⟨λ b h=>h.elim,λ h=>h,λ r b _ h=>h,λ d ag h=>h⟩⟩
    obtain⟨bH,m1,cB,C⟩:=bT.yL ag (List.length_pos_of_mem bh);have bl:=cp.o.mF d ag;have cC:m1<=22:=by have:=bl.len;have:=C.len;omega
    have cX:=(B.o.e.rows.lt C.b).2;have cY:=(B.o.e.cls d ag).lt;have Z:=U (z_ ag (z_ bh (z_ bl (z_ cC (z_ C bS)))));have cD:bJ (bH≠bm):=U (λ e=>by
     obtain⟨cs,h1⟩:=vg (az.o.e.rows.row (kI d)) (g:=bH) (by rw[ax.own];exact C.b);obtain⟨es,cl,I⟩:=az.o.pn.BE;rw[e,I] at h1;cases h1)
    have J:=U (z_ bj.o.size (z_ B.o.pn.lt cy.o));have bU:∀(st:Bool),OwnFrom al.heap.size (λ(pre:List Int)(i:World)=>BG W s bm m Q x deep st pre i):=by
     rintro st pre bV bW row ⟨O,aa,h1,I,L,M,P,K,R,N⟩ af ah;exact⟨O,aa,yS h1 af (λ r e=>.inl (by have:=(ah r e).1;have:=J.o.1;omega)),I.kept af (λ e=>by have:=(ah bm e.symm).1;have:=J.o;omega),L,M.kept af (xT M (λ r e=>(ah r e).2)),P.kept af (xT P (λ r e=>(ah r e).2)),K.kept af (xT K (λ r e=>(ah r e).2)),R,N⟩
    have bn:=U bU;clear ag bh bl bU bS bT;refine(wpIn_wide (n:=6)).1 ?_;refine CM (F:=Fence.wide) (w0:=al) rfl (by omega) (gf:=224) (lb:= #[.pointer (some ⟨t.heap.size,0,none⟩),.pointer (some ⟨t.heap.size+1,0,none⟩)]) rfl trivial De
     (Dg (6-1) (by omega) t.heap.size (t.heap.size+1) (cb d) bH m1 cB (ay s.c.cl d) (-x) C.len (by omega) al cz cA C.ag C.kL (by omega) (by omega) (by have:=J.o;omega) (by have:=J.o;omega))
     (λ h k=>h.trans k) (λ V l o cZ hl ak bX _=>⟨λ v bo=>(q_ (w:=V) (d_ (by show t.heap.size+1≠l;omega))).trans bo,λ k v _ bo=>(q_ (w:=V) (d_ (by show bH≠l;have:=J.o;omega))).trans bo⟩) (n_ _ _) (λ _=>rfl)
     (λ(pre:List Int)(i:World)=>BG W s bm m Q x deep true pre i)
     (λ c pre i=>Lm W s bm m Q x deep c pre i)
     (bn.o true) (λ c pre bV bW row h af ah=>⟨h.1,bn.o false pre bV bW row h.2 af ah⟩) ⟨m,f,Aa _ bj.o,az.o.pn,az.o.snd,bk.o.1,bk.o.2.1,bk.o.2.2,λ _ y h=>absurd h List.not_mem_nil,by simp⟩
     ?a1 ?w1 ?assign ?kw1 ?body ?done ?stop
    case assign=>
     intro l pre y i c0 aP aQ cE
     gi_wp2
     exact cE
    case kw1=>
     intro pre y i aP;exact⟨b_ _ _,pe.refl _ _ _ _⟩
    case body=>
     rintro l pre y bY i aP ⟨o,cF,bZ,bX,b0,b1⟩ aQ c4;have cG:=bn.o true _ _ _ _ aP (show bY.grownBy i (some (al.heap.size+1)) by rw[bZ];exact grownBy_putObj' bY (al.heap.size+1) o) (λ r e=>by cases e;exact⟨by omega,cF,b0,b1⟩);clear aP bZ bX b0 b1;obtain⟨O,aa,h1,I,L,M,P,K,R,N⟩:=cG;have b2:y∈others (ay s.c.cl d) (-x):=aQ.subset (by simp);obtain⟨bp,b3⟩:=List.mem_filter.1 b2;have aA:gK s.c.n y:=Z.o.2.2.1.lt y bp;have b4:=Z.o.2.2.2.2.2 y bp (by rw[j.o.2.1];simpa using b3);obtain⟨aR,b5,b6,b7⟩:=pJ.1 b4;obtain⟨ab,aB⟩:∃v,aC y=v:=⟨_,rfl⟩
     have b8:ab<=s.c.n:=by have:=aA.2;omega
     have bq:bJ (∀w:World,Calls y_ 97 #[.int .i64 y] w λ e w'=>e=.returned (.int .i64 (ab:Int))/\w=w'):=U (λ w=>by have:=sV y w (by unfold aC at aB;omega) (by unfold aC at aB;omega);rw[aB] at this;exact this);have hlen:pre.length+1<=22:=by
      have aD:=aQ.length_le;have aS:(others (ay s.c.cl d) (-x)).length<=(ay s.c.cl d).length:=l_ _ _;have aN:=Z.o.2.2.2.2.1.len;have b9:=Z.o.2.2.2.1;rw[g_,k_] at aD;omega
     have u:=B.o.put h1 I L;obtain⟨g12,b',c5,f12⟩:=u.e.lV 16 12 rfl u.e.n12 (by omega);have cH:=u.e.zM b' (k:=ab) (by omega);obtain⟨g2,ca,aS,f2⟩:=u.e.lV 3 2 rfl u.e.kj (by have:=ad.o.o7;omega);have c2:=u.e.vF ca (k:=ab) (by have:=ad.o.o7;omega);have c6:(ab:Int)<(s.aO.length:Int):=by omega
     have c7:(ab:Int)<(s.c.lvl.length:Int):=by have:=ad.o.o7;omega
     have c8:i.cell? ⟨aH,0,none⟩=some (.pointer (some ⟨G,0,none⟩)):=u.p7.cell 0;have c9:i.cell? ⟨lX,0,none⟩=some (.func (.func 185) #[] #[.pointer (some ⟨lz,0,none⟩),.pointer (some ⟨aH,0,none⟩),.pointer (some ⟨lX,0,none⟩)]):=u.tC.cell 0;have da:i.cell? ⟨W.heap.size+1,0,none⟩=some (.int .i64 deep):=P.cell 0;have wd:m_.wrap (deep+1)=deep+1:=by rw[u_];omega
     obtain⟨an,br⟩:∃l,gZ s.c.lvl ab=l:=⟨_,rfl⟩
     obtain⟨cc,bs⟩:∃b,iE s.aO ab=b:=⟨_,rfl⟩
     rw[br] at c2;rw[bs] at cH;have hmul:(pre.length+1)*Q<=22*Q:=j_ Q hlen;have aU:(pre.length+1)*Q=pre.length*Q+Q:=Nat.succ_mul _ _;obtain⟨cd,bt⟩:∃cd,pre.length*Q=cd:=⟨_,rfl⟩
     rw[bt] at N aU;rw[aU] at hmul;have a:=U (z_ h1 (z_ I (z_ L (z_ M (z_ P (z_ K (z_ R N)))))));have S:=U (z_ aA (z_ aB (z_ b8 (z_ hlen (z_ br (z_ bs (z_ b5 (z_ b6 (z_ b7 (z_ hmul (z_ aU bt)))))))))));have u:=U u;have bu:bJ (O+24^(aR+1)<=4611686018427387904/\24^(aR+1)<=Q):=U (by
      have aD:24^(aR+1)<=24^p:=Nat.pow_le_pow_right (by omega) (by omega);rw[j.o.2.2.2.2.1] at aD;have aS:=j.o.2.2.2.2.2.2.2;exact⟨by omega,aD⟩)
     have bw:bJ (∀(aV:Nat)(aW:Int->Option Bool)(ai:World),W.grownBy ai (some bm)->mW 4 uj ai bm aV aW->(∀y,aW y=some true->qV s.c s.aO y)->aT ai W.heap.size 3 [.int .i64 x]->aT ai (W.heap.size+1) 3 [.int .i64 deep]->aT ai (W.heap.size+1+1) 4 [.bool false]->(cc=false->an≠0->qV s.c s.aO y)->aV<=O+Q->
       BG W s bm m Q x deep true (pre++[y]) ai):=U (λ aV aW ai a1 a2 a3 a4 a5 cI cJ db=>⟨aV,aW,a1,a2,a3,a4,a5,cI,λ _ z cK aX aZ=>(t_.1 cK).elim (λ h=>a.o.2.2.2.2.2.2.1 rfl z h aX aZ) (λ h=>by
        rw[s_] at h;subst h;exact cJ (by rw[<-S.o.2.2.2.2.2.1,<-S.o.2.1];exact aX) (by rw[<-S.o.2.2.2.2.1,<-S.o.2.1];exact aZ)),by rw[g_,k_,S.o.2.2.2.2.2.2.2.2.2.2.1];have:=a.o.2.2.2.2.2.2.2;omega⟩)
     clear h1 I L M P K R N aA aB b8 hlen br bs b5 b6 b7 hmul aU bt b2 bp b3 b4 b' ca f12 f2 aQ
     cases cc with
     |true=>
      gi_wp2_with (refine⟨trivial,?_⟩;gi_at_call 97;refine(i_ l (e_.2 (bq.o _))).mono ?_;rintro e w1 ⟨rfl,rfl⟩)
      refine⟨λ _ h=>(by cases h),?_⟩
      gi_wp2
      exact⟨b_ _ _,pe.refl _ _ _ _,bw.o O aa i a.o.1 a.o.2.1 a.o.2.2.1 a.o.2.2.2.1 a.o.2.2.2.2.1 a.o.2.2.2.2.2.1 (λ h=>by cases h) (by omega)⟩
     |false=>
      by_cases aA:0<an
      ·have d1:decide ((0:Int)<(an:Int))=true:=by simp;omega
       have cL:(0:Int)<(an:Int):=by omega
       have cf:=ba.o aR S.o.2.2.2.2.2.2.1 y (deep+1) i O aa (by have:=S.o.2.2.2.2.2.2.2.1;exact this) S.o.2.2.2.2.2.2.2.2.1 (by have:=cn.o;omega) (by have:=cx.o;omega) u.o bu.o.1
       gi_wp2_with (refine⟨trivial,?_⟩;gi_at_call 97;refine(i_ l (e_.2 (bq.o _))).mono ?_;rintro e w1 ⟨rfl,rfl⟩)
       refine⟨trivial,?_⟩
       gi_at_call 185
       refine(i_ l (e_.2 cf)).mono ?_;clear cf;rintro e w1 ⟨b,m2,cg,rfl,a6,a7,a8,a'⟩;dsimp only
       cases b with
       |true=>
        have q:=U (z_ a6 (z_ a7 (z_ a8 a')));clear a6 a7 a8 a'
        gi_wp2
        exact⟨Zy q.o.2.2.1 (λ r e=>by cases e;have:=J.o;omega),pe.F6 q.o.2.2.1 (λ e=>by injection e with e;have:=J.o;omega) (λ e=>by injection e with e;exact cD.o e),bw.o m2 cg w1 (yS a.o.1 q.o.2.2.1 (λ r e=>by cases e;exact .inr rfl)) q.o.2.1.pn q.o.2.1.snd (u.o.box q.o.2.2.1 a.o.2.2.2.1) (u.o.box q.o.2.2.1 a.o.2.2.2.2.1) (u.o.box q.o.2.2.1 a.o.2.2.2.2.2.1) (λ _ _=>q.o.1 trivial) (by have:=q.o.2.2.2;have:=bu.o.2;omega)⟩
       |false=>
        have q:=U (z_ a6 (z_ a7 (z_ a8 a')));clear a6 a7 a8 a';have bx:=U (u.o.box q.o.2.2.1 a.o.2.2.2.2.2.1);have aM:w1.cell? ⟨W.heap.size+1+1,0,none⟩=some (.bool false):=bx.o.cell 0;have f7:w1.frozen? ⟨W.heap.size+1+1,0,none⟩=false:=bx.o.free 0
        gi_wp2
        refine⟨(Zy q.o.2.2.1 (λ r e=>by cases e;have:=J.o;omega)).trans ((KeepsOthers.setCell _ _ _).from _),rfl,m2,cg,yS (yS a.o.1 q.o.2.2.1 (λ r e=>by cases e;exact .inr rfl)) (k8 _ _ _ _) (λ r e=>by cases e;exact .inl (by omega)),q.o.2.1.pn.setCell (λ e=>by have:=J.o;simp at e;omega) _,q.o.2.1.snd,(u.o.box q.o.2.2.1 a.o.2.2.2.1).kept (k8 _ _ _ _) (by simp;omega),(u.o.box q.o.2.2.1 a.o.2.2.2.2.1).kept (k8 _ _ _ _) (by simp),bx.o.set 0 (.bool false),(λ h=>absurd h (by decide)),?_⟩;rw[g_,k_,S.o.2.2.2.2.2.2.2.2.2.2.1];have:=q.o.2.2.2;have:=bu.o.2;have:=a.o.2.2.2.2.2.2.2;omega
      ·have d1:decide ((0:Int)<(an:Int))=false:=by simp;omega
       have cL:¬(0:Int)<(an:Int):=by omega
       gi_wp2_with (refine⟨trivial,?_⟩;gi_at_call 97;refine(i_ l (e_.2 (bq.o _))).mono ?_;rintro e w1 ⟨rfl,rfl⟩)
       refine⟨λ _ h=>(by cases h),?_⟩
       gi_wp2
       exact⟨b_ _ _,pe.refl _ _ _ _,bw.o O aa i a.o.1 a.o.2.1 a.o.2.2.1 a.o.2.2.2.1 a.o.2.2.2.2.1 a.o.2.2.2.2.2.1 (λ _ h=>absurd (Nat.pos_of_ne_zero h) aA) (by omega)⟩
    case done=>
     rintro D ys i cM rfl ⟨O,aa,h1,I,L,M,P,K,R,N⟩ aE;have hlen:(others (ay s.c.cl d) (-x)).length<=22:=by
      have aS:(others (ay s.c.cl d) (-x)).length<=(ay s.c.cl d).length:=l_ _ _;have aN:=Z.o.2.2.2.2.1.len;have b9:=Z.o.2.2.2.1;omega
     have hmul:(others (ay s.c.cl d) (-x)).length*Q<=22*Q:=j_ Q hlen;have ch:qV s.c s.aO x:=qV.mk x d (by rw[aI.o.1];exact bP.o) (λ y cN cO aX aZ=>R rfl y (List.mem_filter.2 ⟨cN,by simpa using cO⟩) aX aZ);have aM:i.cell? ⟨W.heap.size+1+1,0,none⟩=some (.bool false):=K.cell 0;have f7:i.frozen? ⟨W.heap.size+1+1,0,none⟩=false:=K.free 0;have H:=U (z_ h1 (z_ I (z_ L (z_ M (z_ K (z_ N (z_ hmul (z_ ch aE))))))));clear h1 I L M P K R N hmul ch aE hlen
     gi_wp2
     go_wp2_with fail
     have cj:W.grownBy (i.setCell ⟨W.heap.size+1+1,0,none⟩ (.bool true)) (some bm):=yS H.o.1 (k8 _ _ _ _) (λ r e=>by cases e;exact .inl (by omega));have cP:mW 4 uj (i.setCell ⟨W.heap.size+1+1,0,none⟩ (.bool true)) bm O aa:=H.o.2.1.setCell (λ e=>by have:=J.o;simp at e;omega) _;exact BF (ds:=[D]) (yes:=true) (mI:=W.heap.size+1+1) (nJ:=W.heap.size) rfl rfl (B.o.put cj cP H.o.2.2.1) cj ⟨by simp,λ E bA=>by
      obtain rfl:=s_.1 bA;refine⟨by have:=J.o;omega,?_⟩;exact((k8 i (W.heap.size+1+1) 0 (.bool true)).block E (Array.getElem?_eq_some_iff.1 H.o.2.2.2.2.2.2.2.2).1 (λ e=>by have:=J.o;injection e with e;omega)).trans H.o.2.2.2.2.2.2.2.2⟩ (H.o.2.2.2.2.1.set 0 (.bool true)) (H.o.2.2.2.1.kept (k8 _ _ _ _) (by simp;omega)) j.o.2.2.2.1 (λ _=>H.o.2.2.2.2.2.2.2.1) (by have:=j.o.2.2.2.2.2.2;have:=H.o.2.2.2.2.2.1;have:=H.o.2.2.2.2.2.2.1;unfold maxLen;omega) (by have:=j.o.2.2.2.2.2.2;have:=H.o.2.2.2.2.2.1;have:=H.o.2.2.2.2.2.2.1;omega)
    case stop=>
     rintro D dc pre i cM cQ ⟨rfl,O,aa,h1,I,L,M,P,K,R,N⟩ aE;have hlen:pre.length<=22:=by
      have aD:=cQ.length_le;have aS:(others (ay s.c.cl d) (-x)).length<=(ay s.c.cl d).length:=l_ _ _;have aN:=Z.o.2.2.2.2.1.len;have b9:=Z.o.2.2.2.1;omega
     have hmul:pre.length*Q<=22*Q:=j_ Q hlen;have H:=U (z_ h1 (z_ I (z_ L (z_ M (z_ K (z_ N (z_ hmul aE)))))));clear h1 I L M P K R N hmul aE hlen
     gi_wp2
     exact BF (ds:=[D]) (yes:=false) (mI:=W.heap.size+1+1) (nJ:=W.heap.size) rfl rfl (B.o.put H.o.1 H.o.2.1 H.o.2.2.1) H.o.1 ⟨by simp,λ E bA=>by
      obtain rfl:=s_.1 bA;exact⟨by have:=J.o;omega,H.o.2.2.2.2.2.2.2⟩⟩ H.o.2.2.2.2.1 H.o.2.2.2.1 j.o.2.2.2.1 (λ e=>by cases e) (by have:=j.o.2.2.2.2.2.2;have:=H.o.2.2.2.2.2.1;have:=H.o.2.2.2.2.2.2.1;unfold maxLen;omega) (by have:=j.o.2.2.2.2.2.2;have:=H.o.2.2.2.2.2.1;have:=H.o.2.2.2.2.2.2.1;omega)
end
section
open Go.RowKit Go.Shelf
noncomputable def Lp:Code:=(p_.body.bind λ c=>qo c 6).getD .skip
theorem lC.blk(h:lC K base w W G hs cb s ls X){r B:Nat}{v:Value}(hl:ls r=n9 B)(c:X r=[v]):aT W B (xO r) [v]:=by
 have h1:=h.rows.row r;rw[hl,c] at h1;rcases h1.2 with⟨b,_⟩|⟨g,cap,cur,b,_,d,_,_,e,f⟩
 ·cases b
 ·simp only[n9,ax.v] at b;injection b with a k i
  injection a with a
  injection a with a
  subst a;subst i;have:cur= #[v]:=by
   apply Array.toList_inj.1;have j:cur.toList.length=1:=by simpa using e
   rw[<-f,r_ (by rw[j];simp[n9])]
  show W.heap[B]? =_;rw[d,this]
structure qO(K:Nat->Prop)(base:Nat)(w W:World)(G:Nat)(hs:Nat->ax)(cb:Nat->Nat)(s:aq)(aH bN bO c8 bx lz lX bm m:Nat)(f:Int->Option Bool)(out mk:List Int)(op:Int)(iw:ax)(iU:List Value)(r:List Int)(ds:List Nat)(ls:Nat->ax)(X:Nat->List Value):Prop where
 aM:kR K base w W G hs cb s aH bN bO c8 bx out mk op iw iU ls X
 qm:ls 7=n9 lz
 mJ:X 7=[.map (some bm)]
 BH:ls 8=n9 lX
 BI:X 8=[.func (.func 185) #[] #[.pointer (some ⟨lz,0,none⟩),.pointer (some ⟨aH,0,none⟩),.pointer (some ⟨lX,0,none⟩)]]
 uk:X 9=jc r
 pn:mW 4 uj W bm m f
 snd:∀y,f y=some true->qV s.c s.aO y
 BJ:w.heap.size<=bm
 ms:oV w.heap.size W ds
section
variable {K:Nat->Prop}{base:Nat}{w W W' rI:World}{G:Nat}{hs:Nat->ax}{cb:Nat->Nat}{s:aq}{aH bN bO c8 bx lz lX bm m:Nat}{f:Int->Option Bool}{out mk:List Int}{op:Int}{iw:ax}{iU:List Value}{r:List Int}{ds:List Nat}{ls:Nat->ax}{X:Nat->List Value}
theorem qO.tC(h:qO K base w W G hs cb s aH bN bO c8 bx lz lX bm m f out mk op iw iU r ds ls X):rX base W G hs cb s lz aH lX bm m f:=
 ⟨h.aM.gm.fN.e,h.aM.gm.blk h.qm h.mJ,h.aM.gm.blk h.aM.nN h.aM.jE,h.aM.gm.blk h.BH h.BI,h.pn,h.snd⟩
theorem qO.put(h:qO K base w W G hs cb s aH bN bO c8 bx lz lX bm m f out mk op iw iU r ds ls X){lQ:Nat}{nC:Int->Option Bool}(a:W.grownBy W' (some bm))(hm:mW 4 uj W' bm lQ nC)(hs':∀y,nC y=some true->qV s.c s.aO y):qO K base w W' G hs cb s aH bN bO c8 bx lz lX bm lQ nC out mk op iw iU r ds ls X:=by
 obtain⟨es,cl,h1⟩:=h.pn.BE;refine⟨h.aM.tE (h.aM.gm.uL a (λ r e=>by cases e;exact⟨h.BJ,_,h1,rfl⟩)),h.qm,h.mJ,h.BH,h.BI,h.uk,hm,hs',h.BJ,h.ms.kept a (λ D b e=>?_)⟩;injection e with e
 subst e;rw[(h.ms.kL D b).2] at h1;cases h1
theorem qO.grow(h:qO K base w W G hs cb s aH bN bO c8 bx lz lX bm m f out mk op iw iU r ds ls X)(a:Below W.heap.size W W'):qO K base w W' G hs cb s aH bN bO c8 bx lz lX bm m f out mk op iw iU r ds ls X:=
 ⟨h.aM.grow a,h.qm,h.mJ,h.BH,h.BI,h.uk,h.pn.below a h.pn.lt,h.snd,h.BJ,h.ms.below a⟩
theorem qO.jU(h:qO K base w W G hs cb s aH bN bO c8 bx lz lX bm m f out mk op iw iU r ds ls X):(ls 9).n=r.length:=by have:=h.aM.gm.rows.len 9;rw[h.uk] at this;simpa[jc] using this.symm
theorem qO.app(h:qO K base w W G hs cb s aH bN bO c8 bx lz lX bm m f out mk op iw iU r ds ls X){x:Int}{v':Value}(c:nj W w.heap.size 3 (ls 9).v ((ls 9).n+1) ((r++[x]).map (Value.int .i64)) v' rI):
  ∃A' c' a g,v'=.slice A' ((ls 9).n+1) c'/\a 9=⟨A',(ls 9).n+1,c'⟩/\a 5=ls 5/\qO K base w rI G hs cb s aH bN bO c8 bx lz lX bm m f out mk op iw iU (r++[x]) ds a g:=by
 obtain⟨⟨A',i,c'⟩,rfl,b,o,j,k⟩:=h.aM.gm.app (r:=9) rfl c;have b:i=(ls 9).n+1:=b;subst b;obtain⟨es,cl,h1⟩:=h.pn.BE;have l:=c.2.1;refine⟨A',c',_,_,rfl,jO _ _ _,bk _ _ (by omega),⟨⟨j,?_,?_,?_,?_,?_,?_,?_,?_,?_,?_,?_,?_,?_,?_⟩,?_,?_,?_,?_,jO _ _ _,h.pn.kept l (λ e=>?_),h.snd,h.BJ,h.ms.others k⟩⟩
 all_goals first|(rw[bk _ _ (by omega)];first|exact h.aM.nN|exact h.aM.jE|exact h.aM.iu|exact h.aM.lW|exact h.aM.j7|exact h.aM.lD|exact h.aM.nu|exact h.aM.lu|exact h.aM.pP|exact h.aM.mH|exact h.aM.sX|exact h.aM.uP|exact h.qm|exact h.mJ|exact h.BH|exact h.BI)|skip
 ·rw[bk _ _ (by omega),bk _ _ (by omega)];exact h.aM.kz
 ·rw[bk _ _ (by omega),bk _ _ (by omega)];exact h.aM.kT
 ·obtain⟨cs,d⟩:=vg (h.aM.gm.rows.row 9) e.symm;rw[h1] at d;cases d
end
theorem Lr{f:Int->Option Bool}{u:Int}{go qp co:Nat}{oZ s0:Option Addr}{kG bf Ls:Nat}
  (C:vh F Fd aI n h kP) (H:qO K base w W G hs cb s aH bN bO c8 bx lz lX bm 0 f (u::aK) mk op iw iU [u] ds ls X) (q:ls 5=⟨some ⟨go,0,none⟩,qp+1,co⟩) (t:ls 9=⟨oZ,kG,bf⟩) (T:aK.length=qp) (a6:qp<=20) (Y:s.c=aI.c) (Z:s.aO=aO) (aa:aO.length=n+1) (ab:∀x∈aK,-x∈aI.c.av) (A:0<qp->s0=some ⟨go,1,none⟩)
  (ad:∀(m:Nat)(f:Int->Option Bool)(r:List Int)(a:Option Addr)(jU d:Nat)(ls:Nat->ax)(X:Nat->List Value)(gF bl lF gV gH gn aD aE u16 gp gq gr gG gu gv gw gx gy gz gA gB fO fP fQ u32 fR fS fT fU fV fW fZ ga gb gd gh gC gD ij hU ia bP bQ bR bS bT bU bV bW bX bY bZ b5 b6 b7 b8 u64 b9 cc cg ck cm cn cp cr ct cu cv cw cz cA cB cC cD cE cF cG cH c9 dc de dh di dm dn dr cK cL cM cN cO cQ cR cS cT cU cV cW cZ c4 c5 c6 c7 dw dx dy dz dA dB dD dF dG dH dI dJ dK dL dM dN dO dP dQ dR dS dU dV dW dX dY dZ ec ee ef aF aG aJ ei ej ek en eo ep er eu ew ey ez eA fJ fK fL eB eC eD eE eF eG eH eL eM eN eO eP eR eS eT eU eV eW eX eY eZ e3 e4 e5 e6 e7 e8 e9 fc fe ff fh fk fm fo fq gi gj fu fA fB fC fD fE fF:Value)(W':World),qO K base w W' G hs cb s aH bN bO c8 bx lz lX bm m f (u::aK) mk op iw iU (u::r) ds ls X->ls 9=⟨a,jU,d⟩->r.Sublist aK->(∀x∈aK,x∈r\/qV aI.c aO x)->Q (.exit 6) {tmps:= #[.pointer (some ⟨G,0,none⟩),gF,.pointer (some ⟨aH,0,none⟩),bl,.pointer (some ⟨bN,0,none⟩),.int .i64 0,.pointer (some ⟨bO,0,none⟩),.pointer (some ⟨bx,0,none⟩),.pointer (some ⟨c8,0,none⟩),lF,gV,gH,gn,aD,aE,.slice a jU d,u16,gp,gq,gr,gG,gu,gv,gw,gx,gy,gz,gA,gB,fO,fP,fQ,u32,fR,fS,fT,fU,fV,fW,fZ,ga,gb,gd,gh,gC,gD,ij,hU,ia,bP,bQ,bR,bS,bT,bU,bV,bW,bX,bY,bZ,b5,b6,b7,b8,u64,b9,cc,cg,ck,cm,cn,cp,cr,ct,cu,cv,cw,cz,cA,cB,cC,cD,cE,cF,cG,cH,c9,dc,de,dh,di,dm,dn,dr,cK,cL,cM,cN,cO,cQ,cR,cS,cT,cU,cV,cW,cZ,c4,c5,c6,c7,dw,dx,dy,dz,dA,dB,dD,dF,dG,dH,dI,dJ,dK,dL,dM,dN,dO,dP,dQ,dR,dS,dU,dV,dW,dX,dY,dZ,ec,ee,ef,aF,aG,aJ,ei,ej,ek,en,eo,ep,er,eu,ew,ey,ez,eA,fJ,fK,fL,eB,eC,eD,eE,eF,eG,eH,eL,eM,eN,eO,eP,eR,eS,eT,eU,eV,eW,eX,eY,eZ,e3,e4,e5,e6,e7,e8,e9,fc,fe,ff,fh,fk,fm,fo,fq,gi,gj,fu,fA,fB,fC,fD,fE,fF],defers:=ds.map oB} W'):
  Code.wp y_ Lp Q {tmps:= #[.pointer (some ⟨G,0,none⟩),gF,.pointer (some ⟨aH,0,none⟩),bl,.pointer (some ⟨bN,0,none⟩),.int .i64 0,.pointer (some ⟨bO,0,none⟩),.pointer (some ⟨bx,0,none⟩),.pointer (some ⟨c8,0,none⟩),lF,gV,gH,gn,.pointer (some ⟨lz,0,none⟩),.pointer (some ⟨lX,0,none⟩),.slice oZ kG bf,u16,gp,gq,gr,gG,gu,gv,gw,gx,gy,gz,gA,gB,fO,fP,fQ,u32,fR,fS,fT,fU,fV,fW,fZ,ga,gb,gd,gh,gC,gD,ij,hU,ia,bP,bQ,bR,bS,bT,bU,bV,bW,bX,bY,bZ,b5,b6,b7,b8,u64,b9,cc,cg,ck,cm,cn,cp,cr,ct,cu,cv,cw,cz,cA,cB,cC,cD,cE,cF,cG,cH,c9,dc,de,dh,di,dm,dn,dr,cK,cL,cM,cN,cO,cQ,cR,cS,cT,cU,cV,cW,cZ,c4,c5,c6,c7,dw,dx,dy,dz,dA,dB,dD,dF,dG,dH,dI,dJ,dK,dL,dM,dN,dO,dP,dQ,dR,dS,dU,dV,dW,dX,dY,dZ,ec,ee,ef,.slice s0 qp Ls,.int .i64 (qp:Int),.int .i64 0,ei,ej,ek,en,eo,ep,er,eu,ew,ey,ez,eA,fJ,fK,fL,eB,eC,eD,eE,eF,eG,eH,eL,eM,eN,eO,eP,eR,eS,eT,eU,eV,eW,eX,eY,eZ,e3,e4,e5,e6,e7,e8,e9,fc,fe,ff,fh,fk,fm,fo,fq,gi,gj,fu,fA,fB,fC,fD,fE,fF],defers:=ds.map oB} W:=by
 have aN:=U ad;have i:=U C;have aP:=U H;have V:=U (z_ q (z_ t (z_ T (z_ Y (z_ Z (z_ aa ab))))));have aQ:=U A;clear C H ad q t T Y Z aa ab A
 conv=>arg 2;whnf
 dsimp only
 go_loopw [15,143] (λ aR N W'=>∃(k m:Nat)(f:Int->Option Bool)(r:List Int)(a:Option Addr)(jU d:Nat)(ls:Nat->ax)(X:Nat->List Value),aR=.slice a jU d/\N=.int .i64 (k:Int)/\k<=qp/\qO K base w W' G hs cb s aH bN bO c8 bx lz lX bm m f (u::aK) mk op iw iU (u::r) ds ls X/\ls 9=⟨a,jU,d⟩/\ls 5=⟨some ⟨go,0,none⟩,qp+1,co⟩/\r.Sublist (aK.take k)/\(∀x∈aK.take k,x∈r\/qV aI.c aO x)/\m<=k*63403380965376) (λ _ N _=>qp-(intOf N).toNat)
 case atStart=>exact⟨0,0,f,[],oZ,kG,bf,ls,X,rfl,rfl,Nat.zero_le _,aP.o,V.o.2.1,V.o.1,by simp,λ x B=>by simp at B,w_ _⟩
 case round=>
  obtain⟨k,m,f,r,a,jU,d,ls,X,rfl,rfl,hk,ae,t,q,af,B,hm⟩:=hrel;have L:=U ae;have D:=U (z_ hk (z_ t (z_ q (z_ af (z_ B hm)))));clear hk t q af B hm ae
  by_cases E:k<qp
  ·have aS:(k:Int)<(qp:Int):=by omega
   have A:=aQ.o (by omega);subst A;obtain⟨x,I⟩:∃x,aj aK k=x:=⟨_,rfl⟩
   have v:k<aK.length:=by rw[V.o.2.2.1];exact E
   have ag:x∈aK:=by rw[<-I];exact lZ v
   have aT:wr.cell? ⟨go,1+k,none⟩=some (.int .i64 x):=by
    refine(L.o.aM.gm.kL (r:=5) (g:=go) (by rw[D.o.2.2.1];rfl) (k:=1+k) ?_).1;rw[L.o.aM.lW];unfold jc;rw[List.map_cons,Nat.add_comm,List.getElem?_cons_succ,f_,o_ v,<-I,ng v];rfl
   have aU:wr.cell? ⟨lX,0,none⟩=some (.func (.func 185) #[] #[.pointer (some ⟨lz,0,none⟩),.pointer (some ⟨aH,0,none⟩),.pointer (some ⟨lX,0,none⟩)]):=L.o.tC.tC.cell 0;obtain⟨p,hp,ah⟩:=qf.1 (V.o.2.2.2.2.2.2 x ag);have ai:=i.o.gR.aK.len;rw[i.o.iX] at ai;have ak:24^(p+1)<=63403380965376:=Nat.le_trans (Nat.pow_le_pow_right (by omega) (show p+1<=10 by have:=i.o.n10;omega)) (by decide);have al:=Lo (base:=base) (G:=G) (hs:=hs) (cb:=cb) (s:=s) (lz:=lz) (aH:=aH) (lX:=lX) (bm:=bm) (F:=F) (Fd:=Fd) (by rw[V.o.2.2.2.1];exact i.o.gR.aK) (by rw[V.o.2.2.2.1];exact i.o.gR.jN) (by rw[V.o.2.2.2.1,i.o.iX];exact i.o.n10) (by rw[V.o.2.2.2.2.1,V.o.2.2.2.2.2.1,V.o.2.2.2.1,i.o.iX]) p x 0 wr m f (by rw[V.o.2.2.2.1];exact hp) (by rw[V.o.2.2.2.1];exact ah) (Int.le_refl _) (by omega) L.o.tC (by have:=D.o.2.2.2.2.2;omega);have j:=U (z_ I (z_ v (z_ ak E)));have a7:m_.wrap ((k:Int)+1)=(k:Int)+1:=by rw[u_];omega
   clear I v ag hp ah ak E ai
   go_wp2_with fail
   refine al.mono ?_;clear al;rintro e w1 ⟨b,m2,f2,rfl,an,O,ao,ar⟩;dsimp only;have P:=U (L.o.put ao O.pn O.snd);have R:=U (z_ an ar);clear an O ao ar aT aU;have J:bJ (aK.take (k+1)=aK.take k++[x]):=U (by rw[yG j.o.2.1,j.o.1])
   cases b with
   |true=>
    go_wp2_with fail
    go_roundw
    case rel=>
     refine⟨k+1,m2,f2,r,a,jU,d,ls,X,rfl,by go_num,by have:=j.o;omega,P.o,D.o.2.1,D.o.2.2.1,?_,?_,by have:=R.o.2;have:=j.o.2.2.1;have:=D.o.2.2.2.2.2;omega⟩
     ·rw[J.o];exact D.o.2.2.2.1.trans (List.sublist_append_left _ _)
     ·rw[J.o];intro y S;rcases t_.1 S with h|h
      ·exact D.o.2.2.2.2.1 y h
      ·rw[s_] at h;subst h;have l:=R.o.1 rfl;rw[V.o.2.2.2.1,V.o.2.2.2.2.1] at l;exact .inr l
    case measure=>have:=j.o;simp[intOf];omega
   |false=>
    have M:=U (P.o.grow (bz w1 (mP [x])));have au:jU=(u::r).length:=by have:=P.o.jU;rw[D.o.2.1] at this;exact this
    have aw:r.length<=20:=by have h1:=D.o.2.2.2.1.length_le;rw[List.length_take] at h1;omega
    have aV:bJ ((w1.alloc (mP [x])).ownsRow w.heap.size 3 1 (.slice a jU d) jU ((u::r).map (Value.int .i64))):=U (by have:=M.o.aM.gm.rows.row 9;rw[D.o.2.1,M.o.uk] at this;exact this);have aW:=U (aL.lit w1 [x] 1 w1.heap.size rfl rfl (by omega));have aX:=U (z_ au aw);clear au aw
    go_wp2_with (at_builtin;refine qS rfl (.tmp 151) (.tmp 153) rfl w.heap.size (.slice a jU d) jU (u::r) rfl aV.o (some ⟨w1.heap.size,0,none⟩) 1 1 [x] rfl aW.o (by have:=aX.o;simp at this;omega) M.o.aM.gm.jr.size ?_;intro v9 bM ay;obtain⟨A',c',aY,aZ,rfl,az,aA,z⟩:=M.o.app (x:=x) (v':=v9) (by rw[D.o.2.1];exact ay);have z:=U (z_ z (z_ az aA));clear ay az aA)
    go_roundw
    case rel=>
     refine⟨k+1,m2,f2,r++[x],A',_,c',aY,aZ,rfl,by go_num,by have:=j.o;omega,z.o.1,z.o.2.1,by rw[z.o.2.2];exact D.o.2.2.1,?_,?_,by have:=R.o.2;have:=j.o.2.2.1;have:=D.o.2.2.2.2.2;omega⟩
     ·rw[J.o];exact D.o.2.2.2.1.append (List.Sublist.refl _)
     ·rw[J.o];intro y S;rcases t_.1 S with h|h
      ·rcases D.o.2.2.2.2.1 y h with l|l
       ·exact .inl (t_.2 (.inl l))
       ·exact .inr l
      ·exact .inl (t_.2 (.inr h))
    case measure=>have:=j.o;simp[intOf];omega
  ·have aS:¬(k:Int)<(qp:Int):=by omega
   have aB:k=qp:=by have:=D.o.1;omega
   have aC:=U aB;clear E aB
   go_wp2_with fail
   apply aN.o
   ·exact L.o
   ·exact D.o.2.1
   ·have:=D.o.2.2.2.1;rwa[aC.o,r_ (by rw[V.o.2.2.1];exact w_ _)] at this
   ·have:=D.o.2.2.2.2.1;rwa[aC.o,r_ (by rw[V.o.2.2.1];exact w_ _)] at this
end
section
open Go.RowKit Go.Shelf
noncomputable def Lt:Code:=(p_.body.bind λ c=>qo c 8).getD .skip
structure rY(K:Nat->Prop)(base:Nat)(w W:World)(G:Nat)(hs:Nat->ax)(cb:Nat->Nat)(s:aq)(aH bN bO c8 bx:Nat)(out mk:List Int)(op:Int)(iw:ax)(iU:List Value)(r:List Int)(ds:List Nat)(ls:Nat->ax)(X:Nat->List Value):Prop where
 aM:kR K base w W G hs cb s aH bN bO c8 bx out mk op iw iU ls X
 uk:X 9=jc r
 ms:oV w.heap.size W ds
theorem rY.grow{K:Nat->Prop}{base:Nat}{w W W':World}{G:Nat}{hs:Nat->ax}{cb:Nat->Nat}{s:aq}{aH bN bO c8 bx:Nat}{out mk:List Int}{op:Int}{iw:ax}{iU:List Value}{r:List Int}{ds:List Nat}{ls:Nat->ax}{X:Nat->List Value}(h:rY K base w W G hs cb s aH bN bO c8 bx out mk op iw iU r ds ls X)(a:Below W.heap.size W W'):rY K base w W' G hs cb s aH bN bO c8 bx out mk op iw iU r ds ls X:=
 ⟨h.aM.grow a,h.uk,h.ms.below a⟩
theorem rY.wG{K:Nat->Prop}{base:Nat}{w W:World}{G:Nat}{hs:Nat->ax}{cb:Nat->Nat}{s:aq}{aH bN bO c8 bx:Nat}{out mk:List Int}{op:Int}{iw:ax}{iU:List Value}{r:List Int}{ds:List Nat}{ls:Nat->ax}{X:Nat->List Value}(h:rY K base w W G hs cb s aH bN bO c8 bx out mk op iw iU r ds ls X){g:Nat}(a:(hs 12).b=some g)(v:Nat)(b:Bool):rY K base w (W.setCell ⟨g,v,none⟩ (.bool b)) G hs cb (s.sU v b) aH bN bO c8 bx out mk op iw iU r ds ls X:=by
 have e:=h.aM.gm.back (h.aM.gm.call.wG a v b).1 (h.aM.gm.call.wG a v b).2;exact⟨h.aM.tE e.1,h.uk,h.ms.others e.2⟩
theorem Lu{l:List Bool}(hl:l.length=n)(h:∀v,iE l v=false):l=x_ n false:=by
 refine List.ext_getElem (by simp[hl]) (λ k h1 a=>?_);rw[<-A2 h1,h k,List.getElem_replicate]
theorem Lv{aU:Option Addr}{bq aP:Nat}{iG:Option Addr}{jU ig:Nat}
  (H:rY K base w W G hs cb s aH bN bO c8 bx out mk op iw iU r ds ls X) (g:ls 6=⟨aU,bq,aP⟩) (ab:bq<=1000) (q:s.aO=aO) (t:∀z:Int,z∈mk↔∃v:Nat,z=v/\iE aO v=true)
  (y:∀(gF bl lF gV gH gn iy gI u16 gp gq gr gG gu gv gw gx gy gz gA gB fO fP fQ u32 fR fS fT fU fV fW fZ ga gb gd gh gC gD ij hU ia bP bQ bR bS bT bU bV bW bX bY bZ b5 b6 b7 b8 u64 b9 cc cg ck cm cn cp cr ct cu cv cw cz cA cB cC cD cE cF cG cH c9 dc de dh di dm dn dr cK cL cM cN cO cQ cR cS cT cU cV cW cZ c4 c5 c6 c7 dw dx dy dz dA dB dD dF dG dH dI dJ dK dL dM dN dO dP dQ dR dS dU dV dW dX dY dZ ec ee ef fG fH fI ei ej ek en eo ep er eu ew ey ez eA N O P eB eC eD eE eF eG eH eL eM eN eO eP eR eS eT eU eV eW eX eY eZ e3 e4 e5 e6 e7 e8 e9 fc fe ff fh fk fm fo fq gi gj fu fA fB fC fD fE fF:Value)(W':World),rY K base w W' G hs cb {s with aO:=x_ aO.length false} aH bN bO c8 bx out mk op iw iU r ds ls X->Q (.exit 8) {tmps:= #[.pointer (some ⟨G,0,none⟩),gF,.pointer (some ⟨aH,0,none⟩),bl,.pointer (some ⟨bN,0,none⟩),.int .i64 0,.pointer (some ⟨bO,0,none⟩),.pointer (some ⟨bx,0,none⟩),.pointer (some ⟨c8,0,none⟩),lF,gV,gH,gn,iy,gI,.slice iG jU ig,u16,gp,gq,gr,gG,gu,gv,gw,gx,gy,gz,gA,gB,fO,fP,fQ,u32,fR,fS,fT,fU,fV,fW,fZ,ga,gb,gd,gh,gC,gD,ij,hU,ia,bP,bQ,bR,bS,bT,bU,bV,bW,bX,bY,bZ,b5,b6,b7,b8,u64,b9,cc,cg,ck,cm,cn,cp,cr,ct,cu,cv,cw,cz,cA,cB,cC,cD,cE,cF,cG,cH,c9,dc,de,dh,di,dm,dn,dr,cK,cL,cM,cN,cO,cQ,cR,cS,cT,cU,cV,cW,cZ,c4,c5,c6,c7,dw,dx,dy,dz,dA,dB,dD,dF,dG,dH,dI,dJ,dK,dL,dM,dN,dO,dP,dQ,dR,dS,dU,dV,dW,dX,dY,dZ,ec,ee,ef,fG,fH,fI,ei,ej,ek,en,eo,ep,er,eu,ew,ey,ez,eA,N,O,P,eB,eC,eD,eE,eF,eG,eH,eL,eM,eN,eO,eP,eR,eS,eT,eU,eV,eW,eX,eY,eZ,e3,e4,e5,e6,e7,e8,e9,fc,fe,ff,fh,fk,fm,fo,fq,gi,gj,fu,fA,fB,fC,fD,fE,fF],defers:=ds.map oB} W'):
  Code.wp y_ Lt Q {tmps:= #[.pointer (some ⟨G,0,none⟩),gF,.pointer (some ⟨aH,0,none⟩),bl,.pointer (some ⟨bN,0,none⟩),.int .i64 0,.pointer (some ⟨bO,0,none⟩),.pointer (some ⟨bx,0,none⟩),.pointer (some ⟨c8,0,none⟩),lF,gV,gH,gn,iy,gI,.slice iG jU ig,u16,gp,gq,gr,gG,gu,gv,gw,gx,gy,gz,gA,gB,fO,fP,fQ,u32,fR,fS,fT,fU,fV,fW,fZ,ga,gb,gd,gh,gC,gD,ij,hU,ia,bP,bQ,bR,bS,bT,bU,bV,bW,bX,bY,bZ,b5,b6,b7,b8,u64,b9,cc,cg,ck,cm,cn,cp,cr,ct,cu,cv,cw,cz,cA,cB,cC,cD,cE,cF,cG,cH,c9,dc,de,dh,di,dm,dn,dr,cK,cL,cM,cN,cO,cQ,cR,cS,cT,cU,cV,cW,cZ,c4,c5,c6,c7,dw,dx,dy,dz,dA,dB,dD,dF,dG,dH,dI,dJ,dK,dL,dM,dN,dO,dP,dQ,dR,dS,dU,dV,dW,dX,dY,dZ,ec,ee,ef,fG,fH,fI,ei,ej,ek,en,eo,ep,er,eu,ew,ey,ez,eA,.slice aU bq aP,.int .i64 (bq:Int),.int .i64 0,eB,eC,eD,eE,eF,eG,eH,eL,eM,eN,eO,eP,eR,eS,eT,eU,eV,eW,eX,eY,eZ,e3,e4,e5,e6,e7,e8,e9,fc,fe,ff,fh,fk,fm,fo,fq,gi,gj,fu,fA,fB,fC,fD,fE,fF],defers:=ds.map oB} W:=by
 have R:=U y;have S:=U H;have A:mk.length=bq:=by have:=H.aM.n6;rw[g] at this;exact this.symm
 have V:=U (z_ g (z_ q (z_ t A)));clear H y q t A
 conv=>arg 2;whnf
 dsimp only
 go_loopw [158] (λ x W'=>∃(k:Nat)(a:List Bool),x=.int .i64 (k:Int)/\k<=bq/\a.length=aO.length/\(∀v:Nat,iE a v=true->iE aO v=true/\¬(v:Int)∈mk.take k)/\rY K base w W' G hs cb {s with aO:=a} aH bN bO c8 bx out mk op iw iU r ds ls X) (λ x _=>bq-(intOf x).toNat)
 case atStart=>exact⟨0,aO,rfl,Nat.zero_le _,rfl,λ v h=>⟨h,by simp⟩,by rw[<-V.o.2.1];exact S.o⟩
 case round=>
  obtain⟨k,a,rfl,hk,B,C,E⟩:=hrel;have L:=U E;have D:=U (z_ hk (z_ B C));clear E hk B C
  by_cases i:k<bq
  ·have T:(k:Int)<(bq:Int):=by omega
   obtain⟨F,j,I⟩:=L.o.aM.gm.rows.addr (r:=6) (by rw[g];show bq≠0;omega);rw[g] at j;have j:aU=some ⟨F,0,none⟩:=j;subst j;have d:k<mk.length:=by rw[V.o.2.2.2];exact i
   obtain⟨v,f,l⟩:=(V.o.2.2.1 (aj mk k)).1 (lZ d);have ad:wr.cell? ⟨F,k,none⟩=some (.int .i64 (v:Int)):=by
    refine(L.o.aM.gm.kL I (k:=k) ?_).1;rw[L.o.aM.lD];unfold jc;rw[f_,o_ d,<-f,ng d];rfl
   have m:v<a.length:=by rw[D.o.2.1];exact Gu l
   have aR:=L.o.aM.aR;obtain⟨g12,n,J,f12⟩:=L.o.aM.gm.fN.e.lV 16 12 rfl L.o.aM.gm.fN.e.n12 (by show a.length≠0;omega);have ae:=f12 v;have af:=L.o.aM.gm.fN.e.zM n (k:=v) m;have ag:(v:Int)<(a.length:Int):=by omega
   have J:wr.cell? ⟨G,16,none⟩=some (.slice (some ⟨g12,0,none⟩) a.length (hs 12).c):=J;have ah:m_.wrap ((k:Int)+1)=(k:Int)+1:=by rw[u_];omega
   have b:=U (z_ i (z_ d (z_ f (z_ l (z_ m n)))));clear i d f l m n f12 I
   go_wp2_with fail
   have Y:=L.o.wG b.o.2.2.2.2.2 v false;go_roundw
   case rel=>
    refine⟨k+1,a.set v false,by go_num,by have:=b.o.1;omega,by rw[List.length_set];exact D.o.2.1,λ u hu=>?_,Y⟩;rw[zw] at hu;split at hu
    ·cases hu
    ·rename_i Z;obtain⟨h1,p⟩:=D.o.2.2 u hu;refine⟨h1,λ hm=>?_⟩;rw[yG b.o.2.1,t_,s_,b.o.2.2.1] at hm;rcases hm with hm|hm
     ·exact p hm
     ·exact Z ⟨by omega,b.o.2.2.2.2.1⟩
   case measure=>have:=b.o;simp[intOf];omega
  ·have T:¬(k:Int)<(bq:Int):=by omega
   have M:k=bq:=by have:=D.o.1;omega
   have aa:=U M;clear i M
   go_wp2_with fail
   apply R.o;have e:a=x_ aO.length false:=Lu D.o.2.1 (λ v=>by
    cases f:iE a v with
    |false=>rfl
    |true=>
     obtain⟨h1,p⟩:=D.o.2.2 v f;refine absurd ?_ p;rw[aa.o,r_ (by rw[V.o.2.2.2];exact w_ _)];exact(V.o.2.2.1 _).2 ⟨v,rfl,h1⟩)
   rw[<-e];exact L.o
noncomputable def Lw:Code:=(p_.body.bind λ c=>qo c 10).getD .skip
theorem rY.swap(h:rY K base w W G hs cb s aH bN bO c8 bx out mk op iw iU r ds ls X){g:Nat}(a:(ls 9).b=some g)(i:Nat):
  ∃c,rY K base w ((W.setCell ⟨g,1,none⟩ (.int .i64 (aj r i))).setCell ⟨g,i,none⟩ (.int .i64 (aj r 1))) G hs cb s aH bN bO c8 bx out mk op iw iU (kQ r 1 i) ds ls c:=by
 obtain⟨d,e⟩:=h.aM.gm.set a 1 (.int .i64 (aj r i));obtain⟨f,j⟩:=d.set a i (.int .i64 (aj r 1));refine⟨_,⟨f,h.aM.nN,?_,h.aM.iu,?_,?_,h.aM.j7,?_,?_,h.aM.nu,?_,h.aM.pP,?_,h.aM.sX,?_⟩,?_,(h.ms.others e).others j⟩
 all_goals first|(rw[bk _ _ (by omega),bk _ _ (by omega)];first|exact h.aM.jE|exact h.aM.kz|exact h.aM.lW|exact h.aM.kT|exact h.aM.lD|exact h.aM.lu|exact h.aM.mH|exact h.aM.uP)|skip
 rw[jO,jO,h.uk];unfold kQ jc;rw[List.map_set,List.map_set]
theorem Lx{l6:List Int}{mX kM lR:Nat}
  (H:rY K base w W G hs cb s aH bN bO c8 bx out mk op iw iU l6 ds ls X) (C:ls 9=⟨some ⟨mX,0,none⟩,kM,lR⟩) (Z:1<=kM) (aW:kM<=1000) (aX:n<=60000) (aa:l6.Nodup) (ab:0<s.c.st.length) (ad:s.c.st.length<=1000000) (f:∀x∈l6,gK n x) (ae:s.c.lvl.length=n+1) (af:∀x∈l6,x≠aj l6 0->1<=bh s.c x/\bh s.c x<s.c.st.length)
  (ah:∀(level:Nat)(r:List Int)(X:Nat->List Value)(gF bl lF gV gH gn iy gI u16 gp gq gr aE gu gv gw gx gy gz gA gB fO fP fQ u32 fR fS fT fU fV fW fZ ga gb gd gh gC gD ij hU ia bP bQ bR bS bT bU bV bW bX bY bZ b5 b6 b7 b8 u64 b9 cc cg ck cm cn cp cr ct cu cv cw cz cA cB cC cD cE cF cG cH c9 dc de dh di dm dn dr cK cL cM cN cO cQ cR cS cT cU cV cW cZ c4 c5 c6 c7 dw dx dy dz dA dB dD dF dG dH dI dJ dK dL dM dN dO dP dQ dR dS dU dV dW dX dY dZ ec ee ef fG fH fI ei ej ek en eo ep er eu ew ey ez eA fJ fK fL eB eC eD eE eF eG eH eL eM eN eO eP eR eS eT eU eV eW eX eY eZ e3 e4 e5 e6 e7 e8 e9 fc fe ff fh fk fm fo fq gi gj fu fA fB fC fD fE fF:Value)(W':World),rY K base w W' G hs cb s aH bN bO c8 bx out mk op iw iU r ds ls X->nF s.c l6 kM level r->Q (.exit 10) {tmps:= #[.pointer (some ⟨G,0,none⟩),gF,.pointer (some ⟨aH,0,none⟩),bl,.pointer (some ⟨bN,0,none⟩),.int .i64 (level:Int),.pointer (some ⟨bO,0,none⟩),.pointer (some ⟨bx,0,none⟩),.pointer (some ⟨c8,0,none⟩),lF,gV,gH,gn,iy,gI,.slice (some ⟨mX,0,none⟩) kM lR,u16,gp,gq,gr,aE,gu,gv,gw,gx,gy,gz,gA,gB,fO,fP,fQ,u32,fR,fS,fT,fU,fV,fW,fZ,ga,gb,gd,gh,gC,gD,ij,hU,ia,bP,bQ,bR,bS,bT,bU,bV,bW,bX,bY,bZ,b5,b6,b7,b8,u64,b9,cc,cg,ck,cm,cn,cp,cr,ct,cu,cv,cw,cz,cA,cB,cC,cD,cE,cF,cG,cH,c9,dc,de,dh,di,dm,dn,dr,cK,cL,cM,cN,cO,cQ,cR,cS,cT,cU,cV,cW,cZ,c4,c5,c6,c7,dw,dx,dy,dz,dA,dB,dD,dF,dG,dH,dI,dJ,dK,dL,dM,dN,dO,dP,dQ,dR,dS,dU,dV,dW,dX,dY,dZ,ec,ee,ef,fG,fH,fI,ei,ej,ek,en,eo,ep,er,eu,ew,ey,ez,eA,fJ,fK,fL,eB,eC,eD,eE,eF,eG,eH,eL,eM,eN,eO,eP,eR,eS,eT,eU,eV,eW,eX,eY,eZ,e3,e4,e5,e6,e7,e8,e9,fc,fe,ff,fh,fk,fm,fo,fq,gi,gj,fu,fA,fB,fC,fD,fE,fF],defers:=ds.map oB} W'):
  Code.wp y_ Lw Q {tmps:= #[.pointer (some ⟨G,0,none⟩),gF,.pointer (some ⟨aH,0,none⟩),bl,.pointer (some ⟨bN,0,none⟩),.int .i64 0,.pointer (some ⟨bO,0,none⟩),.pointer (some ⟨bx,0,none⟩),.pointer (some ⟨c8,0,none⟩),lF,gV,gH,gn,iy,gI,.slice (some ⟨mX,0,none⟩) kM lR,u16,gp,gq,gr,.int .i64 1,gu,gv,gw,gx,gy,gz,gA,gB,fO,fP,fQ,u32,fR,fS,fT,fU,fV,fW,fZ,ga,gb,gd,gh,gC,gD,ij,hU,ia,bP,bQ,bR,bS,bT,bU,bV,bW,bX,bY,bZ,b5,b6,b7,b8,u64,b9,cc,cg,ck,cm,cn,cp,cr,ct,cu,cv,cw,cz,cA,cB,cC,cD,cE,cF,cG,cH,c9,dc,de,dh,di,dm,dn,dr,cK,cL,cM,cN,cO,cQ,cR,cS,cT,cU,cV,cW,cZ,c4,c5,c6,c7,dw,dx,dy,dz,dA,dB,dD,dF,dG,dH,dI,dJ,dK,dL,dM,dN,dO,dP,dQ,dR,dS,dU,dV,dW,dX,dY,dZ,ec,ee,ef,fG,fH,fI,ei,ej,ek,en,eo,ep,er,eu,ew,ey,ez,eA,fJ,fK,fL,eB,eC,eD,eE,eF,eG,eH,eL,eM,eN,eO,eP,eR,eS,eT,eU,eV,eW,eX,eY,eZ,e3,e4,e5,e6,e7,e8,e9,fc,fe,ff,fh,fk,fm,fo,fq,gi,gj,fu,fA,fB,fC,fD,fE,fF],defers:=ds.map oB} W:=by
 have aF:=U ah;have aG:=U H;have E:l6.length=kM:=by have:=H.aM.gm.rows.len 9;rw[H.uk,C] at this;simpa[jc] using this
 have V:=U (z_ C (z_ Z (z_ aa (z_ ab (z_ ad (z_ f (z_ ae (z_ af E))))))));clear H ah C aa ab ad f ae af E
 conv=>arg 2;whnf
 dsimp only
 go_loopw [5,20] (λ aI F W'=>∃(k level:Nat)(r:List Int)(X:Nat->List Value),aI=.int .i64 (level:Int)/\F=.int .i64 (k:Int)/\1<=k/\k<=kM/\nF s.c l6 k level r/\rY K base w W' G hs cb s aH bN bO c8 bx out mk op iw iU r ds ls X) (λ _ F _=>kM-(intOf F).toNat)
 case atStart=>exact⟨1,0,l6,X,rfl,rfl,w_ _,Z,nF.start V.o.2.2.1 V.o.2.2.2.1,aG.o⟩
 case round=>
  obtain⟨k,level,r,X,rfl,rfl,ai,hk,I,ak⟩:=hrel;have L:=U ak;have D:=U (z_ ai (z_ hk I));have E:r.length=kM:=I.len.trans V.o.2.2.2.2.2.2.2.2;clear ak hk I ai
  by_cases f:k<kM
  ·have aJ:(k:Int)<(kM:Int):=by omega
   have t:k<r.length:=by omega
   obtain⟨x,d⟩:∃x,aj r k=x:=⟨_,rfl⟩
   have J:x∈l6:=(D.o.2.2.mem x).1 (by rw[<-d];exact lZ t);have al:=V.o.2.2.2.2.2.1 x J;have an:(ls 9).b=some mX:=by rw[V.o.1];rfl
   have M:∀j,j<kM->wr.cell? ⟨mX,j,none⟩=some (.int .i64 (aj r j))/\wr.frozen? ⟨mX,j,none⟩=false:=λ j aY=>L.o.aM.gm.kL an (k:=j) (by
    rw[L.o.uk];unfold jc;rw[f_,o_ (by omega),ng (by omega)];rfl)
   have i:=(M k f).1;rw[d] at i;have aR:=L.o.aM.aR;obtain⟨v,m⟩:∃v,aC x=v:=⟨_,rfl⟩
   have aK:v<=n:=by have:=al.2;omega
   have aL:bJ (∀w:World,Calls y_ 97 #[.int .i64 x] w λ e w'=>e=.returned (.int .i64 (v:Int))/\w=w'):=U (λ w=>by have:=sV x w (by unfold aC at m;omega) (by unfold aC at m;omega);rw[m] at this;exact this);obtain⟨g2,ao,aN,f2⟩:=L.o.aM.gm.fN.e.lV 3 2 rfl L.o.aM.gm.fN.e.kj (by have:=V.o;omega);have c2:=L.o.aM.gm.fN.e.vF ao (k:=v) (by have:=V.o;omega);have aZ:(v:Int)<(s.c.lvl.length:Int):=by have:=V.o;omega
   obtain⟨y,N⟩:∃y,gZ s.c.lvl v=y:=⟨_,rfl⟩
   rw[N] at c2;have a6:m_.wrap ((k:Int)+1)=(k:Int)+1:=by rw[u_];omega
   have O:bh s.c (aj r k)=y:=by rw[d];show gZ s.c.lvl (aC x)=y;rw[m,N]
   have ar:x≠aj l6 0:=by
    rw[<-d,<-D.o.2.2.ag];intro e;have:=uH D.o.2.2.nc t (by omega) e;have:=D.o.1;omega
   have P:=V.o.2.2.2.2.2.2.2.1 x J ar;rw[show bh s.c x=y by rw[<-O,d]] at P;have a:=U (z_ d (z_ t (z_ f (z_ O (z_ P M)))));clear d t J al m aK N O ar P ao f2 M an
   go_wp2_with fail
   refine wp_region_still_tail 11 (by kernel_rfl) (by kernel_rfl) ?_;simp only[List.take_succ_cons,List.take_zero,List.drop_succ_cons,List.drop_zero]
   iterate 8 still_step
   still_call ((aL.o _).mono (λ e w' h=>⟨h.1,h.2.symm⟩))
   iterate 2 still_step
   refine wpStill_nil ?_;change wpList _ _ _ _ _ wr.drew;have R:=U (L.o.grow ((n_ _ wr).drew));have i:wr.drew.cell? ⟨mX,k,none⟩=some (.int .i64 x):=i;have c1:wr.drew.cell? ⟨mX,1,none⟩=some (.int .i64 (aj r 1)):=(a.o.2.2.2.2.2 1 (by have:=D.o;have:=a.o.2.2.1;omega)).1;have f1:wr.drew.frozen? ⟨mX,1,none⟩=false:=(a.o.2.2.2.2.2 1 (by have:=D.o;have:=a.o.2.2.1;omega)).2;have au:wr.drew.frozen? ⟨mX,k,none⟩=false:=(a.o.2.2.2.2.2 k a.o.2.2.1).2;have aO:(1:Int)<(kM:Int):=by have:=D.o;have:=a.o.2.2.1;omega
   clear aR aN c2;generalize wr.drew=av at*
   by_cases A:level<y
   ·have d1:decide ((level:Int)<(y:Int))=true:=by simp;omega
    have aP:(level:Int)<(y:Int):=by omega
    have B:=U A;clear A;obtain⟨z,S⟩:∃z,aj r 1=z:=⟨_,rfl⟩
    rw[S] at c1;have aw:=U S;clear S
    by_cases ay:k=1
    ·subst ay;obtain rfl:z=x:=by rw[<-aw.o,a.o.1]
     go_upto_region 46 with fail
     clear au i
     go_region_held3 (λ w'=>w'.cell? ⟨mX,1,none⟩=some (.int .i64 z)/\w'.frozen? ⟨mX,1,none⟩=false) (first|exact⟨c1,f1⟩|(refine⟨?_,?_⟩<;>go_simp)) (fail)
     all_goals
      go_wp2_with fail
      obtain⟨T,p⟩:=R.o.swap (g:=mX) (by rw[V.o.1];rfl) 1;rw[a.o.1] at p;go_roundw
      case rel=>
       refine⟨1+1,y,_,T,rfl,by go_num,by omega,by have:=a.o.2.2.1;omega,?_,p.grow ((n_ _ _).drew)⟩;have:=D.o.2.2.ja D.o.1 a.o.2.1 (by rw[a.o.2.2.2.1];exact B.o) (by rw[a.o.2.2.2.1];exact a.o.2.2.2.2.1.2);rw[a.o.2.2.2.1] at this;exact this
      case measure=>have:=a.o;simp[intOf];omega
    ·have az:1≠k:=λ e=>ay e.symm
     have aQ:¬1=k:=az
     go_upto_region 46 with fail
     have aA:(k:Int)<(kM:Int):=by have:=a.o.2.2.1;omega
     refine z1 (rV p_ 46) 13 11 12 204 [some 190,some 191,some 192,some 193,some 194,some 195,some 196,some 197,some 198,some 199,some 200,none,some 201,none] _ [(15,.slice (some ⟨mX,0,none⟩) kM lR),(20,.int .i64 (k:Int))] (λ _=>True) [.slice (some ⟨mX,0,none⟩) kM lR,.slice (some ⟨mX,0,none⟩) kM lR,.int .i64 (k:Int),.slice (some ⟨mX,0,none⟩) kM lR,.int .i64 (k:Int),.pointer (some ⟨mX,k,none⟩),.int .i64 x,.slice (some ⟨mX,0,none⟩) kM lR,.pointer (some ⟨mX,1,none⟩),.int .i64 z,.pointer (some ⟨mX,1,none⟩),undef,undef] (av.drew.setCell ⟨mX,1,none⟩ (.int .i64 x)) (λ v w'=>v=.pointer (some ⟨mX,k,none⟩)/\w'=(av.drew.setCell ⟨mX,1,none⟩ (.int .i64 x))) (by kernel_rfl) (by kernel_rfl) (by kernel_rfl) rfl (by kernel_rfl) (by kernel_rfl) rfl ⟨rfl,rfl,trivial⟩ trivial trivial (λ _ _ _=>trivial) (λ l ag Y hp=>?_) (λ l ag Y hp=>?_) ?_ ?_
     ·have h1:l (.tmp 200)=.pointer (some ⟨mX,1,none⟩):=ag.1 rfl (by decide) (by decide) _ rfl;have q:l (.tmp 196)=.int .i64 x:=ag.2.1 rfl (by decide) (by decide) _ rfl;show bD _ _ (Oper.mk _ _ _ _ _ _) _ _;simp[bD,execOp,gL,go_sem,h1,q,c1,f1]
     ·have h1:l (.tmp 191)=.slice (some ⟨mX,0,none⟩) kM lR:=ag.1 rfl (by decide) (by decide) _ rfl;have q:l (.tmp 192)=.int .i64 (k:Int):=ag.2.1 rfl (by decide) (by decide) _ rfl;show bD _ _ (Oper.mk _ _ _ _ _ _) _ _;simp[bD,execOp,gL,go_sem,h1,q,aA]
     ·refine⟨?_,?_,?_,?_,?_,?_,?_,?_,?_,?_,?_,?_,?_,trivial⟩
      all_goals
       intro h1 q l w _ aS ag Y hp
       first
        |exact absurd rfl h1
        |exact absurd rfl q
        |(obtain⟨aT,aU,-⟩:=Y;(try obtain rfl:=aS rfl);(try simp[oW,qY,Region.binds] at ag);simp[bD,execOp,gL,go_sem,aT,aU,ag,c1,i,aA,aO,hp.1];done)
     rintro u v w' ⟨rfl,rfl⟩ a7 aB;simp[ot,Act.put,kU] at aB;subst aB;rw[show((rV p_ 46).getD 13 default).dst=none from rfl];show bD _ _ (Oper.mk _ _ _ _ _ _) _ _;simp[bD,execOp,gL,go_sem,Act.eval,Act.put,i,au,az,aQ]
     iterate 1
      go_wp2_with fail
      obtain⟨T,p⟩:=R.o.swap (g:=mX) (by rw[V.o.1];rfl) k;rw[a.o.1,aw.o] at p;go_roundw
      case rel=>
       refine⟨k+1,y,_,T,rfl,by go_num,by omega,by have:=a.o.2.2.1;omega,?_,p.grow ((n_ _ _).drew)⟩;have:=D.o.2.2.ja D.o.1 a.o.2.1 (by rw[a.o.2.2.2.1];exact B.o) (by rw[a.o.2.2.2.1];exact a.o.2.2.2.2.1.2);rw[a.o.2.2.2.1] at this;exact this
      case measure=>have:=a.o;simp[intOf];omega
   ·have d1:decide ((level:Int)<(y:Int))=false:=by simp;omega
    have aP:¬(level:Int)<(y:Int):=by omega
    have B:=U A;clear A
    go_wp2_with fail
    go_roundw
    case rel=>
     exact⟨k+1,level,r,X,rfl,by go_num,by omega,by have:=a.o.2.2.1;omega,D.o.2.2.stay D.o.1 a.o.2.1 (by rw[a.o.2.2.2.1];have:=B.o;omega) (λ e=>by subst e;rw[a.o.2.2.2.1];exact a.o.2.2.2.2.1.1),R.o⟩
    case measure=>have:=a.o;simp[intOf];omega
  ·have aJ:¬(k:Int)<(kM:Int):=by omega
   have aD:k=kM:=by have:=D.o;omega
   have aV:=U aD;clear f aD
   go_wp2_with fail
   apply aF.o
   ·exact L.o
   ·rw[<-aV.o];exact D.o.2.2
def GF(K:Nat->Prop)(base:Nat)(w:World)(G:Nat)(hs:Nat->ax)(cb:Nat->Nat)(n:Nat)(a:Int)(F:List (List Int))(aI:aq)(e:Ending)(w':World):Prop:=
 ∃(bH c level:Nat)(l:List Int)(s':aq),e=.returned (.tuple #[.slice (some ⟨bH,0,none⟩) l.length c,.int .i64 (level:Int)])/\uI F aI.c l level/\aY K base w' G hs cb s'/\aG K w w'/\nW aI s'/\mo n jF (a+16*jF) s'/\
  w'.ownsRow base 3 1 (.slice (some ⟨bH,0,none⟩) l.length c) l.length (jc l)/\(bH≠G/\(∀r,(hs r).b≠some bH)/\∀d,d<s'.c.cl.length->cb d≠bH)/\¬K bH
def vi(lz aH lX:Nat):Value:=.func (.func 185) #[] #[.pointer (some ⟨lz,0,none⟩),.pointer (some ⟨aH,0,none⟩),.pointer (some ⟨lX,0,none⟩)]
theorem qO.make{V:World}(L:kR K base w V G hs cb s aH bN bO c8 bx out mk op iw iU ls X)(f:oV w.heap.size V ds)(u:Int):
  ∃a i,a 9=⟨some ⟨V.heap.size+1+1+1,0,none⟩,1,1⟩/\a 5=ls 5/\a 6=ls 6/\qO K base w ((((V.alloc (.map #[] 0)).alloc (.cells #[.map (some V.heap.size)] 114)).alloc (.cells #[vi (V.heap.size+1) aH (V.heap.size+1+1)] 129)).alloc (.cells #[.int .i64 u] 3)) G hs cb s aH bN bO c8 bx (V.heap.size+1) (V.heap.size+1+1) V.heap.size 0 DB out mk op iw iU [u] ds a i:=by
 have j:=L.gm.grow (bz V (.map #[] 0));have s1:(V.alloc (.map #[] 0)).heap.size=V.heap.size+1:=by simp
 have b:=j.box 7 (.map (some V.heap.size));rw[s1] at b;have b:lC K base w ((V.alloc (.map #[] 0)).alloc (.cells #[.map (some V.heap.size)] 114)) G hs cb s _ _:=b;have s2:((V.alloc (.map #[] 0)).alloc (.cells #[.map (some V.heap.size)] 114)).heap.size=V.heap.size+1+1:=by simp
 have c:=b.box 8 (vi (V.heap.size+1) aH (V.heap.size+1+1));rw[s2] at c;have c:lC K base w (((V.alloc (.map #[] 0)).alloc (.cells #[.map (some V.heap.size)] 114)).alloc (.cells #[vi (V.heap.size+1) aH (V.heap.size+1+1)] 129)) G hs cb s _ _:=c;have s3:(((V.alloc (.map #[] 0)).alloc (.cells #[.map (some V.heap.size)] 114)).alloc (.cells #[vi (V.heap.size+1) aH (V.heap.size+1+1)] 129)).heap.size=V.heap.size+1+1+1:=by simp
 have hw:=L.gm.jr.size;have k:=c.fresh (r:=9) (h':=⟨some ⟨V.heap.size+1+1+1,0,none⟩,1,1⟩) (ys:=jc [u]) (bz _ (.cells (jc [u]).toArray 3)) (by have:=Dh (((V.alloc (.map #[] 0)).alloc (.cells #[.map (some V.heap.size)] 114)).alloc (.cells #[vi (V.heap.size+1) aH (V.heap.size+1+1)] 129)) w.heap.size [u] 1 rfl (by omega) (by omega);rw[s3] at this;exact this) (λ g e=>by
  have d:some (V.heap.size+1+1+1)=some g:=e;injection d with d
  omega)
 have l:mW 4 uj ((((V.alloc (.map #[] 0)).alloc (.cells #[.map (some V.heap.size)] 114)).alloc (.cells #[vi (V.heap.size+1) aH (V.heap.size+1+1)] 129)).alloc (.cells #[.int .i64 u] 3)) V.heap.size 0 DB:=(((mW.made V).alloc _).alloc _).alloc _;have m:Below V.heap.size V ((((V.alloc (.map #[] 0)).alloc (.cells #[.map (some V.heap.size)] 114)).alloc (.cells #[vi (V.heap.size+1) aH (V.heap.size+1+1)] 129)).alloc (.cells #[.int .i64 u] 3)):=((((n_ _ V).alloc (w_ _) _).alloc (by simp) _).alloc (by omega) _).alloc (by omega) _;refine⟨_,_,jO _ _ _,?_,?_,⟨⟨k,?_,?_,?_,?_,?_,?_,?_,?_,?_,?_,?_,?_,?_,?_⟩,?_,?_,?_,?_,jO _ _ _,l,(λ y h=>by cases h),hw,f.below m⟩⟩
 ·rw[bk _ _ (by omega),bk _ _ (by omega),bk _ _ (by omega)]
 ·rw[bk _ _ (by omega),bk _ _ (by omega),bk _ _ (by omega)]
 ·rw[bk _ _ (by omega),bk _ _ (by omega),bk _ _ (by omega)];exact L.nN
 ·rw[bk _ _ (by omega),bk _ _ (by omega),bk _ _ (by omega)];exact L.jE
 ·rw[bk _ _ (by omega),bk _ _ (by omega),bk _ _ (by omega)];exact L.iu
 ·rw[bk _ _ (by omega),bk _ _ (by omega),bk _ _ (by omega),bk _ _ (by omega),bk _ _ (by omega),bk _ _ (by omega)];exact L.kz
 ·rw[bk _ _ (by omega),bk _ _ (by omega),bk _ _ (by omega)];exact L.lW
 ·rw[bk _ _ (by omega),bk _ _ (by omega),bk _ _ (by omega)];exact L.j7
 ·rw[bk _ _ (by omega),bk _ _ (by omega),bk _ _ (by omega),bk _ _ (by omega),bk _ _ (by omega),bk _ _ (by omega)];exact L.kT
 ·rw[bk _ _ (by omega),bk _ _ (by omega),bk _ _ (by omega)];exact L.lD
 ·rw[bk _ _ (by omega),bk _ _ (by omega),bk _ _ (by omega)];exact L.nu
 ·rw[bk _ _ (by omega),bk _ _ (by omega),bk _ _ (by omega)];exact L.lu
 ·rw[bk _ _ (by omega),bk _ _ (by omega),bk _ _ (by omega)];exact L.pP
 ·rw[bk _ _ (by omega),bk _ _ (by omega),bk _ _ (by omega)];exact L.mH
 ·rw[bk _ _ (by omega),bk _ _ (by omega),bk _ _ (by omega)];exact L.sX
 ·rw[bk _ _ (by omega),bk _ _ (by omega),bk _ _ (by omega)];exact L.uP
 ·rw[bk _ _ (by omega),bk _ _ (by omega),jO]
 ·rw[bk _ _ (by omega),bk _ _ (by omega),jO]
 ·rw[bk _ _ (by omega),jO]
 ·rw[bk _ _ (by omega),jO];rfl
theorem lC.shut{W':World}(h:lC K base w W G hs cb s ls X)(j:oV w.heap.size W ds)(a:Shut ds W W'):lC K base w W' G hs cb s ls X:=by
 have f:∀b cs t k,W.heap[b]? =some (Obj.cells cs t k)->W'.heap[b]? =W.heap[b]? :=λ b cs t k c=>a.block b (λ g=>by
  have h1:=(j.kL b g).2;rw[c] at h1;cases h1)
 have hblk:∀{b:Nat}{t:TypeId}{cs:List Value},aT W b t cs->aT W' b t cs:=λ l=>(f _ _ _ _ l).trans l
 refine⟨⟨⟨hblk h.fN.e.box,⟨λ r=>oS (h.fN.e.rows.row r) (λ b i=>?_),h.fN.e.rows.apart⟩,λ d m=>hblk (h.fN.e.cls d m),h.fN.e.inj,h.fN.e.qX,h.fN.e.rE⟩,h.fN.s.more (by rw[a.size];exact w_ _)⟩,⟨λ r=>oS (h.rows.row r) (λ b i=>?_),h.rows.apart⟩,⟨a.os.trans h.jr.os,a.tape.trans h.jr.tape,a.output.trans h.jr.output,by rw[a.size];exact h.jr.size,λ b hk=>(a.block b (λ g=>by have:=(j.kL b g).1;have:=h.kl b hk;omega)).trans (h.jr.keep b hk)⟩,h.kl⟩
 ·obtain⟨cs,c⟩:=vg (h.fN.e.rows.row r) i;exact f b _ _ _ c
 ·obtain⟨cs,c⟩:=vg (h.rows.row r) i;exact f b _ _ _ c
theorem Lz(tmps:Array Value)(a:Nat)(v v5:Value)(W:World)(b:tmps[4]? =some (.pointer (some ⟨a,0,none⟩)))(c:tmps[5]? =some v5)(d:W.cell? ⟨a,0,none⟩=some v):(results p_ tmps).run y_ W=.ok (.tuple #[v,v5]) W:=by
 rw[results_cell_tmp (p:=4) (u:=5) (ty:=25) rfl];simp[b,c,d,go_sem]
theorem LA{A:Option Addr}{gE c:Nat}{v:Value}(h:n=gE):Ending.returned (.tuple #[.slice A n c,v])=.returned (.tuple #[.slice A gE c,v]):=by rw[h]
noncomputable def LB:Code:=mU (mU (mU (mU (mU (mU (p_.body.getD .skip))))))
theorem LC{B:Int}{j:Nat}{gT:Value}
  (aG:base<=w.heap.size) (C:vh F Fd aI n h kP) (aJ:aI.aO=x_ (n+1) false) (aL:B<=kP+16*jF) (H:BB K base w W G hs cb n B F aI aH bN bO c8 bx op iw iU j ds s aO aK mk ls X):
  Code.wp y_ LB (bodyPostM Fence.wide 6 y_ p_ (GF K base w G hs cb n kP F aI)) {tmps:= #[.pointer (some ⟨G,0,none⟩),gF,.pointer (some ⟨aH,0,none⟩),bl,.pointer (some ⟨bN,0,none⟩),.int .i64 0,.pointer (some ⟨bO,0,none⟩),.pointer (some ⟨bx,0,none⟩),.pointer (some ⟨c8,0,none⟩),.int .i64 (aj aI.c.av j),gV,gH,gn,iy,gI,gT,u16,gp,gq,gr,gG,gu,gv,gw,gx,gy,gz,gA,gB,fO,fP,fQ,u32,fR,fS,fT,fU,fV,fW,fZ,ga,gb,gd,gh,gC,gD,ij,hU,ia,bP,bQ,bR,bS,bT,bU,bV,bW,bX,bY,bZ,b5,b6,b7,b8,u64,b9,cc,cg,ck,cm,cn,cp,cr,ct,cu,cv,cw,cz,cA,cB,cC,cD,cE,cF,cG,cH,c9,dc,de,dh,di,dm,dn,dr,cK,cL,cM,cN,cO,cQ,cR,cS,cT,cU,cV,cW,cZ,c4,c5,c6,c7,dw,dx,dy,dz,dA,dB,dD,dF,dG,dH,dI,dJ,dK,dL,dM,dN,dO,dP,dQ,dR,dS,dU,dV,dW,dX,dY,dZ,ec,ee,ef,fG,fH,fI,ei,ej,ek,en,eo,ep,er,eu,ew,ey,ez,eA,fJ,fK,fL,eB,eC,eD,eE,eF,eG,eH,eL,eM,eN,eO,eP,eR,eS,eT,eU,eV,eW,eX,eY,eZ,e3,e4,e5,e6,e7,e8,e9,fc,fe,ff,fh,fk,fm,fo,fq,gi,gj,fu,fA,fB,fC,fD,fE,fF],defers:=ds.map oB} W:=by
 have d:=U H;have i:=U C;have ak:=U (z_ aL (z_ aJ aG));have bL:∀(fn:Fn)(first cap:Array Value)(w:World),(c_ fn first cap).run y_ w=.ok (.func fn first cap) w:=λ _ _ _ _=>rfl
 have bM:= @run_makeMap y_;obtain⟨x,T⟩:∃x,aj aI.c.av j=x:=⟨_,rfl⟩
 have al:j<aI.c.av.length:=by have:=H.li.qK;omega
 have an:gK n x:=by have:=C.gR.aK.lit _ (lZ al);rw[T,C.iX] at this;exact this
 obtain⟨go,aN,ao⟩:=H.aM.gm.rows.addr (r:=5) (by rw[H.aM.kf];simp);have Y:ls 5=⟨some ⟨go,0,none⟩,aK.length+1,(ls 5).c⟩:=by
  have h1:=H.aM.kf;rw[v_] at h1;rw[<-h1,<-aN]
 have co:W.cell? ⟨bN,0,none⟩=some (.slice (some ⟨go,0,none⟩) (aK.length+1) (ls 5).c):=by have co:=H.aM.co.1;rw[Y] at co;exact co
 obtain⟨P,ar⟩:∃t,aK.length=t:=⟨_,rfl⟩
 obtain⟨au,aR⟩:∃t,(ls 5).c=t:=⟨_,rfl⟩
 rw[ar,aR] at co Y;have g0:=H.aM.gm.kL ao (k:=0) (v:=.int .i64 0) (by rw[H.aM.lW];rfl);have gc:=g0.1;have gf:=g0.2;have b0:m_.wrap (-x)= -x:=by rw[u_];have h1:=an.2;have z:=C.n10;unfold aC at h1;omega
 have l:=U (z_ T (z_ an (z_ al (z_ Y (z_ ao ar)))));rw[T];clear H C aL aJ T an al aN ao Y ar aR g0 aG
 conv=>arg 2;whnf
 dsimp only
 go_upto_region 25 with fail
 obtain⟨b1,E,aS⟩:=d.o.aM.K1 l.o.2.2.2.2.1 0 (-x);have aT:=d.o.ms.others aS;obtain⟨b2,b3,J,aU,aV,I⟩:=qO.make E aT (-x);have I:=U I;have aw:(W.setCell ⟨go,0,none⟩ (.int .i64 (-x))).cell? ⟨go,0,none⟩=some (.int .i64 (-x)):=(E.gm.kL l.o.2.2.2.2.1 (k:=0) (v:=.int .i64 (-x)) (by rw[E.lW];rfl)).1;have co:=E.co.1;rw[l.o.2.2.2.1] at co;have co:(W.setCell ⟨go,0,none⟩ (.int .i64 (-x))).cell? ⟨bN,0,none⟩=some (.slice (some ⟨go,0,none⟩) (P+1) au):=co;have bq:=(E.gm.lt l.o.2.2.2.2.1).2;have br:=(E.gm.lt E.aQ).2;have Q:=U (z_ J (z_ aU aV));clear E aS aT J aU aV gc gf;generalize W.setCell ⟨go,0,none⟩ (.int .i64 (-x))=V at*
 go_upto_region 28 with fail
 have Z:Below V.heap.size V (((V.alloc (.map #[] 0)).alloc (.cells #[.map (some V.heap.size)] 114)).alloc (.cells #[vi (V.heap.size+1) aH (V.heap.size+1+1)] 129)):=(((n_ _ V).alloc (w_ _) _).alloc (by simp) _).alloc (by simp;omega) _;have bs:(((V.alloc (.map #[] 0)).alloc (.cells #[.map (some V.heap.size)] 114)).alloc (.cells #[vi (V.heap.size+1) aH (V.heap.size+1+1)] 129)).heap.size=V.heap.size+1+1+1:=by simp
 unfold vi at I Z bs;have co:=(q_ (a:=⟨bN,0,none⟩) (Z.block bN br)).trans co;have aw:=(q_ (a:=⟨go,0,none⟩) (Z.block go bq)).trans aw;clear Z;generalize (((V.alloc (.map #[] 0)).alloc (.cells #[.map (some V.heap.size)] 114)).alloc (.cells #[.func (.func 185) #[] #[.pointer (some ⟨V.heap.size+1,0,none⟩),.pointer (some ⟨aH,0,none⟩),.pointer (some ⟨V.heap.size+1+1,0,none⟩)]] 129))=aW at*
 go_upto_region 29 with fail
 have aa:(aW.alloc (.cells #[.int .i64 (-x)] 3)).cell? ⟨bN,0,none⟩=some (.slice (some ⟨go,0,none⟩) (P+1) au):=by
  have aa:=I.o.aM.co.1;rw[Q.o.2.1,l.o.2.2.2.1] at aa;exact aa
 have bt:P+1<=au:=by
  have h1:=I.o.aM.gm.fN.e.rows;have z:=I.o.aM.gm.rows.row 5;rw[Q.o.2.1,l.o.2.2.2.1] at z;rcases z.2 with⟨ab,_⟩|⟨g,cap,cur,ab,_,_,ad,_⟩
  ·cases ab
  ·simp only[ax.v] at ab;injection ab with b4 b' ca
   have ad:P+1<=cap:=ad;omega
 clear co aw;generalize aW.alloc (.cells #[.int .i64 (-x)] 3)=cd at*;have aX:P<=20:=by
  have h1:=d.o.sx;have z:=Dy d.o.sw d.o.qF;have bu:=d.o.li.tu;have bw:=i.o.iX;have ad:=i.o.n10;have R:=l.o.2.2.2.2.2;omega
 go_wp2_with fail
 all_goals
  refine Lr i.o I.o (Q.o.2.1.trans l.o.2.2.2.1) Q.o.1 l.o.2.2.2.2.2 aX d.o.kZ.c d.o.kZ.aO (by have:=d.o.li.tu;rw[i.o.iX] at this;exact this) (λ y f=>(d.o.li.tV y f).1) (λ cf=>by first|rfl|(exfalso;omega)) ?_;intro m5 f5 L bz jU ay az bA gF bl aY gV gH gn iy gI u16 gp gq gr gG gu gv gw gx gy gz gA gB fO fP fQ u32 fR fS fT fU fV fW fZ ga gb gd gh gC gD ij hU ia bP bQ bR bS bT bU bV bW bX bY bZ b5 b6 b7 b8 u64 b9 cc cg ck cm cn cp cr ct cu cv cw cz cA cB cC cD cE cF cG cH c9 dc de dh di dm dn dr cK cL cM cN cO cQ cR cS cT cU cV cW cZ c4 c5 c6 c7 dw dx dy dz dA dB dD dF dG dH dI dJ dK dL dM dN dO dP dQ dR dS dU dV dW dX dY dZ ec ee ef fG fH fI ei ej ek en eo ep er eu ew ey ez eA fJ fK fL eB eC eD eE eF eG eH eL eM eN eO eP eR eS eT eU eV eW eX eY eZ e3 e4 e5 e6 e7 e8 e9 fc fe ff fh fk fm fo fq gi gj fu fA fB fC fD fE fF aZ u J ae a6;have bB:∀y∈aK,-y∈aI.c.av:=λ y f=>(d.o.li.tV y f).1
  have a7:ir F aI.c (-x) L:=by
   have C:=i.o;have H:=d.o;have aA:aj aI.c.av j=x:=l.o.1;have a8:=H.li.done C.gR.aK H.xS H.one;rw[aA] at a8;have bC:lE aI.c.st j=aI.c.st.length:=nD.top C.gR.aK H.li;refine⟨JY C.gR.aK C.gR.jN H.li.wv (λ y f=>⟨(H.li.tV y f).1,(H.li.tV y f).2.2.1⟩) a8 a6,by rw[Int.neg_neg,<-aA];exact lZ l.o.2.2.1,?_,λ y f=>?_,ae.nodup H.li.xD⟩
   ·show gZ aI.c.lvl (aC (-x))=_;rw[oO,<-aA];exact(C.gR.aK.mA j l.o.2.2.1).trans bC
   ·have:=H.li.tV y (ae.subset f);exact⟨this.1,this.2.1,this.2.2.1⟩
  obtain⟨N,af,ag⟩:=u.aM.gm.rows.addr (r:=9) (by have:=u.jU;rw[v_] at this;omega);rw[J] at af;have af:bz=some ⟨N,0,none⟩:=af;subst af;have a':jU=L.length+1:=by have:=u.jU;rw[J,v_] at this;exact this
  obtain⟨ba,ah,aP,R⟩:∃A n c,az 6=⟨A,n,c⟩:=⟨_,_,_,rfl⟩
  have bD:aZ.cell? ⟨bO,0,none⟩=some (.slice ba ah aP):=by have:=u.aM.aP.1;rw[R] at this;exact this
  have bb:ah<=1000:=by
   have h1:=u.aM.n6;rw[R] at h1;have h1:ah=mk.length:=h1;have z:=Dy d.o.sw d.o.qF;have bu:=d.o.li.tu;have bw:=i.o.iX;have ad:=i.o.n10;omega
  have bc:L.length<=20:=by have:=ae.length_le;have:=l.o.2.2.2.2.2;omega
  have bd:rY K base w aZ G hs cb s aH bN bO c8 bx (-x::aK) mk op iw iU (-x::L) ds az bA:=⟨u.aM,u.uk,u.ms⟩
  have p:=U (z_ bd (z_ J (z_ a7 (z_ a' bc))));clear bd u J ae a6 aa bt aX bB a7 ag bc I Q a'
  go_wp2_with fail
  refine Lv (jU:=jU) p.o.1 R bb d.o.kZ.aO d.o.qF ?_;intro gF bl aY gV gH gn iy gI u16 gp gq gr gG gu gv gw gx gy gz gA gB fO fP fQ u32 fR fS fT fU fV fW fZ ga gb gd gh gC gD ij hU ia bP bQ bR bS bT bU bV bW bX bY bZ b5 b6 b7 b8 u64 b9 cc cg ck cm cn cp cr ct cu cv cw cz cA cB cC cD cE cF cG cH c9 dc de dh di dm dn dr cK cL cM cN cO cQ cR cS cT cU cV cW cZ c4 c5 c6 c7 dw dx dy dz dA dB dD dF dG dH dI dJ dK dL dM dN dO dP dQ dR dS dU dV dW dX dY dZ ec ee ef fG fH fI ei ej ek en eo ep er eu ew ey ez eA fJ fK fL eB eC eD eE eF eG eH eL eM eN eO eP eR eS eT eU eV eW eX eY eZ e3 e4 e5 e6 e7 e8 e9 fc fe ff fh fk fm fo fq gi gj fu fA fB fC fD fE fF ch aB;have aB:=U aB;clear bD bb R ba ah aP
  go_wp2_with fail
  have ai:=i.o.gR.aK;have O:s.c=aI.c:=d.o.kZ.c;have bf:=p.o.2.2.1.nodup ai;have bg:∀y∈-x::L,gK n y:=λ y f=>by
   have h1: -y∈aI.c.av:=by
    rcases List.mem_cons.1 f with rfl|f
    ·exact p.o.2.2.1.FI
    ·exact(p.o.2.2.1.Bg y f).1
   have:=ai.lit _ h1;rw[i.o.iX] at this;have:=this.neg
   rwa[Int.neg_neg] at this
  refine Lx (n:=n) aB.o p.o.2.1 (by have:=p.o.2.2.2.1;omega) (by have:=p.o.2.2.2;omega) (by have:=i.o.n10;omega) bf (by show 0<s.c.st.length;rw[O];exact i.o.st1) (by show s.c.st.length<=_;rw[O];exact i.o.st2) bg (by show s.c.lvl.length=_;rw[O,ai.o7,i.o.iX]) (λ y f bj=>by
   have h1:aj (-x::L) 0= -x:=rfl;rw[h1] at bj;show 1<=bh s.c y/\bh s.c y<s.c.st.length;rw[O];rcases List.mem_cons.1 f with z|f
   ·exact absurd z bj
   ·exact(p.o.2.2.1.Bg y f).2) ?_
  intro level aD cj gF bl aY gV gH gn iy gI u16 gp gq gr gG gu gv gw gx gy gz gA gB fO fP fQ u32 fR fS fT fU fV fW fZ ga gb gd gh gC gD ij hU ia bP bQ bR bS bT bU bV bW bX bY bZ b5 b6 b7 b8 u64 b9 cc cg ck cm cn cp cr ct cu cv cw cz cA cB cC cD cE cF cG cH c9 dc de dh di dm dn dr cK cL cM cN cO cQ cR cS cT cU cV cW cZ c4 c5 c6 c7 dw dx dy dz dA dB dD dF dG dH dI dJ dK dL dM dN dO dP dQ dR dS dU dV dW dX dY dZ ec ee ef fG fH fI ei ej ek en eo ep er eu ew ey ez eA fJ fK fL eB eC eD eE eF eG eH eL eM eN eO eP eR eS eT eU eV eW eX eY eZ e3 e4 e5 e6 e7 e8 e9 fc fe ff fh fk fm fo fq gi gj fu fA fB fC fD fE fF cq bn S;have S:nF s.c (-x::L) jU level aD:=S;rw[O] at S;have q:=U (z_ bn S);have bo:=U p.o.2.1;clear bn S bf bg ai O;have cx:=q.o.1.aM.co.1;have cy:=q.o.1.aM.co.2
  go_wp2_with fail
  obtain⟨bE,bF⟩:=q.o.1.aM.gm.set q.o.1.aM.aQ 0 (.slice (some ⟨N,0,none⟩) jU ay);have aE:=q.o.1.ms.others bF;refine CQ ds rfl aE.nc (λ D bG=>(aE.kL D bG).2) (λ W' bH=>?_);have M:=bE.shut aE bH;have bI:=(M.kL q.o.1.aM.aQ (k:=0) (v:=.slice (some ⟨N,0,none⟩) jU ay) (by rw[jO,q.o.1.aM.kz];rfl)).1;refine⟨_,Lz _ bN _ _ W' rfl rfl bI,?_⟩;have aF:aD.length=jU:=by have:=q.o.2.len;rw[this,v_];exact p.o.2.2.2.1.symm
  have bp:=M.rows.row 9;rw[bo.o,bk _ _ (by omega),q.o.1.uk] at bp;have bJ:({s with aO:=x_ aO.length false}:aq)={s with aO:=aI.aO}:=by
   rw[ak.o.2.1,d.o.li.tu,i.o.iX]
  have ag:(az 9).b=some N:=by rw[bo.o];rfl
  have m:=d.o.kZ.rg.mono (Int.le_refl _) ak.o.1;refine⟨N,ay,level,aD,_,LA aF.symm,q.o.2.done aF p.o.2.2.1 i.o.gR.aK,M.fN.Bd (λ b bK=>.inl bK),M.jr,by rw[bJ];exact d.o.kZ.hk,⟨m.iX,m.lP,m.lg,m.qi,m.a0,m.q7,m.oG,m.nG,m.oU,m.nH,m.p5,m.k4⟩,?_,M.off ag,λ hk=>?_⟩
  ·rw[aF];exact yA bp ak.o.2.2
  ·have h1:=M.kl N hk;have z:=(M.lt ag).1;omega
theorem LD(E:aY K base w G hs cb aI)(C:vh F Fd aI n h kP)(r:mo n jF kP aI)(L:aI.aO=x_ (n+1) false){d:Nat}(M:d<aI.c.cl.length)(N:∀x∈ay aI.c.cl d,-x∈aI.c.av):
  Calls y_ 146 #[.pointer (some ⟨G,0,none⟩),.pointer (some ⟨cb d,0,none⟩)] w (GF K base w G hs cb n kP F aI):=by
 have O:=U E;have l:=U C;have oh:=U r;have a:=U (z_ L (z_ M N));have aB:∀(fn:Fn)(first cap:Array Value)(w:World),(c_ fn first cap).run y_ w=.ok (.func fn first cap) w:=λ _ _ _ _=>rfl
 have aC:= @run_makeMap y_;clear E C r L M N;refine CP Tryz.func146 rfl ?_;simp only[Tryz.ntmps146,List.size_toArray,v_,List.length_nil,Nat.reduceAdd,Nat.reduceSub,a_,Zz,List.push_toArray,List.append_toArray,List.nil_append,List.cons_append]
 go_upto_region 2 with fail
 have P:=((lC.start O.o).box 0 (.pointer (some ⟨G,0,none⟩))).box 1 (.slice none 0 0);have b:=P.box 2 (.slice none 0 0);have Q:(w.alloc (.cells #[.pointer (some ⟨G,0,none⟩)] 115)).heap.size=w.heap.size+1:=by simp
 have R:((w.alloc (.cells #[.pointer (some ⟨G,0,none⟩)] 115)).alloc (.cells #[.slice none 0 0] 25)).heap.size=w.heap.size+1+1:=by simp
 have u:(((w.alloc (.cells #[.pointer (some ⟨G,0,none⟩)] 115)).alloc (.cells #[.slice none 0 0] 25)).alloc (.cells #[.slice none 0 0] 25)).heap.size=w.heap.size+1+1+1:=by simp
 have b:lC K base w (((w.alloc (.cells #[.pointer (some ⟨G,0,none⟩)] 115)).alloc (.cells #[.slice none 0 0] 25)).alloc (.cells #[.slice none 0 0] 25)) G hs cb aI (iT (iT (iT (λ _=>we) 0 (n9 w.heap.size)) 1 (n9 (w.heap.size+1))) 2 (n9 (w.heap.size+1+1))) (iT (iT (iT (λ _=> []) 0 [.pointer (some ⟨G,0,none⟩)]) 1 [.slice none 0 0]) 2 [.slice none 0 0]):=by
  rw[show n9 (w.heap.size+1)=n9 (w.alloc (.cells #[.pointer (some ⟨G,0,none⟩)] 115)).heap.size by rw[Q],show n9 (w.heap.size+1+1)=n9 ((w.alloc (.cells #[.pointer (some ⟨G,0,none⟩)] 115)).alloc (.cells #[.slice none 0 0] 25)).heap.size by rw[R]];exact b
 have b:=U b;clear P Q R;generalize (((w.alloc (.cells #[.pointer (some ⟨G,0,none⟩)] 115)).alloc (.cells #[.slice none 0 0] 25)).alloc (.cells #[.slice none 0 0] 25))=y at*
 go_upto_region 3 with fail
 have f:=b.o.box 4 (.func (.func 182) #[] #[.pointer (some ⟨w.heap.size,0,none⟩),.pointer (some ⟨w.heap.size+1+1,0,none⟩)]);rw[u] at f;have S:(y.alloc (.cells #[.func (.func 182) #[] #[.pointer (some ⟨w.heap.size,0,none⟩),.pointer (some ⟨w.heap.size+1+1,0,none⟩)]] 170)).heap.size=w.heap.size+1+1+1+1:=by simp[u]
 have f:=U (show lC K base w (y.alloc (.cells #[.func (.func 182) #[] #[.pointer (some ⟨w.heap.size,0,none⟩),.pointer (some ⟨w.heap.size+1+1,0,none⟩)]] 170)) G hs cb aI _ _ from f);clear u b;generalize y.alloc (.cells #[.func (.func 182) #[] #[.pointer (some ⟨w.heap.size,0,none⟩),.pointer (some ⟨w.heap.size+1+1,0,none⟩)]] 170)=i at*;have T:=(f.o.set (r:=1) (g:=w.heap.size+1) (by rw[bk _ _ (by omega),bk _ _ (by omega),jO];rfl) 0 (.slice (some ⟨w.heap.size+1+1+1+1,0,none⟩) 1 1)).1;have c1:=f.o.kL (r:=1) (g:=w.heap.size+1) (by rw[bk _ _ (by omega),bk _ _ (by omega),jO];rfl) (k:=0) (v:=.slice none 0 0) (by rw[bk _ _ (by omega),bk _ _ (by omega),jO];rfl);have aj:=c1.1;have f1:=c1.2;have ak:w.heap.size+1<i.heap.size:=by omega
 have H:(i.setCell ⟨w.heap.size+1,0,none⟩ (.slice (some ⟨w.heap.size+1+1+1+1,0,none⟩) 1 1)).heap.size=w.heap.size+1+1+1+1:=by simp[S]
 have V:=T.fresh (r:=5) (h':=⟨some ⟨w.heap.size+1+1+1+1,0,none⟩,1,1⟩) (ys:=jc [0]) (bz _ (.cells (jc [0]).toArray 3)) (by have:=Dh (i.setCell ⟨w.heap.size+1,0,none⟩ (.slice (some ⟨w.heap.size+1+1+1+1,0,none⟩) 1 1)) w.heap.size [0] 1 rfl (by omega) (by omega);rw[H] at this;exact this) (λ g e=>by
  have W:some (w.heap.size+1+1+1+1)=some g:=e;injection W with W
  omega)
 have m:=V.box 3 (.int .i64 0);have Y:((i.setCell ⟨w.heap.size+1,0,none⟩ (.slice (some ⟨w.heap.size+1+1+1+1,0,none⟩) 1 1)).alloc (.cells (jc [0]).toArray 3)).heap.size=w.heap.size+1+1+1+1+1:=by simp[H]
 rw[Y] at m;have m:=U (show lC K base w (((i.setCell ⟨w.heap.size+1,0,none⟩ (.slice (some ⟨w.heap.size+1+1+1+1,0,none⟩) 1 1)).alloc (.cells #[.int .i64 0] 3)).alloc (.cells #[.int .i64 0] 3)) G hs cb aI _ _ from m);clear T c1 f V H Y
 go_upto_region 5 with fail
 clear aj f1 S ak;generalize (((i.setCell ⟨w.heap.size+1,0,none⟩ (.slice (some ⟨w.heap.size+1+1+1+1,0,none⟩) 1 1)).alloc (.cells #[.int .i64 0] 3)).alloc (.cells #[.int .i64 0] 3))=q at*;have t:=l.o.gR;have al:=l.o.iX;have p:kR K base w q G hs cb aI w.heap.size (w.heap.size+1) (w.heap.size+1+1) (w.heap.size+1+1+1+1+1) (w.heap.size+1+1+1) [0] [] 0 we [] _ _:=⟨m.o,rfl,rfl,rfl,rfl,rfl,rfl,rfl,rfl,rfl,rfl,rfl,rfl,rfl,rfl⟩
 have Z:mT aI.c (x_ (n+1) false) aI.c.av.length=0:=by
  unfold mT;rw[List.countP_eq_zero];intro k hk h1;unfold oQ at h1;rw[A4] at h1;simp at h1
 have I:=nD.start t l.o.st1 a.o.2.1 a.o.2.2;rw[al] at I;have aa:others (ay aI.c.cl d) 0=ay aI.c.cl d:=by
  unfold others;rw[List.filter_eq_self];intro x an;have:=(t.jN.mF d a.o.2.1).lt x an;simpa using this.oC
 have ab:mV K base w q G hs cb n kP F aI w.heap.size (w.heap.size+1) (w.heap.size+1+1) (w.heap.size+1+1+1+1+1) (w.heap.size+1+1+1) we [] aI.c.av.length (others (ay aI.c.cl d) 0) [] aI (x_ (n+1) false) [] [] _ _:=
  ⟨by rw[Z];exact p,⟨nW.refl aI,a.o.1,oh.o⟩,by rw[aa];exact I,h_,λ z=>⟨λ h=>(by cases h),λ⟨v,_,h⟩=>by rw[A4] at h;cases h⟩,w_ _,⟨h_,λ D h=>by cases h⟩⟩
 have hH:BC K base w G hs cb n kP F aI w.heap.size (w.heap.size+1) (w.heap.size+1+1) (w.heap.size+1+1+1+1+1) (w.heap.size+1+1+1) aI.c.av.length d 0 [] q:=
  ⟨_,_,_,_,_,_,_,_,ab.up (by rw[Nat.sub_self];simp),a.o.2.1,by
   have:=(t.jN.mF d a.o.2.1).ne;exact List.length_pos_iff.2 this⟩
 have ad:=U hH;have aR:=p.aR;obtain⟨ao,kA,ar,J⟩:∃A n c,hs 4=⟨A,n,c⟩:=⟨_,_,_,rfl⟩
 have ae:kA=aI.c.av.length:=by have:=p.gm.fN.e.kA;rw[J] at this;exact this
 have au:q.cell? ⟨G,5,none⟩=some (.slice ao aI.c.av.length ar):=by have:=p.gm.fN.e.kJ (k:=5) (v:=(hs 4).v) rfl;rw[J,ae] at this;exact this
 clear p Z I aa ab hH J ae t m
 go_wp2_with fail
 refine Lh (ds:=[]) l.o ad.o ?_;clear ad aR au;intro j B op aD aE s aO aF mk ls X ds aG aJ aK aL aM aN aP aQ u16 aS aT aU aV aW aX aZ a6 a7 a8 a' ba bb bc bd u32 bf bg bh bj bl bn bo bp bq br bs bt bu bw bA bB bC bD bE bF bG bH bI bJ bK bL bM bN bO bP bQ u64 bR bS bT bU bV bW bX bY bZ b0 b1 b2 b3 b4 b5 b6 b7 b8 b9 b' ca cc cd cf cg ch cj ck cm cn cp cq cr ct cu cv cw cx cy cz cA cB cC cD cE cF cG cH cI cJ cK cL cM cN cO cP cQ cR cS cT cU cV cW cX cY cZ c0 c4 c5 c6 c7 c8 c9 da db dc dd de df dh di dj dk dm dn dp dq dr dt du dv dw dx dy dz dA dB dC dD dE dF dG dH dI dJ dK dL dM dN dO dP dQ dR dS dT dU dV dW dX dY dZ d' ea eb ec ed ee ef eg eh ei ej ek en eo ep er et eu ev af ag;have ah:=U ag;have aw:=U af;generalize w.heap.size+1+1+1+1+1=ew at*;generalize w.heap.size+1+1+1=bx at*;generalize w.heap.size+1+1=ey at*;generalize w.heap.size+1=ez at*;generalize eA:w.heap.size=aH at ah⊢;clear ag af;rename_i az ai;have aA:=U ai;clear ai;show az _ _;apply aA.o;exact LC (Nat.le_of_lt O.o.e.lt) l.o a.o.1 aw.o ah.o
end
end Go.Proofs.YtogdlkfacflmaaaGreat
