/- Parts of the walk of the solver and its core; no condition. -/
import Derived.Test.YtogdlkfacflmaaaGreatZZ10
import Derived.Test.YtogdlkfacflmaaaGreatZZ8
import Derived.Test.YtogdlkfacflmaaaGreatZZ5
import Derived.Laws.ResultCell
import Derived.Test.YtogdlkfacflmaaaGreatZZ1
namespace Go.Proofs.YtogdlkfacflmaaaGreat
set_option linter.unusedVariables false
set_option linter.unusedSimpArgs false
set_option maxRecDepth 1000000
set_option maxHeartbeats 8000000
open _root_.And renaming intro→z_
open _root_.List renaming length_append→y_,length_singleton→v_,map_toArray→t_,length_pos_iff→q_,mem_singleton→o_,map_cons→m_,map_nil→l_,getElem?_cons_zero→j_,getElem?_cons_succ→i_,mem_append_left→g_
open _root_.Bool renaming false_ne_true→x_
open _root_.Go.Proofs.Tryz renaming prog→w_
open _root_.Go.IntKind renaming wrap_i64→u_,i64→p_
open _root_.Go.World renaming cell?_of_block→s_
open _root_.Nat renaming le_trans→r_,one_le_two_pow→n_,pow_succ→k_,le_of_lt→f_
open _root_.Go.Value renaming slice→h_
variable{K k9 aZ gX:Nat->Prop}{w W w0:World}{n base G fM jD bK gN bC bg aB ja h i:Nat}{hs:Nat->ax}{cb:Nat->Nat}{s aI:aq}{F:List (List Int)}{ah:List Int}{gM:Option Addr}{left:Int}{bl jP jA gH gn iy gI gT u16 gp gq gr gG gu gv gw gx gy gz gA gB fO fP fQ u32 fR fS fT fU fV fW fZ ga gb gd gh gC gD ij hU ia bP bQ bR bS bT bU bV bW bX bY bZ b5 b6 b7 b8 u64 b9 cc cg ck cm cn cp cr ct cu cv cw cz cA cB cC cD cE cF cG cH c9 dc de dh di dm dn dr cK cL cM cN cO cQ cR cS cT cU cV cW cZ c4 c5 c6 c7 dw dx dy dz dA dB dD dF dG dH dI dJ dK dL dM dN dO dP dQ dR dS dU dV dW dX dY dZ ec ee ef fG fH fI ei ej ek en eo ep er eu ew ey ez eA fJ fK fL eB eC eD eE eF eG eH eL eM eN eO eP eR eS eT eU eV eW eX eY eZ e3 e4 e5 e6 e7 e8 e9 fc fe ff fh fk fm fo fq gi gj fu fA fB fC fD fE fF iH iI iJ iK iL iM iN iO iP iQ iR iS jg jh ji jj jk jl jm jo jW jX jY jZ j0 j3 gV:Value}{Q:Exit->Act->World->Prop}
section
open Go.RowKit Go.Shelf
theorem lY.len{w:World}{b n:Nat}{S:List Int}(h:lY w b n S)(ty:TypeId):∃m:Nat,m<=n/\(Builtin.len_ #[114] ty #[.map (some b)]).run w_ w=.ok (.int .i64 (m:Int)) w:=by
 obtain⟨D,h1,a⟩:=h;exact⟨_,h1.size_le,h1.len Tryz.underlying114 ty⟩
theorem DI(x:Int)(a:0<=x)(h1:x<=1000000):(Lit.int .i64 x).wf=true:=by
 simp[Lit.wf,IntKind.min,IntKind.max,IntKind.bits,IntKind.signed];omega
def aq.wR(s:aq)(l:List Int)(bh:Int)(aF:List nw):aq:=
 {s with c:=lp (kF s.c l) (aj l 0) (some s.c.cl.length),ci:=s.ci++[⟨true,bh,s.bt⟩],aM:=s.aM++[s.c.cl.length],aF:=aF,jB:=none}
structure qq(K:Nat->Prop)(w:World)(n:Nat)(p:nw):Prop where
 lH:p.lH=1\/p.lH=2\/p.lH=3
 rd:∃ai,aL w p.h.A p.h.n p.h.c ai/\∀x∈ai,gK n x
 blk:∀b,p.h.b=some b->0<p.h.n->K b
theorem aL.jr{w':World}{A:Option Addr}{c:Nat}{ai:List Int}(h:aL w A n c ai)(f:aG K w w')(hk:∀b,A.map (·.block)=some b->0<n->K b):aL w' A n c ai:=
 ⟨h.len,h.cap,h.mu,h.nT,λ a=>by
  obtain⟨b,off,e,h1,d⟩:=h.cells a;refine⟨b,off,e,Nat.lt_of_lt_of_le h1 f.size,λ j g=>?_⟩;rw[f.cell (p:=⟨b,off+j,none⟩) (hk b (by rw[e];rfl) a)];exact d j g⟩
theorem qq.jr{K:Nat->Prop}{w w':World}{n:Nat}{p:nw}(h:qq K w n p)(f:aG K w w'):qq K w' n p:=by
 obtain⟨a,h1,b⟩:=h.rd;exact⟨h.lH,⟨a,h1.jr f h.blk,b⟩,h.blk⟩
theorem qq.mono{p:nw}(h:qq K w n p)(hk:∀b,K b->k9 b):qq k9 w n p:=⟨h.lH,h.rd,λ b e a=>hk b (h.blk b e a)⟩
theorem aY.qD(h:aY K base w G hs cb s){g:Nat}(j:g<w.heap.size)(k:g≠G)(l:∀r,(hs r).b≠some g)(m:∀d,d<s.c.cl.length->cb d≠g):aY (qD K g) base w G hs cb s:=
 ⟨h.e,⟨λ b a=>a.elim (h.s.lt b) (λ e=>by rw[e];exact j),λ a=>a.elim h.s.g (λ e=>k e.symm),λ r b e a=>a.elim (h.s.row r b e) (λ f=>l r (by rw[e,f])),λ d i a=>a.elim (h.s.cl d i) (λ f=>m d i f)⟩⟩
def Mt(V:World)(l:List Int)(App:Option Addr->Nat->World->Value->World->Prop)(i:Nat)(v:Value)(w:World):Prop:=
 if i=6 then∃a c2,v=.slice a l.length c2/\Below V.heap.size V w/\w.ownsRow V.heap.size 3 1 (.slice a l.length c2) l.length (jc l)
 else if i=7 then∃a c2,v=.agg #[.int .i64 2,.slice a l.length c2]/\Below V.heap.size V w/\w.ownsRow V.heap.size 3 1 (.slice a l.length c2) l.length (jc l)
 else if i=8 then∃a c2 w1,v=.slice (some ⟨w1.heap.size,0,none⟩) 1 1/\Below V.heap.size V w1/\w1.ownsRow V.heap.size 3 1 (.slice a l.length c2) l.length (jc l)/\w=w1.alloc (.cells #[.int .i64 2,.slice a l.length c2] 126)
 else∃a c2 w1,Below V.heap.size V w1/\w1.ownsRow V.heap.size 3 1 (.slice a l.length c2) l.length (jc l)/\App a c2 w1 v w
def yX(i:Nat):Bool:=i==6||i==7||i==8||i==9
def Mu(i:Nat):Option Nat:=if i=9 then none else some (i+1)
theorem BQ:∀args w,(callFunc 81 args).run w_ w=.ok (.enter 81 args) w:=enters_of Tryz.func81 (by kernel_rfl) rfl
def G1(K:Nat->Prop)(base:Nat)(w:World)(G:Nat)(s:aq)(l:List Int)(e:Ending)(w':World):Prop:=
 e=.returned (.tuple #[])/\∃(a:Nat->Prop)(hs':Nat->ax)(d:Nat->Nat)(bh:Int)(p:nw),(∀b,K b->a b)/\aY a base w' G hs' d (s.wR l bh (s.aF++[p]))/\aG K w w'/\0<=bh/\bh<=l.length/\qq a w' s.c.n p/\∀b,p.h.b=some b->w.heap.size<=b
theorem Mv(h:aY K base w G hs cb s)(C:vR s)(P:o5 K w s)(T:j6 s.c)(b4:s.ci.length=s.c.cl.length)(b5:s.c.n<=60000)(b6:s.c.wt.length=2*s.c.n+2)(b7:∀k,(ay s.c.wt k).length<=1000000)(b8:s.c.st.length<=1000000)(b9:s.aM.length<=1000000)(b':s.aF.length<=1099511627776)
  {bH m c:Nat} {l:List Int} (hm:l.length=m) (ba:1<=m) (ca:m<=200000) (O:w.ownsRow base 3 1 (.slice (some ⟨bH,0,none⟩) m c) m (jc l)) (cc:∀r,(hs r).b≠some bH) (cd:¬K bH) (hl:∀z∈l,gK s.c.n z) (cf:∀z∈l,gZ s.c.lvl (aC z)<=1000000):
  Calls w_ 148 #[.pointer (some ⟨G,0,none⟩),.slice (some ⟨bH,0,none⟩) m c] w (G1 K base w G s l):=by
 have lc:m<=c:=by
  rcases O.2 with⟨L,_⟩|⟨g,cap,cur,L,_,_,bb,_⟩
  ·cases L
  ·injection L with h1 F an;omega
 have cg:bH<w.heap.size:=(O.lt bH rfl).2;have ch:∀k,k<m->w.cell? ⟨bH,k,none⟩=some (.int .i64 (aj l k)):=λ k hk=>by
  have:=O.cellAt k (by omega);rw[this];unfold jc;rw[List.getElem?_map,List.getElem?_eq_getElem (by omega),ng (by omega)];rfl
 have D:=U (z_ h (z_ C (z_ P (z_ T (z_ b4 (z_ b5 (z_ b6 (z_ b7 (z_ b8 (z_ b9 (z_ b' (z_ hm (z_ O (z_ cc (z_ cd (z_ hl (z_ cf cg)))))))))))))))));have dn:=U ch;have dO:(m:Int)<=(c:Int):=by omega
 have aA:=U (z_ ba (z_ ca lc));clear h C P T b4 b6 b7 b8 b9 b' hm O cc cd hl cf cg ch ba ca lc b5;have dp:= @run_makeMap w_;go_enter Tryz.func148,Tryz.ntmps148
 go_upto_region 1 with fail
 have cj:=U (lY.made w);have ck:=U ((Below.refl w.heap.size w).alloc (Nat.le_refl _) (.map #[] 0));generalize dq:w.alloc (.map #[] 0)=dP at cj ck⊢;clear dq dp
 go_wp2_with fail
 go_loopw [11] (λ i wr=>∃k:Nat,k<=m/\i=.int .i64 k/\(∃S,lY wr w.heap.size k S)/\Below w.heap.size w wr) (λ i _=>m-(intOf i).toNat)
 case atStart=>exact⟨0,Nat.zero_le _,rfl,⟨_,cj.o⟩,ck.o⟩
 case round=>
  obtain⟨k,hk,rfl,⟨S,bc⟩,cm⟩:=hrel;have cn:=U bc;have W:=U cm;have dr:=U hk;clear bc cm hk
  by_cases aI:k<m
  ·have bw:(k:Int)<(m:Int):=by omega
   have dt:decide ((k:Int)<(m:Int))=true:=decide_eq_true bw;obtain⟨x,bx⟩:∃x,aj l k=x:=⟨_,rfl⟩
   have bA:x∈l:=by rw[<-bx];exact lZ (by rw[D.o.2.2.2.2.2.2.2.2.2.2.2.1];exact aI)
   have cp:=D.o.2.2.2.2.2.2.2.2.2.2.2.2.2.2.2.1 x bA;have cq:=D.o.2.2.2.2.2.2.2.2.2.2.2.2.2.2.2.2.1 x bA;have du:wr.cell? ⟨bH,k,none⟩=some (.int .i64 x):=by
    rw[s_ (W.o.block bH D.o.2.2.2.2.2.2.2.2.2.2.2.2.2.2.2.2.2),dn.o k aI,bx]
   have E:=(D.o.1.below W.o).1;obtain⟨v,L⟩:∃v,aC x=v:=⟨_,rfl⟩
   have dv:=D.o.2.2.2.1.o7;have cr:=cp.2;have dw:=D.o.2.2.2.2.2.1;rw[L] at cr;obtain⟨g2,ct,dx,f3⟩:=E.e.lV 3 2 rfl E.e.kj (by omega);obtain⟨y,aB⟩:∃y,gZ s.c.lvl v=y:=⟨_,rfl⟩
   have cu:=E.e.vF ct (k:=v) (by omega);rw[aB] at cu;rw[L,aB] at cq;have bh:(v:Int)<(s.c.lvl.length:Int):=by omega
   have dQ:(0:Int)<=(v:Int):=by omega
   have dR:p_.wrap ((k:Int)+1)=(k:Int)+1:=by rw[u_];have:=aA.o;omega
   have dy:bJ (∀w:World,Calls w_ 97 #[.int .i64 x] w λ e w'=>e=.returned (.int .i64 (v:Int))/\w=w'):=U (λ w=>by have:=sV x w (by unfold aC at L;omega) (by unfold aC at L;omega);rw[L] at this;exact this);obtain⟨w1,dS,cv,cw⟩:=cn.o.drew.put (n:=k) (by have:=aA.o;unfold maxLen;omega) (x:=(y:Int)) (DI _ (by omega) (by omega));have X:=U (z_ cv (z_ cw aI));clear cv cw bx bA cp cq dv cr dw ct f3 aI L aB E
   go_upto_region 4 with fail
   refine wp_region_still_tail 9 (by kernel_rfl) (by kernel_rfl) ?_;simp only[List.take_succ_cons,List.take_zero,List.drop_succ_cons,List.drop_zero]
   iterate 6 still_step
   still_call ((dy.o _).mono (λ e w' h=>⟨h.1,h.2.symm⟩))
   iterate 2 still_step
   refine wpStill_nil ?_;change wpList _ _ _ _ _ wr.drew;clear du dx cu
   go_wp2_with fail
   go_roundw
   case rel=>
    refine⟨k+1,by have:=X.o.2.2;omega,by go_num,⟨_,X.o.1⟩,W.o.drew.grown X.o.2.1 W.o.size (λ j e=>by cases e;exact Nat.le_refl _)⟩
   case measure=>have:=X.o.2.2;simp[intOf];omega
  ·have bw:¬(k:Int)<(m:Int):=by omega
   have dt:decide ((k:Int)<(m:Int))=false:=decide_eq_false bw;obtain⟨bh,cx,hlen⟩:=cn.o.drew.len 3;have nF:=U (z_ cx aI);clear cx aI;have E:=U (D.o.1.below W.o);have dz:wr.cell? ⟨G,9,none⟩=some (.int .i64 s.bt):=E.o.1.e.kJ (k:=9) (v:=.int .i64 s.bt) rfl
   go_upto_region 6 with fail
   refine wp_region_still_tail 8 (by kernel_rfl) (by kernel_rfl) ?_;simp only[List.take_succ_cons,List.take_zero,List.drop_succ_cons,List.drop_zero]
   iterate 8 still_step
   refine wpStill_nil ?_;change wpList _ _ _ _ _ wr.drew
   go_upto_region 7 with fail
   have bd:Below w.heap.size w ((wr.alloc (.cells #[.slice (some ⟨bH,0,none⟩) m c,.bool true,.int .i64 (bh:Int),.int .i64 s.bt] 166)).drew):=(W.o.alloc W.o.size _).drew;have hblk:aT ((wr.alloc (.cells #[.slice (some ⟨bH,0,none⟩) m c,.bool true,.int .i64 (bh:Int),.int .i64 s.bt] 166)).drew) wr.heap.size vc [.slice (some ⟨bH,0,none⟩) m c,.bool true,.int .i64 (bh:Int),.int .i64 s.bt]:=aT.new wr vc _;have cy:((wr.alloc (.cells #[.slice (some ⟨bH,0,none⟩) m c,.bool true,.int .i64 (bh:Int),.int .i64 s.bt] 166)).drew).heap.size=wr.heap.size+1:=by simp
   have bB:=(E.o.1.below ((bz wr (.cells #[.slice (some ⟨bH,0,none⟩) m c,.bool true,.int .i64 (bh:Int),.int .i64 s.bt] 166)).drew)).1;generalize (wr.alloc (.cells #[.slice (some ⟨bH,0,none⟩) m c,.bool true,.int .i64 (bh:Int),.int .i64 s.bt] 166)).drew=ad at bd hblk cy bB⊢;have aD:=(bB.DC D.o.2.1 wr.heap.size).rZ (hl:=⟨some ⟨bH,0,none⟩,m,c⟩) (l:=l) (x:=⟨true,(bh:Int),s.bt⟩) (by rw[jO];exact hblk) (by rw[jO];exact r_ (f_ D.o.1.e.lt) W.o.size) (by rw[jO];exact λ hk=>by have:=D.o.1.s.lt _ hk;have:=W.o.size;omega) (λ d H=>by rw[jO,bk _ _ (by omega)];have:=(D.o.1.e.cls d H).lt;have:=W.o.size;omega)
    (mw D.o.2.2.2.2.2.2.2.2.2.2.2.2.1 bd) (λ g aN=>by
     have aN:some bH=some g:=aN;injection aN with aN
     subst aN;exact⟨D.o.2.2.2.2.2.2.2.2.2.2.2.2.2.1,D.o.2.2.2.2.2.2.2.2.2.2.2.2.2.2.1⟩) D.o.2.2.2.2.1
   obtain⟨I,bC⟩:∃f,iT cb s.c.cl.length wr.heap.size=f:=⟨_,rfl⟩
   have bE:I s.c.cl.length=wr.heap.size:=by rw[<-bC,jO]
   rw[bC] at aD;obtain⟨aO,bF⟩:∃f,iT hs (kI s.c.cl.length) ⟨some ⟨bH,0,none⟩,m,c⟩=f:=⟨_,rfl⟩
   have cz:aO (kI s.c.cl.length)=⟨some ⟨bH,0,none⟩,m,c⟩:=by rw[<-bF,jO]
   rw[bF] at aD;obtain⟨s1,bf⟩:∃s1,s.rZ l ⟨true,(bh:Int),s.bt⟩=s1:=⟨_,rfl⟩
   rw[bf] at aD;have cA:aG K w ad:=aG.q4 bd D.o.1.s.lt;obtain⟨blk,cB⟩:∃b,wr.heap.size=b:=⟨_,rfl⟩
   rw[cB] at bE⊢;obtain⟨aP,n10,aQ,bg⟩:∃A n c,aO 10=⟨A,n,c⟩:=⟨_,_,_,rfl⟩
   have bG:s1.aM=s.aM:=by rw[<-bf];rfl
   have dA:ad.cell? ⟨G,13,none⟩=some (.slice aP n10 aQ):=by have:=aD.e.kJ (k:=13) (v:=(aO 10).v) rfl;rw[bg] at this;exact this
   have cC:=aD.e.rows.row 10;have cD:n10=s.aM.length:=by
    have:=cC.1;rw[bg] at this;have F:(k3 I s1.aM).length=n10*1:=this;rw[bG] at F;simp[k3] at F;omega
   have dB:=U aD;have dC:=U cA;have Y:=U (z_ bE (z_ cz (z_ bf (z_ bg (z_ bG cD)))));clear aD cA bE cz bf bg bG cD bB bd hblk cy bC bF dz cB cC hlen;have aR:=U (dB.o.below (bz ad (.cells #[.pointer (some ⟨blk,0,none⟩)] 164)));have hp:(ad.alloc (.cells #[.pointer (some ⟨blk,0,none⟩)] 164)).cell? ⟨ad.heap.size,0,none⟩=some (.pointer (some ⟨blk,0,none⟩)):=by go_simp
   have cE:=U (q8.one hp);have ae:bJ ((ad.alloc (.cells #[.pointer (some ⟨blk,0,none⟩)] 164)).ownsRow base 164 1 (.slice aP n10 aQ) n10 (k3 I s.aM)):=U (by
    have:=aR.o.1.e.rows.row 10;rw[Y.o.2.2.2.1] at this;rw[<-Y.o.2.2.2.2.1];exact this)
   have cF:=U (f_ aR.o.1.e.lt);have cG:bJ (∀v9 bM,nj (ad.alloc (.cells #[.pointer (some ⟨blk,0,none⟩)] 164)) base 164 (.slice aP n10 aQ) (n10+1) (k3 I s.aM++[.pointer (some ⟨blk,0,none⟩)]) v9 bM->nj (ad.alloc (.cells #[.pointer (some ⟨blk,0,none⟩)] 164)) base 164 (aO 10).v (s1.aM.length+1) (k3 I (s1.aM++[s.c.cl.length])) v9 bM):=U (λ v9 bM af=>by
    have e:k3 I (s1.aM++[s.c.cl.length])=k3 I s.aM++[.pointer (some ⟨blk,0,none⟩)]:=by simp[k3,sS,Y.o.1,Y.o.2.2.2.2.1]
    rw[e,Y.o.2.2.2.1,Y.o.2.2.2.2.1,<-Y.o.2.2.2.2.2];exact af)
   clear hp
   go_upto_region 8 with(at_builtin;refine FY rfl (.tmp 38) (.tmp 40) rfl base (.slice aP n10 aQ) n10 (k3 I s.aM) rfl ae.o (some ⟨ad.heap.size,0,none⟩) 1 1 _ rfl cE.o (by have:=Y.o.2.2.2.2.2;have:=D.o.2.2.2.2.2.2.2.2.2.1;omega) cF.o ?_;intro v9 bM af;obtain⟨⟨bI,bK,c3⟩,aE,dD,aH,a2,J,aS⟩:=aY.F0 (x:=s.c.cl.length) aR.o.1 (v':=v9) (cG.o v9 bM af);change v9=.slice bI bK c3 at aE;subst aE;have J:=U J;have aS:=U aS;clear af dD;have a1:bM.cell? ⟨G,13,none⟩=some (.slice aP n10 aQ):=(by rw[Y.o.2.2.2.1] at aH;exact aH);clear aH)
   generalize bM.setCell ⟨G,13,none⟩ (.slice bI bK c3)=t at J aS⊢;have bL:bJ (aG K w t):=U (dC.o.trans (aR.o.2.trans aS.o));obtain⟨s3,bN⟩:∃s3,s1.uK s.c.cl.length=s3:=⟨_,rfl⟩
   obtain⟨ao,bO⟩:∃f,iT aO 10 ⟨bI,bK,c3⟩=f:=⟨_,rfl⟩
   rw[bN,bO] at J;have bP:ao (kI s.c.cl.length)=⟨some ⟨bH,0,none⟩,m,c⟩:=by rw[<-bO,bk _ _ (by unfold kI;omega)];exact Y.o.2.1
   have aU:s3={s with c:={s.c with cl:=s.c.cl++[l]},ci:=s.ci++[⟨true,(bh:Int),s.bt⟩],aM:=s.aM++[s.c.cl.length]}:=by rw[<-bN,<-Y.o.2.2.1];rfl
   have bQ:ay s3.c.cl s.c.cl.length=l:=by rw[aU];show ay (s.c.cl++[l]) _=l;rw[uE]
   have bR:s3.aF=s.aF:=by rw[aU]
   have bS:s3.jB=s.jB:=by rw[aU]
   have cH:o5 K t s3:=D.o.2.2.1.kept bL.o bS bR;obtain⟨ar,au,av,bT⟩:∃A n c,oE ao s3=.slice A n c:=by
    unfold oE
    cases s3.jB with
    |none=>exact⟨_,_,_,rfl⟩
    |some h=>exact⟨_,_,_,rfl⟩
   have bj:t.cell? ⟨G,14,none⟩=some (.slice ar au av):=by have:=J.o.e.kJ (k:=14) (v:=oE ao s3) rfl;rw[bT] at this;exact this
   have cI:t.ownsRow base 3 1 (.slice (some ⟨bH,0,none⟩) m c) m (jc l):=by
    have:=J.o.e.rows.row (kI s.c.cl.length);rw[bP,Dk,Bp,xP,bQ] at this;exact this
   have cJ:=U (vj (some ⟨bH,0,none⟩) m c l t.drew (by
    have:=aL.kW cI (by have:=aA.o;omega);exact this.below (Below.refl _ _).drew))
   have Z:=U (z_ bP (z_ aU (z_ bQ (z_ bR (z_ bS (z_ cH bT))))));clear bP aU bQ bR bS cH bT cI aS aR cE ae cF cG bN bO a1 a2 dA;have cK:bJ (∀w1,Below t.drew.heap.size t.drew w1->w1.cell? ⟨G,14,none⟩=some (.slice ar au av)):=U (λ w1 aJ=>by rw[s_ (aJ.block G J.o.e.box.lt)];exact bj);have bl:bJ (∀(q:Option Addr)(c2:Nat)(w1:World),Below t.drew.heap.size t.drew w1->aY K base (w1.alloc (.cells #[.int .i64 2,.slice q l.length c2] 126)) G ao I s3/\o5 K (w1.alloc (.cells #[.int .i64 2,.slice q l.length c2] 126)) s3/\(w1.alloc (.cells #[.int .i64 2,.slice q l.length c2] 126)).cell? ⟨G,14,none⟩=some (.slice ar au av)/\(w1.alloc (.cells #[.int .i64 2,.slice q l.length c2] 126)).cell? ⟨w1.heap.size,0,none⟩=some (.int .i64 2)/\(w1.alloc (.cells #[.int .i64 2,.slice q l.length c2] 126)).cell? ⟨w1.heap.size,1,none⟩=some (.slice q l.length c2)):=U (λ q c2 w1 B=>⟨(J.o.drew.below (B.alloc B.size (.cells #[.int .i64 2,.slice q l.length c2] 126))).1,Z.o.2.2.2.2.2.1.kept (aG.drew.trans (J.o.drew.below (B.alloc B.size (.cells #[.int .i64 2,.slice q l.length c2] 126))).2) rfl rfl,cK.o _ (B.alloc B.size _),by go_simp,by go_simp⟩);have dT:l.length=m:=D.o.2.2.2.2.2.2.2.2.2.2.2.1;refine zY (rV Tryz.f148 8) 12 68 [some 44,some 45,some 46,some 47,some 48,some 49,some 50,some 51,some 52,some 53,some 54,some 55,none] _ [(0,.pointer (some ⟨G,0,none⟩)),(1,.slice (some ⟨bH,0,none⟩) m c)] (λ w:World=>w.cell? ⟨G,14,none⟩=some (.slice ar au av)) (vS [.pointer (some ⟨G,0,none⟩),.pointer (some ⟨G,0,none⟩),.pointer (some ⟨G,0,none⟩),.pointer (some ⟨G,14,none⟩),.slice ar au av,.slice (some ⟨bH,0,none⟩) m c,undef,undef,undef,undef,.pointer (some ⟨G,0,none⟩),.pointer (some ⟨G,14,none⟩)] yX (Mt t.drew l (λ q c2 w1 v w=>BP (w1.alloc (.cells #[.int .i64 2,.slice q l.length c2] 126)) base (tF ao s3) (s3.aF.length+1) (mj (s3.aF++[⟨2,⟨q,l.length,c2⟩⟩])) v w))) (Ae yX Mu) (λ w=>w=t.drew) 6 (by kernel_rfl) (by kernel_rfl) (by kernel_rfl) rfl (by kernel_rfl) (by kernel_rfl) (by kernel_rfl) (by kernel_rfl) (by kernel_rfl) (by kernel_rfl) rfl ⟨rfl,rfl,trivial⟩ bj rfl (Af.ok (by kernel_rfl) ?_) _ rfl ?_
   ·refine⟨?_,?_,?_,?_,?_,?_,⟨λ _=>?_,λ h=>(by cases h)⟩,⟨λ _=>?_,λ h=>(by cases h)⟩,⟨λ _=>?_,λ h=>(by cases h)⟩,⟨λ _=>?_,λ h=>(by cases h)⟩,?_,?_,trivial⟩
    rotate_left 6
    ·intro vals w ag bn bo H O hp;obtain rfl:=bo (.inr rfl);have dE:ag (.tmp 49)=vals 5:=(H.1 rfl).2 _ rfl;have f5:vals 5=.slice (some ⟨bH,0,none⟩) m c:=(H.1 rfl).1 (.inl rfl);refine tD 81 #[.tmp 49] #[25] rfl BQ hp ?_;simp only[t_,m_,l_,dE,f5];refine cJ.o.mono ?_;rintro e w1 ⟨q,c2,rfl,aa,B⟩;refine⟨_,rfl,(s_ (a:=⟨G,14,none⟩) (B.block G J.o.e.box.lt)).trans bj,⟨q,c2,rfl,B,aa⟩,λ j u aV aW aX aZ aw=>?_,λ h=>absurd rfl h⟩;unfold vS at*;split at aw
     ·rename_i hs;have ah:j=6\/j=7\/j=8\/j=9:=by simpa[yX,or_assoc] using hs
      exfalso;rcases ah with rfl|rfl|rfl|rfl<;>first|exact aV rfl|exact aW rfl|exact x_ (aX.symm.trans rfl)|exact x_ ((aZ _ rfl).symm.trans rfl)
     ·rename_i hs;rw[if_neg hs];exact aw
    ·intro vals w ag bn bo H O hp;have cL:ag (.tmp 50)=vals 6:=(H.1 rfl).2 _ rfl;obtain⟨q,c2,f6,B,aa⟩:∃q c2,vals 6=.slice q l.length c2/\Below t.drew.heap.size t.drew w/\w.ownsRow t.drew.heap.size 3 1 (.slice q l.length c2) l.length (jc l):=(H.1 rfl).1 (.inr rfl);rw[f6] at cL;simp only[bD,execOp,t_,m_,l_,cL,hp.1];simp[gL,go_sem];exact .same bn ⟨q,c2,rfl,B,aa⟩
    ·intro vals w ag bn bo H O hp;have cM:ag (.tmp 51)=vals 7:=(H.1 rfl).2 _ rfl;obtain⟨q,c2,f7,B,aa⟩:∃q c2,vals 7=.agg #[.int .i64 2,.slice q l.length c2]/\Below t.drew.heap.size t.drew w/\w.ownsRow t.drew.heap.size 3 1 (.slice q l.length c2) l.length (jc l):=(H.1 rfl).1 (.inr rfl);rw[f7] at cM;simp only[bD,execOp,t_,m_,l_,cM];simp[gL,go_sem];refine⟨(bl.o q c2 w B).2.2.1,⟨q,c2,w,rfl,B,aa,rfl⟩,λ j u aV aW aX aZ aw=>?_,λ h=>λ bU=>False.elim (x_ (bU.symm.trans (by kernel_rfl)))⟩;unfold vS at*;split at aw
     ·rename_i hs;have ah:j=6\/j=7\/j=8\/j=9:=by simpa[yX,or_assoc] using hs
      exfalso;rcases ah with rfl|rfl|rfl|rfl<;>first|exact aV rfl|exact aW rfl|exact x_ (aX.symm.trans rfl)|exact x_ ((aZ _ rfl).symm.trans rfl)
     ·rename_i hs;rw[if_neg hs];exact aw
    ·intro vals w ag bn bo H O hp;have cN:ag (.tmp 48)=vals 4:=(H.1 rfl).2 _ rfl;have f4:vals 4=.slice ar au av:=(H.1 rfl).1 (.inl rfl);have cO:ag (.tmp 52)=vals 8:=(H.2.1 rfl).2 _ rfl;obtain⟨q,c2,w1,f8,B,aa,rfl⟩:∃(q:Option Addr)(c2:Nat)(w1:World),vals 8=.slice (some ⟨w1.heap.size,0,none⟩) 1 1/\Below t.drew.heap.size t.drew w1/\w1.ownsRow t.drew.heap.size 3 1 (.slice q l.length c2) l.length (jc l)/\w=w1.alloc (.cells #[.int .i64 2,.slice q l.length c2] 126):=(H.2.1 rfl).1 (.inr rfl);rw[f4] at cN;rw[f8] at cO;obtain⟨h1,F,an,ah,bb⟩:=bl.o q c2 w1 B;obtain⟨v',w',g1,g2⟩:=Mr h1 F 45 w1.heap.size 1 ⟨2,⟨q,l.length,c2⟩⟩ ah bb (by have:=D.o.2.2.2.2.2.2.2.2.2.2.1;rw[Z.o.2.2.2.1];exact this);rw[Z.o.2.2.2.2.2.2] at g1;simp only[bD,execOp,resolve,invoke,builtin,Sem.run_bind,Sem.run_pure,Result.andThen_ok,t_,m_,l_,cN,cO,g1,gL];obtain⟨h',-,dF,-⟩:=aY.G0 h1 g2;refine⟨dF.trans (by rw[Z.o.2.2.2.2.2.2]),⟨q,c2,w1,B,aa,g2⟩,λ j u aV aW aX aZ aw=>?_,λ h=>λ bU=>False.elim (x_ (bU.symm.trans (by kernel_rfl)))⟩;unfold vS at*;split at aw
     ·rename_i hs;have ah:j=6\/j=7\/j=8\/j=9:=by simpa[yX,or_assoc] using hs
      exfalso;rcases ah with rfl|rfl|rfl|rfl<;>first|exact aV rfl|exact aW rfl|exact x_ (aX.symm.trans rfl)|exact x_ ((aZ _ rfl).symm.trans rfl)
     ·rename_i hs;rw[if_neg hs];exact aw
    all_goals
     refine⟨λ h=>(by cases h),λ _ ag w bc H O hp=>?_⟩;obtain⟨dG,dH,-⟩:=O
     try simp[xX,qY,Region.binds,yX] at H
     simp[bD,execOp,gL,go_sem,dG,dH,H,bc,hp.1]
   intro vals bM dI ab dU cP;obtain⟨q,c2,w1,B,aa,af⟩:∃(q:Option Addr)(c2:Nat)(w1:World),Below t.drew.heap.size t.drew w1/\w1.ownsRow t.drew.heap.size 3 1 (.slice q l.length c2) l.length (jc l)/\BP (w1.alloc (.cells #[.int .i64 2,.slice q l.length c2] 126)) base (tF ao s3) (s3.aF.length+1) (mj (s3.aF++[(⟨2,⟨q,l.length,c2⟩⟩:nw)])) (vals 9) bM:=ab 9 (by omega) rfl;obtain⟨h1,F,an,ah,bb⟩:=bl.o q c2 w1 B;obtain⟨⟨Q,R,V⟩,aE,aH,a2,a6,a7⟩:=aY.G0 h1 af;change vals 9=.slice Q R V at aE;rw[aE] at af a6 a7;have a1:bM.cell? ⟨G,14,none⟩=some (.slice ar au av):=by rw[Z.o.2.2.2.2.2.2] at aH;exact aH
   have a6:=U a6;have a7:=U a7;have bp:=U af;have ae:=U aa;have bV:=U B;have k0:vals 0=.pointer (some ⟨G,0,none⟩):=ab 0 (by omega) rfl;have cQ:vals 1=.pointer (some ⟨G,0,none⟩):=ab 1 (by omega) rfl;have cR:vals 2=.pointer (some ⟨G,0,none⟩):=ab 2 (by omega) rfl;have cS:vals 3=.pointer (some ⟨G,14,none⟩):=ab 3 (by omega) rfl;have cT:vals 4=.slice ar au av:=ab 4 (by omega) rfl;have cU:vals 5=.slice (some ⟨bH,0,none⟩) m c:=ab 5 (by omega) rfl;have cV:vals 10=.pointer (some ⟨G,0,none⟩):=ab 10 (by omega) rfl;have cW:vals 11=.pointer (some ⟨G,14,none⟩):=ab 11 (by omega) rfl;simp[ot,Act.put,aE,k0,cQ,cR,cS,cT,cU,cV,cW] at cP;subst cP;show bD _ _ (Oper.mk _ _ _ _ _ _) _ _;simp[bD,execOp,gL,go_sem,Act.eval,a1,a2];clear af aa B aE aH h1 F an ah bb k0 cQ cR cS cT cU cV cW ab dI
   iterate 1
    have cX:∀b,t.heap.size<=b->b<w1.heap.size->(bM.setCell ⟨G,14,none⟩ (.slice Q R V)).heap[b]? =w1.heap[b]? :=λ b B cY=>by
     have dV:=J.o.e.box.lt;rw[Below.heap_setCell _ _ _ _ (show b≠G by omega)];rw[bp.o.2.1.block b (by simp;omega) (λ e=>by
      have e:=e.symm;unfold tF at e
      cases a8:s3.jB with
      |none=>rw[a8] at e;have:=(J.o.e.rows.lt (r:=11) e).2;omega
      |some h=>rw[a8] at e;cases e)]
     first|exact heap_alloc_old w1 _ cY|exact heap_alloc_old w1 _ _ cY
    have cZ:(bM.setCell ⟨G,14,none⟩ (.slice Q R V)).ownsRow base 3 1 (ax.v ⟨q,l.length,c2⟩) l.length (jc l):=
     yA (oS ae.o (λ b aJ=>cX b (ae.o.lt b aJ).1 (ae.o.lt b aJ).2)) (f_ J.o.e.lt)
    obtain⟨g2,bq⟩:∃g2,(⟨q,l.length,c2⟩:ax).b=some g2:=by
     rcases ae.o.2 with⟨L,_⟩|⟨g,cap,cur,L,_⟩
     ·injection L with c0 dW dX
      have h1:=aA.o.1;have F:l.length=m:=D.o.2.2.2.2.2.2.2.2.2.2.2.1;omega
     ·injection L with c0
      exact⟨g,by show q.map _=_;rw[c0];rfl⟩
    have br:=ae.o.lt g2 (by show(ax.v ⟨q,l.length,c2⟩).ownBlock=_;rw[ax.own];exact bq);have dJ:t.heap.size<=g2:=br.1;have c4:g2<(bM.setCell ⟨G,14,none⟩ (.slice Q R V)).heap.size:=by
     have h1:=(k8 bM G 14 (.slice Q R V)).size;have F:=bp.o.2.1.size;have an:=br.2;simp at F;omega
    have ai:=a6.o.qD (g:=g2) c4 (by have:=J.o.e.box.lt;omega) (λ r e=>by
     by_cases c5:r=11
     ·subst c5;rw[jO] at e;rcases bp.o.2.2 with h1|h1
      ·have F:(ax.v ⟨Q,R,V⟩).ownBlock=tF ao s3:=h1;rw[ax.own,e] at F;unfold tF at F
       cases a8:s3.jB with
       |none=>rw[a8] at F;have:=(J.o.e.rows.lt (r:=11) F.symm).2;omega
       |some h=>rw[a8] at F;cases F
      ·have:=h1 g2 (by show(ax.v ⟨Q,R,V⟩).ownBlock=_;rw[ax.own];exact e);have an:=br.2;simp at this;omega
     ·rw[bk _ _ c5] at e;have:=(J.o.e.rows.lt e).2;omega) (λ d H e=>by have:=(J.o.e.cls d H).lt;omega)
    have bs:qq (qD K g2) (bM.setCell ⟨G,14,none⟩ (.slice Q R V)) s.c.n ⟨2,⟨q,l.length,c2⟩⟩:=⟨.inr (.inl rfl),⟨l,aL.kW cZ (by show l.length*8<=140737488355328;have h1:=aA.o.2.1;have F:l.length=m:=D.o.2.2.2.2.2.2.2.2.2.2.2.1;omega),D.o.2.2.2.2.2.2.2.2.2.2.2.2.2.2.2.1⟩,λ b e _=>.inr (by rw[bq] at e;injection e with e;exact e.symm)⟩
    have c6:=U (bL.o.trans (aG.drew.trans ((J.o.drew.below (bV.o.alloc bV.o.size (.cells #[.int .i64 2,.slice q l.length c2] 126))).2.trans a7.o)));obtain⟨M,bW⟩:∃M,qD K g2=M:=⟨_,rfl⟩
    have c7:bJ (∀b,K b->M b):=U (λ b aJ=>by rw[<-bW];exact .inl aJ);rw[bW] at ai bs;obtain⟨p,hp⟩:∃p:nw,(⟨2,⟨q,l.length,c2⟩⟩:nw)=p:=⟨_,rfl⟩
    have bX:∀b,(⟨2,⟨q,l.length,c2⟩⟩:nw).h.b=some b->w.heap.size<=b:=λ b e=>by
     have e:(⟨q,l.length,c2⟩:ax).b=some b:=e;rw[bq] at e;injection e with e
     subst e;have:=bL.o.size;omega
    rw[hp] at bs bX;have dK:=U bX;have c8:({s3 with aF:=s3.aF++[p],jB:=none}:aq)={s with c:={s.c with cl:=s.c.cl++[l]},ci:=s.ci++[⟨true,(bh:Int),s.bt⟩],aM:=s.aM++[s.c.cl.length],aF:=s.aF++[p],jB:=none}:=by rw[Z.o.2.1]
    obtain⟨bY,bZ⟩:∃f,iT ao 11 ⟨Q,R,V⟩=f:=⟨_,rfl⟩
    have c9:bY (kI s.c.cl.length)=⟨some ⟨bH,0,none⟩,m,c⟩:=by
     rw[<-bZ,bk _ _ (by unfold kI;omega)];exact Z.o.1
    have ai:aY M base (bM.setCell ⟨G,14,none⟩ (.slice Q R V)) G bY I {s3 with aF:=s3.aF++[p],jB:=none}:=by rw[<-bZ,<-hp];exact ai
    rw[c8] at ai;have da:=U bs;clear bZ c8 cX cZ hp a6 a7 bp ae bV bl cJ bs bX bW bq br dJ c4
    go_upto_region 9 with fail
    generalize bM.setCell ⟨G,14,none⟩ (.slice Q R V)=db at ai c6 da⊢;clear a1 a2 bj cK;obtain⟨y,aB⟩:∃y,aj l 0=y:=⟨_,rfl⟩
    have ba:=aA.o.1;have dc:=D.o.2.2.2.2.2.2.2.2.2.2.2.1;have dd:gK s.c.n y:=by rw[<-aB];exact D.o.2.2.2.2.2.2.2.2.2.2.2.2.2.2.2.1 _ (lZ (by omega))
    have dY:(0:Int)<(m:Int):=by omega
    have ai:=U ai;have ak:=U (z_ aB (z_ dd (z_ c9 dc)));clear aB dd c9 dc ba;have de:bJ (∀(bM:World)(b0:Nat->ax),aY M base bM G b0 I {s with c:=lp (kF s.c l) y (some s.c.cl.length),ci:=s.ci++[⟨true,(bh:Int),s.bt⟩],aM:=s.aM++[s.c.cl.length],aF:=s.aF++[p],jB:=none}->aG M db bM->G1 K base w G s l (.returned (.tuple #[])) bM):=U (λ bM b0 a' aK=>by
     refine⟨rfl,M,b0,I,(bh:Int),p,c7.o,?_,c6.o.trans (aK.mono c7.o),by omega,by have:=nF.o;have:=dr.o;have:=ak.o.2.2.2;omega,da.o.jr aK,dK.o⟩;unfold aq.wR;rw[ak.o.1];exact a')
    have df:bJ (∀(az:World)(al:Nat->ax),aY M base az G al I {s with c:=kF s.c l,ci:=s.ci++[⟨true,(bh:Int),s.bt⟩],aM:=s.aM++[s.c.cl.length],aF:=s.aF++[p],jB:=none}->Calls w_ 156 #[.pointer (some ⟨G,0,none⟩),.int .i64 y,.pointer (some ⟨blk,0,none⟩)] az λ e w'=>e=.returned (.tuple #[])/\∃h':ax,aY M base w' G (iT al 4 h') I {s with c:=lp (kF s.c l) y (some s.c.cl.length),ci:=s.ci++[⟨true,(bh:Int),s.bt⟩],aM:=s.aM++[s.c.cl.length],aF:=s.aF++[p],jB:=none}/\aG M az w'):=U (λ az al N=>by
     have h1:=Bv N y (some s.c.cl.length) D.o.2.2.2.1.new (show gK s.c.n y from ak.o.2.1) (show s.c.n<=60000 from D.o.2.2.2.2.2.1) (show s.c.st.length<=1000000 from D.o.2.2.2.2.2.2.2.2.1);rw[show qM I (some s.c.cl.length)=.pointer (some ⟨blk,0,none⟩) by show Value.pointer (some ⟨I s.c.cl.length,0,none⟩)=_;rw[Y.o.1]] at h1;exact h1)
    have dh:bJ (∀(az:World)(al:Nat->ax)(b1:aq),aY M base az G al I b1->b1.c.cl=s.c.cl++[l]->al (kI s.c.cl.length)=⟨some ⟨bH,0,none⟩,m,c⟩->az.cell? ⟨bH,0,none⟩=some (.int .i64 y)):=U (λ az al b1 N h1 F=>by
     have an:=N.e.xR (d:=s.c.cl.length) (g:=bH) (by rw[F];rfl) (k:=0) (by rw[h1,uE];have:=ak.o.2.2.2;have:=aA.o;omega);rw[h1,uE,ak.o.1] at an;exact an)
    by_cases di:2<=m
    ·have g1:(1:Int)<(m:Int):=by omega
     have d1:decide ((1:Int)<(m:Int))=true:=decide_eq_true g1;have dj:bJ (2<=l.length):=U (by have:=ak.o.2.2.2;omega);have bu:=Gh ai.o (d:=s.c.cl.length) (by show _<(s.c.cl++[l]).length;simp) (by show 2<=(ay (s.c.cl++[l]) _).length;rw[uE];exact dj.o) (by show∀x∈ay (s.c.cl++[l]) _,_;rw[uE];exact D.o.2.2.2.2.2.2.2.2.2.2.2.2.2.2.2.1) (show s.c.n<=60000 from D.o.2.2.2.2.2.1) (show s.c.wt.length=2*s.c.n+2 from D.o.2.2.2.2.2.2.1) (show∀k,(ay s.c.wt k).length<=1000000 from D.o.2.2.2.2.2.2.2.1);rw[Y.o.1,ak.o.2.2.1,Gd] at bu;have bu:=U bu;clear di
     go_upto_region 11 with(go_at_call 180;refine bu.o.mono ?_;rintro e dL ⟨rfl,al,N,b2,dk⟩;dsimp only)
     have N:aY M base dL G al I {s with c:=kF s.c l,ci:=s.ci++[⟨true,(bh:Int),s.bt⟩],aM:=s.aM++[s.c.cl.length],aF:=s.aF++[p],jB:=none}:=by
      have e:kF s.c l={s.c with cl:=s.c.cl++[l],wt:=wq s.c.wt l s.c.cl.length}:=by unfold kF;rw[if_pos dj.o]
      rw[e];have dm:=N;rw[show ay ({s with c:={s.c with cl:=s.c.cl++[l]},ci:=s.ci++[⟨true,(bh:Int),s.bt⟩],aM:=s.aM++[s.c.cl.length],aF:=s.aF++[p],jB:=none}:aq).c.cl s.c.cl.length=l from uE _ _] at dm;exact dm
     have dM:=dh.o _ _ _ N rfl dk;have b3:=U (df.o _ _ N);have b2:=U b2;clear N dk
     go_wp2_with (go_at_call 156;refine b3.o.mono ?_;rintro e dN ⟨rfl,h',a',aK⟩;dsimp only)
     go_end0;exact de.o _ _ a' (b2.o.trans aK)
    ·have g1:¬(1:Int)<(m:Int):=by omega
     have d1:decide ((1:Int)<(m:Int))=false:=decide_eq_false g1;have N:aY M base db G bY I {s with c:=kF s.c l,ci:=s.ci++[⟨true,(bh:Int),s.bt⟩],aM:=s.aM++[s.c.cl.length],aF:=s.aF++[p],jB:=none}:=by
      have e:kF s.c l={s.c with cl:=s.c.cl++[l]}:=by unfold kF;rw[if_neg (by have:=ak.o.2.2.2;omega)]
      rw[e];exact ai.o
     have dM:=dh.o _ _ _ N rfl ak.o.2.2.1;have b3:=U (df.o _ _ N);clear N di
     go_wp2_with (go_at_call 156;refine b3.o.mono ?_;rintro e dN ⟨rfl,h',a',aK⟩;dsimp only)
     go_end0;exact de.o _ _ a' aK
end
section
section
variable {F:List (List Int)}{ah:List Int}{n fM:Nat}{s s':aq}{sp h h':Nat}
theorem mq.conflict(S:mq F ah n fM s sp h){l:List Int}{level:Nat}(L:uI F s.c l level){B:Int}{uq s1 s3:aq}(k0:nW s uq)(k:bx level uq s1)(r:mo n jF B s1)(I:0<=B/\jF<=B)(bh:Int)(J:0<=bh/\bh<=jF)(aF:List nw)
  (f:nW (s1.wR l bh aF) s3) (w:mo n jF (jF*(1+16*((sp+1:Nat):Int))) s3):
  mq F ah n fM s3 (sp+1) (gZ s.c.st level)/\s3.c.ag=gZ s.c.st level/\s3.aF=aF/\s3.jB=none:=by
 have i:uq.c=s.c:=k0.c;have K:level<uq.c.st.length:=by rw[i];exact L.mA
 have j:s1.c=mG s.c level:=by rw[k.c,i]
 have y:(s1.wR l bh aF).c=zv s.c l level:=by
  show lp (kF s1.c l) (aj l 0) (some s1.c.cl.length)=_;rw[j];rfl
 have z:s1.c.cl=s.c.cl:=by rw[j];rfl
 have M:=L.fresh S.gR.aK;have A:=S.gR.aK.back L.mA;have p:=S.gR.keep L;have C:s1.aM=s.aM:=k.aM.trans k0.aM;have q:∀d∈s.aM,d<s.c.cl.length:=S.rg.k4;have c3:s3.c=zv s.c l level:=f.c.trans y;have t:s3.aM=s.aM++[s.c.cl.length]:=by
  rw[f.aM];show s1.aM++[s1.c.cl.length]=_;rw[C,z]
 have D:∀v,1<=v->v<=n->aj s1.c.val v=0->0<=aj s1.pl v:=λ v h1 g m=>by
  rcases k.FR v h1 (by rw[i,S.rg.iX];exact g) m with e|e
  ·refine k.yD v ((k0.same v).2 (S.un v h1 g ?_));rw[i] at e;exact e
  ·exact e
 refine⟨⟨by rw[c3];exact p,w,by rw[c3];exact S.vJ.keep S.gR.aK L,?_,λ v h1 g m=>?_,?_,?_,?_,?_,?_,?_⟩,by rw[c3];rfl,f.aF,f.jB⟩
 ·rw[c3];refine(S.lb.back S.gR.aK L.mA).grow rfl ?_;show _<=((mG s.c level).av++[aj l 0]).length;rw[y_];omega
 ·rw[c3] at m;have e:=(ve p.aK h1 (by show v<=s.c.n;rw[S.rg.iX];exact g)).1 m;have E:(zv s.c l level).av=s1.c.av++[aj l 0]:=by rw[j];rfl
  rw[E] at e;refine(f.same v).2 (D v h1 g ?_);rw[j] at e⊢;exact(ve A h1 (by show v<=s.c.n;rw[S.rg.iX];exact g)).2 ⟨λ o=>e.1 (g_ _ o),λ o=>e.2 (g_ _ o)⟩
 ·rw[f.aO];show s1.aO=_;rw[k.aO,k0.aO];exact S.aO
 ·rw[t,c3];show((s.aM++[s.c.cl.length]).map (ay (s.c.cl++[l]))).Pairwise _;rw[List.map_append,List.map_singleton,List.pairwise_append];have u:∀d∈s.aM,ay (s.c.cl++[l]) d=ay s.c.cl d:=λ d ag=>AY (q d ag)
  refine⟨Bk _ (λ d ag x=>by rw[u d ag]) S.wK,by simp,λ a G b H=>?_⟩;rw[o_.1 H,uE];obtain⟨d,ag,rfl⟩:=List.mem_map.1 G;rw[u d ag];exact L.new S.gR d (q d ag)
 ·rw[t,y_,v_,S.ql];omega
 ·rw[f.nl];show∀l'∈s1.nl,_;rw[k.nl,k0.nl];exact S.yC
 ·rw[c3];show aj ((zero s.c.val _).set _ _) 0=0;have:=(L.ok.lt _ (lZ (q_.2 L.ok.ne))).1;rw[oP,if_neg (by omega),yo];split
  ·rfl
  ·exact S.v0
 ·rw[c3];exact oT.set ((S.qE.back level).new l) _ (λ d ag=>by injection ag with ag;rw[<-ag];show s.c.cl.length<(s.c.cl++[l]).length;simp)
theorem mo.wR{B:Int}(r:mo n jF B s)(g:jF<=B){l:List Int}(bh:Int)(b:0<=bh/\bh<=jF)(a:List nw):mo n jF B (s.wR l bh a):=by
 refine⟨r.iX,r.lP,r.lg,r.qi,r.a0,r.q7,r.oG,r.nG,r.oU,?_,λ d=>?_,λ d f=>?_⟩
 ·show(s.ci++[_]).length=(s.c.cl++[l]).length;rw[y_,y_,r.nH];rfl
 ·have e:lG (s.wR l bh a) d=if d=s.ci.length then ⟨true,bh,s.bt⟩ else lG s d:=yE _ _ _
  rw[e];split
  ·have h1:=r.q7;have h:=r.oG;exact⟨by show 0<=s.bt;omega,by show s.bt<=B;omega,b⟩
  ·exact r.p5 d
 ·show d<(s.c.cl++[l]).length;rw[y_,v_];rcases List.mem_append.1 f with h1|h1
  ·have:=r.k4 d h1;omega
  ·rw[o_.1 h1];omega
end
end
section
open Go.RowKit Go.Shelf
theorem aY.uR(h:aY K base W G hs cb s){g:Nat}(hk:K g)(k:Nat)(v:Value):aY K base (W.setCell ⟨g,k,none⟩ v) G hs cb s:=
 ⟨h.e.off (k8 W g k v) (λ c e=>by
  injection e with e
  subst e;exact⟨λ a=>h.s.g (by rw[<-a];exact hk),λ r a=>h.s.row r g a hk,λ d b a=>h.s.cl d b (by rw[a];exact hk)⟩),h.s.more (k8 W g k v).size⟩
theorem o5.mono(h:o5 K w s)(hk:∀b,K b->k9 b):o5 k9 w s:=λ f g=>by
 obtain⟨a,b,c⟩:=h f g;exact⟨a,b,c.imp id λ⟨d,off,e,h1,i⟩=>⟨d,off,e,λ j=>hk d (h1 j),i⟩⟩
structure r5(aZ gX:Nat->Prop)(w0:World)(F:List (List Int))(ah:List Int)(n fM jD:Nat)(aI:aq)(gM:Option Addr)(bK gN bC:Nat):Prop where
 n10:n<=10
 xY:ah.length=bK
 G2:bK<=1000
 Mw:∀x∈ah,gK n x
 Mx:aL w0 gM bK gN ah
 G3:∀b,gM.map (·.block)=some b->0<bK->gX b
 k0:∀b,gX b->b<w0.heap.size
 aJ:bC<=1099511627776
 jD:jD<=fM+40000
 uS:aI.aF.length+59049<=1099511627776
 lit:∀g∈F,∀x∈g,gK n x
 dl:∀b,aZ b->b<w0.heap.size
theorem r5.DJ(C:r5 aZ gX w0 F ah n fM jD aI gM bK gN bC){b:Nat}(h:w0.heap.size<=b):¬aZ b:=λ a=>by
 have:=C.dl b a;omega
def mY:Value:=.slice none 0 0
structure mL(aZ gX:Nat->Prop)(base:Nat)(w0:World)(G:Nat)(F:List (List Int))(ah:List Int)(n fM jD:Nat)(aI:aq)(bg bC:Nat)(K:Nat->Prop)(W:World)(hs:Nat->ax)(cb:Nat->Nat)(s:aq)(aB h:Nat):Prop where
 q9:∀b,gX b->K b
 fN:aY K base W G hs cb s
 jr:aG gX w0 W
 kg:mq F ah n fM s aB h
 j5:aT W bg 30 [.int .i64 0,mY,mY,.int .i64 (aB:Int)]
 sB:K bg
 tG:¬gX bg
 wS:o5 (λ b=>gX b/\¬aZ b) W s
 wT:∀p∈s.aF,qq (λ b=>(K b/\b≠bg)/\¬aZ b) W n p
 wU:aI.aF<+:s.aF
 uS:s.aF.length=aI.aF.length+aB
 vT:s.c.cl.length=jD+aB
 mQ:aB<=bC
def nY(K:Nat->Prop)(W:World)(F:List (List Int))(ah:List Int)(n bC aB:Nat)(kind:Int)(a:Option Addr)(d e:Nat)(c:Option Addr)(f h:Nat):Prop:=
 (kind=1/\h_ c f h=mY/\∃m:List Bool,kE W a d e m/\(∀b,a.map (·.block)=some b->K b)/\m.length=n+1/\iE m 0=false/\(∀g∈F,sN (lB m) g)/\∀x∈ah,lB m x=true)\/
 (kind=2/\h_ a d e=mY/\∃core:List Int,aL W c f h core/\(∀b,c.map (·.block)=some b->K b)/\core.Sublist ah/\∀M,tQ M F->¬∀x∈core,M x=true)\/
 (kind=3/\h_ a d e=mY/\h_ c f h=mY/\aB=bC)
def DK(aZ gX:Nat->Prop)(base:Nat)(w0:World)(G:Nat)(F:List (List Int))(ah:List Int)(n fM:Nat)(aI:aq)(bC:Nat)(e:Ending)(W:World):Prop:=
 ∃(K:Nat->Prop)(hs:Nat->ax)(cb:Nat->Nat)(s:aq)(aB h:Nat)(kind:Int)(a:Option Addr)(c d:Nat)(f:Option Addr)(g i:Nat),
  e=.returned (.agg #[.int .i64 kind,.slice a c d,.slice f g i,.int .i64 (aB:Int)])/\(∀b,gX b->K b)/\aY K base W G hs cb s/\aG gX w0 W/\mq F ah n fM s aB h/\o5 (λ b=>gX b/\¬aZ b) W s/\(∀p∈s.aF,qq (λ b=>K b/\¬aZ b) W n p)/\aI.aF<+:s.aF/\s.aF.length=aI.aF.length+aB/\aB<=bC/\nY (λ b=>K b/\¬aZ b) W F ah n bC aB kind a c d f g i
section
variable {aZ gX K k9:Nat->Prop}{base:Nat}{w0 W W':World}{G:Nat}{F:List (List Int)}{ah:List Int}{n fM jD:Nat}{aI s s':aq}{gM:Option Addr}{bK gN bg bC:Nat}{hs hs':Nat->ax}{cb rT:Nat->Nat}{aB h h':Nat}
theorem mL.move(S:mL aZ gX base w0 G F ah n fM jD aI bg bC K W hs cb s aB h)(e:aY K base W' G hs' rT s')(jr:aG K W W')(f:mq F ah n fM s' aB h')(a:s'.aF=s.aF)(g:s'.jB=s.jB)(i:s'.c.cl.length=s.c.cl.length):
  mL aZ gX base w0 G F ah n fM jD aI bg bC K W' hs' rT s' aB h':=
 ⟨S.q9,e,S.jr.trans (jr.mono S.q9),f,jr.blk S.j5 S.sB,S.sB,S.tG,S.wS.kept (jr.mono λ b d=>S.q9 b d.1) g a,λ p hp=>(S.wT p (by rw[<-a];exact hp)).jr (jr.mono λ b d=>d.1.1),by rw[a];exact S.wU,by rw[a];exact S.uS,by rw[i];exact S.vT,S.mQ⟩
theorem mL.below(S:mL aZ gX base w0 G F ah n fM jD aI bg bC K W hs cb s aB h)(a:Below W.heap.size W W'):mL aZ gX base w0 G F ah n fM jD aI bg bC K W' hs cb s aB h:=
 S.move (S.fN.below a).1 (S.fN.below a).2 S.kg rfl rfl rfl
theorem mL.more(S:mL aZ gX base w0 G F ah n fM jD aI bg bC K W hs cb s aB h)(C:r5 aZ gX w0 F ah n fM jD aI gM bK gN bC)(k:aB<bC){jw:World}{p:nw}
  (hk:∀b,K b->k9 b) (l:aY k9 base W' G hs' rT s') (jr:aG (λ b=>K b/\b≠bg) W jw) (f:aG K jw W') (m:aT jw bg 30 [.int .i64 0,mY,mY,.int .i64 (aB+1:Nat)]) (o:mq F ah n fM s' (aB+1) h') (d:s'.aF=s.aF++[p]) (r:s'.jB=none) (t:s'.c.cl.length=s.c.cl.length+1)
  (hl:qq k9 W' n p) (g:∀b,p.h.b=some b->W.heap.size<=b):mL aZ gX base w0 G F ah n fM jD aI bg bC k9 W' hs' rT s' (aB+1) h':=by
 have v:=S.j5.lt;have f0:aG (λ b=>K b/\b≠bg) W W':=jr.trans (f.mono λ b a=>a.1);refine⟨λ b a=>hk b (S.q9 b a),l,S.jr.trans (f0.mono λ b a=>⟨S.q9 b a,λ e=>S.tG (e▸a)⟩),o,f.blk m S.sB,hk _ S.sB,S.tG,λ w i=>(by rw[r] at i;cases i),λ q j=>?_,?_,?_,?_,k⟩
 ·rw[d] at j;rcases List.mem_append.1 j with h1|h1
  ·exact((S.wT q h1).jr (f0.mono λ b a=>a.1)).mono λ b a=>⟨⟨hk b a.1.1,a.1.2⟩,a.2⟩
  ·rw[o_.1 h1];exact⟨hl.lH,hl.rd,λ b e u=>⟨⟨hl.blk b e u,by have:=g b e;omega⟩,C.DJ (r_ S.jr.size (g b e))⟩⟩
 ·rw[d];exact S.wU.trans (List.prefix_append _ _)
 ·rw[d,y_,v_,S.uS];omega
 ·rw[t,S.vT];omega
theorem aG.DL(S:mL aZ gX base w0 G F ah n fM jD aI bg bC K W hs cb s aB h)(k:Nat)(v:Value):aG (λ b=>K b/\b≠bg) W (W.setCell ⟨bg,k,none⟩ v):=aG.set bg k v (λ a=>a.2 rfl)
theorem mL.nt(S:mL aZ gX base w0 G F ah n fM jD aI bg bC K W hs cb s aB h)(C:r5 aZ gX w0 F ah n fM jD aI gM bK gN bC):s.aM.length+1<=59049/\aB+1<=59049/\s.c.cl.length<=100000/\s.c.n<=60000/\s.c.st.length<=1100/\s.aF.length<=1099511627776/\s.c.av.length<=n:=by
 have h1:=S.kg.nt;have a:3^n<=3^10:=Nat.pow_le_pow_right (by omega) C.n10;have b:(3:Nat)^10=59049:=by decide
 have d:=S.kg.ql;have e:=S.vT;have f:=C.jD;have g:=S.kg.rg.iX;have i:=C.n10;have j:=S.kg.lb.len;have k:=S.kg.gR.aK.len;have l:=C.xY;have m:=C.G2;have o:=S.uS;have p:=C.uS;refine⟨by omega,by omega,by omega,by omega,by omega,by omega,by omega⟩
theorem mq.G4(S:mq F ah n fM s aB h)(b:0<s.c.st.length):0<s.c.av.length:=by
 rcases Nat.eq_zero_or_pos ah.length with d|d
 ·have h1:=S.lb.str 0 b (by omega);split at h1
  ·have a:=S.gR.aK.om (0+1) (by assumption);omega
  ·omega
 ·have h1:=S.vJ.ind 0 b d;have a:=sj h1;exact q_.2 (λ e=>by rw[e] at a;cases a)
theorem mL.Dx(S:mL aZ gX base w0 G F ah n fM jD aI bg bC K W hs cb s aB h):vR s:=
 ⟨S.kg.qE,λ k d a=>(S.kg.gR.wt.qJ k d a).1,S.kg.rg.k4⟩
theorem mL.G5(S:mL aZ gX base w0 G F ah n fM jD aI bg bC K W hs cb s aB h)(C:r5 aZ gX w0 F ah n fM jD aI gM bK gN bC):aL W gM bK gN ah:=C.Mx.jr S.jr C.G3
structure r6(aZ gX:Nat->Prop)(base:Nat)(w0:World)(G:Nat)(F:List (List Int))(ah:List Int)(n fM:Nat)(aI:aq)(bg bC:Nat)(K:Nat->Prop)(W:World)(hs:Nat->ax)(cb:Nat->Nat)(s:aq)(aB h:Nat)(kind:Int)(aU:Option Addr)(bq aP:Nat)(bw:Option Addr)(bn aV:Nat):Prop where
 q9:∀b,gX b->K b
 fN:aY K base W G hs cb s
 jr:aG gX w0 W
 kg:mq F ah n fM s aB h
 sB:K bg
 tG:¬gX bg
 wS:o5 (λ b=>gX b/\¬aZ b) W s
 wT:∀p∈s.aF,qq (λ b=>(K b/\b≠bg)/\¬aZ b) W n p
 wU:aI.aF<+:s.aF
 uS:s.aF.length=aI.aF.length+aB
 mQ:aB<=bC
 wV:nY (λ b=>(K b/\b≠bg)/\¬aZ b) W F ah n bC aB kind aU bq aP bw bn aV
theorem kE.jr{K:Nat->Prop}{w w':World}{A:Option Addr}{n c:Nat}{ai:List Bool}(h:kE w A n c ai)(f:aG K w w')(hk:∀b,A.map (·.block)=some b->K b):kE w' A n c ai:=
 ⟨h.len,h.cap,h.mu,h.nT,λ a=>by
  obtain⟨b,off,e,h1,d⟩:=h.cells a;refine⟨b,off,e,Nat.lt_of_lt_of_le h1 f.size,λ j g=>?_⟩;rw[f.cell (p:=⟨b,off+j,none⟩) (hk b (by rw[e];rfl))];exact d j g⟩
theorem nY.jr{K:Nat->Prop}{kind:Int}{aU:Option Addr}{bq aP:Nat}{bw:Option Addr}{bn aV:Nat}(a:nY K W F ah n bC aB kind aU bq aP bw bn aV)(f:aG K W W'):nY K W' F ah n bC aB kind aU bq aP bw bn aV:=by
 rcases a with⟨h1,d,m,g,c,h⟩|⟨h1,d,co,g,c,h⟩|h1
 ·exact .inl ⟨h1,d,m,g.jr f c,c,h⟩
 ·exact .inr (.inl ⟨h1,d,co,g.jr f (λ b e _=>c b e),c,h⟩)
 ·exact .inr (.inr h1)
theorem nY.mono{K k9:Nat->Prop}{kind:Int}{aU:Option Addr}{bq aP:Nat}{bw:Option Addr}{bn aV:Nat}(a:nY K W F ah n bC aB kind aU bq aP bw bn aV)(hk:∀b,K b->k9 b):nY k9 W F ah n bC aB kind aU bq aP bw bn aV:=by
 rcases a with⟨h1,c,m,d,f,g⟩|⟨h1,c,co,d,f,g⟩|h1
 ·exact .inl ⟨h1,c,m,d,λ b e=>hk b (f b e),g⟩
 ·exact .inr (.inl ⟨h1,c,co,d,λ b e=>hk b (f b e),g⟩)
 ·exact .inr (.inr h1)
theorem r6.move{kind:Int}{aU:Option Addr}{bq aP:Nat}{bw:Option Addr}{bn aV:Nat}(S:r6 aZ gX base w0 G F ah n fM aI bg bC K W hs cb s aB h kind aU bq aP bw bn aV)(c:aY K base W' G hs cb s)(f:aG (λ b=>K b/\b≠bg) W W'):
  r6 aZ gX base w0 G F ah n fM aI bg bC K W' hs cb s aB h kind aU bq aP bw bn aV:=
 have f0:aG gX W W':=f.mono λ b a=>⟨S.q9 b a,λ e=>S.tG (e▸a)⟩
 ⟨S.q9,c,S.jr.trans f0,S.kg,S.sB,S.tG,S.wS.kept (f0.mono λ b a=>a.1) rfl rfl,λ p hp=>(S.wT p hp).jr (f.mono λ b a=>a.1),S.wU,S.uS,S.mQ,S.wV.jr (f.mono λ b a=>a.1)⟩
theorem r6.set{kind:Int}{aU:Option Addr}{bq aP:Nat}{bw:Option Addr}{bn aV:Nat}(S:r6 aZ gX base w0 G F ah n fM aI bg bC K W hs cb s aB h kind aU bq aP bw bn aV)(k:Nat)(v:Value):r6 aZ gX base w0 G F ah n fM aI bg bC K (W.setCell ⟨bg,k,none⟩ v) hs cb s aB h kind aU bq aP bw bn aV:=
 S.move (S.fN.uR S.sB k v) (aG.set bg k v (λ a=>a.2 rfl))
theorem r6.done{kind:Int}{aU:Option Addr}{bq aP:Nat}{bw:Option Addr}{bn aV:Nat}(S:r6 aZ gX base w0 G F ah n fM aI bg bC K W hs cb s aB h kind aU bq aP bw bn aV):DK aZ gX base w0 G F ah n fM aI bC (.returned (.agg #[.int .i64 kind,.slice aU bq aP,.slice bw bn aV,.int .i64 (aB:Int)])) W:=
 ⟨K,hs,cb,s,aB,h,kind,aU,bq,aP,bw,bn,aV,rfl,S.q9,S.fN,S.jr,S.kg,S.wS,λ p hp=>(S.wT p hp).mono λ b a=>⟨a.1.1,a.2⟩,S.wU,S.uS,S.mQ,S.wV.mono λ b a=>⟨a.1.1,a.2⟩⟩
theorem mL.ends(S:mL aZ gX base w0 G F ah n fM jD aI bg bC K W hs cb s aB h){kind:Int}{aU:Option Addr}{bq aP:Nat}{bw:Option Addr}{bn aV:Nat}(a:nY (λ b=>(K b/\b≠bg)/\¬aZ b) W F ah n bC aB kind aU bq aP bw bn aV):r6 aZ gX base w0 G F ah n fM aI bg bC K W hs cb s aB h kind aU bq aP bw bn aV:=
 ⟨S.q9,S.fN,S.jr,S.kg,S.sB,S.tG,S.wS,S.wT,S.wU,S.uS,S.mQ,a⟩
theorem mL.BR(S:mL aZ gX base w0 G F ah n fM jD aI bg bC K W hs cb s aB h){kind:Int}(a:nY (λ b=>(K b/\b≠bg)/\¬aZ b) W F ah n bC aB kind none 0 0 none 0 0):
  r6 aZ gX base w0 G F ah n fM aI bg bC K (((((W.setCell ⟨bg,0,none⟩ (.int .i64 kind)).setCell ⟨bg,0,none⟩ (.int .i64 kind)).setCell ⟨bg,1,none⟩ (.slice none 0 0)).setCell ⟨bg,2,none⟩ (.slice none 0 0)).setCell ⟨bg,3,none⟩ (.int .i64 (aB:Int))) hs cb s aB h kind none 0 0 none 0 0/\
  aT (((((W.setCell ⟨bg,0,none⟩ (.int .i64 kind)).setCell ⟨bg,0,none⟩ (.int .i64 kind)).setCell ⟨bg,1,none⟩ (.slice none 0 0)).setCell ⟨bg,2,none⟩ (.slice none 0 0)).setCell ⟨bg,3,none⟩ (.int .i64 (aB:Int))) bg 30 [.int .i64 kind,mY,mY,.int .i64 (aB:Int)]:=
 ⟨((((((S.ends a).set 0 _).set 0 _).set 1 _).set 2 _).set 3 _),((((S.j5.set 0 _).set 0 _).set 1 _).set 2 _).set 3 _⟩
theorem nY.no(hu:Unsat F):nY K W F ah n bC aB 2 none 0 0 none 0 0:=
 .inr (.inl ⟨rfl,rfl,[],aL.nil _ _ _ (by unfold maxLen;omega),λ b e=>(by cases e),List.nil_sublist _,λ M a _=>hu M a⟩)
theorem nY.o:nY K W F ah n aB aB 3 none 0 0 none 0 0:=.inr (.inr ⟨rfl,rfl,rfl,rfl⟩)
end
end
section
open Go.RowKit Go.Shelf
noncomputable def BS:Code:=(Tryz.f99.body.bind λ c=>qo c 1).getD .skip
noncomputable def G6:Code:=Dw BS
noncomputable def My:Code:=mU (mU (By (mU (mU G6))))
theorem Mz{w1:World}{d:Nat}
  (C:r5 aZ gX w0 F ah n fM jD aI gM bK gN bC) (S:mL aZ gX base w0 G F ah n fM jD aI bg bC K w1 hs cb s aB h) (aa:aB<bC) (ag:d<s.c.cl.length) (ab:∀x∈ay s.c.cl d,-x∈s.c.av) (ad:0<s.c.st.length) (a8: -70000<=left/\left<=4398046511104)
  (ae:∀(K:Nat->Prop)(hs:Nat->ax)(cb:Nat->Nat)(s':aq)(bl jP jA a' gH gn iy gI gT u16 gp gq gr gG gu gv gw gx gy gz gA gB fO fP fQ u32 fR fS fT fU fV fW fZ ga gb gd gh gC gD ij hU ia bP bQ bR bS bT bU bV bW bX bY bZ b5 b6 b7 b8 u64 b9 cc cg ck cm cn cp cr ct cu cv cw cz cA cB cC cD cE cF cG cH c9 dc de dh di dm dn dr cK cL cM cN cO cQ cR cS cT cU cV cW cZ c4 c5 c6 c7 dw dx dy dz dA dB dD dF dG dH dI dJ dK dL dM dN dO dP dQ dR dS dU dV dW dX dY dZ ec ee ef fG fH fI ei ej ek en eo ep er eu ew ey ez eA fJ fK fL eB eC eD eE eF eG eH eL eM eN eO eP eR eS eT eU eV eW eX eY eZ e3 e4 e5 e6 e7 e8 e9 fc fe ff fh fk fm fo fq gi gj fu fA fB fC fD fE fF iH iI iJ iK iL iM iN iO iP iQ iR iS jg jh ji jj jk jl jm jo jW jX jY jZ j0 j3:Value)(W':World),mL aZ gX base w0 G F ah n fM jD aI bg bC K W' hs cb s' (aB+1) s'.c.ag->Q (.exit 1) {tmps:= #[.pointer (some ⟨G,0,none⟩),.slice gM bK gN,.int .i64 (bC:Int),bl,jP,jA,.pointer (some ⟨bg,0,none⟩),.int .i64 (ja:Int),.int .i64 (left-1),.int .i64 2000,a',gH,gn,iy,gI,gT,u16,gp,gq,gr,gG,gu,gv,gw,gx,gy,gz,gA,gB,fO,fP,fQ,u32,fR,fS,fT,fU,fV,fW,fZ,ga,gb,gd,gh,gC,gD,ij,hU,ia,bP,bQ,bR,bS,bT,bU,bV,bW,bX,bY,bZ,b5,b6,b7,b8,u64,b9,cc,cg,ck,cm,cn,cp,cr,ct,cu,cv,cw,cz,cA,cB,cC,cD,cE,cF,cG,cH,c9,dc,de,dh,di,dm,dn,dr,cK,cL,cM,cN,cO,cQ,cR,cS,cT,cU,cV,cW,cZ,c4,c5,c6,c7,dw,dx,dy,dz,dA,dB,dD,dF,dG,dH,dI,dJ,dK,dL,dM,dN,dO,dP,dQ,dR,dS,dU,dV,dW,dX,dY,dZ,ec,ee,ef,fG,fH,fI,ei,ej,ek,en,eo,ep,er,eu,ew,ey,ez,eA,fJ,fK,fL,eB,eC,eD,eE,eF,eG,eH,eL,eM,eN,eO,eP,eR,eS,eT,eU,eV,eW,eX,eY,eZ,e3,e4,e5,e6,e7,e8,e9,fc,fe,ff,fh,fk,fm,fo,fq,gi,gj,fu,fA,fB,fC,fD,fE,fF,iH,iI,iJ,iK,iL,iM,iN,iO,iP,iQ,iR,iS,jg,jh,ji,jj,jk,jl,jm,jo,jW,jX,jY,jZ,j0,j3],defers:=[]} W'):
  Code.wp w_ My Q {tmps:= #[.pointer (some ⟨G,0,none⟩),.slice gM bK gN,.int .i64 (bC:Int),bl,jP,jA,.pointer (some ⟨bg,0,none⟩),.int .i64 (ja:Int),.int .i64 left,.int .i64 2000,.pointer (some ⟨cb d,0,none⟩),gH,gn,iy,gI,gT,u16,gp,gq,gr,gG,gu,gv,gw,gx,gy,gz,gA,gB,fO,fP,fQ,u32,fR,fS,fT,fU,fV,fW,fZ,ga,gb,gd,gh,gC,gD,ij,hU,ia,bP,bQ,bR,bS,bT,bU,bV,bW,bX,bY,bZ,b5,b6,b7,b8,u64,b9,cc,cg,ck,cm,cn,cp,cr,ct,cu,cv,cw,cz,cA,cB,cC,cD,cE,cF,cG,cH,c9,dc,de,dh,di,dm,dn,dr,cK,cL,cM,cN,cO,cQ,cR,cS,cT,cU,cV,cW,cZ,c4,c5,c6,c7,dw,dx,dy,dz,dA,dB,dD,dF,dG,dH,dI,dJ,dK,dL,dM,dN,dO,dP,dQ,dR,dS,dU,dV,dW,dX,dY,dZ,ec,ee,ef,fG,fH,fI,ei,ej,ek,en,eo,ep,er,eu,ew,ey,ez,eA,fJ,fK,fL,eB,eC,eD,eE,eF,eG,eH,eL,eM,eN,eO,eP,eR,eS,eT,eU,eV,eW,eX,eY,eZ,e3,e4,e5,e6,e7,e8,e9,fc,fe,ff,fh,fk,fm,fo,fq,gi,gj,fu,fA,fB,fC,fD,fE,fF,iH,iI,iJ,iK,iL,iM,iN,iO,iP,iQ,iR,iS,jg,jh,ji,jj,jk,jl,jm,jo,jW,jX,jY,jZ,j0,j3],defers:=[]} w1:=by
 have ba:=U ae;have v:=U C;have a:=U S;have w:=U (z_ aa (z_ ag (z_ ab ad)));have f:=U (S.nt C);have y:jF=1099511627776:=rfl;have af:=S.j5.cell 3;have bb:=S.j5.free 3;simp only[mY,j_,i_] at af;have ws:p_.wrap ((aB:Int)+1)=(aB:Int)+1:=by rw[u_];have:=f.o.2.1;omega
 have wl:p_.wrap (left-1)=left-1:=by rw[u_];omega
 clear ae C S aa ag ab ad a8
 conv=>arg 2;whnf
 dsimp only
 go_upto_region 12 with fail
 clear af bb ws wl;have ai:=U (a.o.fN.uR a.o.sB 3 (.int .i64 ((aB:Int)+1)));have aj:bJ (aT (w1.setCell ⟨bg,3,none⟩ (.int .i64 ((aB:Int)+1))) bg 30 [.int .i64 0,mY,mY,.int .i64 (aB+1:Nat)]):=U (a.o.j5.set 3 _);have A:=U (aG.DL a.o 3 (.int .i64 ((aB:Int)+1)));generalize w1.setCell ⟨bg,3,none⟩ (.int .i64 ((aB:Int)+1))=bc at ai aj A⊢;have ak:bJ (vh F F s n h (jF*(1+16*(aB:Int)))):=U ⟨a.o.kg.gR,a.o.kg.rg.iX,v.o.n10,w.o.2.2.2,by have:=f.o;omega,by have:=f.o;omega,by have:=f.o;rw[y];omega,by have:=f.o;rw[y];omega⟩;have al:=U (LD ai.o ak.o a.o.kg.rg a.o.kg.aO w.o.2.1 w.o.2.2.1);have an:jF*(1+16*(aB:Int))+16*jF=jF*(1+16*((aB+1:Nat):Int)):=by rw[y];omega
 have ao:0<=jF*(1+16*((aB+1:Nat):Int))/\jF<=jF*(1+16*((aB+1:Nat):Int))/\jF*(1+16*((aB+1:Nat):Int))<=4611686018427387904:=by have:=f.o;rw[y];omega
 have u:=U ao;clear ao y ak;obtain⟨B,D⟩:∃B,jF*(1+16*((aB+1:Nat):Int))=B:=⟨_,rfl⟩
 rw[D] at u;have bd:=U (an.trans D);have bf:=U D;clear D an
 go_upto_region 13 with(go_at_call 146;refine al.o.mono ?_;rintro e bF ⟨bH,cl,level,l,ar,rfl,I,J,M2,k0,L,M,E,au⟩;dsimp only)
 rw[bd.o] at L;have N:level<ar.c.st.length:=by rw[k0.c];exact I.mA
 have aw:j6 ar.c:=by rw[k0.c];exact a.o.kg.gR.aK
 have az:=J.qD (g:=bH) (M.lt bH rfl).2 E.1 E.2.1 E.2.2;have X:=U (z_ I (z_ J (z_ M2 (z_ k0 (z_ M (z_ au N))))));have aA:=U (F1 az L aw (by have:=v.o.n10;omega) level N (by rw[k0.c];have:=f.o;omega) (by rw[k0.c];exact mq.G4 a.o.kg w.o.2.2.2));clear I J M2 k0 L M E au N aw az al
 go_upto_region 14 with(go_at_call 147;refine aA.o.mono ?_;rintro e O ⟨rfl,bG,s1,t,P,R,H⟩;dsimp only)
 have q:s1.c=mG s.c level:=by rw[t.c,X.o.2.2.2.1.c]
 have aC:j6 s1.c:=by rw[q];exact a.o.kg.gR.aK.back X.o.1.mA
 have aD:O.ownsRow base 3 1 (.slice (some ⟨bH,0,none⟩) l.length cl) l.length (jc l):=oS X.o.2.2.2.2.1 (λ b i=>H.keep b (.inr (by injection i with i;exact i.symm)));have aE:vR s1:=by
  have T:=a.o.Dx;refine⟨by rw[q];exact T.qE.back level,λ k d ag=>?_,λ d ag=>?_⟩
  ·rw[q] at ag⊢;exact T.ww k d ag
  ·rw[q];rw[t.aM,X.o.2.2.2.1.aM] at ag;exact T.wl d ag
 have aH:o5 gX O s1:=(a.o.wS.mono λ b i=>i.1).kept ((A.o.mono λ b i=>⟨a.o.q9 b i,λ e=>a.o.tG (e▸i)⟩).trans ((X.o.2.2.1.mono a.o.q9).trans (H.mono λ b i=>.inl (a.o.q9 b i)))) (t.jB.trans X.o.2.2.2.1.jB) (t.aF.trans X.o.2.2.2.1.aF);have aJ:l.length<=22:=by have:=X.o.1.ok.len;have:=f.o;rw[a.o.kg.rg.iX] at this;have:=v.o.n10;have bj:=X.o.1.ok.len;rw[a.o.kg.rg.iX] at bj;omega
 have aL:1<=l.length:=q_.2 X.o.1.ok.ne;have aN:=U (Mv (K:=K) (R.Bd λ b i=>.inl i) aE (aH.mono a.o.q9) aC P.nH (by rw[q];have:=f.o;show s.c.n<=_;omega) (by rw[q];exact a.o.kg.gR.wt.qI) (λ k=>by rw[q];have h1:=a.o.kg.gR.wt.nt k;have:=f.o;show(ay s.c.wt k).length<=_;omega) (by rw[q];have:=f.o;show(s.c.st.take level).length<=_;rw[List.length_take];omega) (by rw[t.aM,X.o.2.2.2.1.aM];have:=f.o;omega) (by rw[t.aF,X.o.2.2.2.1.aF];have:=f.o;omega)
  (bH:=bH) (m:=l.length) (c:=cl) (l:=l) rfl aL (by omega) aD (λ r e=>R.s.row r bH e (.inr rfl)) X.o.2.2.2.2.2.1 (λ z V=>by rw[q];exact X.o.1.ok.lt z V) (λ z V=>by
   rw[q];obtain⟨j,bI,e,h1⟩:=a.o.kg.gR.aK.at (X.o.1.A0 z V);have bL:=wk s.c.st j;have:=f.o;show bh s.c z<=_;omega))
 have Y:=U (z_ t (z_ P (z_ H (z_ q aJ))));clear t P R H q aC aD aE aH aJ aL aA
 go_upto_region 15 with(go_at_call 148;refine aN.o.mono ?_;rintro e bM ⟨rfl,bk,bn,bo,bh,p,aP,aQ,aR,aS,bp,aU,aV⟩;dsimp only)
 have bq:(22:Int)<=jF:=by unfold jF;omega
 have W:0<=bh/\bh<=jF:=⟨aS,by have:=Y.o.2.2.2.2;omega⟩
 have aW:=Y.o.2.1.wR (l:=l) u.o.2.1 bh W (s1.aF++[p]);have br:=U (KF aQ aW (by have:=v.o.n10;omega) (by show(s1.aM++[_]).length<=_;rw[Y.o.1.aM,X.o.2.2.2.1.aM,y_,v_];have:=f.o;omega) u.o.1 u.o.2.2);have Z:=U (z_ aP (z_ aR (z_ W (z_ aU aV))));clear aP aQ aR aS bp aU aV bq W aW aN
 go_wp2_with (go_at_call 149;refine br.o.mono ?_;rintro e bs ⟨rfl,s3,aX,bt,bu,aY⟩;dsimp only)
 have bw:mo n jF (jF*(1+16*((aB+1:Nat):Int))) s3:=by rw[bf.o];exact bt
 obtain⟨a6,bx,bz,bA⟩:=a.o.kg.conflict X.o.1 X.o.2.2.2.1 Y.o.1 Y.o.2.1 ⟨u.o.1,u.o.2.1⟩ bh Z.o.2.2.1 (s1.aF++[p]) aX bw;have bB:s1.c.n=n:=by rw[Y.o.2.2.2.1];exact a.o.kg.rg.iX
 have a7:=Z.o.2.2.2.1;rw[bB] at a7;have bD:w1.heap.size<=O.heap.size:=r_ A.o.size (r_ X.o.2.2.1.size Y.o.2.2.1.size);have bE:aG K bc bs:=X.o.2.2.1.trans ((Y.o.2.2.1.mono λ b i=>.inl i).trans (Z.o.2.1.trans (aY.mono Z.o.1)));rw[<-bx] at a6;apply ba.o bk bn bo s3;exact a.o.more v.o w.o.1 Z.o.1 bu A.o bE aj.o a6 (by rw[bz,Y.o.1.aF,X.o.2.2.2.1.aF]) bA (by rw[aX.c];show(s1.c.cl++[l]).length=_;rw[y_,Y.o.2.2.2.1];rfl) (a7.jr aY) (λ b e=>r_ bD (Z.o.2.2.2.2 b e))
theorem MA
  (C:r5 aZ gX w0 F ah n fM jD aI gM bK gN bC) (S:mL aZ gX base w0 G F ah n fM jD aI bg bC K W hs cb s aB s.c.ag) (x: -70000<=left/\left<=4398046511104)
  (y:∀(hs:Nat->ax)(s':aq)(bl jP jA gV gH gn iy gI gT u16 gp gq gr gG gu gv gw gx gy gz gA gB fO fP fQ u32 fR fS fT fU fV fW fZ ga gb gd gh gC gD ij hU ia bP bQ bR bS bT bU bV bW bX bY bZ b5 b6 b7 b8 u64 b9 cc cg ck cm cn cp cr ct cu cv cw cz cA cB cC cD cE cF cG cH c9 dc de dh di dm dn dr cK cL cM cN cO cQ cR cS cT cU cV cW cZ c4 c5 c6 c7 dw dx dy dz dA dB dD dF dG dH dI dJ dK dL dM dN dO dP dQ dR dS dU dV dW dX dY dZ ec ee ef fG fH fI ei ej ek en eo ep er eu ew ey ez eA fJ fK fL eB eC eD eE eF eG eH eL eM eN eO eP eR eS eT eU eV eW eX eY eZ e3 e4 e5 e6 e7 e8 e9 fc fe ff fh fk fm fo fq gi gj fu fA fB fC fD fE fF iH iI iJ iK iL iM iN iO iP iQ iR iS jg jh ji jj jk jl jm jo jW jX jY jZ j0 j3:Value)(W':World),mL aZ gX base w0 G F ah n fM jD aI bg bC K W' hs cb s' aB s'.c.ag->s'.c.ag=s'.c.av.length->s'.c.l9=false->s'.aM.length=s.aM.length->s.c.av.length<=s'.c.av.length->Q .normal {tmps:= #[.pointer (some ⟨G,0,none⟩),.slice gM bK gN,.int .i64 (bC:Int),bl,jP,jA,.pointer (some ⟨bg,0,none⟩),.int .i64 (ja:Int),.int .i64 left,.int .i64 2000,gV,gH,gn,iy,gI,gT,u16,gp,gq,gr,gG,gu,gv,gw,gx,gy,gz,gA,gB,fO,fP,fQ,u32,fR,fS,fT,fU,fV,fW,fZ,ga,gb,gd,gh,gC,gD,ij,hU,ia,bP,bQ,bR,bS,bT,bU,bV,bW,bX,bY,bZ,b5,b6,b7,b8,u64,b9,cc,cg,ck,cm,cn,cp,cr,ct,cu,cv,cw,cz,cA,cB,cC,cD,cE,cF,cG,cH,c9,dc,de,dh,di,dm,dn,dr,cK,cL,cM,cN,cO,cQ,cR,cS,cT,cU,cV,cW,cZ,c4,c5,c6,c7,dw,dx,dy,dz,dA,dB,dD,dF,dG,dH,dI,dJ,dK,dL,dM,dN,dO,dP,dQ,dR,dS,dU,dV,dW,dX,dY,dZ,ec,ee,ef,fG,fH,fI,ei,ej,ek,en,eo,ep,er,eu,ew,ey,ez,eA,fJ,fK,fL,eB,eC,eD,eE,eF,eG,eH,eL,eM,eN,eO,eP,eR,eS,eT,eU,eV,eW,eX,eY,eZ,e3,e4,e5,e6,e7,e8,e9,fc,fe,ff,fh,fk,fm,fo,fq,gi,gj,fu,fA,fB,fC,fD,fE,fF,iH,iI,iJ,iK,iL,iM,iN,iO,iP,iQ,iR,iS,jg,jh,ji,jj,jk,jl,jm,jo,jW,jX,jY,jZ,j0,j3],defers:=[]} W')
  (z:∀(K:Nat->Prop)(hs:Nat->ax)(cb:Nat->Nat)(s':aq)(bl jP jA gV gH gn iy gI gT u16 gp gq gr gG gu gv gw gx gy gz gA gB fO fP fQ u32 fR fS fT fU fV fW fZ ga gb gd gh gC gD ij hU ia bP bQ bR bS bT bU bV bW bX bY bZ b5 b6 b7 b8 u64 b9 cc cg ck cm cn cp cr ct cu cv cw cz cA cB cC cD cE cF cG cH c9 dc de dh di dm dn dr cK cL cM cN cO cQ cR cS cT cU cV cW cZ c4 c5 c6 c7 dw dx dy dz dA dB dD dF dG dH dI dJ dK dL dM dN dO dP dQ dR dS dU dV dW dX dY dZ ec ee ef fG fH fI ei ej ek en eo ep er eu ew ey ez eA fJ fK fL eB eC eD eE eF eG eH eL eM eN eO eP eR eS eT eU eV eW eX eY eZ e3 e4 e5 e6 e7 e8 e9 fc fe ff fh fk fm fo fq gi gj fu fA fB fC fD fE fF iH iI iJ iK iL iM iN iO iP iQ iR iS jg jh ji jj jk jl jm jo jW jX jY jZ j0 j3:Value)(W':World),mL aZ gX base w0 G F ah n fM jD aI bg bC K W' hs cb s' (aB+1) s'.c.ag->Q (.exit 1) {tmps:= #[.pointer (some ⟨G,0,none⟩),.slice gM bK gN,.int .i64 (bC:Int),bl,jP,jA,.pointer (some ⟨bg,0,none⟩),.int .i64 (ja:Int),.int .i64 (left-1),.int .i64 2000,gV,gH,gn,iy,gI,gT,u16,gp,gq,gr,gG,gu,gv,gw,gx,gy,gz,gA,gB,fO,fP,fQ,u32,fR,fS,fT,fU,fV,fW,fZ,ga,gb,gd,gh,gC,gD,ij,hU,ia,bP,bQ,bR,bS,bT,bU,bV,bW,bX,bY,bZ,b5,b6,b7,b8,u64,b9,cc,cg,ck,cm,cn,cp,cr,ct,cu,cv,cw,cz,cA,cB,cC,cD,cE,cF,cG,cH,c9,dc,de,dh,di,dm,dn,dr,cK,cL,cM,cN,cO,cQ,cR,cS,cT,cU,cV,cW,cZ,c4,c5,c6,c7,dw,dx,dy,dz,dA,dB,dD,dF,dG,dH,dI,dJ,dK,dL,dM,dN,dO,dP,dQ,dR,dS,dU,dV,dW,dX,dY,dZ,ec,ee,ef,fG,fH,fI,ei,ej,ek,en,eo,ep,er,eu,ew,ey,ez,eA,fJ,fK,fL,eB,eC,eD,eE,eF,eG,eH,eL,eM,eN,eO,eP,eR,eS,eT,eU,eV,eW,eX,eY,eZ,e3,e4,e5,e6,e7,e8,e9,fc,fe,ff,fh,fk,fm,fo,fq,gi,gj,fu,fA,fB,fC,fD,fE,fF,iH,iI,iJ,iK,iL,iM,iN,iO,iP,iQ,iR,iS,jg,jh,ji,jj,jk,jl,jm,jo,jW,jX,jY,jZ,j0,j3],defers:=[]} W')
  (B:∀(K:Nat->Prop)(hs:Nat->ax)(cb:Nat->Nat)(s':aq)(h':Nat)(kind:Int)(bl jP jA gV gH gn iy gI gT u16 gp gq gr gG gu gv gw gx gy gz gA gB fO fP fQ u32 fR fS fT fU fV fW fZ ga gb gd gh gC gD ij hU ia bP bQ bR bS bT bU bV bW bX bY bZ b5 b6 b7 b8 u64 b9 cc cg ck cm cn cp cr ct cu cv cw cz cA cB cC cD cE cF cG cH c9 dc de dh di dm dn dr cK cL cM cN cO cQ cR cS cT cU cV cW cZ c4 c5 c6 c7 dw dx dy dz dA dB dD dF dG dH dI dJ dK dL dM dN dO dP dQ dR dS dU dV dW dX dY dZ ec ee ef fG fH fI ei ej ek en eo ep er eu ew ey ez eA fJ fK fL eB eC eD eE eF eG eH eL eM eN eO eP eR eS eT eU eV eW eX eY eZ e3 e4 e5 e6 e7 e8 e9 fc fe ff fh fk fm fo fq gi gj fu fA fB fC fD fE fF iH iI iJ iK iL iM iN iO iP iQ iR iS jg jh ji jj jk jl jm jo jW jX jY jZ j0 j3:Value)(W':World),r6 aZ gX base w0 G F ah n fM aI bg bC K W' hs cb s' aB h' kind none 0 0 none 0 0->aT W' bg 30 [.int .i64 kind,mY,mY,.int .i64 (aB:Int)]->Q .ret {tmps:= #[.pointer (some ⟨G,0,none⟩),.slice gM bK gN,.int .i64 (bC:Int),bl,jP,jA,.pointer (some ⟨bg,0,none⟩),.int .i64 (ja:Int),.int .i64 left,.int .i64 2000,gV,gH,gn,iy,gI,gT,u16,gp,gq,gr,gG,gu,gv,gw,gx,gy,gz,gA,gB,fO,fP,fQ,u32,fR,fS,fT,fU,fV,fW,fZ,ga,gb,gd,gh,gC,gD,ij,hU,ia,bP,bQ,bR,bS,bT,bU,bV,bW,bX,bY,bZ,b5,b6,b7,b8,u64,b9,cc,cg,ck,cm,cn,cp,cr,ct,cu,cv,cw,cz,cA,cB,cC,cD,cE,cF,cG,cH,c9,dc,de,dh,di,dm,dn,dr,cK,cL,cM,cN,cO,cQ,cR,cS,cT,cU,cV,cW,cZ,c4,c5,c6,c7,dw,dx,dy,dz,dA,dB,dD,dF,dG,dH,dI,dJ,dK,dL,dM,dN,dO,dP,dQ,dR,dS,dU,dV,dW,dX,dY,dZ,ec,ee,ef,fG,fH,fI,ei,ej,ek,en,eo,ep,er,eu,ew,ey,ez,eA,fJ,fK,fL,eB,eC,eD,eE,eF,eG,eH,eL,eM,eN,eO,eP,eR,eS,eT,eU,eV,eW,eX,eY,eZ,e3,e4,e5,e6,e7,e8,e9,fc,fe,ff,fh,fk,fm,fo,fq,gi,gj,fu,fA,fB,fC,fD,fE,fF,iH,iI,iJ,iK,iL,iM,iN,iO,iP,iQ,iR,iS,jg,jh,ji,jj,jk,jl,jm,jo,jW,jX,jY,jZ,j0,j3],defers:=[]} W'):
  Code.wp w_ G6 Q {tmps:= #[.pointer (some ⟨G,0,none⟩),.slice gM bK gN,.int .i64 (bC:Int),bl,jP,jA,.pointer (some ⟨bg,0,none⟩),.int .i64 (ja:Int),.int .i64 left,.int .i64 2000,gV,gH,gn,iy,gI,gT,u16,gp,gq,gr,gG,gu,gv,gw,gx,gy,gz,gA,gB,fO,fP,fQ,u32,fR,fS,fT,fU,fV,fW,fZ,ga,gb,gd,gh,gC,gD,ij,hU,ia,bP,bQ,bR,bS,bT,bU,bV,bW,bX,bY,bZ,b5,b6,b7,b8,u64,b9,cc,cg,ck,cm,cn,cp,cr,ct,cu,cv,cw,cz,cA,cB,cC,cD,cE,cF,cG,cH,c9,dc,de,dh,di,dm,dn,dr,cK,cL,cM,cN,cO,cQ,cR,cS,cT,cU,cV,cW,cZ,c4,c5,c6,c7,dw,dx,dy,dz,dA,dB,dD,dF,dG,dH,dI,dJ,dK,dL,dM,dN,dO,dP,dQ,dR,dS,dU,dV,dW,dX,dY,dZ,ec,ee,ef,fG,fH,fI,ei,ej,ek,en,eo,ep,er,eu,ew,ey,ez,eA,fJ,fK,fL,eB,eC,eD,eE,eF,eG,eH,eL,eM,eN,eO,eP,eR,eS,eT,eU,eV,eW,eX,eY,eZ,e3,e4,e5,e6,e7,e8,e9,fc,fe,ff,fh,fk,fm,fo,fq,gi,gj,fu,fA,fB,fC,fD,fE,fF,iH,iI,iJ,iK,iL,iM,iN,iO,iP,iQ,iR,iS,jg,jh,ji,jj,jk,jl,jm,jo,jW,jX,jY,jZ,j0,j3],defers:=[]} W:=by
 have Y:=U y;have Z:=U z;have j:=U B;have D:=U C;have g:=U S;have aa:=U x;clear y z B C S x
 conv=>arg 2;whnf
 dsimp only;obtain⟨ab,ad,E,H,ae,af,ai⟩:=g.o.nt D.o;have I:=U (LL g.o.fN g.o.kg.gR g.o.kg.vJ H (by omega) E);clear ab ad E H ae af ai
 go_upto_region 3 with(go_at_call 145;refine I.o.mono ?_;rintro e w1 ⟨p,c',hs',h',rfl,h,J,L,hp⟩;dsimp only)
 have a:mL aZ gX base w0 G F ah n fM jD aI bg bC K w1 hs' cb {s with c:=c'} aB h':=g.o.move J L (g.o.kg.run h.sm h.gR h.jS) rfl rfl h.sm.len;have a:=U a;have aj:bJ (s.c.av.length<=c'.av.length):=U (by obtain⟨e,he⟩:=h.sm.av;rw[he,y_];omega);have w:=U hp;clear h J L hp I;have M:w1.cell? ⟨G,15,none⟩=some (.bool c'.l9):=a.o.fN.e.kJ (k:=15) rfl;obtain⟨ak,kf,al,l⟩:∃A n c,hs' 5=⟨A,n,c⟩:=⟨_,_,_,rfl⟩
 have aE:w1.cell? ⟨G,6,none⟩=some (.slice ak kf al):=by have:=a.o.fN.e.kJ (k:=6) (v:=(hs' 5).v) rfl;rw[l] at this;exact this
 have m:kf=c'.st.length:=by have:=a.o.fN.e.kf;rw[l] at this;exact this
 have N:=U (z_ l m);clear l m;have O:=a.o.j5.cell 0;have P:=a.o.j5.cell 1;have R:=a.o.j5.cell 2;have an:=a.o.j5.cell 3;have i:=a.o.j5.free;have ao:=i 0;have ar:=i 1;have au:=i 2;have aw:=i 3;simp only[mY,j_,i_] at O P R an
 cases q:c'.l9 with
 |true=>
  rw[q] at M;have r:bJ (Unsat F):=U (a.o.kg.gR.jN.tq q)
  cases p with
  |none=>
   have f:qM cb none=.pointer none:=rfl;rw[f]
   go_wp2_with fail
   have b:=a.o.BR (kind:=2) (nY.no r.o);apply j.o
   ·exact b.1
   ·exact b.2
  |some d=>
   have f:qM cb (some d)=.pointer (some ⟨cb d,0,none⟩):=rfl;rw[f]
   go_wp2_with fail
   have b:=a.o.BR (kind:=2) (nY.no r.o);apply j.o
   ·exact b.1
   ·exact b.2
 |false=>
  rw[q] at M
  cases p with
  |none=>
   have f:qM cb none=.pointer none:=rfl;rw[f];have hp:=w.o;dsimp only at hp
   go_wp2_with fail
   have T:=a.o;rw[<-hp.2] at T;apply Y.o hs' {s with c:=c'}
   ·exact T
   ·exact hp.2.trans hp.1
   ·exact q
   ·rfl
   ·exact aj.o
  |some d=>
   have f:qM cb (some d)=.pointer (some ⟨cb d,0,none⟩):=rfl;rw[f];have hp:=w.o;dsimp only at hp;have t:=U hp;clear hp w
   by_cases u:c'.st.length=0
   ·have r:bJ (Unsat F):=U (JN a.o.kg.gR.aK a.o.kg.gR.jN u t.o.1 t.o.2);obtain rfl:kf=0:=by rw[N.o.2];exact u
    go_wp2_with fail
    have b:=a.o.BR (kind:=2) (nY.no r.o);apply j.o
    ·exact b.1
    ·exact b.2
   ·have V:0<c'.st.length:=Nat.pos_of_ne_zero u;have m:¬(kf:Int)=0:=by rw[N.o.2];omega
    have aF:decide ((kf:Int)=0)=false:=decide_eq_false m;have ay:=U V;clear V u
    by_cases az:aB=bC
    ·subst az
     go_wp2_with fail
     have b:=a.o.BR (kind:=3) nY.o;apply j.o
     ·exact b.1
     ·exact b.2
    ·have aA:¬(aB:Int)=(bC:Int):=by omega
     have aG:decide ((aB:Int)=(bC:Int))=false:=decide_eq_false aA;have aC:bJ (aB<bC):=U (by have:=a.o.mQ;omega);clear O P R ao ar au i aw
     go_upto_region 7 with fail
     rename_i aH X aJ aL;have aD:=U X;clear X
     go_wp2_with fail
     apply aD.o;refine Mz D.o a.o aC.o t.o.1 t.o.2 ay.o aa.o ?_;exact Z.o
end
section
open Go.RowKit
def p9(i:Nat):Nat:=2^Nat.log2 i
theorem DM(h:1<=i):p9 i<=i:=Nat.log2_self_le (by omega)
theorem MB(i:Nat):i<2*p9 i:=by
 have:i<2^(Nat.log2 i+1):=Nat.lt_log2_self;rw[k_] at this;unfold p9;omega
theorem DN(i:Nat):1<=p9 i:=n_
theorem MC{m:Nat}(h1:2^m<=i)(b:i<2*2^m):p9 i=2^m:=by
 have a:i≠0:=by have:1<=2^m:=n_;omega
 unfold p9;rw[(Nat.log2_eq_iff a).2 ⟨h1,by rw[k_];omega⟩]
def ur:Nat->Nat->Nat
 |0,_=>0
 |f+1,i=>if i+1=2*p9 i then p9 i else ur f (i-p9 i+1)
theorem BU(h:1<=i)(b:i+1≠2*p9 i):1<=i-p9 i+1/\i-p9 i+1<i:=by
 have c:=DM h;have d:=MB i;have e:=DN i;constructor
 ·omega
 ·rcases Nat.lt_or_ge 1 (p9 i) with a|a
  ·omega
  ·have:p9 i=1:=by omega
   omega
theorem G7:∀(f a i:Nat),1<=i->i<=f->i<=a->ur f i=ur a i
 |0,_,i,h1,h,_=>absurd h (by omega)
 |_+1,0,i,h1,_,h=>absurd h (by omega)
 |f+1,a+1,i,h1,h,h'=>by
  by_cases e:i+1=2*p9 i
  ·simp[ur,e]
  ·have:=BU h1 e;simp only[ur,if_neg e];exact G7 f a _ this.1 (by omega) (by omega)
def vm(i:Nat):Nat:=ur i i
theorem MD(h:1<=i)(e:i+1=2*p9 i):vm i=p9 i:=by
 obtain⟨j,rfl⟩:∃j,i=j+1:=⟨i-1,by omega⟩
 simp[vm,ur,e]
theorem ME(h:1<=i)(e:i+1≠2*p9 i):vm i=vm (i-p9 i+1):=by
 obtain⟨j,rfl⟩:∃j,i=j+1:=⟨i-1,by omega⟩
 have:=BU h e;show ur (j+1) (j+1)=_;simp only[ur,if_neg e];exact G7 _ _ _ this.1 (by omega) (by omega)
theorem MF{q k:Nat}(a:∃m,q=2^m)(h1:k<q)(b:q<=2*k):q=2*p9 k:=by
 obtain⟨m,rfl⟩:=a
 cases m with
 |zero=>simp at h1;omega
 |succ m=>rw[k_] at*;rw[MC (m:=m) (by omega) (by omega)];omega
theorem MG(i:Nat)(w:World)(h1:1<=i)(r:i<=1099511627776):
  Calls w_ 150 #[.int .i64 i] w λ e w'=>e=.returned (.int .i64 (vm i))/\w=w':=by
 generalize g:vm i=L;have s:=U g;clear g;have y:decide ((i:Int)<1)=false:=by simp;omega
 have z:decide (1099511627776<(i:Int))=false:=by simp;omega
 go_enter Tryz.func150,Tryz.ntmps150
 go_wp2
 go_loop [0,2,3] (λ i _ _=>∃k:Nat,1<=k/\k<=1099511627776/\i=.int .i64 k/\vm k=L) (λ i _ _=>(intOf i).toNat)
 case atStart=>exact⟨i,h1,r,rfl,s.o⟩
 case round=>
  obtain⟨k,b,A,rfl,h⟩:=hrel;have j:=U h;clear h;go_wp2
  go_loop [3] (λ p=>∃q:Nat,p=.int .i64 q/\q<=2*k/\∃m,q=2^m) (λ p=>2*k-(intOf p).toNat)
  case atStart=>exact⟨1,rfl,by omega,0,rfl⟩
  case round=>
   obtain⟨q,rfl,t,l⟩:=hrel;have f:=U l;clear l
   by_cases B:q<=k
   ·have C:1<=q:=by obtain⟨m,hm⟩:=f.o;rw[hm];exact n_
    go_wp2
    go_round
    case rel=>exact⟨q*2,by go_num,by omega,by obtain⟨m,hm⟩:=f.o;exact⟨m+1,by rw[hm,k_]⟩⟩
    case measure=>simp[intOf];omega
   ·have c:=MF f.o (by omega) t;have D:=DN k;have a:=U c;clear c
    by_cases d:k+1=q
    ·have n:(k:Int)=(q:Int)-1:=by omega
     have u:((k:Int)==(q:Int)-1)=true:=by simpa using n
     have v:=U d;clear d n;go_wp2;go_ret;refine⟨pI ?_,rfl⟩;rw[<-j.o,MD b (by rw[v.o];exact a.o),a.o];omega
    ·have u:((k:Int)==(q:Int)-1)=false:=beq_eq_false_iff_ne.2 (by omega);have E:=BU b (by rw[<-a.o];exact d);have F:=DM b;have x:=U (ME b (by rw[<-a.o];exact d));go_wp2;have c:=a.o
     go_round
     case rel=>exact⟨k-p9 k+1,by omega,by omega,by rw[c];exact congrArg (Value.int .i64) (by omega),by rw[<-x.o];exact j.o⟩
     case measure=>simp[intOf];omega
theorem MH:∀(f i:Nat),1<=i->i<=f->1<=ur f i/\ur f i<=i:=by
 intro f
 induction f with
 |zero=>intro i h1 a;omega
 |succ f b=>
  intro i h1 a;unfold ur;split
  ·exact⟨DN i,DM h1⟩
  ·rename_i c;have d:=BU h1 c;have e:=b (i-p9 i+1) d.1 (by omega);exact⟨e.1,by omega⟩
theorem MI(h:1<=i):1<=vm i/\vm i<=i:=MH i i h (Nat.le_refl _)
end
section
open Go.RowKit Go.Shelf
theorem MJ(h:aY K base w G hs cb s)(b:s.c.st.length=0):
  Calls w_ 147 #[.pointer (some ⟨G,0,none⟩),.int .i64 0] w λ e w'=>e=.returned (.tuple #[])/\w=w':=by
 obtain⟨d,kf,f,a⟩:∃A n c,hs 5=⟨A,n,c⟩:=⟨_,_,_,rfl⟩
 have i:w.cell? ⟨G,6,none⟩=some (.slice d kf f):=by have:=h.e.kJ (k:=6) (v:=(hs 5).v) rfl;rw[a] at this;exact this
 have g:kf=0:=by have:=h.e.kf;rw[a] at this;rw[<-b];exact this
 subst g;clear h b a;go_enter Tryz.func147,Tryz.ntmps147
 go_wp2_with fail
 refine bodyPost_ret (results_none rfl _ _ _) rfl ?_;exact⟨rfl,rfl⟩
def MK(K:Nat->Prop)(base:Nat)(w:World)(G:Nat)(cb:Nat->Nat)(F:List (List Int))(a:List Int)(n b d h:Nat)(s:aq)(e:Ending)(w':World):Prop:=
 e=.returned (.tuple #[])/\∃(hs':Nat->ax)(s':aq)(h':Nat),aY K base w' G hs' cb s'/\aG K w w'/\mq F a n b s' d h'/\s'.c.st=[]/\s'.aF=s.aF/\s'.jB=s.jB/\s'.aM=s.aM/\s'.c.cl=s.c.cl/\(s.c.ag=h->s'.c.ag=h')
theorem G8(E:aY K base w G hs cb s)(S:mq F ah n fM s aB h)(b:n<=60000)(d:s.c.st.length<=1000000):
  Calls w_ 147 #[.pointer (some ⟨G,0,none⟩),.int .i64 0] w (MK K base w G cb F ah n fM aB h s):=by
 rcases Nat.eq_zero_or_pos s.c.st.length with a|a
 ·refine(MJ E a).mono ?_;rintro e w' ⟨rfl,rfl⟩;exact⟨rfl,hs,s,h,E,aG.refl,S,List.eq_nil_of_length_eq_zero a,rfl,rfl,rfl,rfl,id⟩
 ·refine(F1 E S.rg S.gR.aK b 0 a d (mq.G4 S a)).mono ?_;rintro e w' ⟨rfl,hs',s',k,r,f,M⟩;exact⟨rfl,hs',s',gZ s.c.st 0,f,M,S.back a k r,by rw[k.c];rfl,k.aF,k.jB,k.aM,by rw[k.c];rfl,λ _=>by rw[k.c];rfl⟩
noncomputable def ML:Code:=Dw (mU BS)
theorem MM
  (C:r5 aZ gX w0 F ah n fM jD aI gM bK gN bC) (S:mL aZ gX base w0 G F ah n fM jD aI bg bC K W hs cb s aB s.c.ag) (q:1<=ja/\ja<=1000000)
  (r:∀(bl jP jA gV gH gn iy gI gT u16 gp gq gr gG gu gv gw gx gy gz gA gB fO fP fQ u32 fR fS fT fU fV fW fZ ga gb gd gh gC gD ij hU ia bP bQ bR bS bT bU bV bW bX bY bZ b5 b6 b7 b8 u64 b9 cc cg ck cm cn cp cr ct cu cv cw cz cA cB cC cD cE cF cG cH c9 dc de dh di dm dn dr cK cL cM cN cO cQ cR cS cT cU cV cW cZ c4 c5 c6 c7 dw dx dy dz dA dB dD dF dG dH dI dJ dK dL dM dN dO dP dQ dR dS dU dV dW dX dY dZ ec ee ef fG fH fI ei ej ek en eo ep er eu ew ey ez eA fJ fK fL eB eC eD eE eF eG eH eL eM eN eO eP eR eS eT eU eV eW eX eY eZ e3 e4 e5 e6 e7 e8 e9 fc fe ff fh fk fm fo fq gi gj fu fA fB fC fD fE fF iH iI iJ iK iL iM iN iO iP iQ iR iS jg jh ji jj jk jl jm jo jW jX jY jZ j0 j3:Value),0<left->Q .normal {tmps:= #[.pointer (some ⟨G,0,none⟩),.slice gM bK gN,.int .i64 (bC:Int),bl,jP,jA,.pointer (some ⟨bg,0,none⟩),.int .i64 (ja:Int),.int .i64 left,.int .i64 2000,gV,gH,gn,iy,gI,gT,u16,gp,gq,gr,gG,gu,gv,gw,gx,gy,gz,gA,gB,fO,fP,fQ,u32,fR,fS,fT,fU,fV,fW,fZ,ga,gb,gd,gh,gC,gD,ij,hU,ia,bP,bQ,bR,bS,bT,bU,bV,bW,bX,bY,bZ,b5,b6,b7,b8,u64,b9,cc,cg,ck,cm,cn,cp,cr,ct,cu,cv,cw,cz,cA,cB,cC,cD,cE,cF,cG,cH,c9,dc,de,dh,di,dm,dn,dr,cK,cL,cM,cN,cO,cQ,cR,cS,cT,cU,cV,cW,cZ,c4,c5,c6,c7,dw,dx,dy,dz,dA,dB,dD,dF,dG,dH,dI,dJ,dK,dL,dM,dN,dO,dP,dQ,dR,dS,dU,dV,dW,dX,dY,dZ,ec,ee,ef,fG,fH,fI,ei,ej,ek,en,eo,ep,er,eu,ew,ey,ez,eA,fJ,fK,fL,eB,eC,eD,eE,eF,eG,eH,eL,eM,eN,eO,eP,eR,eS,eT,eU,eV,eW,eX,eY,eZ,e3,e4,e5,e6,e7,e8,e9,fc,fe,ff,fh,fk,fm,fo,fq,gi,gj,fu,fA,fB,fC,fD,fE,fF,iH,iI,iJ,iK,iL,iM,iN,iO,iP,iQ,iR,iS,jg,jh,ji,jj,jk,jl,jm,jo,jW,jX,jY,jZ,j0,j3],defers:=[]} W)
  (t:∀(hs:Nat->ax)(s':aq)(b:Int)(bl jP jA gV gH gn iy gI gT u16 gp gq gr gG gu gv gw gx gy gz gA gB fO fP fQ u32 fR fS fT fU fV fW fZ ga gb gd gh gC gD ij hU ia bP bQ bR bS bT bU bV bW bX bY bZ b5 b6 b7 b8 u64 b9 cc cg ck cm cn cp cr ct cu cv cw cz cA cB cC cD cE cF cG cH c9 dc de dh di dm dn dr cK cL cM cN cO cQ cR cS cT cU cV cW cZ c4 c5 c6 c7 dw dx dy dz dA dB dD dF dG dH dI dJ dK dL dM dN dO dP dQ dR dS dU dV dW dX dY dZ ec ee ef fG fH fI ei ej ek en eo ep er eu ew ey ez eA fJ fK fL eB eC eD eE eF eG eH eL eM eN eO eP eR eS eT eU eV eW eX eY eZ e3 e4 e5 e6 e7 e8 e9 fc fe ff fh fk fm fo fq gi gj fu fA fB fC fD fE fF iH iI iJ iK iL iM iN iO iP iQ iR iS jg jh ji jj jk jl jm jo jW jX jY jZ j0 j3:Value)(W':World),mL aZ gX base w0 G F ah n fM jD aI bg bC K W' hs cb s' aB s'.c.ag->s'.aM.length=s.aM.length->left<=0->0<b->b<=32*((ja+1:Nat):Int)->Q (.exit 1) {tmps:= #[.pointer (some ⟨G,0,none⟩),.slice gM bK gN,.int .i64 (bC:Int),bl,jP,jA,.pointer (some ⟨bg,0,none⟩),.int .i64 ((ja+1:Nat):Int),.int .i64 b,.int .i64 2000,gV,gH,gn,iy,gI,gT,u16,gp,gq,gr,gG,gu,gv,gw,gx,gy,gz,gA,gB,fO,fP,fQ,u32,fR,fS,fT,fU,fV,fW,fZ,ga,gb,gd,gh,gC,gD,ij,hU,ia,bP,bQ,bR,bS,bT,bU,bV,bW,bX,bY,bZ,b5,b6,b7,b8,u64,b9,cc,cg,ck,cm,cn,cp,cr,ct,cu,cv,cw,cz,cA,cB,cC,cD,cE,cF,cG,cH,c9,dc,de,dh,di,dm,dn,dr,cK,cL,cM,cN,cO,cQ,cR,cS,cT,cU,cV,cW,cZ,c4,c5,c6,c7,dw,dx,dy,dz,dA,dB,dD,dF,dG,dH,dI,dJ,dK,dL,dM,dN,dO,dP,dQ,dR,dS,dU,dV,dW,dX,dY,dZ,ec,ee,ef,fG,fH,fI,ei,ej,ek,en,eo,ep,er,eu,ew,ey,ez,eA,fJ,fK,fL,eB,eC,eD,eE,eF,eG,eH,eL,eM,eN,eO,eP,eR,eS,eT,eU,eV,eW,eX,eY,eZ,e3,e4,e5,e6,e7,e8,e9,fc,fe,ff,fh,fk,fm,fo,fq,gi,gj,fu,fA,fB,fC,fD,fE,fF,iH,iI,iJ,iK,iL,iM,iN,iO,iP,iQ,iR,iS,jg,jh,ji,jj,jk,jl,jm,jo,jW,jX,jY,jZ,j0,j3],defers:=[]} W'):
  Code.wp w_ ML Q {tmps:= #[.pointer (some ⟨G,0,none⟩),.slice gM bK gN,.int .i64 (bC:Int),bl,jP,jA,.pointer (some ⟨bg,0,none⟩),.int .i64 (ja:Int),.int .i64 left,.int .i64 2000,gV,gH,gn,iy,gI,gT,u16,gp,gq,gr,gG,gu,gv,gw,gx,gy,gz,gA,gB,fO,fP,fQ,u32,fR,fS,fT,fU,fV,fW,fZ,ga,gb,gd,gh,gC,gD,ij,hU,ia,bP,bQ,bR,bS,bT,bU,bV,bW,bX,bY,bZ,b5,b6,b7,b8,u64,b9,cc,cg,ck,cm,cn,cp,cr,ct,cu,cv,cw,cz,cA,cB,cC,cD,cE,cF,cG,cH,c9,dc,de,dh,di,dm,dn,dr,cK,cL,cM,cN,cO,cQ,cR,cS,cT,cU,cV,cW,cZ,c4,c5,c6,c7,dw,dx,dy,dz,dA,dB,dD,dF,dG,dH,dI,dJ,dK,dL,dM,dN,dO,dP,dQ,dR,dS,dU,dV,dW,dX,dY,dZ,ec,ee,ef,fG,fH,fI,ei,ej,ek,en,eo,ep,er,eu,ew,ey,ez,eA,fJ,fK,fL,eB,eC,eD,eE,eF,eG,eH,eL,eM,eN,eO,eP,eR,eS,eT,eU,eV,eW,eX,eY,eZ,e3,e4,e5,e6,e7,e8,e9,fc,fe,ff,fh,fk,fm,fo,fq,gi,gj,fu,fA,fB,fC,fD,fE,fF,iH,iI,iJ,iK,iL,iM,iN,iO,iP,iQ,iR,iS,jg,jh,ji,jj,jk,jl,jm,jo,jW,jX,jY,jZ,j0,j3],defers:=[]} W:=by
 have E:=U r;have H:=U t;have u:=U C;have d:=U S;have f:=U q;have I:=U (S.nt C);clear r t C S q
 conv=>arg 2;whnf
 dsimp only
 by_cases hl:left<=0
 ·have dl:decide (left<=0)=true:=decide_eq_true hl;have wt:p_.wrap ((ja:Int)+1)=((ja+1:Nat):Int):=by rw[u_];have:=f.o;omega
  have g:=U (MG (ja+1) W (by omega) (by have:=f.o;omega));obtain⟨h,j⟩:=MI (i:=ja+1) (by omega);obtain⟨L,w⟩:∃L,vm (ja+1)=L:=⟨_,rfl⟩
  rw[w] at g h j;have T:p_.wrap (32*(L:Int))=32*(L:Int):=by rw[u_];have:=f.o;omega
  have x:=U (G8 d.o.fN d.o.kg (by have:=u.o.n10;omega) (by have:=I.o;omega));have l:=U (z_ hl (z_ h j));clear hl h j w
  go_upto_region 19 with(go_at_call 150;refine g.o.mono ?_;rintro e w1 ⟨rfl,rfl⟩;dsimp only)
  go_upto_region 20 with(go_at_call 147;refine x.o.mono ?_;rintro e J ⟨rfl,M,s2,V,m,M2,p,N,y,z,A,B,D⟩;dsimp only)
  have a:=d.o.move m M2 p y z (by rw[B]);rw[<-D rfl] at a;have X:J.cell? ⟨G,0,none⟩=some (.int .i64 (n:Int)):=by have:=m.e.kJ (k:=0) (v:=.int .i64 (s2.c.n:Int)) rfl;rw[p.rg.iX] at this;exact this
  have O:¬(10:Int)<(n:Int):=by have:=u.o.n10;omega
  have Y:decide ((10:Int)<(n:Int))=false:=decide_eq_false O;have a:=U a;have P:=U A;clear m M2 p N y z A B D x g
  go_wp2_with fail
  apply H.o M s2
  ·exact a.o
  ·rw[P.o]
  ·exact l.o.1
  ·have:=l.o;omega
  ·have:=l.o;omega
 ·have dl:decide (left<=0)=false:=decide_eq_false hl;have R:=U hl;clear hl
  go_wp2_with fail
  apply E.o;have:=R.o;omega
end
end Go.Proofs.YtogdlkfacflmaaaGreat
