/- Parts of the walk of the solver and its core; no condition. -/
import Derived.Test.YtogdlkfacflmaaaGreatZY10
import Derived.Test.YtogdlkfacflmaaaGreatZY8
import Derived.Test.YtogdlkfacflmaaaGreatZY5
import Derived.Laws.ResultCell
import Derived.Test.YtogdlkfacflmaaaGreatZY1
namespace Go.Proofs.YtogdlkfacflmaaaGreat
set_option linter.unusedVariables false
set_option linter.unusedSimpArgs false
set_option maxRecDepth 1000000
set_option maxHeartbeats 8000000
open _root_.And renaming intro→z_
open _root_.List renaming length_append→y_,length_singleton→v_,map_toArray→t_,length_pos_iff→q_,mem_singleton→o_,map_cons→m_,map_nil→l_,getElem?_cons_zero→j_,getElem?_cons_succ→i_,mem_append_left→g_
open _root_.Bool renaming false_ne_true→x_
open _root_.Go.Proofs.Tryz renaming prog→w_
open _root_.Go.IntKind renaming wrap_i64→u_,i64→p_
open _root_.Go.World renaming cell?_of_block→s_
open _root_.Nat renaming le_trans→r_,one_le_two_pow→n_,pow_succ→k_,le_of_lt→f_
open _root_.Go.Value renaming slice→h_
variable{K lz bg gZ:Nat->Prop}{w W w0:World}{n base G fR jI bN gO bH bn aB ji h i:Nat}{hs:Nat->ay}{cb:Nat->Nat}{s aI:au}{F:List (List Int)}{ah:List Int}{gN:Option Addr}{left:Int}{bk jV jF gJ gu iF gL gW u16 gv gw gx gI gy gz gA gB gC gD gE gF fS fT fU u32 fV fW fZ ga gb gd gh gi gj gl gm gG gH iz iq ir bT bU bV bW bX bY bZ b5 b6 b7 b8 b9 cc cg ck u64 cm cn cp cr ct cu cv cw cz cA cB cC cD cE cF cG cH cI cK cL cM di dm dn dr dw dx dy dz cN cO cQ cR cS cT cU cV cW cZ c4 c5 c6 c7 c8 c9 dc dA dB dD dF dG dH dI dJ dK dL dM dN dO dP dQ dR dS dU dV dW dX dY dZ ec ee ef ei ej ek en fL fM fN eo ep er eu ew ey ez eA eB eC eD eE fO fP fQ eF eG eH eL eM eN eO eP eR eS eT eU eV eW eX eY eZ e3 e4 e5 e6 e7 e8 e9 fc fe ff fh fk fm fo fq fu fA fB fC gn gp fD fE fF fG fH fI fJ iJ iK iL iM iN iO iP iQ iR iS iT iU jq jr js jt jv jw jx jy jX jY jZ j0 j3 j4 gY:Value}{Q:Exit->Act->World->Prop}
section
open Go.RowKit Go.Shelf
theorem mb.len{w:World}{b n:Nat}{S:List Int}(h:mb w b n S)(ty:TypeId):∃m:Nat,m<=n/\(Builtin.len_ #[114] ty #[.map (some b)]).run w_ w=.ok (.int .i64 (m:Int)) w:=by
 obtain⟨D,h1,c⟩:=h;exact⟨_,h1.size_le,h1.len Tryz.underlying114 ty⟩
theorem DX(x:Int)(b:0<=x)(h1:x<=1000000):(Lit.int .i64 x).wf=true:=by
 simp[Lit.wf,IntKind.min,IntKind.max,IntKind.bits,IntKind.signed];omega
def au.xx(s:au)(l:List Int)(bp:Int)(aF:List nE):au:=
 {s with c:=lC (kI s.c l) (ak l 0) (some s.c.cl.length),ci:=s.ci++[⟨true,bp,s.bz⟩],aO:=s.aO++[s.c.cl.length],aF:=aF,jG:=none}
structure qx(K:Nat->Prop)(w:World)(n:Nat)(p:nE):Prop where
 lQ:p.lQ=1\/p.lQ=2\/p.lQ=3
 rd:∃ai,aP w p.h.A p.h.n p.h.c ai/\∀x∈ai,gP n x
 blk:∀b,p.h.b=some b->0<p.h.n->K b
theorem aP.jB{w':World}{A:Option Addr}{c:Nat}{ai:List Int}(h:aP w A n c ai)(f:aG K w w')(hk:∀b,A.map (·.block)=some b->0<n->K b):aP w' A n c ai:=
 ⟨h.len,h.cap,h.mG,h.n9,λ d=>by
  obtain⟨b,off,e,h1,g⟩:=h.cells d;refine⟨b,off,e,Nat.lt_of_lt_of_le h1 f.size,λ j i=>?_⟩;rw[f.cell (p:=⟨b,off+j,none⟩) (hk b (by rw[e];rfl) d)];exact g j i⟩
theorem qx.jB{K:Nat->Prop}{w w':World}{n:Nat}{p:nE}(h:qx K w n p)(f:aG K w w'):qx K w' n p:=by
 obtain⟨b,h1,c⟩:=h.rd;exact⟨h.lQ,⟨b,h1.jB f h.blk,c⟩,h.blk⟩
theorem qx.mono{p:nE}(h:qx K w n p)(hk:∀b,K b->lz b):qx lz w n p:=⟨h.lQ,h.rd,λ b e c=>hk b (h.blk b e c)⟩
theorem bf.qJ(h:bf K base w G hs cb s){g:Nat}(k:g<w.heap.size)(l:g≠G)(m:∀r,(hs r).b≠some g)(n:∀d,d<s.c.cl.length->cb d≠g):bf (qJ K g) base w G hs cb s:=
 ⟨h.e,⟨λ b f=>f.elim (h.s.lt b) (λ e=>by rw[e];exact k),λ f=>f.elim h.s.g (λ e=>l e.symm),λ r b e f=>f.elim (h.s.row r b e) (λ i=>m r (by rw[e,i])),λ d j f=>f.elim (h.s.cl d j) (λ i=>n d j i)⟩⟩
def MN(V:World)(l:List Int)(App:Option Addr->Nat->World->Value->World->Prop)(i:Nat)(v:Value)(w:World):Prop:=
 if i=6 then∃b c2,v=.slice b l.length c2/\Below V.heap.size V w/\w.ownsRow V.heap.size 3 1 (.slice b l.length c2) l.length (jj l)
 else if i=7 then∃b c2,v=.agg #[.int .i64 2,.slice b l.length c2]/\Below V.heap.size V w/\w.ownsRow V.heap.size 3 1 (.slice b l.length c2) l.length (jj l)
 else if i=8 then∃b c2 w1,v=.slice (some ⟨w1.heap.size,0,none⟩) 1 1/\Below V.heap.size V w1/\w1.ownsRow V.heap.size 3 1 (.slice b l.length c2) l.length (jj l)/\w=w1.alloc (.cells #[.int .i64 2,.slice b l.length c2] 126)
 else∃b c2 w1,Below V.heap.size V w1/\w1.ownsRow V.heap.size 3 1 (.slice b l.length c2) l.length (jj l)/\App b c2 w1 v w
def zo(i:Nat):Bool:=i==6||i==7||i==8||i==9
def MO(i:Nat):Option Nat:=if i=9 then none else some (i+1)
theorem Cd:∀args w,(callFunc 81 args).run w_ w=.ok (.enter 81 args) w:=enters_of Tryz.func81 (by kernel_rfl) rfl
def Hq(K:Nat->Prop)(base:Nat)(w:World)(G:Nat)(s:au)(l:List Int)(e:Ending)(w':World):Prop:=
 e=.returned (.tuple #[])/\∃(d:Nat->Prop)(hs':Nat->ay)(f:Nat->Nat)(bp:Int)(p:nE),(∀b,K b->d b)/\bf d base w' G hs' f (s.xx l bp (s.aF++[p]))/\aG K w w'/\0<=bp/\bp<=l.length/\qx d w' s.c.n p/\∀b,p.h.b=some b->w.heap.size<=b
theorem MP(h:bf K base w G hs cb s)(C:wA s)(P:pn K w s)(T:j9 s.c)(b5:s.ci.length=s.c.cl.length)(b6:s.c.n<=60000)(b7:s.c.wt.length=2*s.c.n+2)(b8:∀k,(az s.c.wt k).length<=1000000)(b9:s.c.st.length<=1000000)(b':s.aO.length<=1000000)(ca:s.aF.length<=1099511627776)
  {bL m c:Nat} {l:List Int} (hm:l.length=m) (a':1<=m) (cc:m<=200000) (O:w.ownsRow base 3 1 (.slice (some ⟨bL,0,none⟩) m c) m (jj l)) (cd:∀r,(hs r).b≠some bL) (cf:¬K bL) (hl:∀z∈l,gP s.c.n z) (cg:∀z∈l,hU s.c.lvl (aD z)<=1000000):
  Calls w_ 148 #[.pointer (some ⟨G,0,none⟩),.slice (some ⟨bL,0,none⟩) m c] w (Hq K base w G s l):=by
 have lc:m<=c:=by
  rcases O.2 with⟨L,_⟩|⟨g,cap,cur,L,_,_,ba,_⟩
  ·cases L
  ·injection L with h1 F an;omega
 have ch:bL<w.heap.size:=(O.lt bL rfl).2;have cj:∀k,k<m->w.cell? ⟨bL,k,none⟩=some (.int .i64 (ak l k)):=λ k hk=>by
  have:=O.cellAt k (by omega);rw[this];unfold jj;rw[List.getElem?_map,List.getElem?_eq_getElem (by omega),nu (by omega)];rfl
 have D:=U (z_ h (z_ C (z_ P (z_ T (z_ b5 (z_ b6 (z_ b7 (z_ b8 (z_ b9 (z_ b' (z_ ca (z_ hm (z_ O (z_ cd (z_ cf (z_ hl (z_ cg ch)))))))))))))))));have dp:=U cj;have dP:(m:Int)<=(c:Int):=by omega
 have aA:=U (z_ a' (z_ cc lc));clear h C P T b5 b7 b8 b9 b' ca hm O cd cf hl cg ch cj a' cc lc b6;have dq:= @run_makeMap w_;go_enter Tryz.func148,Tryz.ntmps148
 go_upto_region 1 with fail
 have ck:=U (mb.made w);have cm:=U ((Below.refl w.heap.size w).alloc (Nat.le_refl _) (.map #[] 0));generalize dr:w.alloc (.map #[] 0)=dQ at ck cm⊢;clear dr dq
 go_wp2_with fail
 go_loopw [11] (λ i wr=>∃k:Nat,k<=m/\i=.int .i64 k/\(∃S,mb wr w.heap.size k S)/\Below w.heap.size w wr) (λ i _=>m-(intOf i).toNat)
 case atStart=>exact⟨0,Nat.zero_le _,rfl,⟨_,ck.o⟩,cm.o⟩
 case round=>
  obtain⟨k,hk,rfl,⟨S,bb⟩,cn⟩:=hrel;have cp:=U bb;have W:=U cn;have dt:=U hk;clear bb cn hk
  by_cases aI:k<m
  ·have bw:(k:Int)<(m:Int):=by omega
   have du:decide ((k:Int)<(m:Int))=true:=decide_eq_true bw;obtain⟨x,bx⟩:∃x,ak l k=x:=⟨_,rfl⟩
   have bA:x∈l:=by rw[<-bx];exact mc (by rw[D.o.2.2.2.2.2.2.2.2.2.2.2.1];exact aI)
   have cq:=D.o.2.2.2.2.2.2.2.2.2.2.2.2.2.2.2.1 x bA;have cr:=D.o.2.2.2.2.2.2.2.2.2.2.2.2.2.2.2.2.1 x bA;have dv:wr.cell? ⟨bL,k,none⟩=some (.int .i64 x):=by
    rw[s_ (W.o.block bL D.o.2.2.2.2.2.2.2.2.2.2.2.2.2.2.2.2.2),dp.o k aI,bx]
   have E:=(D.o.1.below W.o).1;obtain⟨v,L⟩:∃v,aD x=v:=⟨_,rfl⟩
   have dw:=D.o.2.2.2.1.pz;have ct:=cq.2;have dx:=D.o.2.2.2.2.2.1;rw[L] at ct;obtain⟨g2,cu,dy,f3⟩:=E.e.l7 3 2 rfl E.e.kJ (by omega);obtain⟨y,aB⟩:∃y,hU s.c.lvl v=y:=⟨_,rfl⟩
   have cv:=E.e.vZ cu (k:=v) (by omega);rw[aB] at cv;rw[L,aB] at cr;have bp:(v:Int)<(s.c.lvl.length:Int):=by omega
   have dR:(0:Int)<=(v:Int):=by omega
   have dS:p_.wrap ((k:Int)+1)=(k:Int)+1:=by rw[u_];have:=aA.o;omega
   have dz:bF (∀w:World,Calls w_ 97 #[.int .i64 x] w λ e w'=>e=.returned (.int .i64 (v:Int))/\w=w'):=U (λ w=>by have:=s7 x w (by unfold aD at L;omega) (by unfold aD at L;omega);rw[L] at this;exact this);obtain⟨w1,dT,cw,cx⟩:=cp.o.drew.put (n:=k) (by have:=aA.o;unfold maxLen;omega) (x:=(y:Int)) (DX _ (by omega) (by omega));have X:=U (z_ cw (z_ cx aI));clear cw cx bx bA cq cr dw ct dx cu f3 aI L aB E
   go_upto_region 4 with fail
   refine wp_region_still_tail 9 (by kernel_rfl) (by kernel_rfl) ?_;simp only[List.take_succ_cons,List.take_zero,List.drop_succ_cons,List.drop_zero]
   iterate 6 still_step
   still_call ((dz.o _).mono (λ e w' h=>⟨h.1,h.2.symm⟩))
   iterate 2 still_step
   refine wpStill_nil ?_;change wpList _ _ _ _ _ wr.drew;clear dv dy cv
   go_wp2_with fail
   go_roundw
   case rel=>
    refine⟨k+1,by have:=X.o.2.2;omega,by go_num,⟨_,X.o.1⟩,W.o.drew.grown X.o.2.1 W.o.size (λ j e=>by cases e;exact Nat.le_refl _)⟩
   case measure=>have:=X.o.2.2;simp[intOf];omega
  ·have bw:¬(k:Int)<(m:Int):=by omega
   have du:decide ((k:Int)<(m:Int))=false:=decide_eq_false bw;obtain⟨bp,cy,hlen⟩:=cp.o.drew.len 3;have mO:=U (z_ cy aI);clear cy aI;have E:=U (D.o.1.below W.o);have dA:wr.cell? ⟨G,9,none⟩=some (.int .i64 s.bz):=E.o.1.e.kP (k:=9) (v:=.int .i64 s.bz) rfl
   go_upto_region 6 with fail
   refine wp_region_still_tail 8 (by kernel_rfl) (by kernel_rfl) ?_;simp only[List.take_succ_cons,List.take_zero,List.drop_succ_cons,List.drop_zero]
   iterate 8 still_step
   refine wpStill_nil ?_;change wpList _ _ _ _ _ wr.drew
   go_upto_region 7 with fail
   have bc:Below w.heap.size w ((wr.alloc (.cells #[.slice (some ⟨bL,0,none⟩) m c,.bool true,.int .i64 (bp:Int),.int .i64 s.bz] 166)).drew):=(W.o.alloc W.o.size _).drew;have hblk:aR ((wr.alloc (.cells #[.slice (some ⟨bL,0,none⟩) m c,.bool true,.int .i64 (bp:Int),.int .i64 s.bz] 166)).drew) wr.heap.size vv [.slice (some ⟨bL,0,none⟩) m c,.bool true,.int .i64 (bp:Int),.int .i64 s.bz]:=aR.new wr vv _;have cz:((wr.alloc (.cells #[.slice (some ⟨bL,0,none⟩) m c,.bool true,.int .i64 (bp:Int),.int .i64 s.bz] 166)).drew).heap.size=wr.heap.size+1:=by simp
   have bB:=(E.o.1.below ((bC wr (.cells #[.slice (some ⟨bL,0,none⟩) m c,.bool true,.int .i64 (bp:Int),.int .i64 s.bz] 166)).drew)).1;generalize (wr.alloc (.cells #[.slice (some ⟨bL,0,none⟩) m c,.bool true,.int .i64 (bp:Int),.int .i64 s.bz] 166)).drew=ad at bc hblk cz bB⊢;have aC:=(bB.DR D.o.2.1 wr.heap.size).r8 (hl:=⟨some ⟨bL,0,none⟩,m,c⟩) (l:=l) (x:=⟨true,(bp:Int),s.bz⟩) (by rw[jT];exact hblk) (by rw[jT];exact r_ (f_ D.o.1.e.lt) W.o.size) (by rw[jT];exact λ hk=>by have:=D.o.1.s.lt _ hk;have:=W.o.size;omega) (λ d H=>by rw[jT,bq _ _ (by omega)];have:=(D.o.1.e.cls d H).lt;have:=W.o.size;omega)
    (mh D.o.2.2.2.2.2.2.2.2.2.2.2.2.1 bc) (λ g aL=>by
     have aL:some bL=some g:=aL;injection aL with aL
     subst aL;exact⟨D.o.2.2.2.2.2.2.2.2.2.2.2.2.2.1,D.o.2.2.2.2.2.2.2.2.2.2.2.2.2.2.1⟩) D.o.2.2.2.2.1
   obtain⟨I,bD⟩:∃f,iV cb s.c.cl.length wr.heap.size=f:=⟨_,rfl⟩
   have bG:I s.c.cl.length=wr.heap.size:=by rw[<-bD,jT]
   rw[bD] at aC;obtain⟨aM,bH⟩:∃f,iV hs (kO s.c.cl.length) ⟨some ⟨bL,0,none⟩,m,c⟩=f:=⟨_,rfl⟩
   have cA:aM (kO s.c.cl.length)=⟨some ⟨bL,0,none⟩,m,c⟩:=by rw[<-bH,jT]
   rw[bH] at aC;obtain⟨s1,bd⟩:∃s1,s.r8 l ⟨true,(bp:Int),s.bz⟩=s1:=⟨_,rfl⟩
   rw[bd] at aC;have cB:aG K w ad:=aG.rf bc D.o.1.s.lt;obtain⟨blk,cC⟩:∃b,wr.heap.size=b:=⟨_,rfl⟩
   rw[cC] at bG⊢;obtain⟨aN,n10,aQ,bg⟩:∃A n c,aM 10=⟨A,n,c⟩:=⟨_,_,_,rfl⟩
   have bI:s1.aO=s.aO:=by rw[<-bd];rfl
   have dB:ad.cell? ⟨G,13,none⟩=some (.slice aN n10 aQ):=by have:=aC.e.kP (k:=13) (v:=(aM 10).v) rfl;rw[bg] at this;exact this
   have cD:=aC.e.rows.row 10;have cE:n10=s.aO.length:=by
    have:=cD.1;rw[bg] at this;have F:(k7 I s1.aO).length=n10*1:=this;rw[bI] at F;simp[k7] at F;omega
   have dC:=U aC;have dD:=U cB;have Y:=U (z_ bG (z_ cA (z_ bd (z_ bg (z_ bI cE)))));clear aC cB bG cA bd bg bI cE bB bc hblk cz bD bH dA cC cD hlen;have aS:=U (dC.o.below (bC ad (.cells #[.pointer (some ⟨blk,0,none⟩)] 164)));have hp:(ad.alloc (.cells #[.pointer (some ⟨blk,0,none⟩)] 164)).cell? ⟨ad.heap.size,0,none⟩=some (.pointer (some ⟨blk,0,none⟩)):=by go_simp
   have cF:=U (rq.one hp);have ae:bF ((ad.alloc (.cells #[.pointer (some ⟨blk,0,none⟩)] 164)).ownsRow base 164 1 (.slice aN n10 aQ) n10 (k7 I s.aO)):=U (by
    have:=aS.o.1.e.rows.row 10;rw[Y.o.2.2.2.1] at this;rw[<-Y.o.2.2.2.2.1];exact this)
   have cG:=U (f_ aS.o.1.e.lt);have cH:bF (∀v9 bE,mY (ad.alloc (.cells #[.pointer (some ⟨blk,0,none⟩)] 164)) base 164 (.slice aN n10 aQ) (n10+1) (k7 I s.aO++[.pointer (some ⟨blk,0,none⟩)]) v9 bE->mY (ad.alloc (.cells #[.pointer (some ⟨blk,0,none⟩)] 164)) base 164 (aM 10).v (s1.aO.length+1) (k7 I (s1.aO++[s.c.cl.length])) v9 bE):=U (λ v9 bE af=>by
    have e:k7 I (s1.aO++[s.c.cl.length])=k7 I s.aO++[.pointer (some ⟨blk,0,none⟩)]:=by simp[k7,s5,Y.o.1,Y.o.2.2.2.2.1]
    rw[e,Y.o.2.2.2.1,Y.o.2.2.2.2.1,<-Y.o.2.2.2.2.2];exact af)
   clear hp
   go_upto_region 8 with(at_builtin;refine Gh rfl (.tmp 38) (.tmp 40) rfl base (.slice aN n10 aQ) n10 (k7 I s.aO) rfl ae.o (some ⟨ad.heap.size,0,none⟩) 1 1 _ rfl cF.o (by have:=Y.o.2.2.2.2.2;have:=D.o.2.2.2.2.2.2.2.2.2.1;omega) cG.o ?_;intro v9 bE af;obtain⟨⟨bJ,bK,c3⟩,aE,dE,aH,a2,J,aT⟩:=bf.Gj (x:=s.c.cl.length) aS.o.1 (v':=v9) (cH.o v9 bE af);change v9=.slice bJ bK c3 at aE;subst aE;have J:=U J;have aT:=U aT;clear af dE;have a1:bE.cell? ⟨G,13,none⟩=some (.slice aN n10 aQ):=(by rw[Y.o.2.2.2.1] at aH;exact aH);clear aH)
   generalize bE.setCell ⟨G,13,none⟩ (.slice bJ bK c3)=t at J aT⊢;have bM:bF (aG K w t):=U (dD.o.trans (aS.o.2.trans aT.o));obtain⟨s3,bN⟩:∃s3,s1.uZ s.c.cl.length=s3:=⟨_,rfl⟩
   obtain⟨ao,bO⟩:∃f,iV aM 10 ⟨bJ,bK,c3⟩=f:=⟨_,rfl⟩
   rw[bN,bO] at J;have bP:ao (kO s.c.cl.length)=⟨some ⟨bL,0,none⟩,m,c⟩:=by rw[<-bO,bq _ _ (by unfold kO;omega)];exact Y.o.2.1
   have aU:s3={s with c:={s.c with cl:=s.c.cl++[l]},ci:=s.ci++[⟨true,(bp:Int),s.bz⟩],aO:=s.aO++[s.c.cl.length]}:=by rw[<-bN,<-Y.o.2.2.1];rfl
   have bR:az s3.c.cl s.c.cl.length=l:=by rw[aU];show az (s.c.cl++[l]) _=l;rw[uU]
   have bS:s3.aF=s.aF:=by rw[aU]
   have bT:s3.jG=s.jG:=by rw[aU]
   have cI:pn K t s3:=D.o.2.2.1.kept bM.o bT bS;obtain⟨aq,ar,av,bU⟩:∃A n c,oO ao s3=.slice A n c:=by
    unfold oO
    cases s3.jG with
    |none=>exact⟨_,_,_,rfl⟩
    |some h=>exact⟨_,_,_,rfl⟩
   have bj:t.cell? ⟨G,14,none⟩=some (.slice aq ar av):=by have:=J.o.e.kP (k:=14) (v:=oO ao s3) rfl;rw[bU] at this;exact this
   have cJ:t.ownsRow base 3 1 (.slice (some ⟨bL,0,none⟩) m c) m (jj l):=by
    have:=J.o.e.rows.row (kO s.c.cl.length);rw[bP,DA,BM,yd,bR] at this;exact this
   have cK:=U (vD (some ⟨bL,0,none⟩) m c l t.drew (by
    have:=aP.kZ cJ (by have:=aA.o;omega);exact this.below (Below.refl _ _).drew))
   have Z:=U (z_ bP (z_ aU (z_ bR (z_ bS (z_ bT (z_ cI bU))))));clear bP aU bR bS bT cI bU cJ aT aS cF ae cG cH bN bO a1 a2 dB;have cL:bF (∀w1,Below t.drew.heap.size t.drew w1->w1.cell? ⟨G,14,none⟩=some (.slice aq ar av)):=U (λ w1 aJ=>by rw[s_ (aJ.block G J.o.e.box.lt)];exact bj);have bk:bF (∀(q:Option Addr)(c2:Nat)(w1:World),Below t.drew.heap.size t.drew w1->bf K base (w1.alloc (.cells #[.int .i64 2,.slice q l.length c2] 126)) G ao I s3/\pn K (w1.alloc (.cells #[.int .i64 2,.slice q l.length c2] 126)) s3/\(w1.alloc (.cells #[.int .i64 2,.slice q l.length c2] 126)).cell? ⟨G,14,none⟩=some (.slice aq ar av)/\(w1.alloc (.cells #[.int .i64 2,.slice q l.length c2] 126)).cell? ⟨w1.heap.size,0,none⟩=some (.int .i64 2)/\(w1.alloc (.cells #[.int .i64 2,.slice q l.length c2] 126)).cell? ⟨w1.heap.size,1,none⟩=some (.slice q l.length c2)):=U (λ q c2 w1 B=>⟨(J.o.drew.below (B.alloc B.size (.cells #[.int .i64 2,.slice q l.length c2] 126))).1,Z.o.2.2.2.2.2.1.kept (aG.drew.trans (J.o.drew.below (B.alloc B.size (.cells #[.int .i64 2,.slice q l.length c2] 126))).2) rfl rfl,cL.o _ (B.alloc B.size _),by go_simp,by go_simp⟩);have dU:l.length=m:=D.o.2.2.2.2.2.2.2.2.2.2.2.1;refine yg (qb Tryz.f148 8) 12 68 [some 44,some 45,some 46,some 47,some 48,some 49,some 50,some 51,some 52,some 53,some 54,some 55,none] _ [(0,.pointer (some ⟨G,0,none⟩)),(1,.slice (some ⟨bL,0,none⟩) m c)] (λ w:World=>w.cell? ⟨G,14,none⟩=some (.slice aq ar av)) (wB [.pointer (some ⟨G,0,none⟩),.pointer (some ⟨G,0,none⟩),.pointer (some ⟨G,0,none⟩),.pointer (some ⟨G,14,none⟩),.slice aq ar av,.slice (some ⟨bL,0,none⟩) m c,undef,undef,undef,undef,.pointer (some ⟨G,0,none⟩),.pointer (some ⟨G,14,none⟩)] zo (MN t.drew l (λ q c2 w1 v w=>Cc (w1.alloc (.cells #[.int .i64 2,.slice q l.length c2] 126)) base (tS ao s3) (s3.aF.length+1) (mC (s3.aF++[⟨2,⟨q,l.length,c2⟩⟩])) v w))) (Ay zo MO) (λ w=>w=t.drew) 6 (by kernel_rfl) (by kernel_rfl) (by kernel_rfl) rfl (by kernel_rfl) (by kernel_rfl) (by kernel_rfl) (by kernel_rfl) (by kernel_rfl) (by kernel_rfl) rfl ⟨rfl,rfl,trivial⟩ bj rfl (Az.ok (by kernel_rfl) ?_) _ rfl ?_
   ·refine⟨?_,?_,?_,?_,?_,?_,⟨λ _=>?_,λ h=>(by cases h)⟩,⟨λ _=>?_,λ h=>(by cases h)⟩,⟨λ _=>?_,λ h=>(by cases h)⟩,⟨λ _=>?_,λ h=>(by cases h)⟩,?_,?_,trivial⟩
    rotate_left 6
    ·intro vals w ag bl bn H O hp;obtain rfl:=bn (.inr rfl);have dF:ag (.tmp 49)=vals 5:=(H.1 rfl).2 _ rfl;have f5:vals 5=.slice (some ⟨bL,0,none⟩) m c:=(H.1 rfl).1 (.inl rfl);refine rP 81 #[.tmp 49] #[25] rfl Cd hp ?_;simp only[t_,m_,l_,dF,f5];refine cK.o.mono ?_;rintro e w1 ⟨q,c2,rfl,aa,B⟩;refine⟨_,rfl,(s_ (a:=⟨G,14,none⟩) (B.block G J.o.e.box.lt)).trans bj,⟨q,c2,rfl,B,aa⟩,λ j u aV aW aX aY aw=>?_,λ h=>absurd rfl h⟩;unfold wB at*;split at aw
     ·rename_i hs;have ah:j=6\/j=7\/j=8\/j=9:=by simpa[zo,or_assoc] using hs
      exfalso;rcases ah with rfl|rfl|rfl|rfl<;>first|exact aV rfl|exact aW rfl|exact x_ (aX.symm.trans rfl)|exact x_ ((aY _ rfl).symm.trans rfl)
     ·rename_i hs;rw[if_neg hs];exact aw
    ·intro vals w ag bl bn H O hp;have cM:ag (.tmp 50)=vals 6:=(H.1 rfl).2 _ rfl;obtain⟨q,c2,f6,B,aa⟩:∃q c2,vals 6=.slice q l.length c2/\Below t.drew.heap.size t.drew w/\w.ownsRow t.drew.heap.size 3 1 (.slice q l.length c2) l.length (jj l):=(H.1 rfl).1 (.inr rfl);rw[f6] at cM;simp only[bh,execOp,t_,m_,l_,cM,hp.1];simp[bQ,go_sem];exact .same bl ⟨q,c2,rfl,B,aa⟩
    ·intro vals w ag bl bn H O hp;have cN:ag (.tmp 51)=vals 7:=(H.1 rfl).2 _ rfl;obtain⟨q,c2,f7,B,aa⟩:∃q c2,vals 7=.agg #[.int .i64 2,.slice q l.length c2]/\Below t.drew.heap.size t.drew w/\w.ownsRow t.drew.heap.size 3 1 (.slice q l.length c2) l.length (jj l):=(H.1 rfl).1 (.inr rfl);rw[f7] at cN;simp only[bh,execOp,t_,m_,l_,cN];simp[bQ,go_sem];refine⟨(bk.o q c2 w B).2.2.1,⟨q,c2,w,rfl,B,aa,rfl⟩,λ j u aV aW aX aY aw=>?_,λ h=>λ bV=>False.elim (x_ (bV.symm.trans (by kernel_rfl)))⟩;unfold wB at*;split at aw
     ·rename_i hs;have ah:j=6\/j=7\/j=8\/j=9:=by simpa[zo,or_assoc] using hs
      exfalso;rcases ah with rfl|rfl|rfl|rfl<;>first|exact aV rfl|exact aW rfl|exact x_ (aX.symm.trans rfl)|exact x_ ((aY _ rfl).symm.trans rfl)
     ·rename_i hs;rw[if_neg hs];exact aw
    ·intro vals w ag bl bn H O hp;have cO:ag (.tmp 48)=vals 4:=(H.1 rfl).2 _ rfl;have f4:vals 4=.slice aq ar av:=(H.1 rfl).1 (.inl rfl);have cP:ag (.tmp 52)=vals 8:=(H.2.1 rfl).2 _ rfl;obtain⟨q,c2,w1,f8,B,aa,rfl⟩:∃(q:Option Addr)(c2:Nat)(w1:World),vals 8=.slice (some ⟨w1.heap.size,0,none⟩) 1 1/\Below t.drew.heap.size t.drew w1/\w1.ownsRow t.drew.heap.size 3 1 (.slice q l.length c2) l.length (jj l)/\w=w1.alloc (.cells #[.int .i64 2,.slice q l.length c2] 126):=(H.2.1 rfl).1 (.inr rfl);rw[f4] at cO;rw[f8] at cP;obtain⟨h1,F,an,ah,ba⟩:=bk.o q c2 w1 B;obtain⟨v',w',g1,g2⟩:=ML h1 F 45 w1.heap.size 1 ⟨2,⟨q,l.length,c2⟩⟩ ah ba (by have:=D.o.2.2.2.2.2.2.2.2.2.2.1;rw[Z.o.2.2.2.1];exact this);rw[Z.o.2.2.2.2.2.2] at g1;simp only[bh,execOp,resolve,invoke,builtin,Sem.run_bind,Sem.run_pure,Result.andThen_ok,t_,m_,l_,cO,cP,g1,bQ];obtain⟨h',-,dG,-⟩:=bf.Hp h1 g2;refine⟨dG.trans (by rw[Z.o.2.2.2.2.2.2]),⟨q,c2,w1,B,aa,g2⟩,λ j u aV aW aX aY aw=>?_,λ h=>λ bV=>False.elim (x_ (bV.symm.trans (by kernel_rfl)))⟩;unfold wB at*;split at aw
     ·rename_i hs;have ah:j=6\/j=7\/j=8\/j=9:=by simpa[zo,or_assoc] using hs
      exfalso;rcases ah with rfl|rfl|rfl|rfl<;>first|exact aV rfl|exact aW rfl|exact x_ (aX.symm.trans rfl)|exact x_ ((aY _ rfl).symm.trans rfl)
     ·rename_i hs;rw[if_neg hs];exact aw
    all_goals
     refine⟨λ h=>(by cases h),λ _ ag w bb H O hp=>?_⟩;obtain⟨dH,dI,-⟩:=O
     try simp[tT,p9,Region.binds,zo] at H
     simp[bh,execOp,bQ,go_sem,dH,dI,H,bb,hp.1]
   intro vals bE dJ ab dV cQ;obtain⟨q,c2,w1,B,aa,af⟩:∃(q:Option Addr)(c2:Nat)(w1:World),Below t.drew.heap.size t.drew w1/\w1.ownsRow t.drew.heap.size 3 1 (.slice q l.length c2) l.length (jj l)/\Cc (w1.alloc (.cells #[.int .i64 2,.slice q l.length c2] 126)) base (tS ao s3) (s3.aF.length+1) (mC (s3.aF++[(⟨2,⟨q,l.length,c2⟩⟩:nE)])) (vals 9) bE:=ab 9 (by omega) rfl;obtain⟨h1,F,an,ah,ba⟩:=bk.o q c2 w1 B;obtain⟨⟨Q,R,V⟩,aE,aH,a2,aZ,a6⟩:=bf.Hp h1 af;change vals 9=.slice Q R V at aE;rw[aE] at af aZ a6;have a1:bE.cell? ⟨G,14,none⟩=some (.slice aq ar av):=by rw[Z.o.2.2.2.2.2.2] at aH;exact aH
   have aZ:=U aZ;have a6:=U a6;have bo:=U af;have ae:=U aa;have bW:=U B;have k0:vals 0=.pointer (some ⟨G,0,none⟩):=ab 0 (by omega) rfl;have cR:vals 1=.pointer (some ⟨G,0,none⟩):=ab 1 (by omega) rfl;have cS:vals 2=.pointer (some ⟨G,0,none⟩):=ab 2 (by omega) rfl;have cT:vals 3=.pointer (some ⟨G,14,none⟩):=ab 3 (by omega) rfl;have cU:vals 4=.slice aq ar av:=ab 4 (by omega) rfl;have cV:vals 5=.slice (some ⟨bL,0,none⟩) m c:=ab 5 (by omega) rfl;have cW:vals 10=.pointer (some ⟨G,0,none⟩):=ab 10 (by omega) rfl;have cX:vals 11=.pointer (some ⟨G,14,none⟩):=ab 11 (by omega) rfl;simp[mJ,Act.put,aE,k0,cR,cS,cT,cU,cV,cW,cX] at cQ;subst cQ;show bh _ _ (Oper.mk _ _ _ _ _ _) _ _;simp[bh,execOp,bQ,go_sem,Act.eval,a1,a2];clear af aa B aE aH h1 F an ah ba k0 cR cS cT cU cV cW cX ab dJ
   iterate 1
    have cY:∀b,t.heap.size<=b->b<w1.heap.size->(bE.setCell ⟨G,14,none⟩ (.slice Q R V)).heap[b]? =w1.heap[b]? :=λ b B cZ=>by
     have dW:=J.o.e.box.lt;rw[Below.heap_setCell _ _ _ _ (show b≠G by omega)];rw[bo.o.2.1.block b (by simp;omega) (λ e=>by
      have e:=e.symm;unfold tS at e
      cases a7:s3.jG with
      |none=>rw[a7] at e;have:=(J.o.e.rows.lt (r:=11) e).2;omega
      |some h=>rw[a7] at e;cases e)]
     first|exact heap_alloc_old w1 _ cZ|exact heap_alloc_old w1 _ _ cZ
    have c0:(bE.setCell ⟨G,14,none⟩ (.slice Q R V)).ownsRow base 3 1 (ay.v ⟨q,l.length,c2⟩) l.length (jj l):=
     yV (o6 ae.o (λ b aJ=>cY b (ae.o.lt b aJ).1 (ae.o.lt b aJ).2)) (f_ J.o.e.lt)
    obtain⟨g2,br⟩:∃g2,(⟨q,l.length,c2⟩:ay).b=some g2:=by
     rcases ae.o.2 with⟨L,_⟩|⟨g,cap,cur,L,_⟩
     ·injection L with c4 dX dY
      have h1:=aA.o.1;have F:l.length=m:=D.o.2.2.2.2.2.2.2.2.2.2.2.1;omega
     ·injection L with c4
      exact⟨g,by show q.map _=_;rw[c4];rfl⟩
    have bs:=ae.o.lt g2 (by show(ay.v ⟨q,l.length,c2⟩).ownBlock=_;rw[ay.own];exact br);have dK:t.heap.size<=g2:=bs.1;have c5:g2<(bE.setCell ⟨G,14,none⟩ (.slice Q R V)).heap.size:=by
     have h1:=(lq bE G 14 (.slice Q R V)).size;have F:=bo.o.2.1.size;have an:=bs.2;simp at F;omega
    have ai:=aZ.o.qJ (g:=g2) c5 (by have:=J.o.e.box.lt;omega) (λ r e=>by
     by_cases c6:r=11
     ·subst c6;rw[jT] at e;rcases bo.o.2.2 with h1|h1
      ·have F:(ay.v ⟨Q,R,V⟩).ownBlock=tS ao s3:=h1;rw[ay.own,e] at F;unfold tS at F
       cases a7:s3.jG with
       |none=>rw[a7] at F;have:=(J.o.e.rows.lt (r:=11) F.symm).2;omega
       |some h=>rw[a7] at F;cases F
      ·have:=h1 g2 (by show(ay.v ⟨Q,R,V⟩).ownBlock=_;rw[ay.own];exact e);have an:=bs.2;simp at this;omega
     ·rw[bq _ _ c6] at e;have:=(J.o.e.rows.lt e).2;omega) (λ d H e=>by have:=(J.o.e.cls d H).lt;omega)
    have bt:qx (qJ K g2) (bE.setCell ⟨G,14,none⟩ (.slice Q R V)) s.c.n ⟨2,⟨q,l.length,c2⟩⟩:=⟨.inr (.inl rfl),⟨l,aP.kZ c0 (by show l.length*8<=140737488355328;have h1:=aA.o.2.1;have F:l.length=m:=D.o.2.2.2.2.2.2.2.2.2.2.2.1;omega),D.o.2.2.2.2.2.2.2.2.2.2.2.2.2.2.2.1⟩,λ b e _=>.inr (by rw[br] at e;injection e with e;exact e.symm)⟩
    have c7:=U (bM.o.trans (aG.drew.trans ((J.o.drew.below (bW.o.alloc bW.o.size (.cells #[.int .i64 2,.slice q l.length c2] 126))).2.trans a6.o)));obtain⟨M,bX⟩:∃M,qJ K g2=M:=⟨_,rfl⟩
    have c8:bF (∀b,K b->M b):=U (λ b aJ=>by rw[<-bX];exact .inl aJ);rw[bX] at ai bt;obtain⟨p,hp⟩:∃p:nE,(⟨2,⟨q,l.length,c2⟩⟩:nE)=p:=⟨_,rfl⟩
    have bY:∀b,(⟨2,⟨q,l.length,c2⟩⟩:nE).h.b=some b->w.heap.size<=b:=λ b e=>by
     have e:(⟨q,l.length,c2⟩:ay).b=some b:=e;rw[br] at e;injection e with e
     subst e;have:=bM.o.size;omega
    rw[hp] at bt bY;have dL:=U bY;have c9:({s3 with aF:=s3.aF++[p],jG:=none}:au)={s with c:={s.c with cl:=s.c.cl++[l]},ci:=s.ci++[⟨true,(bp:Int),s.bz⟩],aO:=s.aO++[s.c.cl.length],aF:=s.aF++[p],jG:=none}:=by rw[Z.o.2.1]
    obtain⟨bZ,b0⟩:∃f,iV ao 11 ⟨Q,R,V⟩=f:=⟨_,rfl⟩
    have da:bZ (kO s.c.cl.length)=⟨some ⟨bL,0,none⟩,m,c⟩:=by
     rw[<-b0,bq _ _ (by unfold kO;omega)];exact Z.o.1
    have ai:bf M base (bE.setCell ⟨G,14,none⟩ (.slice Q R V)) G bZ I {s3 with aF:=s3.aF++[p],jG:=none}:=by rw[<-b0,<-hp];exact ai
    rw[c9] at ai;have db:=U bt;clear b0 c9 cY c0 hp aZ a6 bo ae bW bk cK bt bY bX br bs dK c5
    go_upto_region 9 with fail
    generalize bE.setCell ⟨G,14,none⟩ (.slice Q R V)=dc at ai c7 db⊢;clear a1 a2 bj cL;obtain⟨y,aB⟩:∃y,ak l 0=y:=⟨_,rfl⟩
    have a':=aA.o.1;have dd:=D.o.2.2.2.2.2.2.2.2.2.2.2.1;have de:gP s.c.n y:=by rw[<-aB];exact D.o.2.2.2.2.2.2.2.2.2.2.2.2.2.2.2.1 _ (mc (by omega))
    have dZ:(0:Int)<(m:Int):=by omega
    have ai:=U ai;have aj:=U (z_ aB (z_ de (z_ da dd)));clear aB de da dd a';have df:bF (∀(bE:World)(b1:Nat->ay),bf M base bE G b1 I {s with c:=lC (kI s.c l) y (some s.c.cl.length),ci:=s.ci++[⟨true,(bp:Int),s.bz⟩],aO:=s.aO++[s.c.cl.length],aF:=s.aF++[p],jG:=none}->aG M dc bE->Hq K base w G s l (.returned (.tuple #[])) bE):=U (λ bE b1 a8 aK=>by
     refine⟨rfl,M,b1,I,(bp:Int),p,c8.o,?_,c7.o.trans (aK.mono c8.o),by omega,by have:=mO.o;have:=dt.o;have:=aj.o.2.2.2;omega,db.o.jB aK,dL.o⟩;unfold au.xx;rw[aj.o.1];exact a8)
    have dh:bF (∀(ax:World)(al:Nat->ay),bf M base ax G al I {s with c:=kI s.c l,ci:=s.ci++[⟨true,(bp:Int),s.bz⟩],aO:=s.aO++[s.c.cl.length],aF:=s.aF++[p],jG:=none}->Calls w_ 156 #[.pointer (some ⟨G,0,none⟩),.int .i64 y,.pointer (some ⟨blk,0,none⟩)] ax λ e w'=>e=.returned (.tuple #[])/\∃h':ay,bf M base w' G (iV al 4 h') I {s with c:=lC (kI s.c l) y (some s.c.cl.length),ci:=s.ci++[⟨true,(bp:Int),s.bz⟩],aO:=s.aO++[s.c.cl.length],aF:=s.aF++[p],jG:=none}/\aG M ax w'):=U (λ ax al N=>by
     have h1:=BR N y (some s.c.cl.length) D.o.2.2.2.1.new (show gP s.c.n y from aj.o.2.1) (show s.c.n<=60000 from D.o.2.2.2.2.2.1) (show s.c.st.length<=1000000 from D.o.2.2.2.2.2.2.2.2.1);rw[show qT I (some s.c.cl.length)=.pointer (some ⟨blk,0,none⟩) by show Value.pointer (some ⟨I s.c.cl.length,0,none⟩)=_;rw[Y.o.1]] at h1;exact h1)
    have di:bF (∀(ax:World)(al:Nat->ay)(b2:au),bf M base ax G al I b2->b2.c.cl=s.c.cl++[l]->al (kO s.c.cl.length)=⟨some ⟨bL,0,none⟩,m,c⟩->ax.cell? ⟨bL,0,none⟩=some (.int .i64 y)):=U (λ ax al b2 N h1 F=>by
     have an:=N.e.yf (d:=s.c.cl.length) (g:=bL) (by rw[F];rfl) (k:=0) (by rw[h1,uU];have:=aj.o.2.2.2;have:=aA.o;omega);rw[h1,uU,aj.o.1] at an;exact an)
    by_cases dj:2<=m
    ·have g1:(1:Int)<(m:Int):=by omega
     have d1:decide ((1:Int)<(m:Int))=true:=decide_eq_true g1;have dk:bF (2<=l.length):=U (by have:=aj.o.2.2.2;omega);have bu:=GA ai.o (d:=s.c.cl.length) (by show _<(s.c.cl++[l]).length;simp) (by show 2<=(az (s.c.cl++[l]) _).length;rw[uU];exact dk.o) (by show∀x∈az (s.c.cl++[l]) _,_;rw[uU];exact D.o.2.2.2.2.2.2.2.2.2.2.2.2.2.2.2.1) (show s.c.n<=60000 from D.o.2.2.2.2.2.1) (show s.c.wt.length=2*s.c.n+2 from D.o.2.2.2.2.2.2.1) (show∀k,(az s.c.wt k).length<=1000000 from D.o.2.2.2.2.2.2.2.1);rw[Y.o.1,aj.o.2.2.1,Gw] at bu;have bu:=U bu;clear dj
     go_upto_region 11 with(go_at_call 180;refine bu.o.mono ?_;rintro e dM ⟨rfl,al,N,b3,dm⟩;dsimp only)
     have N:bf M base dM G al I {s with c:=kI s.c l,ci:=s.ci++[⟨true,(bp:Int),s.bz⟩],aO:=s.aO++[s.c.cl.length],aF:=s.aF++[p],jG:=none}:=by
      have e:kI s.c l={s.c with cl:=s.c.cl++[l],wt:=wV s.c.wt l s.c.cl.length}:=by unfold kI;rw[if_pos dk.o]
      rw[e];have dn:=N;rw[show az ({s with c:={s.c with cl:=s.c.cl++[l]},ci:=s.ci++[⟨true,(bp:Int),s.bz⟩],aO:=s.aO++[s.c.cl.length],aF:=s.aF++[p],jG:=none}:au).c.cl s.c.cl.length=l from uU _ _] at dn;exact dn
     have dN:=di.o _ _ _ N rfl dm;have b4:=U (dh.o _ _ N);have b3:=U b3;clear N dm
     go_wp2_with (go_at_call 156;refine b4.o.mono ?_;rintro e dO ⟨rfl,h',a8,aK⟩;dsimp only)
     go_end0;exact df.o _ _ a8 (b3.o.trans aK)
    ·have g1:¬(1:Int)<(m:Int):=by omega
     have d1:decide ((1:Int)<(m:Int))=false:=decide_eq_false g1;have N:bf M base dc G bZ I {s with c:=kI s.c l,ci:=s.ci++[⟨true,(bp:Int),s.bz⟩],aO:=s.aO++[s.c.cl.length],aF:=s.aF++[p],jG:=none}:=by
      have e:kI s.c l={s.c with cl:=s.c.cl++[l]}:=by unfold kI;rw[if_neg (by have:=aj.o.2.2.2;omega)]
      rw[e];exact ai.o
     have dN:=di.o _ _ _ N rfl aj.o.2.2.1;have b4:=U (dh.o _ _ N);clear N dj
     go_wp2_with (go_at_call 156;refine b4.o.mono ?_;rintro e dO ⟨rfl,h',a8,aK⟩;dsimp only)
     go_end0;exact df.o _ _ a8 aK
end
section
section
variable {F:List (List Int)}{ah:List Int}{n fR:Nat}{s s':au}{sp h h':Nat}
theorem mF.conflict(S:mF F ah n fR s sp h){l:List Int}{level:Nat}(L:uY F s.c l level){B:Int}{uH s1 s3:au}(k0:od s uH)(k:bD level uH s1)(r:mE n jK B s1)(I:0<=B/\jK<=B)(bp:Int)(J:0<=bp/\bp<=jK)(aF:List nE)
  (f:od (s1.xx l bp aF) s3) (w:mE n jK (jK*(1+16*((sp+1:Nat):Int))) s3):
  mF F ah n fR s3 (sp+1) (hU s.c.st level)/\s3.c.ag=hU s.c.st level/\s3.aF=aF/\s3.jG=none:=by
 have i:uH.c=s.c:=k0.c;have K:level<uH.c.st.length:=by rw[i];exact L.mI
 have j:s1.c=mN s.c level:=by rw[k.c,i]
 have y:(s1.xx l bp aF).c=zR s.c l level:=by
  show lC (kI s1.c l) (ak l 0) (some s1.c.cl.length)=_;rw[j];rfl
 have z:s1.c.cl=s.c.cl:=by rw[j];rfl
 have M:=L.fresh S.gV.aN;have A:=S.gV.aN.back L.mI;have p:=S.gV.keep L;have C:s1.aO=s.aO:=k.aO.trans k0.aO;have q:∀d∈s.aO,d<s.c.cl.length:=S.rg.k8;have c3:s3.c=zR s.c l level:=f.c.trans y;have t:s3.aO=s.aO++[s.c.cl.length]:=by
  rw[f.aO];show s1.aO++[s1.c.cl.length]=_;rw[C,z]
 have D:∀v,1<=v->v<=n->ak s1.c.val v=0->0<=ak s1.pl v:=λ v h1 g m=>by
  rcases k.Gb v h1 (by rw[i,S.rg.jH];exact g) m with e|e
  ·refine k.yY v ((k0.same v).2 (S.un v h1 g ?_));rw[i] at e;exact e
  ·exact e
 refine⟨⟨by rw[c3];exact p,w,by rw[c3];exact S.wg.keep S.gV.aN L,?_,λ v h1 g m=>?_,?_,?_,?_,?_,?_,?_⟩,by rw[c3];rfl,f.aF,f.jG⟩
 ·rw[c3];refine(S.lb.back S.gV.aN L.mI).grow rfl ?_;show _<=((mN s.c level).ax++[ak l 0]).length;rw[y_];omega
 ·rw[c3] at m;have e:=(qd p.aN h1 (by show v<=s.c.n;rw[S.rg.jH];exact g)).1 m;have E:(zR s.c l level).ax=s1.c.ax++[ak l 0]:=by rw[j];rfl
  rw[E] at e;refine(f.same v).2 (D v h1 g ?_);rw[j] at e⊢;exact(qd A h1 (by show v<=s.c.n;rw[S.rg.jH];exact g)).2 ⟨λ o=>e.1 (g_ _ o),λ o=>e.2 (g_ _ o)⟩
 ·rw[f.aQ];show s1.aQ=_;rw[k.aQ,k0.aQ];exact S.aQ
 ·rw[t,c3];show((s.aO++[s.c.cl.length]).map (az (s.c.cl++[l]))).Pairwise _;rw[List.map_append,List.map_singleton,List.pairwise_append];have u:∀d∈s.aO,az (s.c.cl++[l]) d=az s.c.cl d:=λ d ag=>Bl (q d ag)
  refine⟨BH _ (λ d ag x=>by rw[u d ag]) S.xk,by simp,λ a G b H=>?_⟩;rw[o_.1 H,uU];obtain⟨d,ag,rfl⟩:=List.mem_map.1 G;rw[u d ag];exact L.new S.gV d (q d ag)
 ·rw[t,y_,v_,S.qs];omega
 ·rw[f.nl];show∀l'∈s1.nl,_;rw[k.nl,k0.nl];exact S.yX
 ·rw[c3];show ak ((zero s.c.val _).set _ _) 0=0;have:=(L.ok.lt _ (mc (q_.2 L.ok.ne))).1;rw[oZ,if_neg (by omega),yN];split
  ·rfl
  ·exact S.v0
 ·rw[c3];exact o7.set ((S.qK.back level).new l) _ (λ d ag=>by injection ag with ag;rw[<-ag];show s.c.cl.length<(s.c.cl++[l]).length;simp)
theorem mE.xx{B:Int}(r:mE n jK B s)(i:jK<=B){l:List Int}(bp:Int)(f:0<=bp/\bp<=jK)(b:List nE):mE n jK B (s.xx l bp b):=by
 refine⟨r.jH,r.lW,r.lB,r.qp,r.a0,r.rm,r.oQ,r.nM,r.o8,?_,λ d=>?_,λ d g=>?_⟩
 ·show(s.ci++[_]).length=(s.c.cl++[l]).length;rw[y_,y_,r.nN];rfl
 ·have e:lN (s.xx l bp b) d=if d=s.ci.length then ⟨true,bp,s.bz⟩ else lN s d:=yZ _ _ _
  rw[e];split
  ·have h1:=r.rm;have j:=r.oQ;exact⟨by show 0<=s.bz;omega,by show s.bz<=B;omega,f⟩
  ·exact r.qc d
 ·show d<(s.c.cl++[l]).length;rw[y_,v_];rcases List.mem_append.1 g with h1|h1
  ·have:=r.k8 d h1;omega
  ·rw[o_.1 h1];omega
end
end
section
open Go.RowKit Go.Shelf
theorem bf.vb(h:bf K base W G hs cb s){g:Nat}(hk:K g)(k:Nat)(v:Value):bf K base (W.setCell ⟨g,k,none⟩ v) G hs cb s:=
 ⟨h.e.off (lq W g k v) (λ f e=>by
  injection e with e
  subst e;exact⟨λ b=>h.s.g (by rw[<-b];exact hk),λ r b=>h.s.row r g b hk,λ d c b=>h.s.cl d c (by rw[b];exact hk)⟩),h.s.more (lq W g k v).size⟩
theorem pn.mono(h:pn K w s)(hk:∀b,K b->lz b):pn lz w s:=λ f g=>by
 obtain⟨a,b,c⟩:=h f g;exact⟨a,b,c.imp id λ⟨d,off,e,h1,i⟩=>⟨d,off,e,λ j=>hk d (h1 j),i⟩⟩
structure se(bg gZ:Nat->Prop)(w0:World)(F:List (List Int))(ah:List Int)(n fR jI:Nat)(aI:au)(gN:Option Addr)(bN gO bH:Nat):Prop where
 n10:n<=10
 yq:ah.length=bN
 Hr:bN<=1000
 MQ:∀x∈ah,gP n x
 MR:aP w0 gN bN gO ah
 Hs:∀b,gN.map (·.block)=some b->0<bN->gZ b
 k0:∀b,gZ b->b<w0.heap.size
 aW:bH<=1099511627776
 jI:jI<=fR+40000
 vc:aI.aF.length+59049<=1099511627776
 lit:∀g∈F,∀x∈g,gP n x
 dl:∀b,bg b->b<w0.heap.size
theorem se.DY(C:se bg gZ w0 F ah n fR jI aI gN bN gO bH){b:Nat}(h:w0.heap.size<=b):¬bg b:=λ c=>by
 have:=C.dl b c;omega
def nk:Value:=.slice none 0 0
structure mS(bg gZ:Nat->Prop)(base:Nat)(w0:World)(G:Nat)(F:List (List Int))(ah:List Int)(n fR jI:Nat)(aI:au)(bn bH:Nat)(K:Nat->Prop)(W:World)(hs:Nat->ay)(cb:Nat->Nat)(s:au)(aB h:Nat):Prop where
 ru:∀b,gZ b->K b
 gK:bf K base W G hs cb s
 jB:aG gZ w0 W
 ko:mF F ah n fR s aB h
 j5:aR W bn 30 [.int .i64 0,nk,nk,.int .i64 (aB:Int)]
 sF:K bn
 tU:¬gZ bn
 xy:pn (λ b=>gZ b/\¬bg b) W s
 xz:∀p∈s.aF,qx (λ b=>(K b/\b≠bn)/\¬bg b) W n p
 xA:aI.aF<+:s.aF
 vc:s.aF.length=aI.aF.length+aB
 wC:s.c.cl.length=jI+aB
 mW:aB<=bH
def og(K:Nat->Prop)(W:World)(F:List (List Int))(ah:List Int)(n bH aB:Nat)(kind:Int)(c:Option Addr)(e f:Nat)(d:Option Addr)(i j:Nat):Prop:=
 (kind=1/\h_ d i j=nk/\∃m:List Bool,kN W c e f m/\(∀b,c.map (·.block)=some b->K b)/\m.length=n+1/\iY m 0=false/\(∀g∈F,sW (kr m) g)/\∀x∈ah,kr m x=true)\/
 (kind=2/\h_ c e f=nk/\∃core:List Int,aP W d i j core/\(∀b,d.map (·.block)=some b->K b)/\core.Sublist ah/\∀M,sX M F->¬∀x∈core,M x=true)\/
 (kind=3/\h_ c e f=nk/\h_ d i j=nk/\aB=bH)
def DZ(bg gZ:Nat->Prop)(base:Nat)(w0:World)(G:Nat)(F:List (List Int))(ah:List Int)(n fR:Nat)(aI:au)(bH:Nat)(e:Ending)(W:World):Prop:=
 ∃(K:Nat->Prop)(hs:Nat->ay)(cb:Nat->Nat)(s:au)(aB h:Nat)(kind:Int)(c:Option Addr)(d f:Nat)(g:Option Addr)(i j:Nat),
  e=.returned (.agg #[.int .i64 kind,.slice c d f,.slice g i j,.int .i64 (aB:Int)])/\(∀b,gZ b->K b)/\bf K base W G hs cb s/\aG gZ w0 W/\mF F ah n fR s aB h/\pn (λ b=>gZ b/\¬bg b) W s/\(∀p∈s.aF,qx (λ b=>K b/\¬bg b) W n p)/\aI.aF<+:s.aF/\s.aF.length=aI.aF.length+aB/\aB<=bH/\og (λ b=>K b/\¬bg b) W F ah n bH aB kind c d f g i j
section
variable {bg gZ K lz:Nat->Prop}{base:Nat}{w0 W W':World}{G:Nat}{F:List (List Int)}{ah:List Int}{n fR jI:Nat}{aI s s':au}{gN:Option Addr}{bN gO bn bH:Nat}{hs hs':Nat->ay}{cb r4:Nat->Nat}{aB h h':Nat}
theorem mS.move(S:mS bg gZ base w0 G F ah n fR jI aI bn bH K W hs cb s aB h)(f:bf K base W' G hs' r4 s')(jB:aG K W W')(g:mF F ah n fR s' aB h')(d:s'.aF=s.aF)(i:s'.jG=s.jG)(j:s'.c.cl.length=s.c.cl.length):
  mS bg gZ base w0 G F ah n fR jI aI bn bH K W' hs' r4 s' aB h':=
 ⟨S.ru,f,S.jB.trans (jB.mono S.ru),g,jB.blk S.j5 S.sF,S.sF,S.tU,S.xy.kept (jB.mono λ b e=>S.ru b e.1) i d,λ p hp=>(S.xz p (by rw[<-d];exact hp)).jB (jB.mono λ b e=>e.1.1),by rw[d];exact S.xA,by rw[d];exact S.vc,by rw[j];exact S.wC,S.mW⟩
theorem mS.below(S:mS bg gZ base w0 G F ah n fR jI aI bn bH K W hs cb s aB h)(b:Below W.heap.size W W'):mS bg gZ base w0 G F ah n fR jI aI bn bH K W' hs cb s aB h:=
 S.move (S.gK.below b).1 (S.gK.below b).2 S.ko rfl rfl rfl
theorem mS.more(S:mS bg gZ base w0 G F ah n fR jI aI bn bH K W hs cb s aB h)(C:se bg gZ w0 F ah n fR jI aI gN bN gO bH)(l:aB<bH){iH:World}{p:nE}
  (hk:∀b,K b->lz b) (m:bf lz base W' G hs' r4 s') (jB:aG (λ b=>K b/\b≠bn) W iH) (g:aG K iH W') (o:aR iH bn 30 [.int .i64 0,nk,nk,.int .i64 (aB+1:Nat)]) (r:mF F ah n fR s' (aB+1) h') (f:s'.aF=s.aF++[p]) (t:s'.jG=none) (u:s'.c.cl.length=s.c.cl.length+1)
  (hl:qx lz W' n p) (i:∀b,p.h.b=some b->W.heap.size<=b):mS bg gZ base w0 G F ah n fR jI aI bn bH lz W' hs' r4 s' (aB+1) h':=by
 have w:=S.j5.lt;have f0:aG (λ b=>K b/\b≠bn) W W':=jB.trans (g.mono λ b d=>d.1);refine⟨λ b d=>hk b (S.ru b d),m,S.jB.trans (f0.mono λ b d=>⟨S.ru b d,λ e=>S.tU (e▸d)⟩),r,g.blk o S.sF,hk _ S.sF,S.tU,λ y j=>(by rw[t] at j;cases j),λ q k=>?_,?_,?_,?_,l⟩
 ·rw[f] at k;rcases List.mem_append.1 k with h1|h1
  ·exact((S.xz q h1).jB (f0.mono λ b d=>d.1)).mono λ b d=>⟨⟨hk b d.1.1,d.1.2⟩,d.2⟩
  ·rw[o_.1 h1];exact⟨hl.lQ,hl.rd,λ b e v=>⟨⟨hl.blk b e v,by have:=i b e;omega⟩,C.DY (r_ S.jB.size (i b e))⟩⟩
 ·rw[f];exact S.xA.trans (List.prefix_append _ _)
 ·rw[f,y_,v_,S.vc];omega
 ·rw[u,S.wC];omega
theorem aG.D0(S:mS bg gZ base w0 G F ah n fR jI aI bn bH K W hs cb s aB h)(k:Nat)(v:Value):aG (λ b=>K b/\b≠bn) W (W.setCell ⟨bn,k,none⟩ v):=aG.set bn k v (λ c=>c.2 rfl)
theorem mS.nA(S:mS bg gZ base w0 G F ah n fR jI aI bn bH K W hs cb s aB h)(C:se bg gZ w0 F ah n fR jI aI gN bN gO bH):s.aO.length+1<=59049/\aB+1<=59049/\s.c.cl.length<=100000/\s.c.n<=60000/\s.c.st.length<=1100/\s.aF.length<=1099511627776/\s.c.ax.length<=n:=by
 have h1:=S.ko.nA;have b:3^n<=3^10:=Nat.pow_le_pow_right (by omega) C.n10;have d:(3:Nat)^10=59049:=by decide
 have e:=S.ko.qs;have f:=S.wC;have g:=C.jI;have i:=S.ko.rg.jH;have j:=C.n10;have k:=S.ko.lb.len;have l:=S.ko.gV.aN.len;have m:=C.yq;have o:=C.Hr;have p:=S.vc;have q:=C.vc;refine⟨by omega,by omega,by omega,by omega,by omega,by omega,by omega⟩
theorem mF.Ht(S:mF F ah n fR s aB h)(d:0<s.c.st.length):0<s.c.ax.length:=by
 rcases Nat.eq_zero_or_pos ah.length with f|f
 ·have h1:=S.lb.str 0 d (by omega);split at h1
  ·have b:=S.gV.aN.oz (0+1) (by assumption);omega
  ·omega
 ·have h1:=S.wg.ind 0 d f;have b:=sw h1;exact q_.2 (λ e=>by rw[e] at b;cases b)
theorem mS.DM(S:mS bg gZ base w0 G F ah n fR jI aI bn bH K W hs cb s aB h):wA s:=
 ⟨S.ko.qK,λ k d b=>(S.ko.gV.wt.qQ k d b).1,S.ko.rg.k8⟩
theorem mS.Hu(S:mS bg gZ base w0 G F ah n fR jI aI bn bH K W hs cb s aB h)(C:se bg gZ w0 F ah n fR jI aI gN bN gO bH):aP W gN bN gO ah:=C.MR.jB S.jB C.Hs
structure sg(bg gZ:Nat->Prop)(base:Nat)(w0:World)(G:Nat)(F:List (List Int))(ah:List Int)(n fR:Nat)(aI:au)(bn bH:Nat)(K:Nat->Prop)(W:World)(hs:Nat->ay)(cb:Nat->Nat)(s:au)(aB h:Nat)(kind:Int)(aK:Option Addr)(aU aJ:Nat)(aX:Option Addr)(bM aM:Nat):Prop where
 ru:∀b,gZ b->K b
 gK:bf K base W G hs cb s
 jB:aG gZ w0 W
 ko:mF F ah n fR s aB h
 sF:K bn
 tU:¬gZ bn
 xy:pn (λ b=>gZ b/\¬bg b) W s
 xz:∀p∈s.aF,qx (λ b=>(K b/\b≠bn)/\¬bg b) W n p
 xA:aI.aF<+:s.aF
 vc:s.aF.length=aI.aF.length+aB
 mW:aB<=bH
 xB:og (λ b=>(K b/\b≠bn)/\¬bg b) W F ah n bH aB kind aK aU aJ aX bM aM
theorem kN.jB{K:Nat->Prop}{w w':World}{A:Option Addr}{n c:Nat}{ai:List Bool}(h:kN w A n c ai)(f:aG K w w')(hk:∀b,A.map (·.block)=some b->K b):kN w' A n c ai:=
 ⟨h.len,h.cap,h.mG,h.n9,λ d=>by
  obtain⟨b,off,e,h1,g⟩:=h.cells d;refine⟨b,off,e,Nat.lt_of_lt_of_le h1 f.size,λ j i=>?_⟩;rw[f.cell (p:=⟨b,off+j,none⟩) (hk b (by rw[e];rfl))];exact g j i⟩
theorem og.jB{K:Nat->Prop}{kind:Int}{aK:Option Addr}{aU aJ:Nat}{aX:Option Addr}{bM aM:Nat}(a:og K W F ah n bH aB kind aK aU aJ aX bM aM)(f:aG K W W'):og K W' F ah n bH aB kind aK aU aJ aX bM aM:=by
 rcases a with⟨h1,d,m,g,c,i⟩|⟨h1,d,co,g,c,i⟩|h1
 ·exact .inl ⟨h1,d,m,g.jB f c,c,i⟩
 ·exact .inr (.inl ⟨h1,d,co,g.jB f (λ b e _=>c b e),c,i⟩)
 ·exact .inr (.inr h1)
theorem og.mono{K lz:Nat->Prop}{kind:Int}{aK:Option Addr}{aU aJ:Nat}{aX:Option Addr}{bM aM:Nat}(a:og K W F ah n bH aB kind aK aU aJ aX bM aM)(hk:∀b,K b->lz b):og lz W F ah n bH aB kind aK aU aJ aX bM aM:=by
 rcases a with⟨h1,c,m,d,f,g⟩|⟨h1,c,co,d,f,g⟩|h1
 ·exact .inl ⟨h1,c,m,d,λ b e=>hk b (f b e),g⟩
 ·exact .inr (.inl ⟨h1,c,co,d,λ b e=>hk b (f b e),g⟩)
 ·exact .inr (.inr h1)
theorem sg.move{kind:Int}{aK:Option Addr}{aU aJ:Nat}{aX:Option Addr}{bM aM:Nat}(S:sg bg gZ base w0 G F ah n fR aI bn bH K W hs cb s aB h kind aK aU aJ aX bM aM)(d:bf K base W' G hs cb s)(f:aG (λ b=>K b/\b≠bn) W W'):
  sg bg gZ base w0 G F ah n fR aI bn bH K W' hs cb s aB h kind aK aU aJ aX bM aM:=
 have f0:aG gZ W W':=f.mono λ b c=>⟨S.ru b c,λ e=>S.tU (e▸c)⟩
 ⟨S.ru,d,S.jB.trans f0,S.ko,S.sF,S.tU,S.xy.kept (f0.mono λ b c=>c.1) rfl rfl,λ p hp=>(S.xz p hp).jB (f.mono λ b c=>c.1),S.xA,S.vc,S.mW,S.xB.jB (f.mono λ b c=>c.1)⟩
theorem sg.set{kind:Int}{aK:Option Addr}{aU aJ:Nat}{aX:Option Addr}{bM aM:Nat}(S:sg bg gZ base w0 G F ah n fR aI bn bH K W hs cb s aB h kind aK aU aJ aX bM aM)(k:Nat)(v:Value):sg bg gZ base w0 G F ah n fR aI bn bH K (W.setCell ⟨bn,k,none⟩ v) hs cb s aB h kind aK aU aJ aX bM aM:=
 S.move (S.gK.vb S.sF k v) (aG.set bn k v (λ b=>b.2 rfl))
theorem sg.done{kind:Int}{aK:Option Addr}{aU aJ:Nat}{aX:Option Addr}{bM aM:Nat}(S:sg bg gZ base w0 G F ah n fR aI bn bH K W hs cb s aB h kind aK aU aJ aX bM aM):DZ bg gZ base w0 G F ah n fR aI bH (.returned (.agg #[.int .i64 kind,.slice aK aU aJ,.slice aX bM aM,.int .i64 (aB:Int)])) W:=
 ⟨K,hs,cb,s,aB,h,kind,aK,aU,aJ,aX,bM,aM,rfl,S.ru,S.gK,S.jB,S.ko,S.xy,λ p hp=>(S.xz p hp).mono λ b c=>⟨c.1.1,c.2⟩,S.xA,S.vc,S.mW,S.xB.mono λ b c=>⟨c.1.1,c.2⟩⟩
theorem mS.ends(S:mS bg gZ base w0 G F ah n fR jI aI bn bH K W hs cb s aB h){kind:Int}{aK:Option Addr}{aU aJ:Nat}{aX:Option Addr}{bM aM:Nat}(a:og (λ b=>(K b/\b≠bn)/\¬bg b) W F ah n bH aB kind aK aU aJ aX bM aM):sg bg gZ base w0 G F ah n fR aI bn bH K W hs cb s aB h kind aK aU aJ aX bM aM:=
 ⟨S.ru,S.gK,S.jB,S.ko,S.sF,S.tU,S.xy,S.xz,S.xA,S.vc,S.mW,a⟩
theorem mS.Ce(S:mS bg gZ base w0 G F ah n fR jI aI bn bH K W hs cb s aB h){kind:Int}(a:og (λ b=>(K b/\b≠bn)/\¬bg b) W F ah n bH aB kind none 0 0 none 0 0):
  sg bg gZ base w0 G F ah n fR aI bn bH K (((((W.setCell ⟨bn,0,none⟩ (.int .i64 kind)).setCell ⟨bn,0,none⟩ (.int .i64 kind)).setCell ⟨bn,1,none⟩ (.slice none 0 0)).setCell ⟨bn,2,none⟩ (.slice none 0 0)).setCell ⟨bn,3,none⟩ (.int .i64 (aB:Int))) hs cb s aB h kind none 0 0 none 0 0/\
  aR (((((W.setCell ⟨bn,0,none⟩ (.int .i64 kind)).setCell ⟨bn,0,none⟩ (.int .i64 kind)).setCell ⟨bn,1,none⟩ (.slice none 0 0)).setCell ⟨bn,2,none⟩ (.slice none 0 0)).setCell ⟨bn,3,none⟩ (.int .i64 (aB:Int))) bn 30 [.int .i64 kind,nk,nk,.int .i64 (aB:Int)]:=
 ⟨((((((S.ends a).set 0 _).set 0 _).set 1 _).set 2 _).set 3 _),((((S.j5.set 0 _).set 0 _).set 1 _).set 2 _).set 3 _⟩
theorem og.no(hu:Unsat F):og K W F ah n bH aB 2 none 0 0 none 0 0:=
 .inr (.inl ⟨rfl,rfl,[],aP.nil _ _ _ (by unfold maxLen;omega),λ b e=>(by cases e),List.nil_sublist _,λ M c _=>hu M c⟩)
theorem og.o:og K W F ah n aB aB 3 none 0 0 none 0 0:=.inr (.inr ⟨rfl,rfl,rfl,rfl⟩)
end
end
section
open Go.RowKit Go.Shelf
noncomputable def Cf:Code:=(Tryz.f99.body.bind λ c=>qv c 1).getD .skip
noncomputable def Hv:Code:=DL Cf
noncomputable def MS:Code:=ng (ng (BV (ng (ng Hv))))
theorem MT{w1:World}{d:Nat}
  (C:se bg gZ w0 F ah n fR jI aI gN bN gO bH) (S:mS bg gZ base w0 G F ah n fR jI aI bn bH K w1 hs cb s aB h) (ab:aB<bH) (ag:d<s.c.cl.length) (ad:∀x∈az s.c.cl d,-x∈s.c.ax) (ae:0<s.c.st.length) (a8: -70000<=left/\left<=4398046511104)
  (af:∀(K:Nat->Prop)(hs:Nat->ay)(cb:Nat->Nat)(s':au)(bk jV jF a' gJ gu iF gL gW u16 gv gw gx gI gy gz gA gB gC gD gE gF fS fT fU u32 fV fW fZ ga gb gd gh gi gj gl gm gG gH iz iq ir bT bU bV bW bX bY bZ b5 b6 b7 b8 b9 cc cg ck u64 cm cn cp cr ct cu cv cw cz cA cB cC cD cE cF cG cH cI cK cL cM di dm dn dr dw dx dy dz cN cO cQ cR cS cT cU cV cW cZ c4 c5 c6 c7 c8 c9 dc dA dB dD dF dG dH dI dJ dK dL dM dN dO dP dQ dR dS dU dV dW dX dY dZ ec ee ef ei ej ek en fL fM fN eo ep er eu ew ey ez eA eB eC eD eE fO fP fQ eF eG eH eL eM eN eO eP eR eS eT eU eV eW eX eY eZ e3 e4 e5 e6 e7 e8 e9 fc fe ff fh fk fm fo fq fu fA fB fC gn gp fD fE fF fG fH fI fJ iJ iK iL iM iN iO iP iQ iR iS iT iU jq jr js jt jv jw jx jy jX jY jZ j0 j3 j4:Value)(W':World),mS bg gZ base w0 G F ah n fR jI aI bn bH K W' hs cb s' (aB+1) s'.c.ag->Q (.exit 1) {tmps:= #[.pointer (some ⟨G,0,none⟩),.slice gN bN gO,.int .i64 (bH:Int),bk,jV,jF,.pointer (some ⟨bn,0,none⟩),.int .i64 (ji:Int),.int .i64 (left-1),.int .i64 2000,a',gJ,gu,iF,gL,gW,u16,gv,gw,gx,gI,gy,gz,gA,gB,gC,gD,gE,gF,fS,fT,fU,u32,fV,fW,fZ,ga,gb,gd,gh,gi,gj,gl,gm,gG,gH,iz,iq,ir,bT,bU,bV,bW,bX,bY,bZ,b5,b6,b7,b8,b9,cc,cg,ck,u64,cm,cn,cp,cr,ct,cu,cv,cw,cz,cA,cB,cC,cD,cE,cF,cG,cH,cI,cK,cL,cM,di,dm,dn,dr,dw,dx,dy,dz,cN,cO,cQ,cR,cS,cT,cU,cV,cW,cZ,c4,c5,c6,c7,c8,c9,dc,dA,dB,dD,dF,dG,dH,dI,dJ,dK,dL,dM,dN,dO,dP,dQ,dR,dS,dU,dV,dW,dX,dY,dZ,ec,ee,ef,ei,ej,ek,en,fL,fM,fN,eo,ep,er,eu,ew,ey,ez,eA,eB,eC,eD,eE,fO,fP,fQ,eF,eG,eH,eL,eM,eN,eO,eP,eR,eS,eT,eU,eV,eW,eX,eY,eZ,e3,e4,e5,e6,e7,e8,e9,fc,fe,ff,fh,fk,fm,fo,fq,fu,fA,fB,fC,gn,gp,fD,fE,fF,fG,fH,fI,fJ,iJ,iK,iL,iM,iN,iO,iP,iQ,iR,iS,iT,iU,jq,jr,js,jt,jv,jw,jx,jy,jX,jY,jZ,j0,j3,j4],defers:=[]} W'):
  Code.wp w_ MS Q {tmps:= #[.pointer (some ⟨G,0,none⟩),.slice gN bN gO,.int .i64 (bH:Int),bk,jV,jF,.pointer (some ⟨bn,0,none⟩),.int .i64 (ji:Int),.int .i64 left,.int .i64 2000,.pointer (some ⟨cb d,0,none⟩),gJ,gu,iF,gL,gW,u16,gv,gw,gx,gI,gy,gz,gA,gB,gC,gD,gE,gF,fS,fT,fU,u32,fV,fW,fZ,ga,gb,gd,gh,gi,gj,gl,gm,gG,gH,iz,iq,ir,bT,bU,bV,bW,bX,bY,bZ,b5,b6,b7,b8,b9,cc,cg,ck,u64,cm,cn,cp,cr,ct,cu,cv,cw,cz,cA,cB,cC,cD,cE,cF,cG,cH,cI,cK,cL,cM,di,dm,dn,dr,dw,dx,dy,dz,cN,cO,cQ,cR,cS,cT,cU,cV,cW,cZ,c4,c5,c6,c7,c8,c9,dc,dA,dB,dD,dF,dG,dH,dI,dJ,dK,dL,dM,dN,dO,dP,dQ,dR,dS,dU,dV,dW,dX,dY,dZ,ec,ee,ef,ei,ej,ek,en,fL,fM,fN,eo,ep,er,eu,ew,ey,ez,eA,eB,eC,eD,eE,fO,fP,fQ,eF,eG,eH,eL,eM,eN,eO,eP,eR,eS,eT,eU,eV,eW,eX,eY,eZ,e3,e4,e5,e6,e7,e8,e9,fc,fe,ff,fh,fk,fm,fo,fq,fu,fA,fB,fC,gn,gp,fD,fE,fF,fG,fH,fI,fJ,iJ,iK,iL,iM,iN,iO,iP,iQ,iR,iS,iT,iU,jq,jr,js,jt,jv,jw,jx,jy,jX,jY,jZ,j0,j3,j4],defers:=[]} w1:=by
 have ba:=U af;have w:=U C;have f:=U S;have y:=U (z_ ab (z_ ag (z_ ad ae)));have i:=U (S.nA C);have A:jK=1099511627776:=rfl;have ai:=S.j5.cell 3;have bb:=S.j5.free 3;simp only[nk,j_,i_] at ai;have ws:p_.wrap ((aB:Int)+1)=(aB:Int)+1:=by rw[u_];have:=i.o.2.1;omega
 have wl:p_.wrap (left-1)=left-1:=by rw[u_];omega
 clear af C S ab ag ad ae a8
 conv=>arg 2;whnf
 dsimp only
 go_upto_region 12 with fail
 clear ai bb ws wl;have aj:=U (f.o.gK.vb f.o.sF 3 (.int .i64 ((aB:Int)+1)));have ak:bF (aR (w1.setCell ⟨bn,3,none⟩ (.int .i64 ((aB:Int)+1))) bn 30 [.int .i64 0,nk,nk,.int .i64 (aB+1:Nat)]):=U (f.o.j5.set 3 _);have D:=U (aG.D0 f.o 3 (.int .i64 ((aB:Int)+1)));generalize w1.setCell ⟨bn,3,none⟩ (.int .i64 ((aB:Int)+1))=bc at aj ak D⊢;have al:bF (vB F F s n h (jK*(1+16*(aB:Int)))):=U ⟨f.o.ko.gV,f.o.ko.rg.jH,w.o.n10,y.o.2.2.2,by have:=i.o;omega,by have:=i.o;omega,by have:=i.o;rw[A];omega,by have:=i.o;rw[A];omega⟩;have an:=U (LZ aj.o al.o f.o.ko.rg f.o.ko.aQ y.o.2.1 y.o.2.2.1);have ao:jK*(1+16*(aB:Int))+16*jK=jK*(1+16*((aB+1:Nat):Int)):=by rw[A];omega
 have aq:0<=jK*(1+16*((aB+1:Nat):Int))/\jK<=jK*(1+16*((aB+1:Nat):Int))/\jK*(1+16*((aB+1:Nat):Int))<=4611686018427387904:=by have:=i.o;rw[A];omega
 have v:=U aq;clear aq A al;obtain⟨B,E⟩:∃B,jK*(1+16*((aB+1:Nat):Int))=B:=⟨_,rfl⟩
 rw[E] at v;have bd:=U (ao.trans E);have bf:=U E;clear E ao
 go_upto_region 13 with(go_at_call 146;refine an.o.mono ?_;rintro e bG ⟨bL,cl,level,l,ar,rfl,J,L,M2,k0,M,N,H,av⟩;dsimp only)
 rw[bd.o] at M;have O:level<ar.c.st.length:=by rw[k0.c];exact J.mI
 have aw:j9 ar.c:=by rw[k0.c];exact f.o.ko.gV.aN
 have aA:=L.qJ (g:=bL) (N.lt bL rfl).2 H.1 H.2.1 H.2.2;have X:=U (z_ J (z_ L (z_ M2 (z_ k0 (z_ N (z_ av O))))));have aC:=U (Gk aA M aw (by have:=w.o.n10;omega) level O (by rw[k0.c];have:=i.o;omega) (by rw[k0.c];exact mF.Ht f.o.ko y.o.2.2.2));clear J L M2 k0 M N H av O aw aA an
 go_upto_region 14 with(go_at_call 147;refine aC.o.mono ?_;rintro e P ⟨rfl,bI,s1,u,R,T,I⟩;dsimp only)
 have t:s1.c=mN s.c level:=by rw[u.c,X.o.2.2.2.1.c]
 have aD:j9 s1.c:=by rw[t];exact f.o.ko.gV.aN.back X.o.1.mI
 have aE:P.ownsRow base 3 1 (.slice (some ⟨bL,0,none⟩) l.length cl) l.length (jj l):=o6 X.o.2.2.2.2.1 (λ b q=>I.keep b (.inr (by injection q with q;exact q.symm)));have aH:wA s1:=by
  have V:=f.o.DM;refine⟨by rw[t];exact V.qK.back level,λ k d ag=>?_,λ d ag=>?_⟩
  ·rw[t] at ag⊢;exact V.ww k d ag
  ·rw[t];rw[u.aO,X.o.2.2.2.1.aO] at ag;exact V.wl d ag
 have aJ:pn gZ P s1:=(f.o.xy.mono λ b q=>q.1).kept ((D.o.mono λ b q=>⟨f.o.ru b q,λ e=>f.o.tU (e▸q)⟩).trans ((X.o.2.2.1.mono f.o.ru).trans (I.mono λ b q=>.inl (f.o.ru b q)))) (u.jG.trans X.o.2.2.2.1.jG) (u.aF.trans X.o.2.2.2.1.aF);have aK:l.length<=22:=by have:=X.o.1.ok.len;have:=i.o;rw[f.o.ko.rg.jH] at this;have:=w.o.n10;have bh:=X.o.1.ok.len;rw[f.o.ko.rg.jH] at bh;omega
 have aL:1<=l.length:=q_.2 X.o.1.ok.ne;have aM:=U (MP (K:=K) (T.BA λ b q=>.inl q) aH (aJ.mono f.o.ru) aD R.nN (by rw[t];have:=i.o;show s.c.n<=_;omega) (by rw[t];exact f.o.ko.gV.wt.qP) (λ k=>by rw[t];have h1:=f.o.ko.gV.wt.nA k;have:=i.o;show(az s.c.wt k).length<=_;omega) (by rw[t];have:=i.o;show(s.c.st.take level).length<=_;rw[List.length_take];omega) (by rw[u.aO,X.o.2.2.2.1.aO];have:=i.o;omega) (by rw[u.aF,X.o.2.2.2.1.aF];have:=i.o;omega)
  (bL:=bL) (m:=l.length) (c:=cl) (l:=l) rfl aL (by omega) aE (λ r e=>T.s.row r bL e (.inr rfl)) X.o.2.2.2.2.2.1 (λ z W=>by rw[t];exact X.o.1.ok.lt z W) (λ z W=>by
   rw[t];obtain⟨j,bJ,e,h1⟩:=f.o.ko.gV.aN.at (X.o.1.Bn z W);have bK:=wS s.c.st j;have:=i.o;show bp s.c z<=_;omega))
 have Y:=U (z_ u (z_ R (z_ I (z_ t aK))));clear u R T I t aD aE aH aJ aK aL aC
 go_upto_region 15 with(go_at_call 148;refine aM.o.mono ?_;rintro e bM ⟨rfl,bj,bl,bo,bp,p,aP,aS,aT,aU,bq,aV,aW⟩;dsimp only)
 have br:(22:Int)<=jK:=by unfold jK;omega
 have aa:0<=bp/\bp<=jK:=⟨aU,by have:=Y.o.2.2.2.2;omega⟩
 have aX:=Y.o.2.1.xx (l:=l) v.o.2.1 bp aa (s1.aF++[p]);have bs:=U (KZ aS aX (by have:=w.o.n10;omega) (by show(s1.aO++[_]).length<=_;rw[Y.o.1.aO,X.o.2.2.2.1.aO,y_,v_];have:=i.o;omega) v.o.1 v.o.2.2);have Z:=U (z_ aP (z_ aT (z_ aa (z_ aV aW))));clear aP aS aT aU bq aV aW br aa aX aM
 go_wp2_with (go_at_call 149;refine bs.o.mono ?_;rintro e bt ⟨rfl,s3,aY,bu,bw,aZ⟩;dsimp only)
 have bx:mE n jK (jK*(1+16*((aB+1:Nat):Int))) s3:=by rw[bf.o];exact bu
 obtain⟨a6,bz,bA,bB⟩:=f.o.ko.conflict X.o.1 X.o.2.2.2.1 Y.o.1 Y.o.2.1 ⟨v.o.1,v.o.2.1⟩ bp Z.o.2.2.1 (s1.aF++[p]) aY bx;have bC:s1.c.n=n:=by rw[Y.o.2.2.2.1];exact f.o.ko.rg.jH
 have a7:=Z.o.2.2.2.1;rw[bC] at a7;have bD:w1.heap.size<=P.heap.size:=r_ D.o.size (r_ X.o.2.2.1.size Y.o.2.2.1.size);have bE:aG K bc bt:=X.o.2.2.1.trans ((Y.o.2.2.1.mono λ b q=>.inl q).trans (Z.o.2.1.trans (aZ.mono Z.o.1)));rw[<-bz] at a6;apply ba.o bj bl bo s3;exact f.o.more w.o y.o.1 Z.o.1 bw D.o bE ak.o a6 (by rw[bA,Y.o.1.aF,X.o.2.2.2.1.aF]) bB (by rw[aY.c];show(s1.c.cl++[l]).length=_;rw[y_,Y.o.2.2.2.1];rfl) (a7.jB aZ) (λ b e=>r_ bD (Z.o.2.2.2.2 b e))
theorem MU
  (C:se bg gZ w0 F ah n fR jI aI gN bN gO bH) (S:mS bg gZ base w0 G F ah n fR jI aI bn bH K W hs cb s aB s.c.ag) (B: -70000<=left/\left<=4398046511104)
  (D:∀(hs:Nat->ay)(s':au)(bk jV jF gY gJ gu iF gL gW u16 gv gw gx gI gy gz gA gB gC gD gE gF fS fT fU u32 fV fW fZ ga gb gd gh gi gj gl gm gG gH iz iq ir bT bU bV bW bX bY bZ b5 b6 b7 b8 b9 cc cg ck u64 cm cn cp cr ct cu cv cw cz cA cB cC cD cE cF cG cH cI cK cL cM di dm dn dr dw dx dy dz cN cO cQ cR cS cT cU cV cW cZ c4 c5 c6 c7 c8 c9 dc dA dB dD dF dG dH dI dJ dK dL dM dN dO dP dQ dR dS dU dV dW dX dY dZ ec ee ef ei ej ek en fL fM fN eo ep er eu ew ey ez eA eB eC eD eE fO fP fQ eF eG eH eL eM eN eO eP eR eS eT eU eV eW eX eY eZ e3 e4 e5 e6 e7 e8 e9 fc fe ff fh fk fm fo fq fu fA fB fC gn gp fD fE fF fG fH fI fJ iJ iK iL iM iN iO iP iQ iR iS iT iU jq jr js jt jv jw jx jy jX jY jZ j0 j3 j4:Value)(W':World),mS bg gZ base w0 G F ah n fR jI aI bn bH K W' hs cb s' aB s'.c.ag->s'.c.ag=s'.c.ax.length->s'.c.mm=false->s'.aO.length=s.aO.length->s.c.ax.length<=s'.c.ax.length->Q .normal {tmps:= #[.pointer (some ⟨G,0,none⟩),.slice gN bN gO,.int .i64 (bH:Int),bk,jV,jF,.pointer (some ⟨bn,0,none⟩),.int .i64 (ji:Int),.int .i64 left,.int .i64 2000,gY,gJ,gu,iF,gL,gW,u16,gv,gw,gx,gI,gy,gz,gA,gB,gC,gD,gE,gF,fS,fT,fU,u32,fV,fW,fZ,ga,gb,gd,gh,gi,gj,gl,gm,gG,gH,iz,iq,ir,bT,bU,bV,bW,bX,bY,bZ,b5,b6,b7,b8,b9,cc,cg,ck,u64,cm,cn,cp,cr,ct,cu,cv,cw,cz,cA,cB,cC,cD,cE,cF,cG,cH,cI,cK,cL,cM,di,dm,dn,dr,dw,dx,dy,dz,cN,cO,cQ,cR,cS,cT,cU,cV,cW,cZ,c4,c5,c6,c7,c8,c9,dc,dA,dB,dD,dF,dG,dH,dI,dJ,dK,dL,dM,dN,dO,dP,dQ,dR,dS,dU,dV,dW,dX,dY,dZ,ec,ee,ef,ei,ej,ek,en,fL,fM,fN,eo,ep,er,eu,ew,ey,ez,eA,eB,eC,eD,eE,fO,fP,fQ,eF,eG,eH,eL,eM,eN,eO,eP,eR,eS,eT,eU,eV,eW,eX,eY,eZ,e3,e4,e5,e6,e7,e8,e9,fc,fe,ff,fh,fk,fm,fo,fq,fu,fA,fB,fC,gn,gp,fD,fE,fF,fG,fH,fI,fJ,iJ,iK,iL,iM,iN,iO,iP,iQ,iR,iS,iT,iU,jq,jr,js,jt,jv,jw,jx,jy,jX,jY,jZ,j0,j3,j4],defers:=[]} W')
  (E:∀(K:Nat->Prop)(hs:Nat->ay)(cb:Nat->Nat)(s':au)(bk jV jF gY gJ gu iF gL gW u16 gv gw gx gI gy gz gA gB gC gD gE gF fS fT fU u32 fV fW fZ ga gb gd gh gi gj gl gm gG gH iz iq ir bT bU bV bW bX bY bZ b5 b6 b7 b8 b9 cc cg ck u64 cm cn cp cr ct cu cv cw cz cA cB cC cD cE cF cG cH cI cK cL cM di dm dn dr dw dx dy dz cN cO cQ cR cS cT cU cV cW cZ c4 c5 c6 c7 c8 c9 dc dA dB dD dF dG dH dI dJ dK dL dM dN dO dP dQ dR dS dU dV dW dX dY dZ ec ee ef ei ej ek en fL fM fN eo ep er eu ew ey ez eA eB eC eD eE fO fP fQ eF eG eH eL eM eN eO eP eR eS eT eU eV eW eX eY eZ e3 e4 e5 e6 e7 e8 e9 fc fe ff fh fk fm fo fq fu fA fB fC gn gp fD fE fF fG fH fI fJ iJ iK iL iM iN iO iP iQ iR iS iT iU jq jr js jt jv jw jx jy jX jY jZ j0 j3 j4:Value)(W':World),mS bg gZ base w0 G F ah n fR jI aI bn bH K W' hs cb s' (aB+1) s'.c.ag->Q (.exit 1) {tmps:= #[.pointer (some ⟨G,0,none⟩),.slice gN bN gO,.int .i64 (bH:Int),bk,jV,jF,.pointer (some ⟨bn,0,none⟩),.int .i64 (ji:Int),.int .i64 (left-1),.int .i64 2000,gY,gJ,gu,iF,gL,gW,u16,gv,gw,gx,gI,gy,gz,gA,gB,gC,gD,gE,gF,fS,fT,fU,u32,fV,fW,fZ,ga,gb,gd,gh,gi,gj,gl,gm,gG,gH,iz,iq,ir,bT,bU,bV,bW,bX,bY,bZ,b5,b6,b7,b8,b9,cc,cg,ck,u64,cm,cn,cp,cr,ct,cu,cv,cw,cz,cA,cB,cC,cD,cE,cF,cG,cH,cI,cK,cL,cM,di,dm,dn,dr,dw,dx,dy,dz,cN,cO,cQ,cR,cS,cT,cU,cV,cW,cZ,c4,c5,c6,c7,c8,c9,dc,dA,dB,dD,dF,dG,dH,dI,dJ,dK,dL,dM,dN,dO,dP,dQ,dR,dS,dU,dV,dW,dX,dY,dZ,ec,ee,ef,ei,ej,ek,en,fL,fM,fN,eo,ep,er,eu,ew,ey,ez,eA,eB,eC,eD,eE,fO,fP,fQ,eF,eG,eH,eL,eM,eN,eO,eP,eR,eS,eT,eU,eV,eW,eX,eY,eZ,e3,e4,e5,e6,e7,e8,e9,fc,fe,ff,fh,fk,fm,fo,fq,fu,fA,fB,fC,gn,gp,fD,fE,fF,fG,fH,fI,fJ,iJ,iK,iL,iM,iN,iO,iP,iQ,iR,iS,iT,iU,jq,jr,js,jt,jv,jw,jx,jy,jX,jY,jZ,j0,j3,j4],defers:=[]} W')
  (H:∀(K:Nat->Prop)(hs:Nat->ay)(cb:Nat->Nat)(s':au)(h':Nat)(kind:Int)(bk jV jF gY gJ gu iF gL gW u16 gv gw gx gI gy gz gA gB gC gD gE gF fS fT fU u32 fV fW fZ ga gb gd gh gi gj gl gm gG gH iz iq ir bT bU bV bW bX bY bZ b5 b6 b7 b8 b9 cc cg ck u64 cm cn cp cr ct cu cv cw cz cA cB cC cD cE cF cG cH cI cK cL cM di dm dn dr dw dx dy dz cN cO cQ cR cS cT cU cV cW cZ c4 c5 c6 c7 c8 c9 dc dA dB dD dF dG dH dI dJ dK dL dM dN dO dP dQ dR dS dU dV dW dX dY dZ ec ee ef ei ej ek en fL fM fN eo ep er eu ew ey ez eA eB eC eD eE fO fP fQ eF eG eH eL eM eN eO eP eR eS eT eU eV eW eX eY eZ e3 e4 e5 e6 e7 e8 e9 fc fe ff fh fk fm fo fq fu fA fB fC gn gp fD fE fF fG fH fI fJ iJ iK iL iM iN iO iP iQ iR iS iT iU jq jr js jt jv jw jx jy jX jY jZ j0 j3 j4:Value)(W':World),sg bg gZ base w0 G F ah n fR aI bn bH K W' hs cb s' aB h' kind none 0 0 none 0 0->aR W' bn 30 [.int .i64 kind,nk,nk,.int .i64 (aB:Int)]->Q .ret {tmps:= #[.pointer (some ⟨G,0,none⟩),.slice gN bN gO,.int .i64 (bH:Int),bk,jV,jF,.pointer (some ⟨bn,0,none⟩),.int .i64 (ji:Int),.int .i64 left,.int .i64 2000,gY,gJ,gu,iF,gL,gW,u16,gv,gw,gx,gI,gy,gz,gA,gB,gC,gD,gE,gF,fS,fT,fU,u32,fV,fW,fZ,ga,gb,gd,gh,gi,gj,gl,gm,gG,gH,iz,iq,ir,bT,bU,bV,bW,bX,bY,bZ,b5,b6,b7,b8,b9,cc,cg,ck,u64,cm,cn,cp,cr,ct,cu,cv,cw,cz,cA,cB,cC,cD,cE,cF,cG,cH,cI,cK,cL,cM,di,dm,dn,dr,dw,dx,dy,dz,cN,cO,cQ,cR,cS,cT,cU,cV,cW,cZ,c4,c5,c6,c7,c8,c9,dc,dA,dB,dD,dF,dG,dH,dI,dJ,dK,dL,dM,dN,dO,dP,dQ,dR,dS,dU,dV,dW,dX,dY,dZ,ec,ee,ef,ei,ej,ek,en,fL,fM,fN,eo,ep,er,eu,ew,ey,ez,eA,eB,eC,eD,eE,fO,fP,fQ,eF,eG,eH,eL,eM,eN,eO,eP,eR,eS,eT,eU,eV,eW,eX,eY,eZ,e3,e4,e5,e6,e7,e8,e9,fc,fe,ff,fh,fk,fm,fo,fq,fu,fA,fB,fC,gn,gp,fD,fE,fF,fG,fH,fI,fJ,iJ,iK,iL,iM,iN,iO,iP,iQ,iR,iS,iT,iU,jq,jr,js,jt,jv,jw,jx,jy,jX,jY,jZ,j0,j3,j4],defers:=[]} W'):
  Code.wp w_ Hv Q {tmps:= #[.pointer (some ⟨G,0,none⟩),.slice gN bN gO,.int .i64 (bH:Int),bk,jV,jF,.pointer (some ⟨bn,0,none⟩),.int .i64 (ji:Int),.int .i64 left,.int .i64 2000,gY,gJ,gu,iF,gL,gW,u16,gv,gw,gx,gI,gy,gz,gA,gB,gC,gD,gE,gF,fS,fT,fU,u32,fV,fW,fZ,ga,gb,gd,gh,gi,gj,gl,gm,gG,gH,iz,iq,ir,bT,bU,bV,bW,bX,bY,bZ,b5,b6,b7,b8,b9,cc,cg,ck,u64,cm,cn,cp,cr,ct,cu,cv,cw,cz,cA,cB,cC,cD,cE,cF,cG,cH,cI,cK,cL,cM,di,dm,dn,dr,dw,dx,dy,dz,cN,cO,cQ,cR,cS,cT,cU,cV,cW,cZ,c4,c5,c6,c7,c8,c9,dc,dA,dB,dD,dF,dG,dH,dI,dJ,dK,dL,dM,dN,dO,dP,dQ,dR,dS,dU,dV,dW,dX,dY,dZ,ec,ee,ef,ei,ej,ek,en,fL,fM,fN,eo,ep,er,eu,ew,ey,ez,eA,eB,eC,eD,eE,fO,fP,fQ,eF,eG,eH,eL,eM,eN,eO,eP,eR,eS,eT,eU,eV,eW,eX,eY,eZ,e3,e4,e5,e6,e7,e8,e9,fc,fe,ff,fh,fk,fm,fo,fq,fu,fA,fB,fC,gn,gp,fD,fE,fF,fG,fH,fI,fJ,iJ,iK,iL,iM,iN,iO,iP,iQ,iR,iS,iT,iU,jq,jr,js,jt,jv,jw,jx,jy,jX,jY,jZ,j0,j3,j4],defers:=[]} W:=by
 have ab:=U D;have ad:=U E;have m:=U H;have I:=U C;have i:=U S;have ae:=U B;clear D E H C S B
 conv=>arg 2;whnf
 dsimp only;obtain⟨af,ai,J,L,aj,ak,al⟩:=i.o.nA I.o;have M:=U (L6 i.o.gK i.o.ko.gV i.o.ko.wg L (by omega) J);clear af ai J L aj ak al
 go_upto_region 3 with(go_at_call 145;refine M.o.mono ?_;rintro e w1 ⟨p,c',hs',h',rfl,j,N,O,hp⟩;dsimp only)
 have b:mS bg gZ base w0 G F ah n fR jI aI bn bH K w1 hs' cb {s with c:=c'} aB h':=i.o.move N O (i.o.ko.run j.sm j.gV j.jW) rfl rfl j.sm.len;have b:=U b;have an:bF (s.c.ax.length<=c'.ax.length):=U (by obtain⟨e,he⟩:=j.sm.ax;rw[he,y_];omega);have z:=U hp;clear j N O hp M;have P:w1.cell? ⟨G,15,none⟩=some (.bool c'.mm):=b.o.gK.e.kP (k:=15) rfl;obtain⟨ao,kj,aq,q⟩:∃A n c,hs' 5=⟨A,n,c⟩:=⟨_,_,_,rfl⟩
 have aH:w1.cell? ⟨G,6,none⟩=some (.slice ao kj aq):=by have:=b.o.gK.e.kP (k:=6) (v:=(hs' 5).v) rfl;rw[q] at this;exact this
 have r:kj=c'.st.length:=by have:=b.o.gK.e.kj;rw[q] at this;exact this
 have R:=U (z_ q r);clear q r;have T:=b.o.j5.cell 0;have V:=b.o.j5.cell 1;have X:=b.o.j5.cell 2;have ar:=b.o.j5.cell 3;have l:=b.o.j5.free;have av:=l 0;have aw:=l 1;have az:=l 2;have aA:=l 3;simp only[nk,j_,i_] at T V X ar
 cases t:c'.mm with
 |true=>
  rw[t] at P;have u:bF (Unsat F):=U (b.o.ko.gV.jS.tI t)
  cases p with
  |none=>
   have g:qT cb none=.pointer none:=rfl;rw[g]
   go_wp2_with fail
   have f:=b.o.Ce (kind:=2) (og.no u.o);apply m.o
   ·exact f.1
   ·exact f.2
  |some d=>
   have g:qT cb (some d)=.pointer (some ⟨cb d,0,none⟩):=rfl;rw[g]
   go_wp2_with fail
   have f:=b.o.Ce (kind:=2) (og.no u.o);apply m.o
   ·exact f.1
   ·exact f.2
 |false=>
  rw[t] at P
  cases p with
  |none=>
   have g:qT cb none=.pointer none:=rfl;rw[g];have hp:=z.o;dsimp only at hp
   go_wp2_with fail
   have Y:=b.o;rw[<-hp.2] at Y;apply ab.o hs' {s with c:=c'}
   ·exact Y
   ·exact hp.2.trans hp.1
   ·exact t
   ·rfl
   ·exact an.o
  |some d=>
   have g:qT cb (some d)=.pointer (some ⟨cb d,0,none⟩):=rfl;rw[g];have hp:=z.o;dsimp only at hp;have w:=U hp;clear hp z
   by_cases y:c'.st.length=0
   ·have u:bF (Unsat F):=U (J8 b.o.ko.gV.aN b.o.ko.gV.jS y w.o.1 w.o.2);obtain rfl:kj=0:=by rw[R.o.2];exact y
    go_wp2_with fail
    have f:=b.o.Ce (kind:=2) (og.no u.o);apply m.o
    ·exact f.1
    ·exact f.2
   ·have Z:0<c'.st.length:=Nat.pos_of_ne_zero y;have r:¬(kj:Int)=0:=by rw[R.o.2];omega
    have aJ:decide ((kj:Int)=0)=false:=decide_eq_false r;have aC:=U Z;clear Z y
    by_cases aD:aB=bH
    ·subst aD
     go_wp2_with fail
     have f:=b.o.Ce (kind:=3) og.o;apply m.o
     ·exact f.1
     ·exact f.2
    ·have aE:¬(aB:Int)=(bH:Int):=by omega
     have aK:decide ((aB:Int)=(bH:Int))=false:=decide_eq_false aE;have aF:bF (aB<bH):=U (by have:=b.o.mW;omega);clear T V X av aw az l aA
     go_upto_region 7 with fail
     rename_i aL aa aM aP;have aG:=U aa;clear aa
     go_wp2_with fail
     apply aG.o;refine MT I.o b.o aF.o w.o.1 w.o.2 aC.o ae.o ?_;exact ad.o
end
section
open Go.RowKit
def qg(i:Nat):Nat:=2^Nat.log2 i
theorem D1(h:1<=i):qg i<=i:=Nat.log2_self_le (by omega)
theorem MV(i:Nat):i<2*qg i:=by
 have:i<2^(Nat.log2 i+1):=Nat.lt_log2_self;rw[k_] at this;unfold qg;omega
theorem D2(i:Nat):1<=qg i:=n_
theorem MW{m:Nat}(h1:2^m<=i)(c:i<2*2^m):qg i=2^m:=by
 have b:i≠0:=by have:1<=2^m:=n_;omega
 unfold qg;rw[(Nat.log2_eq_iff b).2 ⟨h1,by rw[k_];omega⟩]
def uI:Nat->Nat->Nat
 |0,_=>0
 |f+1,i=>if i+1=2*qg i then qg i else uI f (i-qg i+1)
theorem Cg(h:1<=i)(c:i+1≠2*qg i):1<=i-qg i+1/\i-qg i+1<i:=by
 have d:=D1 h;have e:=MV i;have f:=D2 i;constructor
 ·omega
 ·rcases Nat.lt_or_ge 1 (qg i) with b|b
  ·omega
  ·have:qg i=1:=by omega
   omega
theorem Hw:∀(f b i:Nat),1<=i->i<=f->i<=b->uI f i=uI b i
 |0,_,i,h1,h,_=>absurd h (by omega)
 |_+1,0,i,h1,_,h=>absurd h (by omega)
 |f+1,b+1,i,h1,h,h'=>by
  by_cases e:i+1=2*qg i
  ·simp[uI,e]
  ·have:=Cg h1 e;simp only[uI,if_neg e];exact Hw f b _ this.1 (by omega) (by omega)
def vG(i:Nat):Nat:=uI i i
theorem MX(h:1<=i)(e:i+1=2*qg i):vG i=qg i:=by
 obtain⟨j,rfl⟩:∃j,i=j+1:=⟨i-1,by omega⟩
 simp[vG,uI,e]
theorem MY(h:1<=i)(e:i+1≠2*qg i):vG i=vG (i-qg i+1):=by
 obtain⟨j,rfl⟩:∃j,i=j+1:=⟨i-1,by omega⟩
 have:=Cg h e;show uI (j+1) (j+1)=_;simp only[uI,if_neg e];exact Hw _ _ _ this.1 (by omega) (by omega)
theorem MZ{q k:Nat}(b:∃m,q=2^m)(h1:k<q)(c:q<=2*k):q=2*qg k:=by
 obtain⟨m,rfl⟩:=b
 cases m with
 |zero=>simp at h1;omega
 |succ m=>rw[k_] at*;rw[MW (m:=m) (by omega) (by omega)];omega
theorem M0(i:Nat)(w:World)(h1:1<=i)(t:i<=1099511627776):
  Calls w_ 150 #[.int .i64 i] w λ e w'=>e=.returned (.int .i64 (vG i))/\w=w':=by
 generalize j:vG i=L;have u:=U j;clear j;have B:decide ((i:Int)<1)=false:=by simp;omega
 have C:decide (1099511627776<(i:Int))=false:=by simp;omega
 go_enter Tryz.func150,Tryz.ntmps150
 go_wp2
 go_loop [0,2,3] (λ i _ _=>∃k:Nat,1<=k/\k<=1099511627776/\i=.int .i64 k/\vG k=L) (λ i _ _=>(intOf i).toNat)
 case atStart=>exact⟨i,h1,t,rfl,u.o⟩
 case round=>
  obtain⟨k,c,D,rfl,l⟩:=hrel;have n:=U l;clear l;go_wp2
  go_loop [3] (λ p=>∃q:Nat,p=.int .i64 q/\q<=2*k/\∃m,q=2^m) (λ p=>2*k-(intOf p).toNat)
  case atStart=>exact⟨1,rfl,by omega,0,rfl⟩
  case round=>
   obtain⟨q,rfl,v,r⟩:=hrel;have g:=U r;clear r
   by_cases E:q<=k
   ·have F:1<=q:=by obtain⟨m,hm⟩:=g.o;rw[hm];exact n_
    go_wp2
    go_round
    case rel=>exact⟨q*2,by go_num,by omega,by obtain⟨m,hm⟩:=g.o;exact⟨m+1,by rw[hm,k_]⟩⟩
    case measure=>simp[intOf];omega
   ·have d:=MZ g.o (by omega) v;have G:=D2 k;have b:=U d;clear d
    by_cases f:k+1=q
    ·have s:(k:Int)=(q:Int)-1:=by omega
     have y:((k:Int)==(q:Int)-1)=true:=by simpa using s
     have z:=U f;clear f s;go_wp2;go_ret;refine⟨pO ?_,rfl⟩;rw[<-n.o,MX c (by rw[z.o];exact b.o),b.o];omega
    ·have y:((k:Int)==(q:Int)-1)=false:=beq_eq_false_iff_ne.2 (by omega);have H:=Cg c (by rw[<-b.o];exact f);have I:=D1 c;have A:=U (MY c (by rw[<-b.o];exact f));go_wp2;have d:=b.o
     go_round
     case rel=>exact⟨k-qg k+1,by omega,by omega,by rw[d];exact congrArg (Value.int .i64) (by omega),by rw[<-A.o];exact n.o⟩
     case measure=>simp[intOf];omega
theorem M1:∀(f i:Nat),1<=i->i<=f->1<=uI f i/\uI f i<=i:=by
 intro f
 induction f with
 |zero=>intro i h1 b;omega
 |succ f c=>
  intro i h1 b;unfold uI;split
  ·exact⟨D2 i,D1 h1⟩
  ·rename_i d;have e:=Cg h1 d;have g:=c (i-qg i+1) e.1 (by omega);exact⟨g.1,by omega⟩
theorem M3(h:1<=i):1<=vG i/\vG i<=i:=M1 i i h (Nat.le_refl _)
end
section
open Go.RowKit Go.Shelf
theorem M4(h:bf K base w G hs cb s)(d:s.c.st.length=0):
  Calls w_ 147 #[.pointer (some ⟨G,0,none⟩),.int .i64 0] w λ e w'=>e=.returned (.tuple #[])/\w=w':=by
 obtain⟨f,kj,g,b⟩:∃A n c,hs 5=⟨A,n,c⟩:=⟨_,_,_,rfl⟩
 have j:w.cell? ⟨G,6,none⟩=some (.slice f kj g):=by have:=h.e.kP (k:=6) (v:=(hs 5).v) rfl;rw[b] at this;exact this
 have i:kj=0:=by have:=h.e.kj;rw[b] at this;rw[<-d];exact this
 subst i;clear h d b;go_enter Tryz.func147,Tryz.ntmps147
 go_wp2_with fail
 refine bodyPost_ret (results_none rfl _ _ _) rfl ?_;exact⟨rfl,rfl⟩
def M5(K:Nat->Prop)(base:Nat)(w:World)(G:Nat)(cb:Nat->Nat)(F:List (List Int))(ah:List Int)(n b d h:Nat)(s:au)(e:Ending)(w':World):Prop:=
 e=.returned (.tuple #[])/\∃(hs':Nat->ay)(s':au)(h':Nat),bf K base w' G hs' cb s'/\aG K w w'/\mF F ah n b s' d h'/\s'.c.st=[]/\s'.aF=s.aF/\s'.jG=s.jG/\s'.aO=s.aO/\s'.c.cl=s.c.cl/\(s.c.ag=h->s'.c.ag=h')
theorem Hx(E:bf K base w G hs cb s)(S:mF F ah n fR s aB h)(d:n<=60000)(f:s.c.st.length<=1000000):
  Calls w_ 147 #[.pointer (some ⟨G,0,none⟩),.int .i64 0] w (M5 K base w G cb F ah n fR aB h s):=by
 rcases Nat.eq_zero_or_pos s.c.st.length with b|b
 ·refine(M4 E b).mono ?_;rintro e w' ⟨rfl,rfl⟩;exact⟨rfl,hs,s,h,E,aG.refl,S,List.eq_nil_of_length_eq_zero b,rfl,rfl,rfl,rfl,id⟩
 ·refine(Gk E S.rg S.gV.aN d 0 b f (mF.Ht S b)).mono ?_;rintro e w' ⟨rfl,hs',s',k,r,g,M⟩;exact⟨rfl,hs',s',hU s.c.st 0,g,M,S.back b k r,by rw[k.c];rfl,k.aF,k.jG,k.aO,by rw[k.c];rfl,λ _=>by rw[k.c];rfl⟩
noncomputable def M6:Code:=DL (ng Cf)
theorem M7
  (C:se bg gZ w0 F ah n fR jI aI gN bN gO bH) (S:mS bg gZ base w0 G F ah n fR jI aI bn bH K W hs cb s aB s.c.ag) (t:1<=ji/\ji<=1000000)
  (u:∀(bk jV jF gY gJ gu iF gL gW u16 gv gw gx gI gy gz gA gB gC gD gE gF fS fT fU u32 fV fW fZ ga gb gd gh gi gj gl gm gG gH iz iq ir bT bU bV bW bX bY bZ b5 b6 b7 b8 b9 cc cg ck u64 cm cn cp cr ct cu cv cw cz cA cB cC cD cE cF cG cH cI cK cL cM di dm dn dr dw dx dy dz cN cO cQ cR cS cT cU cV cW cZ c4 c5 c6 c7 c8 c9 dc dA dB dD dF dG dH dI dJ dK dL dM dN dO dP dQ dR dS dU dV dW dX dY dZ ec ee ef ei ej ek en fL fM fN eo ep er eu ew ey ez eA eB eC eD eE fO fP fQ eF eG eH eL eM eN eO eP eR eS eT eU eV eW eX eY eZ e3 e4 e5 e6 e7 e8 e9 fc fe ff fh fk fm fo fq fu fA fB fC gn gp fD fE fF fG fH fI fJ iJ iK iL iM iN iO iP iQ iR iS iT iU jq jr js jt jv jw jx jy jX jY jZ j0 j3 j4:Value),0<left->Q .normal {tmps:= #[.pointer (some ⟨G,0,none⟩),.slice gN bN gO,.int .i64 (bH:Int),bk,jV,jF,.pointer (some ⟨bn,0,none⟩),.int .i64 (ji:Int),.int .i64 left,.int .i64 2000,gY,gJ,gu,iF,gL,gW,u16,gv,gw,gx,gI,gy,gz,gA,gB,gC,gD,gE,gF,fS,fT,fU,u32,fV,fW,fZ,ga,gb,gd,gh,gi,gj,gl,gm,gG,gH,iz,iq,ir,bT,bU,bV,bW,bX,bY,bZ,b5,b6,b7,b8,b9,cc,cg,ck,u64,cm,cn,cp,cr,ct,cu,cv,cw,cz,cA,cB,cC,cD,cE,cF,cG,cH,cI,cK,cL,cM,di,dm,dn,dr,dw,dx,dy,dz,cN,cO,cQ,cR,cS,cT,cU,cV,cW,cZ,c4,c5,c6,c7,c8,c9,dc,dA,dB,dD,dF,dG,dH,dI,dJ,dK,dL,dM,dN,dO,dP,dQ,dR,dS,dU,dV,dW,dX,dY,dZ,ec,ee,ef,ei,ej,ek,en,fL,fM,fN,eo,ep,er,eu,ew,ey,ez,eA,eB,eC,eD,eE,fO,fP,fQ,eF,eG,eH,eL,eM,eN,eO,eP,eR,eS,eT,eU,eV,eW,eX,eY,eZ,e3,e4,e5,e6,e7,e8,e9,fc,fe,ff,fh,fk,fm,fo,fq,fu,fA,fB,fC,gn,gp,fD,fE,fF,fG,fH,fI,fJ,iJ,iK,iL,iM,iN,iO,iP,iQ,iR,iS,iT,iU,jq,jr,js,jt,jv,jw,jx,jy,jX,jY,jZ,j0,j3,j4],defers:=[]} W)
  (w:∀(hs:Nat->ay)(s':au)(d:Int)(bk jV jF gY gJ gu iF gL gW u16 gv gw gx gI gy gz gA gB gC gD gE gF fS fT fU u32 fV fW fZ ga gb gd gh gi gj gl gm gG gH iz iq ir bT bU bV bW bX bY bZ b5 b6 b7 b8 b9 cc cg ck u64 cm cn cp cr ct cu cv cw cz cA cB cC cD cE cF cG cH cI cK cL cM di dm dn dr dw dx dy dz cN cO cQ cR cS cT cU cV cW cZ c4 c5 c6 c7 c8 c9 dc dA dB dD dF dG dH dI dJ dK dL dM dN dO dP dQ dR dS dU dV dW dX dY dZ ec ee ef ei ej ek en fL fM fN eo ep er eu ew ey ez eA eB eC eD eE fO fP fQ eF eG eH eL eM eN eO eP eR eS eT eU eV eW eX eY eZ e3 e4 e5 e6 e7 e8 e9 fc fe ff fh fk fm fo fq fu fA fB fC gn gp fD fE fF fG fH fI fJ iJ iK iL iM iN iO iP iQ iR iS iT iU jq jr js jt jv jw jx jy jX jY jZ j0 j3 j4:Value)(W':World),mS bg gZ base w0 G F ah n fR jI aI bn bH K W' hs cb s' aB s'.c.ag->s'.aO.length=s.aO.length->left<=0->0<d->d<=32*((ji+1:Nat):Int)->Q (.exit 1) {tmps:= #[.pointer (some ⟨G,0,none⟩),.slice gN bN gO,.int .i64 (bH:Int),bk,jV,jF,.pointer (some ⟨bn,0,none⟩),.int .i64 ((ji+1:Nat):Int),.int .i64 d,.int .i64 2000,gY,gJ,gu,iF,gL,gW,u16,gv,gw,gx,gI,gy,gz,gA,gB,gC,gD,gE,gF,fS,fT,fU,u32,fV,fW,fZ,ga,gb,gd,gh,gi,gj,gl,gm,gG,gH,iz,iq,ir,bT,bU,bV,bW,bX,bY,bZ,b5,b6,b7,b8,b9,cc,cg,ck,u64,cm,cn,cp,cr,ct,cu,cv,cw,cz,cA,cB,cC,cD,cE,cF,cG,cH,cI,cK,cL,cM,di,dm,dn,dr,dw,dx,dy,dz,cN,cO,cQ,cR,cS,cT,cU,cV,cW,cZ,c4,c5,c6,c7,c8,c9,dc,dA,dB,dD,dF,dG,dH,dI,dJ,dK,dL,dM,dN,dO,dP,dQ,dR,dS,dU,dV,dW,dX,dY,dZ,ec,ee,ef,ei,ej,ek,en,fL,fM,fN,eo,ep,er,eu,ew,ey,ez,eA,eB,eC,eD,eE,fO,fP,fQ,eF,eG,eH,eL,eM,eN,eO,eP,eR,eS,eT,eU,eV,eW,eX,eY,eZ,e3,e4,e5,e6,e7,e8,e9,fc,fe,ff,fh,fk,fm,fo,fq,fu,fA,fB,fC,gn,gp,fD,fE,fF,fG,fH,fI,fJ,iJ,iK,iL,iM,iN,iO,iP,iQ,iR,iS,iT,iU,jq,jr,js,jt,jv,jw,jx,jy,jX,jY,jZ,j0,j3,j4],defers:=[]} W'):
  Code.wp w_ M6 Q {tmps:= #[.pointer (some ⟨G,0,none⟩),.slice gN bN gO,.int .i64 (bH:Int),bk,jV,jF,.pointer (some ⟨bn,0,none⟩),.int .i64 (ji:Int),.int .i64 left,.int .i64 2000,gY,gJ,gu,iF,gL,gW,u16,gv,gw,gx,gI,gy,gz,gA,gB,gC,gD,gE,gF,fS,fT,fU,u32,fV,fW,fZ,ga,gb,gd,gh,gi,gj,gl,gm,gG,gH,iz,iq,ir,bT,bU,bV,bW,bX,bY,bZ,b5,b6,b7,b8,b9,cc,cg,ck,u64,cm,cn,cp,cr,ct,cu,cv,cw,cz,cA,cB,cC,cD,cE,cF,cG,cH,cI,cK,cL,cM,di,dm,dn,dr,dw,dx,dy,dz,cN,cO,cQ,cR,cS,cT,cU,cV,cW,cZ,c4,c5,c6,c7,c8,c9,dc,dA,dB,dD,dF,dG,dH,dI,dJ,dK,dL,dM,dN,dO,dP,dQ,dR,dS,dU,dV,dW,dX,dY,dZ,ec,ee,ef,ei,ej,ek,en,fL,fM,fN,eo,ep,er,eu,ew,ey,ez,eA,eB,eC,eD,eE,fO,fP,fQ,eF,eG,eH,eL,eM,eN,eO,eP,eR,eS,eT,eU,eV,eW,eX,eY,eZ,e3,e4,e5,e6,e7,e8,e9,fc,fe,ff,fh,fk,fm,fo,fq,fu,fA,fB,fC,gn,gp,fD,fE,fF,fG,fH,fI,fJ,iJ,iK,iL,iM,iN,iO,iP,iQ,iR,iS,iT,iU,jq,jr,js,jt,jv,jw,jx,jy,jX,jY,jZ,j0,j3,j4],defers:=[]} W:=by
 have J:=U u;have M:=U w;have y:=U C;have f:=U S;have g:=U t;have N:=U (S.nA C);clear u w C S t
 conv=>arg 2;whnf
 dsimp only
 by_cases hl:left<=0
 ·have dl:decide (left<=0)=true:=decide_eq_true hl;have wt:p_.wrap ((ji:Int)+1)=((ji+1:Nat):Int):=by rw[u_];have:=g.o;omega
  have j:=U (M0 (ji+1) W (by omega) (by have:=g.o;omega));obtain⟨l,m⟩:=M3 (i:=ji+1) (by omega);obtain⟨L,z⟩:∃L,vG (ji+1)=L:=⟨_,rfl⟩
  rw[z] at j l m;have Y:p_.wrap (32*(L:Int))=32*(L:Int):=by rw[u_];have:=g.o;omega
  have A:=U (Hx f.o.gK f.o.ko (by have:=y.o.n10;omega) (by have:=N.o;omega));have p:=U (z_ hl (z_ l m));clear hl l m z
  go_upto_region 19 with(go_at_call 150;refine j.o.mono ?_;rintro e w1 ⟨rfl,rfl⟩;dsimp only)
  go_upto_region 20 with(go_at_call 147;refine A.o.mono ?_;rintro e O ⟨rfl,P,s2,Z,q,M2,r,R,B,D,E,H,I⟩;dsimp only)
  have b:=f.o.move q M2 r B D (by rw[H]);rw[<-I rfl] at b;have aa:O.cell? ⟨G,0,none⟩=some (.int .i64 (n:Int)):=by have:=q.e.kP (k:=0) (v:=.int .i64 (s2.c.n:Int)) rfl;rw[r.rg.jH] at this;exact this
  have T:¬(10:Int)<(n:Int):=by have:=y.o.n10;omega
  have ab:decide ((10:Int)<(n:Int))=false:=decide_eq_false T;have b:=U b;have V:=U E;clear q M2 r R B D E H I A j
  go_wp2_with fail
  apply M.o P s2
  ·exact b.o
  ·rw[V.o]
  ·exact p.o.1
  ·have:=p.o;omega
  ·have:=p.o;omega
 ·have dl:decide (left<=0)=false:=decide_eq_false hl;have X:=U hl;clear hl
  go_wp2_with fail
  apply J.o;have:=X.o;omega
end
end Go.Proofs.YtogdlkfacflmaaaGreat
