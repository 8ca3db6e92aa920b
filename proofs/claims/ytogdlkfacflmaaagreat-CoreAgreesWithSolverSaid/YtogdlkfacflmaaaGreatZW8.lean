/- Parts of the walk of the solver and its core; no condition. -/
import Derived.Test.YtogdlkfacflmaaaGreatZW7
import Derived.Test.YtogdlkfacflmaaaGreatZW4
import Derived.Test.YtogdlkfacflmaaaGreatZW6
import Derived.Laws.EntriesVeiled
import Derived.Laws.ResultCell
import Derived.Test.YtogdlkfacflmaaaGreatZW1
namespace Go.Proofs.YtogdlkfacflmaaaGreat
set_option linter.unusedVariables false
set_option linter.unusedSimpArgs false
set_option maxRecDepth 1000000
set_option maxHeartbeats 8000000
open _root_.And renaming intro→z_
open _root_.Go.Proofs.Tryz renaming prog→y_
open _root_.List renaming replicate→x_,take_of_length_le→v_,length_cons→u_,mem_append→t_,getElem?_eq_getElem→s_,getElem?_map→n_,getElem?_eq_some_iff→l_
open _root_.Nat renaming le_refl→w_
open _root_.Go.IntKind renaming wrap_i64→r_,i64→o_
open _root_.Go.Oper renaming mk→q_
open _root_.Go.World renaming cell?_of_block→p_,cell?_setCell_other→k_
open _root_.Go.RowKit.Below renaming refl→m_
open _root_.Go.Region renaming binds→j_
open _root_.Go.Code renaming wp→i_
variable{K:Nat->Prop}{base G aH bI bL c6 bt n h g0 iS ir iZ i kl d bz m bl:Nat}{w W:World}{hs ls jH:Nat->ax}{cb:Nat->Nat}{s aI:an}{X:Nat->List Value}{F Fd:List (List Int)}{mk aL out r:List Int}{op kF lit:Int}{hU:ax}{iO:List Value}{ds:List Nat}{aP:List Bool}{jJ c5 lB gR gE gl u16 gm gn gp gD gq gr gu gv gw gx gy gz fN fO fP u32 fQ fR fS fT fU fV fW fZ ga gb gd gA gB ig gX gY bM bN bO bP bQ bR bS bT bU bV bW bX bY bZ b5 u64 b6 b7 b8 b9 cc cg ck cm cn cp cr ct cu cv cw cz cA cB cC cD cE c7 c8 c9 dc de dh di dm cG cH cI cK cL cM cN cO cQ cR cS cT cU cV cW cZ c4 dn dr dw dx dy dz dA dB dD dF dG dH dI dJ dK dL dM dN dO dP dQ dR dS dU dV dW dX dY dZ ec ee ef ei ej ek en eo ep er eu ew ey fI fJ fK ez eA eB eC eD eE eF eG eH eL eM eN eO eP eR eS eT eU eV eW eX eY eZ e3 e4 e5 e6 e7 e8 e9 fc fe ff fh fk fm gh gi fo fq fu fA fB fC fD iw gI fF fG fH gQ lp mA iB iC iD iE iF iG iH iI iJ iK iL iM jc jd je jf jg jh ji jj:Value}{Q:Exit->Act->World->Prop}
section
open Go.RowKit Go.Shelf
noncomputable def K5:Code:=(Tryz.f146.body.bind λ c=>qj c 6).getD .skip
theorem lz.blk(h:lz K base w W G hs cb s ls X){r B:Nat}{v:Value}(hl:ls r=om B)(d:X r=[v]):aN W B (xW r) [v]:=by
 have h1:=h.rows.row r;rw[hl,d] at h1;rcases h1.2 with⟨c,_⟩|⟨g,cap,cur,c,_,e,_,_,f,i⟩
 ·cases c
 ·simp only[om,ax.v] at c;injection c with b l j
  injection b with b
  injection b with b
  subst b;subst j;have:cur= #[v]:=by
   apply Array.toList_inj.1;have k:cur.toList.length=1:=by simpa using f
   rw[<-i,v_ (by rw[k];simp[om])]
  show W.heap[B]? =_;rw[e,this]
structure qT(K:Nat->Prop)(base:Nat)(w W:World)(G:Nat)(hs:Nat->ax)(cb:Nat->Nat)(s:an)(aH bI bL c6 bt lg lX bm m:Nat)(f:Int->Option Bool)(out mk:List Int)(op:Int)(hU:ax)(iO:List Value)(r:List Int)(ds:List Nat)(ls:Nat->ax)(X:Nat->List Value):Prop where
 aO:kM K base w W G hs cb s aH bI bL c6 bt out mk op hU iO ls X
 qh:ls 7=om lg
 lP:X 7=[.map (some bm)]
 BH:ls 8=om lX
 BI:X 8=[.func (.func 185) #[] #[.pointer (some ⟨lg,0,none⟩),.pointer (some ⟨aH,0,none⟩),.pointer (some ⟨lX,0,none⟩)]]
 uo:X 9=iY r
 pg:mW 4 um W bm m f
 snd:∀y,f y=some true->q5 s.c s.aP y
 BJ:w.heap.size<=bm
 ms:oT w.heap.size W ds
section
variable {K:Nat->Prop}{base:Nat}{w W W' rP:World}{G:Nat}{hs:Nat->ax}{cb:Nat->Nat}{s:an}{aH bI bL c6 bt lg lX bm m:Nat}{f:Int->Option Bool}{out mk:List Int}{op:Int}{hU:ax}{iO:List Value}{r:List Int}{ds:List Nat}{ls:Nat->ax}{X:Nat->List Value}
theorem qT.tI(h:qT K base w W G hs cb s aH bI bL c6 bt lg lX bm m f out mk op hU iO r ds ls X):r7 base W G hs cb s lg aH lX bm m f:=
 ⟨h.aO.gj.gH.e,h.aO.gj.blk h.qh h.lP,h.aO.gj.blk h.aO.nO h.aO.iX,h.aO.gj.blk h.BH h.BI,h.pg,h.snd⟩
theorem qT.put(h:qT K base w W G hs cb s aH bI bL c6 bt lg lX bm m f out mk op hU iO r ds ls X){lS:Nat}{mL:Int->Option Bool}(b:W.grownBy W' (some bm))(hm:mW 4 um W' bm lS mL)(hs':∀y,mL y=some true->q5 s.c s.aP y):qT K base w W' G hs cb s aH bI bL c6 bt lg lX bm lS mL out mk op hU iO r ds ls X:=by
 obtain⟨es,cl,h1⟩:=h.pg.BE;refine⟨h.aO.r5 (h.aO.gj.uP b (λ r e=>by cases e;exact⟨h.BJ,_,h1,rfl⟩)),h.qh,h.lP,h.BH,h.BI,h.uo,hm,hs',h.BJ,h.ms.kept b (λ D d e=>?_)⟩;injection e with e
 subst e;rw[(h.ms.kC D d).2] at h1;cases h1
theorem qT.grow(h:qT K base w W G hs cb s aH bI bL c6 bt lg lX bm m f out mk op hU iO r ds ls X)(b:Below W.heap.size W W'):qT K base w W' G hs cb s aH bI bL c6 bt lg lX bm m f out mk op hU iO r ds ls X:=
 ⟨h.aO.grow b,h.qh,h.lP,h.BH,h.BI,h.uo,h.pg.below b h.pg.lt,h.snd,h.BJ,h.ms.below b⟩
theorem qT.j3(h:qT K base w W G hs cb s aH bI bL c6 bt lg lX bm m f out mk op hU iO r ds ls X):(ls 9).n=r.length:=by have:=h.aO.gj.rows.len 9;rw[h.uo] at this;simpa[iY] using this.symm
theorem qT.app(h:qT K base w W G hs cb s aH bI bL c6 bt lg lX bm m f out mk op hU iO r ds ls X){x:Int}{v':Value}(d:nW W w.heap.size 3 (ls 9).v ((ls 9).n+1) ((r++[x]).map (Value.int .i64)) v' rP):
  ∃A' c' b i,v'=.slice A' ((ls 9).n+1) c'/\b 9=⟨A',(ls 9).n+1,c'⟩/\b 5=ls 5/\qT K base w rP G hs cb s aH bI bL c6 bt lg lX bm m f out mk op hU iO (r++[x]) ds b i:=by
 obtain⟨⟨A',j,c'⟩,rfl,c,p,k,l⟩:=h.aO.gj.app (r:=9) rfl d;have c:j=(ls 9).n+1:=c;subst c;obtain⟨es,cl,h1⟩:=h.pg.BE;have o:=d.2.1;refine⟨A',c',_,_,rfl,jG _ _ _,bh _ _ (by omega),⟨⟨k,?_,?_,?_,?_,?_,?_,?_,?_,?_,?_,?_,?_,?_,?_⟩,?_,?_,?_,?_,jG _ _ _,h.pg.kept o (λ e=>?_),h.snd,h.BJ,h.ms.others l⟩⟩
 all_goals first|(rw[bh _ _ (by omega)];first|exact h.aO.nO|exact h.aO.iX|exact h.aO.iV|exact h.aO.k7|exact h.aO.kz|exact h.aO.kN|exact h.aO.nQ|exact h.aO.kI|exact h.aO.p4|exact h.aO.lN|exact h.aO.s4|exact h.aO.uR|exact h.qh|exact h.lP|exact h.BH|exact h.BI)|skip
 ·rw[bh _ _ (by omega),bh _ _ (by omega)];exact h.aO.jK
 ·rw[bh _ _ (by omega),bh _ _ (by omega)];exact h.aO.kA
 ·obtain⟨cs,g⟩:=vj (h.aO.gj.rows.row 9) e.symm;rw[h1] at g;cases g
end
theorem K6{lg lX bm:Nat}{f:Int->Option Bool}{u:Int}{go ql co:Nat}{nw s7:Option Addr}{jY bH K7:Nat}
  (C:vk F Fd aI n h kF) (H:qT K base w W G hs cb s aH bI bL c6 bt lg lX bm 0 f (u::aL) mk op hU iO [u] ds ls X) (t:ls 5=⟨some ⟨go,0,none⟩,ql+1,co⟩) (v:ls 9=⟨nw,jY,bH⟩) (U:aL.length=ql) (a7:ql<=20) (Y:s.c=aI.c) (Z:s.aP=aP) (ab:aP.length=n+1) (ad:∀x∈aL,-x∈aI.c.ay) (B:0<ql->s7=some ⟨go,1,none⟩)
  (ae:∀(m:Nat)(f:Int->Option Bool)(r:List Int)(d:Option Addr)(j3 i:Nat)(ls:Nat->ax)(X:Nat->List Value)(jJ c5 lB gR gE gl aE aF u16 gm gn gp gD gq gr gu gv gw gx gy gz fN fO fP u32 fQ fR fS fT fU fV fW fZ ga gb gd gA gB ig gX gY bM bN bO bP bQ bR bS bT bU bV bW bX bY bZ b5 u64 b6 b7 b8 b9 cc cg ck cm cn cp cr ct cu cv cw cz cA cB cC cD cE c7 c8 c9 dc de dh di dm cG cH cI cK cL cM cN cO cQ cR cS cT cU cV cW cZ c4 dn dr dw dx dy dz dA dB dD dF dG dH dI dJ dK dL dM dN dO dP dQ dR dS dU dV dW dX dY dZ ec aG aJ aK ee ef ei ej ek en eo ep er eu ew ey fI fJ fK ez eA eB eC eD eE eF eG eH eL eM eN eO eP eR eS eT eU eV eW eX eY eZ e3 e4 e5 e6 e7 e8 e9 fc fe ff fh fk fm gh gi fo fq fu fA fB fC fD:Value)(W':World),qT K base w W' G hs cb s aH bI bL c6 bt lg lX bm m f (u::aL) mk op hU iO (u::r) ds ls X->ls 9=⟨d,j3,i⟩->r.Sublist aL->(∀x∈aL,x∈r\/q5 aI.c aP x)->Q (.exit 6) {tmps:= #[.pointer (some ⟨G,0,none⟩),jJ,.pointer (some ⟨aH,0,none⟩),c5,.pointer (some ⟨bI,0,none⟩),.int .i64 0,.pointer (some ⟨bL,0,none⟩),.pointer (some ⟨bt,0,none⟩),.pointer (some ⟨c6,0,none⟩),lB,gR,gE,gl,aE,aF,.slice d j3 i,u16,gm,gn,gp,gD,gq,gr,gu,gv,gw,gx,gy,gz,fN,fO,fP,u32,fQ,fR,fS,fT,fU,fV,fW,fZ,ga,gb,gd,gA,gB,ig,gX,gY,bM,bN,bO,bP,bQ,bR,bS,bT,bU,bV,bW,bX,bY,bZ,b5,u64,b6,b7,b8,b9,cc,cg,ck,cm,cn,cp,cr,ct,cu,cv,cw,cz,cA,cB,cC,cD,cE,c7,c8,c9,dc,de,dh,di,dm,cG,cH,cI,cK,cL,cM,cN,cO,cQ,cR,cS,cT,cU,cV,cW,cZ,c4,dn,dr,dw,dx,dy,dz,dA,dB,dD,dF,dG,dH,dI,dJ,dK,dL,dM,dN,dO,dP,dQ,dR,dS,dU,dV,dW,dX,dY,dZ,ec,aG,aJ,aK,ee,ef,ei,ej,ek,en,eo,ep,er,eu,ew,ey,fI,fJ,fK,ez,eA,eB,eC,eD,eE,eF,eG,eH,eL,eM,eN,eO,eP,eR,eS,eT,eU,eV,eW,eX,eY,eZ,e3,e4,e5,e6,e7,e8,e9,fc,fe,ff,fh,fk,fm,gh,gi,fo,fq,fu,fA,fB,fC,fD],defers:=ds.map oD} W'):
  i_ y_ K5 Q {tmps:= #[.pointer (some ⟨G,0,none⟩),jJ,.pointer (some ⟨aH,0,none⟩),c5,.pointer (some ⟨bI,0,none⟩),.int .i64 0,.pointer (some ⟨bL,0,none⟩),.pointer (some ⟨bt,0,none⟩),.pointer (some ⟨c6,0,none⟩),lB,gR,gE,gl,.pointer (some ⟨lg,0,none⟩),.pointer (some ⟨lX,0,none⟩),.slice nw jY bH,u16,gm,gn,gp,gD,gq,gr,gu,gv,gw,gx,gy,gz,fN,fO,fP,u32,fQ,fR,fS,fT,fU,fV,fW,fZ,ga,gb,gd,gA,gB,ig,gX,gY,bM,bN,bO,bP,bQ,bR,bS,bT,bU,bV,bW,bX,bY,bZ,b5,u64,b6,b7,b8,b9,cc,cg,ck,cm,cn,cp,cr,ct,cu,cv,cw,cz,cA,cB,cC,cD,cE,c7,c8,c9,dc,de,dh,di,dm,cG,cH,cI,cK,cL,cM,cN,cO,cQ,cR,cS,cT,cU,cV,cW,cZ,c4,dn,dr,dw,dx,dy,dz,dA,dB,dD,dF,dG,dH,dI,dJ,dK,dL,dM,dN,dO,dP,dQ,dR,dS,dU,dV,dW,dX,dY,dZ,ec,.slice s7 ql K7,.int .i64 (ql:Int),.int .i64 0,ee,ef,ei,ej,ek,en,eo,ep,er,eu,ew,ey,fI,fJ,fK,ez,eA,eB,eC,eD,eE,eF,eG,eH,eL,eM,eN,eO,eP,eR,eS,eT,eU,eV,eW,eX,eY,eZ,e3,e4,e5,e6,e7,e8,e9,fc,fe,ff,fh,fk,fm,gh,gi,fo,fq,fu,fA,fB,fC,fD],defers:=ds.map oD} W:=by
 have aM:=aa ae;have j:=aa C;have aN:=aa H;have V:=aa (z_ t (z_ v (z_ U (z_ Y (z_ Z (z_ ab ad))))));have aQ:=aa B;clear C H ae t v U Y Z ab ad B
 conv=>arg 2;whnf
 dsimp only
 go_loopw [15,143] (λ aR O W'=>∃(k m:Nat)(f:Int->Option Bool)(r:List Int)(d:Option Addr)(j3 i:Nat)(ls:Nat->ax)(X:Nat->List Value),aR=.slice d j3 i/\O=.int .i64 (k:Int)/\k<=ql/\qT K base w W' G hs cb s aH bI bL c6 bt lg lX bm m f (u::aL) mk op hU iO (u::r) ds ls X/\ls 9=⟨d,j3,i⟩/\ls 5=⟨some ⟨go,0,none⟩,ql+1,co⟩/\r.Sublist (aL.take k)/\(∀x∈aL.take k,x∈r\/q5 aI.c aP x)/\m<=k*63403380965376) (λ _ O _=>ql-(intOf O).toNat)
 case atStart=>exact⟨0,0,f,[],nw,jY,bH,ls,X,rfl,rfl,Nat.zero_le _,aN.o,V.o.2.1,V.o.1,by simp,λ x E=>by simp at E,w_ _⟩
 case round=>
  obtain⟨k,m,f,r,d,j3,i,ls,X,rfl,rfl,hk,af,v,t,ag,E,hm⟩:=hrel;have L:=aa af;have D:=aa (z_ hk (z_ v (z_ t (z_ ag (z_ E hm)))));clear hk v t ag E hm af
  by_cases I:k<ql
  ·have aT:(k:Int)<(ql:Int):=by omega
   have B:=aQ.o (by omega);subst B;obtain⟨x,J⟩:∃x,aj aL k=x:=⟨_,rfl⟩
   have z:k<aL.length:=by rw[V.o.2.2.1];exact I
   have ah:x∈aL:=by rw[<-J];exact lZ z
   have aU:wr.cell? ⟨go,1+k,none⟩=some (.int .i64 x):=by
    refine(L.o.aO.gj.kC (r:=5) (g:=go) (by rw[D.o.2.2.1];rfl) (k:=1+k) ?_).1;rw[L.o.aO.k7];unfold iY;rw[List.map_cons,Nat.add_comm,List.getElem?_cons_succ,n_,s_ z,<-J,nh z];rfl
   have aV:wr.cell? ⟨lX,0,none⟩=some (.func (.func 185) #[] #[.pointer (some ⟨lg,0,none⟩),.pointer (some ⟨aH,0,none⟩),.pointer (some ⟨lX,0,none⟩)]):=L.o.tI.tI.cell 0;obtain⟨p,hp,ai⟩:=qb.1 (V.o.2.2.2.2.2.2 x ah);have ak:=j.o.gP.aL.len;rw[j.o.jt] at ak;have al:24^(p+1)<=63403380965376:=Nat.le_trans (Nat.pow_le_pow_right (by omega) (show p+1<=10 by have:=j.o.n10;omega)) (by decide);have ao:=K4 (base:=base) (G:=G) (hs:=hs) (cb:=cb) (s:=s) (lg:=lg) (aH:=aH) (lX:=lX) (bm:=bm) (F:=F) (Fd:=Fd) (by rw[V.o.2.2.2.1];exact j.o.gP.aL) (by rw[V.o.2.2.2.1];exact j.o.gP.jF) (by rw[V.o.2.2.2.1,j.o.jt];exact j.o.n10) (by rw[V.o.2.2.2.2.1,V.o.2.2.2.2.2.1,V.o.2.2.2.1,j.o.jt]) p x 0 wr m f (by rw[V.o.2.2.2.1];exact hp) (by rw[V.o.2.2.2.1];exact ai) (Int.le_refl _) (by omega) L.o.tI (by have:=D.o.2.2.2.2.2;omega);have l:=aa (z_ J (z_ z (z_ al I)));have a8:o_.wrap ((k:Int)+1)=(k:Int)+1:=by rw[r_];omega
   clear J z ah hp ai al I ak
   go_wp2_with fail
   refine ao.mono ?_;clear ao;rintro e w1 ⟨b,m2,f2,rfl,aq,P,ar,au⟩;dsimp only;have R:=aa (L.o.put ar P.pg P.snd);have S:=aa (z_ aq au);clear aq P ar au aU aV;have M:fE (aL.take (k+1)=aL.take k++[x]):=aa (by rw[yJ l.o.2.1,l.o.1])
   cases b with
   |true=>
    go_wp2_with fail
    go_roundw
    case rel=>
     refine⟨k+1,m2,f2,r,d,j3,i,ls,X,rfl,by go_num,by have:=l.o;omega,R.o,D.o.2.1,D.o.2.2.1,?_,?_,by have:=S.o.2;have:=l.o.2.2.1;have:=D.o.2.2.2.2.2;omega⟩
     ·rw[M.o];exact D.o.2.2.2.1.trans (List.sublist_append_left _ _)
     ·rw[M.o];intro y T;rcases t_.1 T with h|h
      ·exact D.o.2.2.2.2.1 y h
      ·rw[List.mem_singleton] at h;subst h;have q:=S.o.1 rfl;rw[V.o.2.2.2.1,V.o.2.2.2.2.1] at q;exact .inr q
    case measure=>have:=l.o;simp[intOf];omega
   |false=>
    have N:=aa (R.o.grow (bB w1 (nX [x])));have av:j3=(u::r).length:=by have:=R.o.j3;rw[D.o.2.1] at this;exact this
    have aw:r.length<=20:=by have h1:=D.o.2.2.2.1.length_le;rw[List.length_take] at h1;omega
    have aW:fE ((w1.alloc (nX [x])).ownsRow w.heap.size 3 1 (.slice d j3 i) j3 ((u::r).map (Value.int .i64))):=aa (by have:=N.o.aO.gj.rows.row 9;rw[D.o.2.1,N.o.uo] at this;exact this);have aX:=aa (aS.lit w1 [x] 1 w1.heap.size rfl rfl (by omega));have aY:=aa (z_ av aw);clear av aw
    go_wp2_with (at_builtin;refine uH rfl (.tmp 151) (.tmp 153) rfl w.heap.size (.slice d j3 i) j3 (u::r) rfl aW.o (some ⟨w1.heap.size,0,none⟩) 1 1 [x] rfl aX.o (by have:=aY.o;simp at this;omega) N.o.aO.gj.iR.size ?_;intro v9 bG az;obtain⟨A',c',aZ,a6,rfl,aA,aB,A⟩:=N.o.app (x:=x) (v':=v9) (by rw[D.o.2.1];exact az);have A:=aa (z_ A (z_ aA aB));clear az aA aB)
    go_roundw
    case rel=>
     refine⟨k+1,m2,f2,r++[x],A',_,c',aZ,a6,rfl,by go_num,by have:=l.o;omega,A.o.1,A.o.2.1,by rw[A.o.2.2];exact D.o.2.2.1,?_,?_,by have:=S.o.2;have:=l.o.2.2.1;have:=D.o.2.2.2.2.2;omega⟩
     ·rw[M.o];exact D.o.2.2.2.1.append (List.Sublist.refl _)
     ·rw[M.o];intro y T;rcases t_.1 T with h|h
      ·rcases D.o.2.2.2.2.1 y h with q|q
       ·exact .inl (t_.2 (.inl q))
       ·exact .inr q
      ·exact .inl (t_.2 (.inr h))
    case measure=>have:=l.o;simp[intOf];omega
  ·have aT:¬(k:Int)<(ql:Int):=by omega
   have aC:k=ql:=by have:=D.o.1;omega
   have aD:=aa aC;clear I aC
   go_wp2_with fail
   apply aM.o
   ·exact L.o
   ·exact D.o.2.1
   ·have:=D.o.2.2.2.1;rwa[aD.o,v_ (by rw[V.o.2.2.1];exact w_ _)] at this
   ·have:=D.o.2.2.2.2.1;rwa[aD.o,v_ (by rw[V.o.2.2.1];exact w_ _)] at this
end
section
open Go.RowKit Go.Shelf
noncomputable def K8:Code:=(Tryz.f146.body.bind λ c=>qj c 8).getD .skip
structure r8(K:Nat->Prop)(base:Nat)(w W:World)(G:Nat)(hs:Nat->ax)(cb:Nat->Nat)(s:an)(aH bI bL c6 bt:Nat)(out mk:List Int)(op:Int)(hU:ax)(iO:List Value)(r:List Int)(ds:List Nat)(ls:Nat->ax)(X:Nat->List Value):Prop where
 aO:kM K base w W G hs cb s aH bI bL c6 bt out mk op hU iO ls X
 uo:X 9=iY r
 ms:oT w.heap.size W ds
theorem r8.grow{K:Nat->Prop}{base:Nat}{w W W':World}{G:Nat}{hs:Nat->ax}{cb:Nat->Nat}{s:an}{aH bI bL c6 bt:Nat}{out mk:List Int}{op:Int}{hU:ax}{iO:List Value}{r:List Int}{ds:List Nat}{ls:Nat->ax}{X:Nat->List Value}(h:r8 K base w W G hs cb s aH bI bL c6 bt out mk op hU iO r ds ls X)(b:Below W.heap.size W W'):r8 K base w W' G hs cb s aH bI bL c6 bt out mk op hU iO r ds ls X:=
 ⟨h.aO.grow b,h.uo,h.ms.below b⟩
theorem r8.wN{K:Nat->Prop}{base:Nat}{w W:World}{G:Nat}{hs:Nat->ax}{cb:Nat->Nat}{s:an}{aH bI bL c6 bt:Nat}{out mk:List Int}{op:Int}{hU:ax}{iO:List Value}{r:List Int}{ds:List Nat}{ls:Nat->ax}{X:Nat->List Value}(h:r8 K base w W G hs cb s aH bI bL c6 bt out mk op hU iO r ds ls X){g:Nat}(c:(hs 12).b=some g)(v:Nat)(b:Bool):r8 K base w (W.setCell ⟨g,v,none⟩ (.bool b)) G hs cb (s.sY v b) aH bI bL c6 bt out mk op hU iO r ds ls X:=by
 have e:=h.aO.gj.back (h.aO.gj.call.wN c v b).1 (h.aO.gj.call.wN c v b).2;exact⟨h.aO.r5 e.1,h.uo,h.ms.others e.2⟩
theorem K9{l:List Bool}(hl:l.length=n)(h:∀v,iU l v=false):l=x_ n false:=by
 refine List.ext_getElem (by simp[hl]) (λ k h1 b=>?_);rw[<-A1 h1,h k,List.getElem_replicate]
theorem La{bk:Option Addr}{bA aV:Nat}{jo:Option Addr}{j3 iQ:Nat}
  (H:r8 K base w W G hs cb s aH bI bL c6 bt out mk op hU iO r ds ls X) (i:ls 6=⟨bk,bA,aV⟩) (ad:bA<=1000) (t:s.aP=aP) (y:∀z:Int,z∈mk↔∃v:Nat,z=v/\iU aP v=true)
  (A:∀(jJ c5 lB gR gE gl iw gI u16 gm gn gp gD gq gr gu gv gw gx gy gz fN fO fP u32 fQ fR fS fT fU fV fW fZ ga gb gd gA gB ig gX gY bM bN bO bP bQ bR bS bT bU bV bW bX bY bZ b5 u64 b6 b7 b8 b9 cc cg ck cm cn cp cr ct cu cv cw cz cA cB cC cD cE c7 c8 c9 dc de dh di dm cG cH cI cK cL cM cN cO cQ cR cS cT cU cV cW cZ c4 dn dr dw dx dy dz dA dB dD dF dG dH dI dJ dK dL dM dN dO dP dQ dR dS dU dV dW dX dY dZ ec fF fG fH ee ef ei ej ek en eo ep er eu ew ey O P R ez eA eB eC eD eE eF eG eH eL eM eN eO eP eR eS eT eU eV eW eX eY eZ e3 e4 e5 e6 e7 e8 e9 fc fe ff fh fk fm gh gi fo fq fu fA fB fC fD:Value)(W':World),r8 K base w W' G hs cb {s with aP:=x_ aP.length false} aH bI bL c6 bt out mk op hU iO r ds ls X->Q (.exit 8) {tmps:= #[.pointer (some ⟨G,0,none⟩),jJ,.pointer (some ⟨aH,0,none⟩),c5,.pointer (some ⟨bI,0,none⟩),.int .i64 0,.pointer (some ⟨bL,0,none⟩),.pointer (some ⟨bt,0,none⟩),.pointer (some ⟨c6,0,none⟩),lB,gR,gE,gl,iw,gI,.slice jo j3 iQ,u16,gm,gn,gp,gD,gq,gr,gu,gv,gw,gx,gy,gz,fN,fO,fP,u32,fQ,fR,fS,fT,fU,fV,fW,fZ,ga,gb,gd,gA,gB,ig,gX,gY,bM,bN,bO,bP,bQ,bR,bS,bT,bU,bV,bW,bX,bY,bZ,b5,u64,b6,b7,b8,b9,cc,cg,ck,cm,cn,cp,cr,ct,cu,cv,cw,cz,cA,cB,cC,cD,cE,c7,c8,c9,dc,de,dh,di,dm,cG,cH,cI,cK,cL,cM,cN,cO,cQ,cR,cS,cT,cU,cV,cW,cZ,c4,dn,dr,dw,dx,dy,dz,dA,dB,dD,dF,dG,dH,dI,dJ,dK,dL,dM,dN,dO,dP,dQ,dR,dS,dU,dV,dW,dX,dY,dZ,ec,fF,fG,fH,ee,ef,ei,ej,ek,en,eo,ep,er,eu,ew,ey,O,P,R,ez,eA,eB,eC,eD,eE,eF,eG,eH,eL,eM,eN,eO,eP,eR,eS,eT,eU,eV,eW,eX,eY,eZ,e3,e4,e5,e6,e7,e8,e9,fc,fe,ff,fh,fk,fm,gh,gi,fo,fq,fu,fA,fB,fC,fD],defers:=ds.map oD} W'):
  i_ y_ K8 Q {tmps:= #[.pointer (some ⟨G,0,none⟩),jJ,.pointer (some ⟨aH,0,none⟩),c5,.pointer (some ⟨bI,0,none⟩),.int .i64 0,.pointer (some ⟨bL,0,none⟩),.pointer (some ⟨bt,0,none⟩),.pointer (some ⟨c6,0,none⟩),lB,gR,gE,gl,iw,gI,.slice jo j3 iQ,u16,gm,gn,gp,gD,gq,gr,gu,gv,gw,gx,gy,gz,fN,fO,fP,u32,fQ,fR,fS,fT,fU,fV,fW,fZ,ga,gb,gd,gA,gB,ig,gX,gY,bM,bN,bO,bP,bQ,bR,bS,bT,bU,bV,bW,bX,bY,bZ,b5,u64,b6,b7,b8,b9,cc,cg,ck,cm,cn,cp,cr,ct,cu,cv,cw,cz,cA,cB,cC,cD,cE,c7,c8,c9,dc,de,dh,di,dm,cG,cH,cI,cK,cL,cM,cN,cO,cQ,cR,cS,cT,cU,cV,cW,cZ,c4,dn,dr,dw,dx,dy,dz,dA,dB,dD,dF,dG,dH,dI,dJ,dK,dL,dM,dN,dO,dP,dQ,dR,dS,dU,dV,dW,dX,dY,dZ,ec,fF,fG,fH,ee,ef,ei,ej,ek,en,eo,ep,er,eu,ew,ey,.slice bk bA aV,.int .i64 (bA:Int),.int .i64 0,ez,eA,eB,eC,eD,eE,eF,eG,eH,eL,eM,eN,eO,eP,eR,eS,eT,eU,eV,eW,eX,eY,eZ,e3,e4,e5,e6,e7,e8,e9,fc,fe,ff,fh,fk,fm,gh,gi,fo,fq,fu,fA,fB,fC,fD],defers:=ds.map oD} W:=by
 have S:=aa A;have T:=aa H;have B:mk.length=bA:=by have:=H.aO.n6;rw[i] at this;exact this.symm
 have V:=aa (z_ i (z_ t (z_ y B)));clear H A t y B
 conv=>arg 2;whnf
 dsimp only
 go_loopw [158] (λ x W'=>∃(k:Nat)(b:List Bool),x=.int .i64 (k:Int)/\k<=bA/\b.length=aP.length/\(∀v:Nat,iU b v=true->iU aP v=true/\¬(v:Int)∈mk.take k)/\r8 K base w W' G hs cb {s with aP:=b} aH bI bL c6 bt out mk op hU iO r ds ls X) (λ x _=>bA-(intOf x).toNat)
 case atStart=>exact⟨0,aP,rfl,Nat.zero_le _,rfl,λ v h=>⟨h,by simp⟩,by rw[<-V.o.2.1];exact T.o⟩
 case round=>
  obtain⟨k,b,rfl,hk,C,E,F⟩:=hrel;have L:=aa F;have D:=aa (z_ hk (z_ C E));clear F hk C E
  by_cases j:k<bA
  ·have U:(k:Int)<(bA:Int):=by omega
   obtain⟨I,l,J⟩:=L.o.aO.gj.rows.addr (r:=6) (by rw[i];show bA≠0;omega);rw[i] at l;have l:bk=some ⟨I,0,none⟩:=l;subst l;have f:k<mk.length:=by rw[V.o.2.2.2];exact j
   obtain⟨v,g,m⟩:=(V.o.2.2.1 (aj mk k)).1 (lZ f);have ae:wr.cell? ⟨I,k,none⟩=some (.int .i64 (v:Int)):=by
    refine(L.o.aO.gj.kC J (k:=k) ?_).1;rw[L.o.aO.kN];unfold iY;rw[n_,s_ f,<-g,nh f];rfl
   have n:v<b.length:=by rw[D.o.2.1];exact F5 m
   have aF:=L.o.aO.aF;obtain⟨g12,p,M,f12⟩:=L.o.aO.gj.gH.e.lW 16 12 rfl L.o.aO.gj.gH.e.n12 (by show b.length≠0;omega);have af:=f12 v;have ag:=L.o.aO.gj.gH.e.zQ p (k:=v) n;have ah:(v:Int)<(b.length:Int):=by omega
   have M:wr.cell? ⟨G,16,none⟩=some (.slice (some ⟨g12,0,none⟩) b.length (hs 12).c):=M;have ai:o_.wrap ((k:Int)+1)=(k:Int)+1:=by rw[r_];omega
   have d:=aa (z_ j (z_ f (z_ g (z_ m (z_ n p)))));clear j f g m n p f12 J
   go_wp2_with fail
   have Y:=L.o.wN d.o.2.2.2.2.2 v false;go_roundw
   case rel=>
    refine⟨k+1,b.set v false,by go_num,by have:=d.o.1;omega,by rw[List.length_set];exact D.o.2.1,λ u hu=>?_,Y⟩;rw[zA] at hu;split at hu
    ·cases hu
    ·rename_i Z;obtain⟨h1,q⟩:=D.o.2.2 u hu;refine⟨h1,λ hm=>?_⟩;rw[yJ d.o.2.1,t_,List.mem_singleton,d.o.2.2.1] at hm;rcases hm with hm|hm
     ·exact q hm
     ·exact Z ⟨by omega,d.o.2.2.2.2.1⟩
   case measure=>have:=d.o;simp[intOf];omega
  ·have U:¬(k:Int)<(bA:Int):=by omega
   have N:k=bA:=by have:=D.o.1;omega
   have ab:=aa N;clear j N
   go_wp2_with fail
   apply S.o;have e:b=x_ aP.length false:=K9 D.o.2.1 (λ v=>by
    cases g:iU b v with
    |false=>rfl
    |true=>
     obtain⟨h1,q⟩:=D.o.2.2 v g;refine absurd ?_ q;rw[ab.o,v_ (by rw[V.o.2.2.2];exact w_ _)];exact(V.o.2.2.1 _).2 ⟨v,rfl,h1⟩)
   rw[<-e];exact L.o
noncomputable def Lb:Code:=(Tryz.f146.body.bind λ c=>qj c 10).getD .skip
theorem r8.swap(h:r8 K base w W G hs cb s aH bI bL c6 bt out mk op hU iO r ds ls X){g:Nat}(c:(ls 9).b=some g)(i:Nat):
  ∃d,r8 K base w ((W.setCell ⟨g,1,none⟩ (.int .i64 (aj r i))).setCell ⟨g,i,none⟩ (.int .i64 (aj r 1))) G hs cb s aH bI bL c6 bt out mk op hU iO (kL r 1 i) ds ls d:=by
 obtain⟨e,f⟩:=h.aO.gj.set c 1 (.int .i64 (aj r i));obtain⟨j,k⟩:=e.set c i (.int .i64 (aj r 1));refine⟨_,⟨j,h.aO.nO,?_,h.aO.iV,?_,?_,h.aO.kz,?_,?_,h.aO.nQ,?_,h.aO.p4,?_,h.aO.s4,?_⟩,?_,(h.ms.others f).others k⟩
 all_goals first|(rw[bh _ _ (by omega),bh _ _ (by omega)];first|exact h.aO.iX|exact h.aO.jK|exact h.aO.k7|exact h.aO.kA|exact h.aO.kN|exact h.aO.kI|exact h.aO.lN|exact h.aO.uR)|skip
 rw[jG,jG,h.uo];unfold kL iY;rw[List.map_set,List.map_set]
theorem Lc{mw:List Int}{mX kH lT:Nat}
  (H:r8 K base w W G hs cb s aH bI bL c6 bt out mk op hU iO mw ds ls X) (E:ls 9=⟨some ⟨mX,0,none⟩,kH,lT⟩) (Z:1<=kH) (aX:kH<=1000) (aY:n<=60000) (ab:mw.Nodup) (ad:0<s.c.st.length) (ae:s.c.st.length<=1000000) (i:∀x∈mw,gW n x) (af:s.c.lvl.length=n+1) (ah:∀x∈mw,x≠aj mw 0->1<=bg s.c x/\bg s.c x<s.c.st.length)
  (ai:∀(level:Nat)(r:List Int)(X:Nat->List Value)(jJ c5 lB gR gE gl iw gI u16 gm gn gp aE gq gr gu gv gw gx gy gz fN fO fP u32 fQ fR fS fT fU fV fW fZ ga gb gd gA gB ig gX gY bM bN bO bP bQ bR bS bT bU bV bW bX bY bZ b5 u64 b6 b7 b8 b9 cc cg ck cm cn cp cr ct cu cv cw cz cA cB cC cD cE c7 c8 c9 dc de dh di dm cG cH cI cK cL cM cN cO cQ cR cS cT cU cV cW cZ c4 dn dr dw dx dy dz dA dB dD dF dG dH dI dJ dK dL dM dN dO dP dQ dR dS dU dV dW dX dY dZ ec fF fG fH ee ef ei ej ek en eo ep er eu ew ey fI fJ fK ez eA eB eC eD eE eF eG eH eL eM eN eO eP eR eS eT eU eV eW eX eY eZ e3 e4 e5 e6 e7 e8 e9 fc fe ff fh fk fm gh gi fo fq fu fA fB fC fD:Value)(W':World),r8 K base w W' G hs cb s aH bI bL c6 bt out mk op hU iO r ds ls X->qR s.c mw kH level r->Q (.exit 10) {tmps:= #[.pointer (some ⟨G,0,none⟩),jJ,.pointer (some ⟨aH,0,none⟩),c5,.pointer (some ⟨bI,0,none⟩),.int .i64 (level:Int),.pointer (some ⟨bL,0,none⟩),.pointer (some ⟨bt,0,none⟩),.pointer (some ⟨c6,0,none⟩),lB,gR,gE,gl,iw,gI,.slice (some ⟨mX,0,none⟩) kH lT,u16,gm,gn,gp,aE,gq,gr,gu,gv,gw,gx,gy,gz,fN,fO,fP,u32,fQ,fR,fS,fT,fU,fV,fW,fZ,ga,gb,gd,gA,gB,ig,gX,gY,bM,bN,bO,bP,bQ,bR,bS,bT,bU,bV,bW,bX,bY,bZ,b5,u64,b6,b7,b8,b9,cc,cg,ck,cm,cn,cp,cr,ct,cu,cv,cw,cz,cA,cB,cC,cD,cE,c7,c8,c9,dc,de,dh,di,dm,cG,cH,cI,cK,cL,cM,cN,cO,cQ,cR,cS,cT,cU,cV,cW,cZ,c4,dn,dr,dw,dx,dy,dz,dA,dB,dD,dF,dG,dH,dI,dJ,dK,dL,dM,dN,dO,dP,dQ,dR,dS,dU,dV,dW,dX,dY,dZ,ec,fF,fG,fH,ee,ef,ei,ej,ek,en,eo,ep,er,eu,ew,ey,fI,fJ,fK,ez,eA,eB,eC,eD,eE,eF,eG,eH,eL,eM,eN,eO,eP,eR,eS,eT,eU,eV,eW,eX,eY,eZ,e3,e4,e5,e6,e7,e8,e9,fc,fe,ff,fh,fk,fm,gh,gi,fo,fq,fu,fA,fB,fC,fD],defers:=ds.map oD} W'):
  i_ y_ Lb Q {tmps:= #[.pointer (some ⟨G,0,none⟩),jJ,.pointer (some ⟨aH,0,none⟩),c5,.pointer (some ⟨bI,0,none⟩),.int .i64 0,.pointer (some ⟨bL,0,none⟩),.pointer (some ⟨bt,0,none⟩),.pointer (some ⟨c6,0,none⟩),lB,gR,gE,gl,iw,gI,.slice (some ⟨mX,0,none⟩) kH lT,u16,gm,gn,gp,.int .i64 1,gq,gr,gu,gv,gw,gx,gy,gz,fN,fO,fP,u32,fQ,fR,fS,fT,fU,fV,fW,fZ,ga,gb,gd,gA,gB,ig,gX,gY,bM,bN,bO,bP,bQ,bR,bS,bT,bU,bV,bW,bX,bY,bZ,b5,u64,b6,b7,b8,b9,cc,cg,ck,cm,cn,cp,cr,ct,cu,cv,cw,cz,cA,cB,cC,cD,cE,c7,c8,c9,dc,de,dh,di,dm,cG,cH,cI,cK,cL,cM,cN,cO,cQ,cR,cS,cT,cU,cV,cW,cZ,c4,dn,dr,dw,dx,dy,dz,dA,dB,dD,dF,dG,dH,dI,dJ,dK,dL,dM,dN,dO,dP,dQ,dR,dS,dU,dV,dW,dX,dY,dZ,ec,fF,fG,fH,ee,ef,ei,ej,ek,en,eo,ep,er,eu,ew,ey,fI,fJ,fK,ez,eA,eB,eC,eD,eE,eF,eG,eH,eL,eM,eN,eO,eP,eR,eS,eT,eU,eV,eW,eX,eY,eZ,e3,e4,e5,e6,e7,e8,e9,fc,fe,ff,fh,fk,fm,gh,gi,fo,fq,fu,fA,fB,fC,fD],defers:=ds.map oD} W:=by
 have aI:=aa ai;have aJ:=aa H;have F:mw.length=kH:=by have:=H.aO.gj.rows.len 9;rw[H.uo,E] at this;simpa[iY] using this
 have V:=aa (z_ E (z_ Z (z_ ab (z_ ad (z_ ae (z_ i (z_ af (z_ ah F))))))));clear H ai E ab ad ae i af ah F
 conv=>arg 2;whnf
 dsimp only
 go_loopw [5,20] (λ aK I W'=>∃(k level:Nat)(r:List Int)(X:Nat->List Value),aK=.int .i64 (level:Int)/\I=.int .i64 (k:Int)/\1<=k/\k<=kH/\qR s.c mw k level r/\r8 K base w W' G hs cb s aH bI bL c6 bt out mk op hU iO r ds ls X) (λ _ I _=>kH-(intOf I).toNat)
 case atStart=>exact⟨1,0,mw,X,rfl,rfl,w_ _,Z,qR.start V.o.2.2.1 V.o.2.2.2.1,aJ.o⟩
 case round=>
  obtain⟨k,level,r,X,rfl,rfl,ak,hk,J,al⟩:=hrel;have L:=aa al;have D:=aa (z_ ak (z_ hk J));have F:r.length=kH:=J.len.trans V.o.2.2.2.2.2.2.2.2;clear al hk J ak
  by_cases i:k<kH
  ·have aL:(k:Int)<(kH:Int):=by omega
   have A:k<r.length:=by omega
   obtain⟨x,f⟩:∃x,aj r k=x:=⟨_,rfl⟩
   have M:x∈mw:=(D.o.2.2.mem x).1 (by rw[<-f];exact lZ A);have ao:=V.o.2.2.2.2.2.1 x M;have aq:(ls 9).b=some mX:=by rw[V.o.1];rfl
   have N:∀j,j<kH->wr.cell? ⟨mX,j,none⟩=some (.int .i64 (aj r j))/\wr.frozen? ⟨mX,j,none⟩=false:=λ j aZ=>L.o.aO.gj.kC aq (k:=j) (by
    rw[L.o.uo];unfold iY;rw[n_,s_ (by omega),nh (by omega)];rfl)
   have l:=(N k i).1;rw[f] at l;have aF:=L.o.aO.aF;obtain⟨v,p⟩:∃v,aG x=v:=⟨_,rfl⟩
   have aM:v<=n:=by have:=ao.2;omega
   have aN:fE (∀w:World,Calls y_ 97 #[.int .i64 x] w λ e w'=>e=.returned (.int .i64 (v:Int))/\w=w'):=aa (λ w=>by have:=sZ x w (by unfold aG at p;omega) (by unfold aG at p;omega);rw[p] at this;exact this);obtain⟨g2,ar,aP,f2⟩:=L.o.aO.gj.gH.e.lW 3 2 rfl L.o.aO.gj.gH.e.mu (by have:=V.o;omega);have c2:=L.o.aO.gj.gH.e.vH ar (k:=v) (by have:=V.o;omega);have a6:(v:Int)<(s.c.lvl.length:Int):=by have:=V.o;omega
   obtain⟨y,O⟩:∃y,gV s.c.lvl v=y:=⟨_,rfl⟩
   rw[O] at c2;have a7:o_.wrap ((k:Int)+1)=(k:Int)+1:=by rw[r_];omega
   have P:bg s.c (aj r k)=y:=by rw[f];show gV s.c.lvl (aG x)=y;rw[p,O]
   have au:x≠aj mw 0:=by
    rw[<-f,<-D.o.2.2.ag];intro e;have:=uL D.o.2.2.ng A (by omega) e;have:=D.o.1;omega
   have R:=V.o.2.2.2.2.2.2.2.1 x M au;rw[show bg s.c x=y by rw[<-P,f]] at R;have d:=aa (z_ f (z_ A (z_ i (z_ P (z_ R N)))));clear f A M ao p aM O P au R ar f2 N aq
   go_wp2_with fail
   refine wp_region_still_tail 11 (by kernel_rfl) (by kernel_rfl) ?_;simp only[List.take_succ_cons,List.take_zero,List.drop_succ_cons,List.drop_zero]
   iterate 8 still_step
   still_call ((aN.o _).mono (λ e w' h=>⟨h.1,h.2.symm⟩))
   iterate 2 still_step
   refine wpStill_nil ?_;change wpList _ _ _ _ _ wr.drew;have S:=aa (L.o.grow ((m_ _ wr).drew));have l:wr.drew.cell? ⟨mX,k,none⟩=some (.int .i64 x):=l;have c1:wr.drew.cell? ⟨mX,1,none⟩=some (.int .i64 (aj r 1)):=(d.o.2.2.2.2.2 1 (by have:=D.o;have:=d.o.2.2.1;omega)).1;have f1:wr.drew.frozen? ⟨mX,1,none⟩=false:=(d.o.2.2.2.2.2 1 (by have:=D.o;have:=d.o.2.2.1;omega)).2;have av:wr.drew.frozen? ⟨mX,k,none⟩=false:=(d.o.2.2.2.2.2 k d.o.2.2.1).2;have aQ:(1:Int)<(kH:Int):=by have:=D.o;have:=d.o.2.2.1;omega
   clear aF aP c2;generalize wr.drew=aw at*
   by_cases B:level<y
   ·have d1:decide ((level:Int)<(y:Int))=true:=by simp;omega
    have aR:(level:Int)<(y:Int):=by omega
    have C:=aa B;clear B;obtain⟨z,T⟩:∃z,aj r 1=z:=⟨_,rfl⟩
    rw[T] at c1;have ay:=aa T;clear T
    by_cases az:k=1
    ·subst az;obtain rfl:z=x:=by rw[<-ay.o,d.o.1]
     go_upto_region 46 with fail
     clear av l
     go_region_held3 (λ w'=>w'.cell? ⟨mX,1,none⟩=some (.int .i64 z)/\w'.frozen? ⟨mX,1,none⟩=false) (first|exact⟨c1,f1⟩|(refine⟨?_,?_⟩<;>go_simp)) (fail)
     all_goals
      go_wp2_with fail
      obtain⟨U,q⟩:=S.o.swap (g:=mX) (by rw[V.o.1];rfl) 1;rw[d.o.1] at q;go_roundw
      case rel=>
       refine⟨1+1,y,_,U,rfl,by go_num,by omega,by have:=d.o.2.2.1;omega,?_,q.grow ((m_ _ _).drew)⟩;have:=D.o.2.2.iT D.o.1 d.o.2.1 (by rw[d.o.2.2.2.1];exact C.o) (by rw[d.o.2.2.2.1];exact d.o.2.2.2.2.1.2);rw[d.o.2.2.2.1] at this;exact this
      case measure=>have:=d.o;simp[intOf];omega
    ·have aA:1≠k:=λ e=>az e.symm
     have aS:¬1=k:=aA
     go_upto_region 46 with fail
     have aB:(k:Int)<(kH:Int):=by have:=d.o.2.2.1;omega
     refine z8 (rj Tryz.f146 46) 13 11 12 204 [some 190,some 191,some 192,some 193,some 194,some 195,some 196,some 197,some 198,some 199,some 200,none,some 201,none] _ [(15,.slice (some ⟨mX,0,none⟩) kH lT),(20,.int .i64 (k:Int))] (λ _=>True) [.slice (some ⟨mX,0,none⟩) kH lT,.slice (some ⟨mX,0,none⟩) kH lT,.int .i64 (k:Int),.slice (some ⟨mX,0,none⟩) kH lT,.int .i64 (k:Int),.pointer (some ⟨mX,k,none⟩),.int .i64 x,.slice (some ⟨mX,0,none⟩) kH lT,.pointer (some ⟨mX,1,none⟩),.int .i64 z,.pointer (some ⟨mX,1,none⟩),undef,undef] (aw.drew.setCell ⟨mX,1,none⟩ (.int .i64 x)) (λ v w'=>v=.pointer (some ⟨mX,k,none⟩)/\w'=(aw.drew.setCell ⟨mX,1,none⟩ (.int .i64 x))) (by kernel_rfl) (by kernel_rfl) (by kernel_rfl) rfl (by kernel_rfl) (by kernel_rfl) rfl ⟨rfl,rfl,trivial⟩ trivial trivial (λ _ _ _=>trivial) (λ m ag Y hp=>?_) (λ m ag Y hp=>?_) ?_ ?_
     ·have h1:m (.tmp 200)=.pointer (some ⟨mX,1,none⟩):=ag.1 rfl (by decide) (by decide) _ rfl;have t:m (.tmp 196)=.int .i64 x:=ag.2.1 rfl (by decide) (by decide) _ rfl;show bq _ _ (q_ _ _ _ _ _ _) _ _;simp[bq,execOp,cF,go_sem,h1,t,c1,f1]
     ·have h1:m (.tmp 191)=.slice (some ⟨mX,0,none⟩) kH lT:=ag.1 rfl (by decide) (by decide) _ rfl;have t:m (.tmp 192)=.int .i64 (k:Int):=ag.2.1 rfl (by decide) (by decide) _ rfl;show bq _ _ (q_ _ _ _ _ _ _) _ _;simp[bq,execOp,cF,go_sem,h1,t,aB]
     ·refine⟨?_,?_,?_,?_,?_,?_,?_,?_,?_,?_,?_,?_,?_,trivial⟩
      all_goals
       intro h1 t m w _ aT ag Y hp
       first
        |exact absurd rfl h1
        |exact absurd rfl t
        |(obtain⟨aU,aV,-⟩:=Y;(try obtain rfl:=aT rfl);(try simp[oW,qB,j_] at ag);simp[bq,execOp,cF,go_sem,aU,aV,ag,c1,l,aB,aQ,hp.1];done)
     rintro u v w' ⟨rfl,rfl⟩ a8 aC;simp[nZ,Act.put,kP] at aC;subst aC;rw[show((rj Tryz.f146 46).getD 13 default).dst=none from rfl];show bq _ _ (q_ _ _ _ _ _ _) _ _;simp[bq,execOp,cF,go_sem,Act.eval,Act.put,l,av,aA,aS]
     iterate 1
      go_wp2_with fail
      obtain⟨U,q⟩:=S.o.swap (g:=mX) (by rw[V.o.1];rfl) k;rw[d.o.1,ay.o] at q;go_roundw
      case rel=>
       refine⟨k+1,y,_,U,rfl,by go_num,by omega,by have:=d.o.2.2.1;omega,?_,q.grow ((m_ _ _).drew)⟩;have:=D.o.2.2.iT D.o.1 d.o.2.1 (by rw[d.o.2.2.2.1];exact C.o) (by rw[d.o.2.2.2.1];exact d.o.2.2.2.2.1.2);rw[d.o.2.2.2.1] at this;exact this
      case measure=>have:=d.o;simp[intOf];omega
   ·have d1:decide ((level:Int)<(y:Int))=false:=by simp;omega
    have aR:¬(level:Int)<(y:Int):=by omega
    have C:=aa B;clear B
    go_wp2_with fail
    go_roundw
    case rel=>
     exact⟨k+1,level,r,X,rfl,by go_num,by omega,by have:=d.o.2.2.1;omega,D.o.2.2.stay D.o.1 d.o.2.1 (by rw[d.o.2.2.2.1];have:=C.o;omega) (λ e=>by subst e;rw[d.o.2.2.2.1];exact d.o.2.2.2.2.1.1),S.o⟩
    case measure=>have:=d.o;simp[intOf];omega
  ·have aL:¬(k:Int)<(kH:Int):=by omega
   have aD:k=kH:=by have:=D.o;omega
   have aW:=aa aD;clear i aD
   go_wp2_with fail
   apply aI.o
   ·exact L.o
   ·rw[<-aW.o];exact D.o.2.2
def Gf(K:Nat->Prop)(base:Nat)(w:World)(G:Nat)(hs:Nat->ax)(cb:Nat->Nat)(n:Nat)(f:Int)(F:List (List Int))(aI:an)(e:Ending)(w':World):Prop:=
 ∃(bz c level:Nat)(l:List Int)(s':an),e=.returned (.tuple #[.slice (some ⟨bz,0,none⟩) l.length c,.int .i64 (level:Int)])/\uM F aI.c l level/\aX K base w' G hs cb s'/\aC K w w'/\n5 aI s'/\mj n jw (f+16*jw) s'/\
  w'.ownsRow base 3 1 (.slice (some ⟨bz,0,none⟩) l.length c) l.length (iY l)/\(bz≠G/\(∀r,(hs r).b≠some bz)/\∀d,d<s'.c.cl.length->cb d≠bz)/\¬K bz
def vl(lg aH lX:Nat):Value:=.func (.func 185) #[] #[.pointer (some ⟨lg,0,none⟩),.pointer (some ⟨aH,0,none⟩),.pointer (some ⟨lX,0,none⟩)]
theorem qT.make{V:World}(L:kM K base w V G hs cb s aH bI bL c6 bt out mk op hU iO ls X)(i:oT w.heap.size V ds)(u:Int):
  ∃b j,b 9=⟨some ⟨V.heap.size+1+1+1,0,none⟩,1,1⟩/\b 5=ls 5/\b 6=ls 6/\qT K base w ((((V.alloc (.map #[] 0)).alloc (.cells #[.map (some V.heap.size)] 114)).alloc (.cells #[vl (V.heap.size+1) aH (V.heap.size+1+1)] 129)).alloc (.cells #[.int .i64 u] 3)) G hs cb s aH bI bL c6 bt (V.heap.size+1) (V.heap.size+1+1) V.heap.size 0 Dw out mk op hU iO [u] ds b j:=by
 have k:=L.gj.grow (bB V (.map #[] 0));have s1:(V.alloc (.map #[] 0)).heap.size=V.heap.size+1:=by simp
 have c:=k.box 7 (.map (some V.heap.size));rw[s1] at c;have c:lz K base w ((V.alloc (.map #[] 0)).alloc (.cells #[.map (some V.heap.size)] 114)) G hs cb s _ _:=c;have s2:((V.alloc (.map #[] 0)).alloc (.cells #[.map (some V.heap.size)] 114)).heap.size=V.heap.size+1+1:=by simp
 have d:=c.box 8 (vl (V.heap.size+1) aH (V.heap.size+1+1));rw[s2] at d;have d:lz K base w (((V.alloc (.map #[] 0)).alloc (.cells #[.map (some V.heap.size)] 114)).alloc (.cells #[vl (V.heap.size+1) aH (V.heap.size+1+1)] 129)) G hs cb s _ _:=d;have s3:(((V.alloc (.map #[] 0)).alloc (.cells #[.map (some V.heap.size)] 114)).alloc (.cells #[vl (V.heap.size+1) aH (V.heap.size+1+1)] 129)).heap.size=V.heap.size+1+1+1:=by simp
 have hw:=L.gj.iR.size;have l:=d.fresh (r:=9) (h':=⟨some ⟨V.heap.size+1+1+1,0,none⟩,1,1⟩) (ys:=iY [u]) (bB _ (.cells (iY [u]).toArray 3)) (by have:=Dc (((V.alloc (.map #[] 0)).alloc (.cells #[.map (some V.heap.size)] 114)).alloc (.cells #[vl (V.heap.size+1) aH (V.heap.size+1+1)] 129)) w.heap.size [u] 1 rfl (by omega) (by omega);rw[s3] at this;exact this) (λ g e=>by
  have f:some (V.heap.size+1+1+1)=some g:=e;injection f with f
  omega)
 have m:mW 4 um ((((V.alloc (.map #[] 0)).alloc (.cells #[.map (some V.heap.size)] 114)).alloc (.cells #[vl (V.heap.size+1) aH (V.heap.size+1+1)] 129)).alloc (.cells #[.int .i64 u] 3)) V.heap.size 0 Dw:=(((mW.made V).alloc _).alloc _).alloc _;have n:Below V.heap.size V ((((V.alloc (.map #[] 0)).alloc (.cells #[.map (some V.heap.size)] 114)).alloc (.cells #[vl (V.heap.size+1) aH (V.heap.size+1+1)] 129)).alloc (.cells #[.int .i64 u] 3)):=((((m_ _ V).alloc (w_ _) _).alloc (by simp) _).alloc (by omega) _).alloc (by omega) _;refine⟨_,_,jG _ _ _,?_,?_,⟨⟨l,?_,?_,?_,?_,?_,?_,?_,?_,?_,?_,?_,?_,?_,?_⟩,?_,?_,?_,?_,jG _ _ _,m,(λ y h=>by cases h),hw,i.below n⟩⟩
 ·rw[bh _ _ (by omega),bh _ _ (by omega),bh _ _ (by omega)]
 ·rw[bh _ _ (by omega),bh _ _ (by omega),bh _ _ (by omega)]
 ·rw[bh _ _ (by omega),bh _ _ (by omega),bh _ _ (by omega)];exact L.nO
 ·rw[bh _ _ (by omega),bh _ _ (by omega),bh _ _ (by omega)];exact L.iX
 ·rw[bh _ _ (by omega),bh _ _ (by omega),bh _ _ (by omega)];exact L.iV
 ·rw[bh _ _ (by omega),bh _ _ (by omega),bh _ _ (by omega),bh _ _ (by omega),bh _ _ (by omega),bh _ _ (by omega)];exact L.jK
 ·rw[bh _ _ (by omega),bh _ _ (by omega),bh _ _ (by omega)];exact L.k7
 ·rw[bh _ _ (by omega),bh _ _ (by omega),bh _ _ (by omega)];exact L.kz
 ·rw[bh _ _ (by omega),bh _ _ (by omega),bh _ _ (by omega),bh _ _ (by omega),bh _ _ (by omega),bh _ _ (by omega)];exact L.kA
 ·rw[bh _ _ (by omega),bh _ _ (by omega),bh _ _ (by omega)];exact L.kN
 ·rw[bh _ _ (by omega),bh _ _ (by omega),bh _ _ (by omega)];exact L.nQ
 ·rw[bh _ _ (by omega),bh _ _ (by omega),bh _ _ (by omega)];exact L.kI
 ·rw[bh _ _ (by omega),bh _ _ (by omega),bh _ _ (by omega)];exact L.p4
 ·rw[bh _ _ (by omega),bh _ _ (by omega),bh _ _ (by omega)];exact L.lN
 ·rw[bh _ _ (by omega),bh _ _ (by omega),bh _ _ (by omega)];exact L.s4
 ·rw[bh _ _ (by omega),bh _ _ (by omega),bh _ _ (by omega)];exact L.uR
 ·rw[bh _ _ (by omega),bh _ _ (by omega),jG]
 ·rw[bh _ _ (by omega),bh _ _ (by omega),jG]
 ·rw[bh _ _ (by omega),jG]
 ·rw[bh _ _ (by omega),jG];rfl
theorem lz.shut{W':World}(h:lz K base w W G hs cb s ls X)(k:oT w.heap.size W ds)(c:Shut ds W W'):lz K base w W' G hs cb s ls X:=by
 have g:∀b cs t l,W.heap[b]? =some (Obj.cells cs t l)->W'.heap[b]? =W.heap[b]? :=λ b cs t l f=>c.block b (λ i=>by
  have h1:=(k.kC b i).2;rw[f] at h1;cases h1)
 have hblk:∀{b:Nat}{t:TypeId}{cs:List Value},aN W b t cs->aN W' b t cs:=λ m=>(g _ _ _ _ m).trans m
 refine⟨⟨⟨hblk h.gH.e.box,⟨λ r=>pL (h.gH.e.rows.row r) (λ b j=>?_),h.gH.e.rows.apart⟩,λ d n=>hblk (h.gH.e.cls d n),h.gH.e.inj,h.gH.e.q7,h.gH.e.rL⟩,h.gH.s.more (by rw[c.size];exact w_ _)⟩,⟨λ r=>pL (h.rows.row r) (λ b j=>?_),h.rows.apart⟩,⟨c.os.trans h.iR.os,c.tape.trans h.iR.tape,c.output.trans h.iR.output,by rw[c.size];exact h.iR.size,λ b hk=>(c.block b (λ i=>by have:=(k.kC b i).1;have:=h.kl b hk;omega)).trans (h.iR.keep b hk)⟩,h.kl⟩
 ·obtain⟨cs,f⟩:=vj (h.gH.e.rows.row r) j;exact g b _ _ _ f
 ·obtain⟨cs,f⟩:=vj (h.rows.row r) j;exact g b _ _ _ f
theorem Le(tmps:Array Value)(b:Nat)(v v5:Value)(W:World)(c:tmps[4]? =some (.pointer (some ⟨b,0,none⟩)))(d:tmps[5]? =some v5)(e:W.cell? ⟨b,0,none⟩=some v):(results Tryz.f146 tmps).run y_ W=.ok (.tuple #[v,v5]) W:=by
 rw[results_cell_tmp (p:=4) (u:=5) (ty:=25) rfl];simp[c,d,e,go_sem]
theorem Lf{A:Option Addr}{jq c:Nat}{v:Value}(h:n=jq):Ending.returned (.tuple #[.slice A n c,v])=.returned (.tuple #[.slice A jq c,v]):=by rw[h]
noncomputable def Lg:Code:=mU (mU (mU (mU (mU (mU (Tryz.f146.body.getD .skip))))))
theorem Lh{B:Int}{j:Nat}
  (aF:base<=w.heap.size) (C:vk F Fd aI n h kF) (aJ:aI.aP=x_ (n+1) false) (aK:B<=kF+16*jw) (H:BB K base w W G hs cb n B F aI aH bI bL c6 bt op hU iO j ds s aP aL mk ls X):
  i_ y_ Lg (bodyPostM Fence.wide 6 y_ Tryz.f146 (Gf K base w G hs cb n kF F aI)) {tmps:= #[.pointer (some ⟨G,0,none⟩),jJ,.pointer (some ⟨aH,0,none⟩),c5,.pointer (some ⟨bI,0,none⟩),.int .i64 0,.pointer (some ⟨bL,0,none⟩),.pointer (some ⟨bt,0,none⟩),.pointer (some ⟨c6,0,none⟩),.int .i64 (aj aI.c.ay j),gR,gE,gl,iw,gI,gQ,u16,gm,gn,gp,gD,gq,gr,gu,gv,gw,gx,gy,gz,fN,fO,fP,u32,fQ,fR,fS,fT,fU,fV,fW,fZ,ga,gb,gd,gA,gB,ig,gX,gY,bM,bN,bO,bP,bQ,bR,bS,bT,bU,bV,bW,bX,bY,bZ,b5,u64,b6,b7,b8,b9,cc,cg,ck,cm,cn,cp,cr,ct,cu,cv,cw,cz,cA,cB,cC,cD,cE,c7,c8,c9,dc,de,dh,di,dm,cG,cH,cI,cK,cL,cM,cN,cO,cQ,cR,cS,cT,cU,cV,cW,cZ,c4,dn,dr,dw,dx,dy,dz,dA,dB,dD,dF,dG,dH,dI,dJ,dK,dL,dM,dN,dO,dP,dQ,dR,dS,dU,dV,dW,dX,dY,dZ,ec,fF,fG,fH,ee,ef,ei,ej,ek,en,eo,ep,er,eu,ew,ey,fI,fJ,fK,ez,eA,eB,eC,eD,eE,eF,eG,eH,eL,eM,eN,eO,eP,eR,eS,eT,eU,eV,eW,eX,eY,eZ,e3,e4,e5,e6,e7,e8,e9,fc,fe,ff,fh,fk,fm,gh,gi,fo,fq,fu,fA,fB,fC,fD],defers:=ds.map oD} W:=by
 have d:=aa H;have i:=aa C;have ak:=aa (z_ aK (z_ aJ aF));have bK:∀(fn:Fn)(first cap:Array Value)(w:World),(Instr.makeFunc fn first cap).run y_ w=.ok (.func fn first cap) w:=λ _ _ _ _=>rfl
 have b0:= @run_makeMap y_;obtain⟨x,T⟩:∃x,aj aI.c.ay j=x:=⟨_,rfl⟩
 have al:j<aI.c.ay.length:=by have:=H.li.qO;omega
 have ao:gW n x:=by have:=C.gP.aL.lit _ (lZ al);rw[T,C.jt] at this;exact this
 obtain⟨go,aM,aq⟩:=H.aO.gj.rows.addr (r:=5) (by rw[H.aO.jX];simp);have U:ls 5=⟨some ⟨go,0,none⟩,aL.length+1,(ls 5).c⟩:=by
  have h1:=H.aO.jX;rw[u_] at h1;rw[<-h1,<-aM]
 have co:W.cell? ⟨bI,0,none⟩=some (.slice (some ⟨go,0,none⟩) (aL.length+1) (ls 5).c):=by have co:=H.aO.co.1;rw[U] at co;exact co
 obtain⟨P,ar⟩:∃t,aL.length=t:=⟨_,rfl⟩
 obtain⟨au,aN⟩:∃t,(ls 5).c=t:=⟨_,rfl⟩
 rw[ar,aN] at co U;have g0:=H.aO.gj.kC aq (k:=0) (v:=.int .i64 0) (by rw[H.aO.k7];rfl);have gc:=g0.1;have gf:=g0.2;have b1:o_.wrap (-x)= -x:=by rw[r_];have h1:=ao.2;have z:=C.n10;unfold aG at h1;omega
 have l:=aa (z_ T (z_ ao (z_ al (z_ U (z_ aq ar)))));rw[T];clear H C aK aJ T ao al aM aq U ar aN g0 aF
 conv=>arg 2;whnf
 dsimp only
 go_upto_region 25 with fail
 obtain⟨b2,E,aQ⟩:=d.o.aO.KI l.o.2.2.2.2.1 0 (-x);have aR:=d.o.ms.others aQ;obtain⟨b3,b4,J,aS,aT,I⟩:=qT.make E aR (-x);have I:=aa I;have av:(W.setCell ⟨go,0,none⟩ (.int .i64 (-x))).cell? ⟨go,0,none⟩=some (.int .i64 (-x)):=(E.gj.kC l.o.2.2.2.2.1 (k:=0) (v:=.int .i64 (-x)) (by rw[E.k7];rfl)).1;have co:=E.co.1;rw[l.o.2.2.2.1] at co;have co:(W.setCell ⟨go,0,none⟩ (.int .i64 (-x))).cell? ⟨bI,0,none⟩=some (.slice (some ⟨go,0,none⟩) (P+1) au):=co;have bn:=(E.gj.lt l.o.2.2.2.2.1).2;have bo:=(E.gj.lt E.bp).2;have Q:=aa (z_ J (z_ aS aT));clear E aQ aR J aS aT gc gf;generalize W.setCell ⟨go,0,none⟩ (.int .i64 (-x))=V at*
 go_upto_region 28 with fail
 have Y:Below V.heap.size V (((V.alloc (.map #[] 0)).alloc (.cells #[.map (some V.heap.size)] 114)).alloc (.cells #[vl (V.heap.size+1) aH (V.heap.size+1+1)] 129)):=(((m_ _ V).alloc (w_ _) _).alloc (by simp) _).alloc (by simp;omega) _;have bq:(((V.alloc (.map #[] 0)).alloc (.cells #[.map (some V.heap.size)] 114)).alloc (.cells #[vl (V.heap.size+1) aH (V.heap.size+1+1)] 129)).heap.size=V.heap.size+1+1+1:=by simp
 unfold vl at I Y bq;have co:=(p_ (a:=⟨bI,0,none⟩) (Y.block bI bo)).trans co;have av:=(p_ (a:=⟨go,0,none⟩) (Y.block go bn)).trans av;clear Y;generalize (((V.alloc (.map #[] 0)).alloc (.cells #[.map (some V.heap.size)] 114)).alloc (.cells #[.func (.func 185) #[] #[.pointer (some ⟨V.heap.size+1,0,none⟩),.pointer (some ⟨aH,0,none⟩),.pointer (some ⟨V.heap.size+1+1,0,none⟩)]] 129))=aU at*
 go_upto_region 29 with fail
 have Z:(aU.alloc (.cells #[.int .i64 (-x)] 3)).cell? ⟨bI,0,none⟩=some (.slice (some ⟨go,0,none⟩) (P+1) au):=by
  have Z:=I.o.aO.co.1;rw[Q.o.2.1,l.o.2.2.2.1] at Z;exact Z
 have br:P+1<=au:=by
  have h1:=I.o.aO.gj.gH.e.rows;have z:=I.o.aO.gj.rows.row 5;rw[Q.o.2.1,l.o.2.2.2.1] at z;rcases z.2 with⟨ab,_⟩|⟨g,cap,cur,ab,_,_,ad,_⟩
  ·cases ab
  ·simp only[ax.v] at ab;injection ab with b' ca cd
   have ad:P+1<=cap:=ad;omega
 clear co av;generalize aU.alloc (.cells #[.int .i64 (-x)] 3)=cf at*;have aW:P<=20:=by
  have h1:=d.o.sC;have z:=Dt d.o.sB d.o.qE;have bs:=d.o.li.tD;have bu:=i.o.jt;have ad:=i.o.n10;have R:=l.o.2.2.2.2.2;omega
 go_wp2_with fail
 all_goals
  refine K6 i.o I.o (Q.o.2.1.trans l.o.2.2.2.1) Q.o.1 l.o.2.2.2.2.2 aW d.o.kV.c d.o.kV.aP (by have:=d.o.li.tD;rw[i.o.jt] at this;exact this) (λ y f=>(d.o.li.tX y f).1) (λ ch=>by first|rfl|(exfalso;omega)) ?_;intro m5 f5 L bw j3 aw az bx jJ c5 aX gR gE gl iw gI u16 gm gn gp gD gq gr gu gv gw gx gy gz fN fO fP u32 fQ fR fS fT fU fV fW fZ ga gb gd gA gB ig gX gY bM bN bO bP bQ bR bS bT bU bV bW bX bY bZ b5 u64 b6 b7 b8 b9 cc cg ck cm cn cp cr ct cu cv cw cz cA cB cC cD cE c7 c8 c9 dc de dh di dm cG cH cI cK cL cM cN cO cQ cR cS cT cU cV cW cZ c4 dn dr dw dx dy dz dA dB dD dF dG dH dI dJ dK dL dM dN dO dP dQ dR dS dU dV dW dX dY dZ ec fF fG fH ee ef ei ej ek en eo ep er eu ew ey fI fJ fK ez eA eB eC eD eE eF eG eH eL eM eN eO eP eR eS eT eU eV eW eX eY eZ e3 e4 e5 e6 e7 e8 e9 fc fe ff fh fk fm gh gi fo fq fu fA fB fC fD aY u J ae aZ;have bz:∀y∈aL,-y∈aI.c.ay:=λ y f=>(d.o.li.tX y f).1
  have a6:ir F aI.c (-x) L:=by
   have C:=i.o;have H:=d.o;have aA:aj aI.c.ay j=x:=l.o.1;have a7:=H.li.done C.gP.aL H.x3 H.one;rw[aA] at a7;have bA:lD aI.c.st j=aI.c.st.length:=oh.top C.gP.aL H.li;refine⟨JF C.gP.aL C.gP.jF H.li.wF (λ y f=>⟨(H.li.tX y f).1,(H.li.tX y f).2.2.1⟩) a7 aZ,by rw[Int.neg_neg,<-aA];exact lZ l.o.2.2.1,?_,λ y f=>?_,ae.nodup H.li.xL⟩
   ·show gV aI.c.lvl (aG (-x))=_;rw[oN,<-aA];exact(C.gP.aL.mq j l.o.2.2.1).trans bA
   ·have:=H.li.tX y (ae.subset f);exact⟨this.1,this.2.1,this.2.2.1⟩
  obtain⟨N,af,ag⟩:=u.aO.gj.rows.addr (r:=9) (by have:=u.j3;rw[u_] at this;omega);rw[J] at af;have af:bw=some ⟨N,0,none⟩:=af;subst af;have a8:j3=L.length+1:=by have:=u.j3;rw[J,u_] at this;exact this
  obtain⟨a',ah,aV,R⟩:∃A n c,az 6=⟨A,n,c⟩:=⟨_,_,_,rfl⟩
  have bB:aY.cell? ⟨bL,0,none⟩=some (.slice a' ah aV):=by have:=u.aO.aV.1;rw[R] at this;exact this
  have ba:ah<=1000:=by
   have h1:=u.aO.n6;rw[R] at h1;have h1:ah=mk.length:=h1;have z:=Dt d.o.sB d.o.qE;have bs:=d.o.li.tD;have bu:=i.o.jt;have ad:=i.o.n10;omega
  have bb:L.length<=20:=by have:=ae.length_le;have:=l.o.2.2.2.2.2;omega
  have bc:r8 K base w aY G hs cb s aH bI bL c6 bt (-x::aL) mk op hU iO (-x::L) ds az bx:=⟨u.aO,u.uo,u.ms⟩
  have p:=aa (z_ bc (z_ J (z_ a6 (z_ a8 bb))));clear bc u J ae aZ Z br aW bz a6 ag bb I Q a8
  go_wp2_with fail
  refine La (j3:=j3) p.o.1 R ba d.o.kV.aP d.o.qE ?_;intro jJ c5 aX gR gE gl iw gI u16 gm gn gp gD gq gr gu gv gw gx gy gz fN fO fP u32 fQ fR fS fT fU fV fW fZ ga gb gd gA gB ig gX gY bM bN bO bP bQ bR bS bT bU bV bW bX bY bZ b5 u64 b6 b7 b8 b9 cc cg ck cm cn cp cr ct cu cv cw cz cA cB cC cD cE c7 c8 c9 dc de dh di dm cG cH cI cK cL cM cN cO cQ cR cS cT cU cV cW cZ c4 dn dr dw dx dy dz dA dB dD dF dG dH dI dJ dK dL dM dN dO dP dQ dR dS dU dV dW dX dY dZ ec fF fG fH ee ef ei ej ek en eo ep er eu ew ey fI fJ fK ez eA eB eC eD eE eF eG eH eL eM eN eO eP eR eS eT eU eV eW eX eY eZ e3 e4 e5 e6 e7 e8 e9 fc fe ff fh fk fm gh gi fo fq fu fA fB fC fD cj aB;have aB:=aa aB;clear bB ba R a' ah aV
  go_wp2_with fail
  have ai:=i.o.gP.aL;have O:s.c=aI.c:=d.o.kV.c;have bd:=p.o.2.2.1.nodup ai;have bf:∀y∈-x::L,gW n y:=λ y f=>by
   have h1: -y∈aI.c.ay:=by
    rcases List.mem_cons.1 f with rfl|f
    ·exact p.o.2.2.1.Fi
    ·exact(p.o.2.2.1.Bf y f).1
   have:=ai.lit _ h1;rw[i.o.jt] at this;have:=this.neg
   rwa[Int.neg_neg] at this
  refine Lc (n:=n) aB.o p.o.2.1 (by have:=p.o.2.2.2.1;omega) (by have:=p.o.2.2.2;omega) (by have:=i.o.n10;omega) bd (by show 0<s.c.st.length;rw[O];exact i.o.st1) (by show s.c.st.length<=_;rw[O];exact i.o.st2) bf (by show s.c.lvl.length=_;rw[O,ai.o7,i.o.jt]) (λ y f bj=>by
   have h1:aj (-x::L) 0= -x:=rfl;rw[h1] at bj;show 1<=bg s.c y/\bg s.c y<s.c.st.length;rw[O];rcases List.mem_cons.1 f with z|f
   ·exact absurd z bj
   ·exact(p.o.2.2.1.Bf y f).2) ?_
  intro level aC cq jJ c5 aX gR gE gl iw gI u16 gm gn gp gD gq gr gu gv gw gx gy gz fN fO fP u32 fQ fR fS fT fU fV fW fZ ga gb gd gA gB ig gX gY bM bN bO bP bQ bR bS bT bU bV bW bX bY bZ b5 u64 b6 b7 b8 b9 cc cg ck cm cn cp cr ct cu cv cw cz cA cB cC cD cE c7 c8 c9 dc de dh di dm cG cH cI cK cL cM cN cO cQ cR cS cT cU cV cW cZ c4 dn dr dw dx dy dz dA dB dD dF dG dH dI dJ dK dL dM dN dO dP dQ dR dS dU dV dW dX dY dZ ec fF fG fH ee ef ei ej ek en eo ep er eu ew ey fI fJ fK ez eA eB eC eD eE eF eG eH eL eM eN eO eP eR eS eT eU eV eW eX eY eZ e3 e4 e5 e6 e7 e8 e9 fc fe ff fh fk fm gh gi fo fq fu fA fB fC fD cx p6 S;have S:qR s.c (-x::L) j3 level aC:=S;rw[O] at S;have q:=aa (z_ p6 S);have bk:=aa p.o.2.1;clear p6 S bd bf ai O;have cy:=q.o.1.aO.co.1;have cF:=q.o.1.aO.co.2
  go_wp2_with fail
  obtain⟨bC,bD⟩:=q.o.1.aO.gj.set q.o.1.aO.bp 0 (.slice (some ⟨N,0,none⟩) j3 aw);have aD:=q.o.1.ms.others bD;refine CM ds rfl aD.ng (λ D bE=>(aD.kC D bE).2) (λ W' bF=>?_);have M:=bC.shut aD bF;have bG:=(M.kC q.o.1.aO.bp (k:=0) (v:=.slice (some ⟨N,0,none⟩) j3 aw) (by rw[jG,q.o.1.aO.jK];rfl)).1;refine⟨_,Le _ bI _ _ W' rfl rfl bG,?_⟩;have aE:aC.length=j3:=by have:=q.o.2.len;rw[this,u_];exact p.o.2.2.2.1.symm
  have bl:=M.rows.row 9;rw[bk.o,bh _ _ (by omega),q.o.1.uo] at bl;have bH:({s with aP:=x_ aP.length false}:an)={s with aP:=aI.aP}:=by
   rw[ak.o.2.1,d.o.li.tD,i.o.jt]
  have ag:(az 9).b=some N:=by rw[bk.o];rfl
  have m:=d.o.kV.rg.mono (Int.le_refl _) ak.o.1;refine⟨N,aw,level,aC,_,Lf aE.symm,q.o.2.done aE p.o.2.2.1 i.o.gP.aL,M.gH.Bc (λ b bJ=>.inl bJ),M.iR,by rw[bH];exact d.o.kV.hk,⟨m.jt,m.lR,m.k5,m.qf,m.a0,m.ru,m.oH,m.nE,m.oS,m.nF,m.pZ,m.kX⟩,?_,M.off ag,λ hk=>?_⟩
  ·rw[aE];exact yD bl ak.o.2.2
  ·have h1:=M.kl N hk;have z:=(M.lt ag).1;omega
theorem Li(E:aX K base w G hs cb aI)(C:vk F Fd aI n h kF)(r:mj n jw kF aI)(M:aI.aP=x_ (n+1) false){d:Nat}(N:d<aI.c.cl.length)(O:∀x∈az aI.c.cl d,-x∈aI.c.ay):
  Calls y_ 146 #[.pointer (some ⟨G,0,none⟩),.pointer (some ⟨cb d,0,none⟩)] w (Gf K base w G hs cb n kF F aI):=by
 have P:=aa E;have m:=aa C;have oe:=aa r;have b:=aa (z_ M (z_ N O));have aC:∀(fn:Fn)(first cap:Array Value)(w:World),(Instr.makeFunc fn first cap).run y_ w=.ok (.func fn first cap) w:=λ _ _ _ _=>rfl
 have aD:= @run_makeMap y_;clear E C r M N O;refine CL Tryz.func146 rfl ?_;simp only[Tryz.ntmps146,List.size_toArray,u_,List.length_nil,Nat.reduceAdd,Nat.reduceSub,Array.replicate_succ,Array.replicate_zero,List.push_toArray,List.append_toArray,List.nil_append,List.cons_append]
 go_upto_region 2 with fail
 have Q:=((lz.start P.o).box 0 (.pointer (some ⟨G,0,none⟩))).box 1 (.slice none 0 0);have f:=Q.box 2 (.slice none 0 0);have R:(w.alloc (.cells #[.pointer (some ⟨G,0,none⟩)] 115)).heap.size=w.heap.size+1:=by simp
 have S:((w.alloc (.cells #[.pointer (some ⟨G,0,none⟩)] 115)).alloc (.cells #[.slice none 0 0] 25)).heap.size=w.heap.size+1+1:=by simp
 have y:(((w.alloc (.cells #[.pointer (some ⟨G,0,none⟩)] 115)).alloc (.cells #[.slice none 0 0] 25)).alloc (.cells #[.slice none 0 0] 25)).heap.size=w.heap.size+1+1+1:=by simp
 have f:lz K base w (((w.alloc (.cells #[.pointer (some ⟨G,0,none⟩)] 115)).alloc (.cells #[.slice none 0 0] 25)).alloc (.cells #[.slice none 0 0] 25)) G hs cb aI (iN (iN (iN (λ _=>sQ) 0 (om w.heap.size)) 1 (om (w.heap.size+1))) 2 (om (w.heap.size+1+1))) (iN (iN (iN (λ _=> []) 0 [.pointer (some ⟨G,0,none⟩)]) 1 [.slice none 0 0]) 2 [.slice none 0 0]):=by
  rw[show om (w.heap.size+1)=om (w.alloc (.cells #[.pointer (some ⟨G,0,none⟩)] 115)).heap.size by rw[R],show om (w.heap.size+1+1)=om ((w.alloc (.cells #[.pointer (some ⟨G,0,none⟩)] 115)).alloc (.cells #[.slice none 0 0] 25)).heap.size by rw[S]];exact f
 have f:=aa f;clear Q R S;generalize (((w.alloc (.cells #[.pointer (some ⟨G,0,none⟩)] 115)).alloc (.cells #[.slice none 0 0] 25)).alloc (.cells #[.slice none 0 0] 25))=H at*
 go_upto_region 3 with fail
 have i:=f.o.box 4 (.func (.func 182) #[] #[.pointer (some ⟨w.heap.size,0,none⟩),.pointer (some ⟨w.heap.size+1+1,0,none⟩)]);rw[y] at i;have T:(H.alloc (.cells #[.func (.func 182) #[] #[.pointer (some ⟨w.heap.size,0,none⟩),.pointer (some ⟨w.heap.size+1+1,0,none⟩)]] 170)).heap.size=w.heap.size+1+1+1+1:=by simp[y]
 have i:=aa (show lz K base w (H.alloc (.cells #[.func (.func 182) #[] #[.pointer (some ⟨w.heap.size,0,none⟩),.pointer (some ⟨w.heap.size+1+1,0,none⟩)]] 170)) G hs cb aI _ _ from i);clear y f;generalize H.alloc (.cells #[.func (.func 182) #[] #[.pointer (some ⟨w.heap.size,0,none⟩),.pointer (some ⟨w.heap.size+1+1,0,none⟩)]] 170)=l at*;have U:=(i.o.set (r:=1) (g:=w.heap.size+1) (by rw[bh _ _ (by omega),bh _ _ (by omega),jG];rfl) 0 (.slice (some ⟨w.heap.size+1+1+1+1,0,none⟩) 1 1)).1;have c1:=i.o.kC (r:=1) (g:=w.heap.size+1) (by rw[bh _ _ (by omega),bh _ _ (by omega),jG];rfl) (k:=0) (v:=.slice none 0 0) (by rw[bh _ _ (by omega),bh _ _ (by omega),jG];rfl);have ak:=c1.1;have f1:=c1.2;have al:w.heap.size+1<l.heap.size:=by omega
 have I:(l.setCell ⟨w.heap.size+1,0,none⟩ (.slice (some ⟨w.heap.size+1+1+1+1,0,none⟩) 1 1)).heap.size=w.heap.size+1+1+1+1:=by simp[T]
 have V:=U.fresh (r:=5) (h':=⟨some ⟨w.heap.size+1+1+1+1,0,none⟩,1,1⟩) (ys:=iY [0]) (bB _ (.cells (iY [0]).toArray 3)) (by have:=Dc (l.setCell ⟨w.heap.size+1,0,none⟩ (.slice (some ⟨w.heap.size+1+1+1+1,0,none⟩) 1 1)) w.heap.size [0] 1 rfl (by omega) (by omega);rw[I] at this;exact this) (λ g e=>by
  have W:some (w.heap.size+1+1+1+1)=some g:=e;injection W with W
  omega)
 have p:=V.box 3 (.int .i64 0);have Y:((l.setCell ⟨w.heap.size+1,0,none⟩ (.slice (some ⟨w.heap.size+1+1+1+1,0,none⟩) 1 1)).alloc (.cells (iY [0]).toArray 3)).heap.size=w.heap.size+1+1+1+1+1:=by simp[I]
 rw[Y] at p;have p:=aa (show lz K base w (((l.setCell ⟨w.heap.size+1,0,none⟩ (.slice (some ⟨w.heap.size+1+1+1+1,0,none⟩) 1 1)).alloc (.cells #[.int .i64 0] 3)).alloc (.cells #[.int .i64 0] 3)) G hs cb aI _ _ from p);clear U c1 i V I Y
 go_upto_region 5 with fail
 clear ak f1 T al;generalize (((l.setCell ⟨w.heap.size+1,0,none⟩ (.slice (some ⟨w.heap.size+1+1+1+1,0,none⟩) 1 1)).alloc (.cells #[.int .i64 0] 3)).alloc (.cells #[.int .i64 0] 3))=t at*;have u:=m.o.gP;have ao:=m.o.jt;have q:kM K base w t G hs cb aI w.heap.size (w.heap.size+1) (w.heap.size+1+1) (w.heap.size+1+1+1+1+1) (w.heap.size+1+1+1) [0] [] 0 sQ [] _ _:=⟨p.o,rfl,rfl,rfl,rfl,rfl,rfl,rfl,rfl,rfl,rfl,rfl,rfl,rfl,rfl⟩
 have Z:mS aI.c (x_ (n+1) false) aI.c.ay.length=0:=by
  unfold mS;rw[List.countP_eq_zero];intro k hk h1;unfold oP at h1;rw[A3] at h1;simp at h1
 have J:=oh.start u m.o.st1 b.o.2.1 b.o.2.2;rw[ao] at J;have ab:others (az aI.c.cl d) 0=az aI.c.cl d:=by
  unfold others;rw[List.filter_eq_self];intro x aq;have:=(u.jF.mB d b.o.2.1).lt x aq;simpa using this.oE
 have ad:mV K base w t G hs cb n kF F aI w.heap.size (w.heap.size+1) (w.heap.size+1+1) (w.heap.size+1+1+1+1+1) (w.heap.size+1+1+1) sQ [] aI.c.ay.length (others (az aI.c.cl d) 0) [] aI (x_ (n+1) false) [] [] _ _:=
  ⟨by rw[Z];exact q,⟨n5.refl aI,b.o.1,oe.o⟩,by rw[ab];exact J,List.nodup_nil,λ z=>⟨λ h=>(by cases h),λ⟨v,_,h⟩=>by rw[A3] at h;cases h⟩,w_ _,⟨List.nodup_nil,λ D h=>by cases h⟩⟩
 have hH:BC K base w G hs cb n kF F aI w.heap.size (w.heap.size+1) (w.heap.size+1+1) (w.heap.size+1+1+1+1+1) (w.heap.size+1+1+1) aI.c.ay.length d 0 [] t:=
  ⟨_,_,_,_,_,_,_,_,ad.up (by rw[Nat.sub_self];simp),b.o.2.1,by
   have:=(u.jF.mB d b.o.2.1).ne;exact List.length_pos_iff.2 this⟩
 have ae:=aa hH;have aF:=q.aF;obtain⟨ar,j5,au,L⟩:∃A n c,hs 4=⟨A,n,c⟩:=⟨_,_,_,rfl⟩
 have af:j5=aI.c.ay.length:=by have:=q.gj.gH.e.j5;rw[L] at this;exact this
 have av:t.cell? ⟨G,5,none⟩=some (.slice ar aI.c.ay.length au):=by have:=q.gj.gH.e.ku (k:=5) (v:=(hs 4).v) rfl;rw[L,af] at this;exact this
 clear q Z J ab ad hH L af u p
 go_wp2_with fail
 refine KY (ds:=[]) m.o ae.o ?_;clear ae aF av;intro j B op aE aG s aP aJ mk ls X ds aK aL aM aN aO aQ aR aS u16 aT aU aV aW aY aZ a6 a7 a8 a' ba bb bc bd bf u32 bg bj bk bl bn bo bp bq br bs bu bw bx bz bA bC bD bE bF bG bH bI bJ bK bL bM bN bO bP bQ bR u64 bS bT bU bV bW bX bY bZ b0 b1 b2 b3 b4 b5 b6 b7 b8 b9 b' ca cc cd cf cg ch cj ck cm cn cp cq cr ct cu cv cw cx cy cz cA cB cC cD cE cF cG cH cI cJ cK cL cM cN cO cP cQ cR cS cT cU cV cW cX cY cZ c0 c4 c5 c6 c7 c8 c9 da db dc dd de df dh di dj dk dm dn dp dq dr dt du dv dw dx dy dz dA dB dC dD dE dF dG dH dI dJ dK dL dM dN dO dP dQ dR dS dT dU dV dW dX dY dZ d' ea eb ec ed ee ef eg eh ei ej ek en eo ep er et eu ev ew ag ah;have ai:=aa ah;have aw:=aa ag;generalize w.heap.size+1+1+1+1+1=ey at*;generalize w.heap.size+1+1+1=bt at*;generalize w.heap.size+1+1=ez at*;generalize w.heap.size+1=eA at*;generalize eB:w.heap.size=aH at ai⊢;clear ah ag;rename_i aA aj;have aB:=aa aj;clear aj;show aA _ _;apply aB.o;exact Lh (Nat.le_of_lt P.o.e.lt) m.o b.o.1 aw.o ai.o
noncomputable def Lj:Code:=mU F3
theorem run_move{s2:an}{y:Int}{ky yX:Nat}{u8:Value}
  (E:aX K base W G jH cb s2) (j:(jH 0).b=some g0) (I:s2.c.wt.length=yX) (U:ky<yX) (J:jE (-y)=ky) (aL: -60000<=y/\y<=60000) (z:d<s2.c.cl.length) (B:(jH (kr d)).b=some bz) (V:W.cell? ⟨cb d,0,none⟩=some (.slice (some ⟨bz,0,none⟩) m bl)) (hm:2<=m) (aM:m<=bl) (X:W.cell? ⟨bz,1,none⟩=some (.int .i64 y)) (Y:(az s2.c.wt ky).length<=1000000)
  (Z:∀(mA ao u8 bM bN bO bP bQ bR bS bT bU bV bW bX bY bZ b5 u64 b6 b7 b8 b9 cc cg ck cm cn cp cr ct cu cv cw cz cA cB cC cD cE c7 c8 c9 dc de dh di dm cG cH cI cK cL cM cN cO cQ cR cS cT cU cV cW cZ c4 dn dr dw dx dy dz dA dB dD dF dG dH dI dJ dK dL dM dN dO dP dQ dR dS dU dV dW dX dY dZ ec fF fG fH ee ef ei ej ek en eo ep er eu ew ey fI fJ fK ez eA eB eC eD eE eF eG eH eL eM eN eO eP eR eS eT eU eV eW eX eY eZ e3 e4 e5 e6 e7 e8 e9 fc fe ff fh fk fm gh gi fo fq fu fA fB fC fD iB iC iD iE iF iG iH iI iJ iK iL iM:Value)(A':Option Addr)(aq c':Nat)(W':World),aX K base W' G (iN jH (iA ky) ⟨A',aq,c'⟩) cb (s2.pQ ky (az s2.c.wt ky++[d]))->aC K W W'->Q (.exit 3) ⟨#[.pointer (some ⟨G,0,none⟩),jJ,lp,.int .i64 lit,.slice (some ⟨iS,0,none⟩) ir iZ,.slice (some ⟨iS,0,none⟩) (kl) iZ,mA,ao,u8,lB,gR,gE,gl,iw,gI,gQ,u16,gm,gn,gp,gD,gq,gr,gu,gv,gw,gx,gy,gz,fN,fO,fP,u32,fQ,fR,fS,fT,fU,fV,fW,fZ,ga,gb,gd,gA,gB,.slice (some ⟨iS,0,none⟩) ir iZ,.int .i64 (ir:Int),.int .i64 (i:Int),bM,bN,bO,bP,bQ,bR,bS,bT,bU,bV,bW,bX,bY,bZ,b5,u64,b6,b7,b8,b9,cc,cg,ck,cm,cn,cp,cr,ct,cu,cv,cw,cz,cA,cB,cC,cD,cE,c7,c8,c9,dc,de,dh,di,dm,cG,cH,cI,cK,cL,cM,cN,cO,cQ,cR,cS,cT,cU,cV,cW,cZ,c4,dn,dr,dw,dx,dy,dz,dA,dB,dD,dF,dG,dH,dI,dJ,dK,dL,dM,dN,dO,dP,dQ,dR,dS,dU,dV,dW,dX,dY,dZ,ec,fF,fG,fH,ee,ef,ei,ej,ek,en,eo,ep,er,eu,ew,ey,fI,fJ,fK,ez,eA,eB,eC,eD,eE,eF,eG,eH,eL,eM,eN,eO,eP,eR,eS,eT,eU,eV,eW,eX,eY,eZ,e3,e4,e5,e6,e7,e8,e9,fc,fe,ff,fh,fk,fm,gh,gi,fo,fq,fu,fA,fB,fC,fD,iB,iC,iD,iE,iF,iG,iH,iI,iJ,iK,iL,iM,jc,jd,je,jf,jg,jh,ji,jj],[]⟩ W'):
   i_ y_ Lj Q ⟨#[.pointer (some ⟨G,0,none⟩),jJ,lp,.int .i64 lit,.slice (some ⟨iS,0,none⟩) ir iZ,.slice (some ⟨iS,0,none⟩) kl iZ,mA,.pointer (some ⟨cb d,0,none⟩),u8,lB,gR,gE,gl,iw,gI,gQ,u16,gm,gn,gp,gD,gq,gr,gu,gv,gw,gx,gy,gz,fN,fO,fP,u32,fQ,fR,fS,fT,fU,fV,fW,fZ,ga,gb,gd,gA,gB,.slice (some ⟨iS,0,none⟩) ir iZ,.int .i64 (ir:Int),.int .i64 (i:Int),bM,bN,bO,bP,bQ,bR,bS,bT,bU,bV,bW,bX,bY,bZ,b5,u64,b6,b7,b8,b9,cc,cg,ck,cm,cn,cp,cr,ct,cu,cv,cw,cz,cA,cB,cC,cD,cE,c7,c8,c9,dc,de,dh,di,dm,cG,cH,cI,cK,cL,cM,cN,cO,cQ,cR,cS,cT,cU,cV,cW,cZ,c4,dn,dr,dw,dx,dy,dz,dA,dB,dD,dF,dG,dH,dI,dJ,dK,dL,dM,dN,dO,dP,dQ,dR,dS,dU,dV,dW,dX,dY,dZ,ec,fF,fG,fH,ee,ef,ei,ej,ek,en,eo,ep,er,eu,ew,ey,fI,fJ,fK,ez,eA,eB,eC,eD,eE,eF,eG,eH,eL,eM,eN,eO,eP,eR,eS,eT,eU,eV,eW,eX,eY,eZ,e3,e4,e5,e6,e7,e8,e9,fc,fe,ff,fh,fk,fm,gh,gi,fo,fq,fu,fA,fB,fC,fD,iB,iC,iD,iE,iF,iG,iH,iI,iJ,iK,iL,iM,jc,jd,je,jf,jg,jh,ji,jj],[]⟩ W:=by
 have ab:=E.e.rm 1 j (E.e.jY.trans I) rfl;have f0:=E.e.rows.free j ky;have C:=E.e.xY j (k:=ky) (by omega);obtain⟨l,f,p,F⟩:∃A n c,jH (iA ky)=⟨A,n,c⟩:=⟨_,_,_,rfl⟩
 have ad:f=(az s2.c.wt ky).length:=by have:=E.e.zZ ky;rw[F] at this;exact this
 rw[F] at C;have C:W.cell? ⟨g0,ky,none⟩=some (.slice l f p):=C;have aN:f<=1000000:=by omega
 have wn:o_.wrap (-y)= -y:=IntWalk.i64_in _ (by omega);have ar:(ky:Int)<(yX:Int):=by omega
 have au:(1:Int)<(m:Int):=by omega
 have ae:fE (ky<s2.c.wt.length):=aa (by omega);have av:fE (∀w:World,Calls y_ 181 #[.int .i64 (-y)] w λ e w'=>e=.returned (.int .i64 (ky:Int))/\w=w'):=aa (λ w=>by have:=C2 (-y) w (by omega) (by omega);rw[J] at this;exact this);have aO:G≠g0:=E.e.ue 0 g0 j;have aP:cb d≠g0:=E.e.xO z 0 g0 j;have aQ:bz≠g0:=E.e.wO (r:=kr d) (r':=0) (by unfold kr;omega) B j;have L:=E.e.box.lt;have M:=(E.e.cls d z).lt;have N:=(E.e.rows.lt B).2;have af:(jH (iA ky)).b≠some G:=λ e=>E.e.ue _ _ e rfl
 have ag:(jH (iA ky)).b≠some (cb d):=λ e=>E.e.xO z _ _ e rfl
 have ah:(jH (iA ky)).b≠some bz:=λ e=>E.e.wO (r:=kr d) (r':=iA ky) (by unfold kr iA;omega) B e rfl
 have q:=aa (E.below ((bB W (.cells #[.pointer (some ⟨cb d,0,none⟩)] 164)).drew));have hp:((W.alloc (.cells #[.pointer (some ⟨cb d,0,none⟩)] 164)).drew).cell? ⟨W.heap.size,0,none⟩=some (.pointer (some ⟨cb d,0,none⟩)):=by go_simp
 have aw:=aa (ry.one hp);have ay:fE (((W.alloc (.cells #[.pointer (some ⟨cb d,0,none⟩)] 164)).drew).ownsRow base 164 1 (.slice l f p) f (kW cb (az s2.c.wt ky))):=aa (by
   have:=q.o.1.e.rows.row (iA ky);rw[De,zY,F,vN] at this;exact this)
 have aA:=aa (Nat.le_of_lt q.o.1.e.lt);clear hp;have t:∀b,b<W.heap.size->∀k,((W.alloc (.cells #[.pointer (some ⟨cb d,0,none⟩)] 164)).drew).cell? ⟨b,k,none⟩=W.cell? ⟨b,k,none⟩:=λ b aB k=>p_ (((bB W (.cells #[.pointer (some ⟨cb d,0,none⟩)] 164)).drew).block b aB)
 have O:=(t G L 1).trans ab;have ai:=(t (cb d) M 0).trans V;have aj:=(t bz N 1).trans X;have aD:=(t g0 (E.e.rows.lt j).2 ky).trans C;have D:=aa (z_ E (z_ j (z_ I (z_ U (z_ J (z_ z (z_ B (z_ Y (z_ F (z_ ad (z_ L (z_ M (z_ N (z_ af (z_ ag ah)))))))))))))));have aR:=aa t;clear E j I U J z B Y F ad L M N af ag ah t;have aE:=aa Z;clear Z
 conv=>arg 2;whnf
 go_wp2_with fail
 refine z8 (Di Tryz.f145 18) 30 27 28 224 [some 140,some 141,some 142,some 143,some 144,some 145,some 146,some 147,some 148,some 149,some 150,some 151,some 152,some 153,some 154,some 155,some 156,some 157,some 158,some 159,some 160,some 161,some 162,some 163,some 164,some 165,some 166,some 167,some 168,some 169,none] _ [(0,.pointer (some ⟨G,0,none⟩)),(7,.pointer (some ⟨(cb d),0,none⟩))] (λ w':World=>w'.cell? ⟨G,1,none⟩=some (.slice (some ⟨g0,0,none⟩) yX (jH 0).c)/\w'.cell? ⟨cb d,0,none⟩=some (.slice (some ⟨bz,0,none⟩) m bl)/\w'.cell? ⟨bz,1,none⟩=some (.int .i64 y)/\w'.cell? ⟨g0,ky,none⟩=some (.slice l f p)) [.pointer (some ⟨G,0,none⟩),.pointer (some ⟨G,0,none⟩),.pointer (some ⟨G,1,none⟩),.slice (some ⟨g0,0,none⟩) yX (jH 0).c,.pointer (some ⟨(cb d),0,none⟩),.pointer (some ⟨(cb d),0,none⟩),.pointer (some ⟨(cb d),0,none⟩),.slice (some ⟨bz,0,none⟩) m bl,.pointer (some ⟨bz,1,none⟩),.int .i64 y,.int .i64 (-y),.int .i64 (ky:Int),.pointer (some ⟨G,0,none⟩),.pointer (some ⟨G,0,none⟩),.pointer (some ⟨G,1,none⟩),.slice (some ⟨g0,0,none⟩) yX (jH 0).c,.pointer (some ⟨(cb d),0,none⟩),.pointer (some ⟨(cb d),0,none⟩),.pointer (some ⟨(cb d),0,none⟩),.slice (some ⟨bz,0,none⟩) m bl,.pointer (some ⟨bz,1,none⟩),.int .i64 y,.int .i64 (-y),.int .i64 (ky:Int),.pointer (some ⟨g0,ky,none⟩),.slice l f p,.pointer (some ⟨(cb d),0,none⟩),.slice (some ⟨W.heap.size,0,none⟩) 1 1,undef,.pointer (some ⟨g0,ky,none⟩)] ((W.alloc (.cells #[.pointer (some ⟨cb d,0,none⟩)] 164)).drew) (λ v w'=>nW ((W.alloc (.cells #[.pointer (some ⟨cb d,0,none⟩)] 164)).drew) base 164 (.slice l f p) (f+1) (kW cb (az s2.c.wt ky)++[.pointer (some ⟨cb d,0,none⟩)]) v w') (by kernel_rfl) (by kernel_rfl) (by kernel_rfl) rfl (by kernel_rfl) (by kernel_rfl) rfl ⟨rfl,rfl,trivial⟩ ⟨ab,V,X,C⟩ ⟨O,ai,aj,aD⟩ (λ v w' P=>?_) (λ s g H hp=>?_) (λ s g H hp=>?_) ?_ ?_
 · obtain⟨A',c',rfl,ak,R,f9,S,-⟩:=aX.FZ (d:=d) q.o.1 D.o.2.1 ae.o D.o.2.2.2.2.2.2.2.2.1 D.o.2.2.2.2.2.2.2.2.2.1 O P;exact⟨ak,(S (cb d) (Nat.lt_of_lt_of_le D.o.2.2.2.2.2.2.2.2.2.2.2.1 q.o.2.size) D.o.2.2.2.2.2.2.2.2.2.2.2.2.2.2.1 0).trans ai,(S bz (Nat.lt_of_lt_of_le D.o.2.2.2.2.2.2.2.2.2.2.2.2.1 q.o.2.size) D.o.2.2.2.2.2.2.2.2.2.2.2.2.2.2.2 1).trans aj,R⟩
 · obtain⟨-,aS,-⟩:=H;have g:s (.tmp 166)=.pointer (some ⟨(cb d),0,none⟩):=g.1 rfl (by decide) (by decide) _ rfl;show bq _ _ (q_ _ _ _ _ _ _) _ _;simp[bq,execOp,cF,go_sem,g]
 · have h1:s (.tmp 165)=.slice l f p:=g.1 rfl (by decide) (by decide) _ rfl;have T:s (.tmp 167)=.slice (some ⟨W.heap.size,0,none⟩) 1 1:=g.2.1 rfl (by decide) (by decide) _ rfl;obtain⟨v',w',g1,g2⟩:=C8 ((W.alloc (.cells #[.pointer (some ⟨cb d,0,none⟩)] 164)).drew) 160 base (.slice l f p) f (kW cb (az s2.c.wt ky)) ay.o (some ⟨W.heap.size,0,none⟩) 1 1 _ aw.o (by omega) aA.o;show bq _ _ (q_ _ _ _ _ _ _) _ _;simp only[bq,execOp,resolve,invoke,builtin,Sem.run_bind,Sem.run_pure,Result.andThen_ok,List.map_toArray,List.map_cons,List.map_nil,h1,T,g1,cF];exact g2
 · refine⟨?_,?_,?_,?_,?_,?_,?_,?_,?_,?_,?_,?_,?_,?_,?_,?_,?_,?_,?_,?_,?_,?_,?_,?_,?_,?_,?_,?_,?_,?_,trivial⟩
   all_goals
    intro h1 T s w aF _ g H hp
    first
     |exact absurd rfl h1
     |exact absurd rfl T
     |(obtain⟨aG,aH,-⟩:=H;obtain⟨s1,s2,s3,iP⟩:=aF;(try simp[oW,qB,j_] at g);simp[bq,execOp,cF,go_sem,aG,aH,g,s1,s2,s3,iP,wn,ar,au,hp.1];done)
     |((try simp[oW,qB,j_] at g);(first|refine r4 181 #[.tmp 150] #[3] rfl Bt hp ?_|refine r4 181 #[.tmp 162] #[3] rfl Bt hp ?_);(first|rw[show(#[Operand.tmp 150].map s)= #[.int .i64 (-y)] by simp[g]]|rw[show(#[Operand.tmp 162].map s)= #[.int .i64 (-y)] by simp[g]]);exact(av.o w).mono λ e w' h=>⟨_,h.1,rfl,h.2.symm⟩)
 intro u v9 bG P aT al;obtain⟨A',c',rfl,ak,R,f9,S,aI,aJ⟩:=aX.FZ (d:=d) q.o.1 D.o.2.1 ae.o D.o.2.2.2.2.2.2.2.2.1 D.o.2.2.2.2.2.2.2.2.2.1 O P;have aK:=f9 ky;simp[nZ,Act.put,kP] at al;subst al;show bq _ _ (q_ _ _ _ _ _ _) _ _;simp[bq,execOp,cF,go_sem,Act.eval,R,aK];go_wp2;apply aE.o
 · exact aI
 · exact q.o.2.trans aJ
theorem Lk{gM:Nat->ax}{ai:List Int}{c1 c2:Core}{aR:Nat}{ls:List Nat}{k0:Nat}{kept:List Nat}{k:Nat}(C:rQ G gM c1 s lit ls k0 g0 iS ir iZ)(f:mz K base w G cb F ai s c1 gM aR lit ls k0 i kl kept c2 jH W)(ag:ls[i]? =some d)(hw:w1 c2 d= -lit)(hk:2<=k)(R:k<m)(S:jW c2 (aj (az c2.cl d) k)≠-1)(hC:yO base W G jH cb d bz m bl (az c2.cl d))
  (T:∀(mA ar u8 bM bN bO bP bQ bR bS bT bU bV bW bX bY bZ b5 u64 b6 b7 b8 b9 cc cg ck cm cn cp cr ct cu cv cw cz cA cB cC cD cE c7 c8 c9 dc de dh di dm cG cH cI cK cL cM cN cO cQ cR cS cT cU cV cW cZ c4 dn dr dw dx dy dz dA dB dD dF dG dH dI dJ dK dL dM dN dO dP dQ dR dS dU dV dW dX dY dZ ec fF fG fH ee ef ei ej ek en eo ep er eu ew ey fI fJ fK ez eA eB eC eD eE eF eG eH eL eM eN eO eP eR eS eT eU eV eW eX eY eZ e3 e4 e5 e6 e7 e8 e9 fc fe ff fh fk fm gh gi fo fq fu fA fB fC fD iB iC iD iE iF iG iH iI iJ iK iL iM:Value)(c3:Core)(av:Nat->ax)(W':World),mz K base w G cb F ai s c1 gM aR lit ls k0 (i+1) kl kept c3 av W'->Q (.exit 3) ⟨#[.pointer (some ⟨G,0,none⟩),jJ,lp,.int .i64 lit,.slice (some ⟨iS,0,none⟩) ir iZ,.slice (some ⟨iS,0,none⟩) (kl) iZ,mA,ar,u8,lB,gR,gE,gl,iw,gI,gQ,u16,gm,gn,gp,gD,gq,gr,gu,gv,gw,gx,gy,gz,fN,fO,fP,u32,fQ,fR,fS,fT,fU,fV,fW,fZ,ga,gb,gd,gA,gB,.slice (some ⟨iS,0,none⟩) ir iZ,.int .i64 (ir:Int),.int .i64 (i:Int),bM,bN,bO,bP,bQ,bR,bS,bT,bU,bV,bW,bX,bY,bZ,b5,u64,b6,b7,b8,b9,cc,cg,ck,cm,cn,cp,cr,ct,cu,cv,cw,cz,cA,cB,cC,cD,cE,c7,c8,c9,dc,de,dh,di,dm,cG,cH,cI,cK,cL,cM,cN,cO,cQ,cR,cS,cT,cU,cV,cW,cZ,c4,dn,dr,dw,dx,dy,dz,dA,dB,dD,dF,dG,dH,dI,dJ,dK,dL,dM,dN,dO,dP,dQ,dR,dS,dU,dV,dW,dX,dY,dZ,ec,fF,fG,fH,ee,ef,ei,ej,ek,en,eo,ep,er,eu,ew,ey,fI,fJ,fK,ez,eA,eB,eC,eD,eE,eF,eG,eH,eL,eM,eN,eO,eP,eR,eS,eT,eU,eV,eW,eX,eY,eZ,e3,e4,e5,e6,e7,e8,e9,fc,fe,ff,fh,fk,fm,gh,gi,fo,fq,fu,fA,fB,fC,fD,iB,iC,iD,iE,iF,iG,iH,iI,iJ,iK,iL,iM,jc,jd,je,jf,jg,jh,ji,jj],[]⟩ W'):
   i_ y_ F3 Q ⟨#[.pointer (some ⟨G,0,none⟩),jJ,lp,.int .i64 lit,.slice (some ⟨iS,0,none⟩) ir iZ,.slice (some ⟨iS,0,none⟩) kl iZ,mA,.pointer (some ⟨cb d,0,none⟩),.int .i64 (k:Int),lB,gR,gE,gl,iw,gI,gQ,u16,gm,gn,gp,gD,gq,gr,gu,gv,gw,gx,gy,gz,fN,fO,fP,u32,fQ,fR,fS,fT,fU,fV,fW,fZ,ga,gb,gd,gA,gB,.slice (some ⟨iS,0,none⟩) ir iZ,.int .i64 (ir:Int),.int .i64 (i:Int),bM,bN,bO,bP,bQ,bR,bS,bT,bU,bV,bW,bX,bY,bZ,b5,u64,b6,b7,b8,b9,cc,cg,ck,cm,cn,cp,cr,ct,cu,cv,cw,cz,cA,cB,cC,cD,cE,c7,c8,c9,dc,de,dh,di,dm,cG,cH,cI,cK,cL,cM,cN,cO,cQ,cR,cS,cT,cU,cV,cW,cZ,c4,dn,dr,dw,dx,dy,dz,dA,dB,dD,dF,dG,dH,dI,dJ,dK,dL,dM,dN,dO,dP,dQ,dR,dS,dU,dV,dW,dX,dY,dZ,ec,fF,fG,fH,ee,ef,ei,ej,ek,en,eo,ep,er,eu,ew,ey,fI,fJ,fK,ez,eA,eB,eC,eD,eE,eF,eG,eH,eL,eM,eN,eO,eP,eR,eS,eT,eU,eV,eW,eX,eY,eZ,e3,e4,e5,e6,e7,e8,e9,fc,fe,ff,fh,fk,fm,gh,gi,fo,fq,fu,fA,fB,fC,fD,iB,iC,iD,iE,iF,iG,iH,iI,iJ,iK,iL,iM,jc,jd,je,jf,jg,jh,ji,jj],[]⟩ W:=by
 have hm:=hC.len;have aw:=f.m C ag;have B:=f.rq ag;have ay:2<=m:=by omega
 have U:=hC.cap;have H:aj (az c2.cl d) 1= -lit:=hw;obtain⟨y,q⟩:∃y,aj (az c2.cl d) k=y:=⟨_,rfl⟩
 have I:gW s.c.n y:=by rw[<-q];exact f.ok C ag (by omega)
 have aU: -60000<=lit/\lit<=60000:=by have:=C.ok.2;have:=C.aq;unfold aG at*;omega
 have V: -60000<=y/\y<=60000:=by have:=I.2;have:=C.aq;unfold aG at*;omega
 obtain⟨ky,z⟩:∃k:Nat,jE (-y)=k:=⟨_,rfl⟩
 have X:ky<2*s.c.n+2:=by rw[<-z];exact I.neg.at
 have Y:i<ls.length:=(l_.1 ag).1;have A:ls[i]=d:=(l_.1 ag).2;have r:=f.nH.move Y (by rw[A];exact hw) hk (by rw[A];omega) (by rw[A];exact S);rw[A,q,z,C.kC] at r;have Z:=hC.ag;have a1:=hC.kC 1 (by omega);rw[H] at a1;have J:=hC.kC k R;rw[q] at J;have f1:=hC.k4 1;have aA:=hC.k4 k;have ab:=hC.ne;have aV:=hC.ne.symm;have ad:(k:Int)<(m:Int):=by omega
 have aB:(1:Int)<(m:Int):=by omega
 have ae:¬1=k:=by omega
 have aD:¬k=1:=by omega
 have af:=f.gH.F0 (d:=d) (bz:=bz) (i:=1) (j:=k) hC.b B.1 (x:= -lit) (y:=y) H q;have aE:(ko c2 k0 (kept++ls.drop kl)).cl=c2.cl:=rfl;have L:az (lK (ko c2 k0 (kept++ls.drop kl)) d (kL (az c2.cl d) 1 k)).wt ky=az c2.wt ky:=by
   show az (c2.wt.set k0 _) ky=_;rw[qw,if_neg (λ h=>r.2 h.1.symm)]
 have ah:(az c2.wt ky).length<=1000000:=by have h1:=f.nH.gP.wt.mT ky;have p:=f.KO C;omega
 have key:∀(A':Option Addr)(M c':Nat)(l W':World),aC K W l->aX K base W' G (iN jH (iA ky) ⟨A',M,c'⟩) cb ((({s with c:=ko c2 k0 (kept++ls.drop kl)}:an).sy d (kL (az c2.cl d) 1 k)).pQ ky (az ((({s with c:=ko c2 k0 (kept++ls.drop kl)}:an).sy d (kL (az c2.cl d) 1 k)).c.wt) ky++[d]))->aC K l W'->
    mz K base w G cb F ai s c1 gM aR lit ls k0 (i+1) kl kept (rX c2 d k (kept++ls.drop (i+1))) (iN jH (iA ky) ⟨A',M,c'⟩) W':=λ A' M c' l W' aF E aH=>by
   refine⟨r.1,f.s6,?_,(bh _ _ (by have:=r.2;unfold iA;omega)).trans f.hw,(bh _ _ (by unfold iA;omega)).trans f.au,f.iR.trans (aF.trans aH)⟩;rw[KD (k0:=k0) (ky:=ky) (by rw[hw,Int.neg_neg];exact C.kC) (by rw[q];exact z) r.2,<-L];exact E
 have ak:aj (kL (az c2.cl d) 1 k) 1=y:=by
   unfold kL;rw[oO,if_neg (by omega),oO,if_pos ⟨rfl,by omega⟩,q]
 have N:az (lK (ko c2 k0 (kept++ls.drop kl)) d (kL (az c2.cl d) 1 k)).cl d=kL (az c2.cl d) 1 k:=by
   show az (c2.cl.set d _) d=_;rw[qw,if_pos ⟨rfl,B.1⟩]
 have aI:fE (∀l:World,aX K base l G jH cb (({s with c:=ko c2 k0 (kept++ls.drop kl)}:an).sy d (kL (az c2.cl d) 1 k))->l.cell? ⟨bz,1,none⟩=some (.int .i64 y)):=aa (λ l O=>by
   have h1:=O.e.xZ hC.b (k:=1) (by show 1<(az (lK (ko c2 k0 (kept++ls.drop kl)) d (kL (az c2.cl d) 1 k)).cl d).length;rw[N];simp[kL];omega);have p:aj (az (({s with c:=ko c2 k0 (kept++ls.drop kl)}:an).sy d (kL (az c2.cl d) 1 k)).c.cl d) 1=y:=by
    show aj (az (lK (ko c2 k0 (kept++ls.drop kl)) d (kL (az c2.cl d) 1 k)).cl d) 1=y;rw[N];exact ak
   rw[p] at h1;exact h1)
 have aJ:=aa (λ(l:World)(O:aX K base l G jH cb (({s with c:=ko c2 k0 (kept++ls.drop kl)}:an).sy d (kL (az c2.cl d) 1 k)))=>z_ O (z_ (f.bK C) (z_ ((show(lK (ko c2 k0 (kept++ls.drop kl)) d (kL (az c2.cl d) 1 k)).wt.length=_ from f.raw C)) (z_ X (z_ z (z_ V (z_ (show d<(lK (ko c2 k0 (kept++ls.drop kl)) d (kL (az c2.cl d) 1 k)).cl.length by rw[q4];exact B.1) (z_ hC.b (z_ ay (z_ U (show(az (lK (ko c2 k0 (kept++ls.drop kl)) d (kL (az c2.cl d) 1 k)).wt ky).length<=1000000 by rw[L];exact ah)))))))))));have aK:=aa key;have D:=aa af;have aL:=aa T;clear T af key ak N ah L aE r C f ag hw hk R S hm aw B U H q I V hC z X Y A;obtain⟨x,al⟩:∃x,-lit=x:=⟨_,rfl⟩
 rw[al] at a1;rw[al] at D
 conv=>arg 2;whnf
 go_wp2_with fail
 rename_i aW aM;refine z8 (Di Tryz.f145 17) 25 23 24 224 [some 116,some 117,some 118,some 119,some 120,some 121,some 122,some 123,some 124,some 125,some 126,some 127,some 128,some 129,some 130,some 131,some 132,some 133,some 134,some 135,some 136,some 137,some 138,none,some 139,none] _ [(7,.pointer (some ⟨(cb d),0,none⟩)),(8,.int .i64 (k:Int))] (λ _=>True) [.pointer (some ⟨(cb d),0,none⟩),.pointer (some ⟨(cb d),0,none⟩),.pointer (some ⟨(cb d),0,none⟩),.slice (some ⟨bz,0,none⟩) m bl,.pointer (some ⟨(cb d),0,none⟩),.pointer (some ⟨(cb d),0,none⟩),.pointer (some ⟨(cb d),0,none⟩),.slice (some ⟨bz,0,none⟩) m bl,.int .i64 (k:Int),.pointer (some ⟨(cb d),0,none⟩),.pointer (some ⟨(cb d),0,none⟩),.pointer (some ⟨(cb d),0,none⟩),.slice (some ⟨bz,0,none⟩) m bl,.int .i64 (k:Int),.pointer (some ⟨bz,k,none⟩),.int .i64 y,.pointer (some ⟨(cb d),0,none⟩),.pointer (some ⟨(cb d),0,none⟩),.pointer (some ⟨(cb d),0,none⟩),.slice (some ⟨bz,0,none⟩) m bl,.pointer (some ⟨bz,1,none⟩),.int .i64 x,.pointer (some ⟨bz,1,none⟩),undef,undef] (W.drew.setCell ⟨bz,1,none⟩ (.int .i64 y)) (λ v w'=>v=.pointer (some ⟨bz,k,none⟩)/\w'=(W.drew.setCell ⟨bz,1,none⟩ (.int .i64 y))) (by kernel_rfl) (by kernel_rfl) (by kernel_rfl) rfl (by kernel_rfl) (by kernel_rfl) rfl ⟨rfl,rfl,trivial⟩ trivial trivial (λ _ _ _=>trivial) (λ t ag P hp=>?_) (λ t ag P hp=>?_) ?_ ?_
 · have h1:t (.tmp 138)=.pointer (some ⟨bz,1,none⟩):=ag.1 rfl (by decide) (by decide) _ rfl;have p:t (.tmp 131)=.int .i64 y:=ag.2.1 rfl (by decide) (by decide) _ rfl;show bq _ _ (q_ _ _ _ _ _ _) _ _;simp[bq,execOp,cF,go_sem,h1,p,a1,f1]
 · have h1:t (.tmp 123)=.slice (some ⟨bz,0,none⟩) m bl:=ag.1 rfl (by decide) (by decide) _ rfl;have p:t (.tmp 124)=.int .i64 (k:Int):=ag.2.1 rfl (by decide) (by decide) _ rfl;show bq _ _ (q_ _ _ _ _ _ _) _ _;simp[bq,execOp,cF,go_sem,h1,p,ad]
 · refine⟨?_,?_,?_,?_,?_,?_,?_,?_,?_,?_,?_,?_,?_,?_,?_,?_,?_,?_,?_,?_,?_,?_,?_,?_,?_,trivial⟩
   all_goals
    intro h1 p t w _ aN ag P hp
    first
     |exact absurd rfl h1
     |exact absurd rfl p
     |(obtain⟨aO,aP,-⟩:=P;(try obtain rfl:=aN rfl);(try simp[oW,qB,j_] at ag);simp[bq,execOp,cF,go_sem,aO,aP,ag,Z,a1,J,ad,aB,hp.1];done)
 rintro u v w' ⟨rfl,rfl⟩ aY ao;simp[nZ,Act.put,kP] at ao;subst ao;show bq _ _ (q_ _ _ _ _ _ _) _ _;have aZ:¬(1=k):=ae;simp[bq,execOp,cF,go_sem,Act.eval,J,aA,ae,aD]
 iterate 1
   have g:=aJ.o _ D.o.1;have aQ:(((W.setCell ⟨bz,1,none⟩ (.int .i64 y)).setCell ⟨bz,k,none⟩ (.int .i64 x)).drew).cell? ⟨cb d,0,none⟩=some (.slice (some ⟨bz,0,none⟩) m bl):=by
    show((W.setCell ⟨bz,1,none⟩ (.int .i64 y)).setCell ⟨bz,k,none⟩ (.int .i64 x)).cell? ⟨cb d,0,none⟩=_;rw[k_ _ _ _ _ (by simp[ab]),k_ _ _ _ _ (by simp[ab])];exact Z
   have c1:=aI.o _ D.o.1;refine aM _ _ ?_;refine run_move g.1 g.2.1 g.2.2.1 g.2.2.2.1 g.2.2.2.2.1 g.2.2.2.2.2.1 g.2.2.2.2.2.2.1 g.2.2.2.2.2.2.2.1 aQ g.2.2.2.2.2.2.2.2.1 g.2.2.2.2.2.2.2.2.2.1 c1 g.2.2.2.2.2.2.2.2.2.2 ?_
   intros
   rename_i aS aT;apply aL.o;exact aK.o _ _ _ _ _ D.o.2 aS aT
end
end Go.Proofs.YtogdlkfacflmaaaGreat
