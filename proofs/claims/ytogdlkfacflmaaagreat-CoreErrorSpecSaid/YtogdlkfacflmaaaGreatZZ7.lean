/- Parts of the walk of the solver and its core; no condition. -/
import Derived.Test.YtogdlkfacflmaaaGreatZZ6
import Derived.Test.YtogdlkfacflmaaaGreatZZ5
import Derived.Test.YtogdlkfacflmaaaGreatZZ3
import Derived.Deep.LoopGhost
import Derived.Test.YtogdlkfacflmaaaGreatZZ1
import Derived.Maps.RangeWalk
namespace Go.Proofs.YtogdlkfacflmaaaGreat
set_option linter.unusedVariables false
set_option linter.unusedSimpArgs false
set_option maxRecDepth 1000000
set_option maxHeartbeats 8000000
open _root_.And renaming intro→z_
open _root_.Go.Proofs.Tryz renaming prog→y_,underlying3→s_,underlying4→k_,f146→i_,f185→d_
open _root_.Go.IntKind renaming wrap_i64→x_,i64→w_
open _root_.List renaming take_succ_cons→v_,drop_succ_cons→u_,take_zero→o_,drop_zero→n_,length_append→m_,length_singleton→g_
open _root_.Go.CallsIn renaming inRound→t_
open _root_.Go renaming callsIn_wide→r_,wp_region_still_tail→q_,wpStill_nil→h_
open _root_.Int renaming mul_le_mul_of_nonneg_left→p_
open _root_.Go.Fence renaming wide→l_
open _root_.Go.World renaming putObj_heap_other→j_,cell?_of_block→f_
open _root_.Go.RowKit.Below renaming refl→e_
open _root_.Go.KeepsOthers renaming refl→c_
variable{n base G aH bN bO c8 bx h i d b:Nat}{B x kP lit:Int}{aI s:aq}{aO:List Bool}{K:Nat->Prop}{w W A:World}{hs ls:Nat->ax}{cb:Nat->Nat}{mk aK:List Int}{iw:ax}{iU:List Value}{X:Nat->List Value}{gF bl jA lF gV gn iy gI gT u16 gp gq gr gG gu gv gw gx gy gz gA gB fO fP fQ u32 fR fS fT fU fV fW fZ ga gb gd gh gC gD ij hU ia bP bQ bR bS bT bU bV bW bX bY bZ b5 b6 b7 b8 u64 b9 cc cg ck cm cn cp cr ct cu cv cw cz cA cB cC cD cE cF cG cH c9 dc de dh di dm dn dr cK cL cM cN cO cQ cR cS cT cU cV cW cZ c4 c5 c6 c7 dw dx dy dz dA dB dD dF dG dH dI dJ dK dL dM dN dO dP dQ dR dS dU dV dW dX dY dZ ec ee ef fG fH fI ei ej ek en eo ep er eu ew ey ez eA fJ fK fL eB eC eD eE eF eG eH eL eM eN eO eP eR eS eT eU eV eW eX eY eZ e3 e4 e5 e6 e7 e8 e9 fc fe ff fh fk fm fo fq gi gj fu fA fB fC fD fE fF gH:Value}{Q:Exit->Act->World->Prop}{F Fd:List (List Int)}{ds:List Nat}{a:Act}
section
open Go.RowKit Go.Shelf
attribute [local go_sem] Oper.semAt_some
def qo:Code->Nat->Option Code
 | .block k c,n=>if k=n then some c else qo c n
 | .seq a b,n=>match qo a n with
  |some c=>some c
  |none=>qo b n
 | .loop c,n=>qo c n
 | .scope c,n=>qo c n
 | .cond _ a b,n=>match qo a n with
  |some c=>some c
  |none=>qo b n
 | .rangeFunc _ _ _ b,n=>qo b n
 |_,_=>none
noncomputable def K8:Code:=(i_.body.bind λ c=>qo c 3).getD .skip
structure rW(n:Nat)(B:Int)(aI:aq)(aO:List Bool)(s:aq):Prop where
 hk:nW aI {s with aO:=aI.aO}
 aO:s.aO=aO
 rg:mo n jF B s
theorem rW.mark(h:rW n B aI aO s)(v:Nat)(b:Bool):rW n B aI (aO.set v b) (s.sU v b):=
 ⟨h.hk,by show s.aO.set v b=_;rw[h.aO],⟨h.rg.iX,h.rg.lP,h.rg.lg,h.rg.qi,h.rg.a0,h.rg.q7,h.rg.oG,h.rg.nG,h.rg.oU,h.rg.nH,h.rg.p5,h.rg.k4⟩⟩
theorem rW.Gt{qN:Int}{s':aq}(h:rW n B aI aO s)(k:nW s s')(r:mo n jF qN s'):rW n qN aI aO s':=
 ⟨⟨k.c.trans h.hk.c,k.hM.trans h.hk.hM,k.aM.trans h.hk.aM,k.aF.trans h.hk.aF,rfl,k.nl.trans h.hk.nl,k.jB.trans h.hk.jB,k.ol.trans h.hk.ol,h.hk.same.trans k.same,k.nH.trans h.hk.nH,λ d=>⟨(k.ci d).1.trans (h.hk.ci d).1,(k.ci d).2.trans (h.hk.ci d).2⟩⟩,k.aO.trans h.aO,r⟩
theorem rW.c{n:Nat}{B:Int}{aI s:aq}{aO:List Bool}(h:rW n B aI aO s):s.c=aI.c:=h.hk.c
inductive vN(bf:Core)(x:Int)(aO:List Bool)(out mk:List Int)(op:Int):List Bool->List Int->List Int->Int->Prop
 |skip (h:iE aO (aC x)=true\/bh bf x=0):vN bf x aO out mk op aO out mk op
 |mT (h:iE aO (aC x)=false) (an:bh bf x≠0) (h1:bh bf x=bf.st.length):vN bf x aO out mk op (aO.set (aC x) true) out (mk++[(aC x:Int)]) (op+1)
 |put (h:iE aO (aC x)=false) (an:bh bf x≠0) (h1:bh bf x≠bf.st.length):vN bf x aO out mk op (aO.set (aC x) true) (out++[x]) (mk++[(aC x:Int)]) op
theorem K9{out:List Int}{op:Int}{l:Nat}
  (L:kR K base w W G hs cb s aH bN bO c8 bx out mk op iw iU ls X) (f:rW n B aI aO s) (bg:n<=10) (aW:aI.c.st.length<=1000000) (aX:aI.aM.length<=100000) (ae:aO.length=n+1) (af:aI.c.lvl.length=n+1) (ag:0<=B) (ah:B<=4611686018427387904) (F:gK n x) (hm:mk.length<=1000) (ai:out.length<=1000) (aj:0<=op/\op<=1000)
  (ak:∀a W,Q .outgrown a W->False)
  (al:∀(a:Act)(W':World)(s':aq)(H:Nat->ax)(I:Nat->List Value)(an:List Bool)(ao mk':List Int)(ar:Int),vN aI.c x aO out mk op an ao mk' ar->rW n B aI an s'->kR K base w W' G hs cb s' aH bN bO c8 bx ao mk' ar iw iU H I->KeepsOthers W W'->Q .normal a W'):
  Code.wpIn (l_.inRound l) 4 y_ K8 (Exit.inBlock 3 Q) {tmps:= #[.pointer (some ⟨G,0,none⟩),gF,.pointer (some ⟨aH,0,none⟩),bl,.pointer (some ⟨bN,0,none⟩),jA,.pointer (some ⟨bO,0,none⟩),.pointer (some ⟨bx,0,none⟩),.pointer (some ⟨c8,0,none⟩),lF,gV,.int .i64 x,gn,iy,gI,gT,u16,gp,gq,gr,gG,gu,gv,gw,gx,gy,gz,gA,gB,fO,fP,fQ,u32,fR,fS,fT,fU,fV,fW,fZ,ga,gb,gd,gh,gC,gD,ij,hU,ia,bP,bQ,bR,bS,bT,bU,bV,bW,bX,bY,bZ,b5,b6,b7,b8,u64,b9,cc,cg,ck,cm,cn,cp,cr,ct,cu,cv,cw,cz,cA,cB,cC,cD,cE,cF,cG,cH,c9,dc,de,dh,di,dm,dn,dr,cK,cL,cM,cN,cO,cQ,cR,cS,cT,cU,cV,cW,cZ,c4,c5,c6,c7,dw,dx,dy,dz,dA,dB,dD,dF,dG,dH,dI,dJ,dK,dL,dM,dN,dO,dP,dQ,dR,dS,dU,dV,dW,dX,dY,dZ,ec,ee,ef,fG,fH,fI,ei,ej,ek,en,eo,ep,er,eu,ew,ey,ez,eA,fJ,fK,fL,eB,eC,eD,eE,eF,eG,eH,eL,eM,eN,eO,eP,eR,eS,eT,eU,eV,eW,eX,eY,eZ,e3,e4,e5,e6,e7,e8,e9,fc,fe,ff,fh,fk,fm,fo,fq,gi,gj,fu,fA,fB,fC,fD,fE,fF],defers:=[]} W:=by
 have C:=U L;have oh:=U f;have D:=U al;obtain⟨v,i⟩:∃v,aC x=v:=⟨_,rfl⟩
 have au:1<=v/\v<=n:=by rw[<-i];exact F
 have J:bJ (∀w:World,Calls y_ 97 #[.int .i64 x] w λ e w'=>e=.returned (.int .i64 (v:Int))/\w=w'):=U (λ w=>by have:=sV x w (by unfold aC at i;omega) (by unfold aC at i;omega);rw[i] at this;exact this);obtain⟨g12,av,aY,f12⟩:=L.gm.fN.e.lV 16 12 rfl L.gm.fN.e.n12 (by rw[f.aO];omega);have aw:=L.gm.fN.e.zM av (k:=v) (by rw[f.aO];omega);obtain⟨g2,t,M,f2⟩:=L.gm.fN.e.lV 3 2 rfl L.gm.fN.e.kj (by rw[f.c];omega);have c2:=L.gm.fN.e.vF t (k:=v) (by rw[f.c];omega);have bj:(v:Int)<(s.aO.length:Int):=by rw[f.aO];omega
 have aZ:(v:Int)<(s.c.lvl.length:Int):=by rw[f.c];omega
 have aR:=L.aR;obtain⟨g,N⟩:∃l,gZ s.c.lvl v=l:=⟨_,rfl⟩
 obtain⟨ay,O⟩:∃b,iE s.aO v=b:=⟨_,rfl⟩
 rw[N] at c2;rw[O] at aw;have az:bh aI.c x=g:=by show gZ aI.c.lvl (aC x)=g;rw[i,<-f.c];exact N
 have aA:iE aO (aC x)=ay:=by rw[i,<-f.aO];exact O
 have d:=U (z_ i (z_ au (z_ az (z_ aA (z_ ae (z_ af (z_ ag (z_ ah (z_ F (z_ hm (z_ ai (z_ aj (z_ aW aX)))))))))))));clear L f al i au N O az aA ae af ag ah F hm ai aj av t f12 f2
 conv=>arg 4;whnf
 cases ay with
 |true=>
  gi_wp2_with (refine⟨trivial,?_⟩;gi_at_call 97;refine(t_ l (r_.2 (J.o _))).mono ?_;rintro e w1 ⟨rfl,rfl⟩)
  exact D.o _ _ s ls X aO out mk op (vN.skip (.inl d.o.2.2.2.1)) oh.o C.o (c_ _)
 |false=>
  by_cases u:g=0
  ·have d1:((g:Int)==0)=true:=by simp[u]
   have P:=U u;subst u
   gi_wp2_with (refine⟨trivial,?_⟩;gi_at_call 97;refine(t_ l (r_.2 (J.o _))).mono ?_;rintro e w1 ⟨rfl,rfl⟩)
   exact D.o _ _ s ls X aO out mk op (vN.skip (.inr d.o.2.2.1)) oh.o C.o (c_ _)
  ·have d1:((g:Int)==0)=false:=by simp;omega
   have P:=U u;have iB:=C.o.iB;have aB:=K4 C.o v (by rw[oh.o.aO,d.o.2.2.2.2.1];have:=d.o.2.1;omega) (by have:=d.o;omega)
   gi_wp2_with (refine⟨trivial,?_⟩;gi_at_call 97;refine(t_ l (r_.2 (J.o _))).mono ?_;rintro e w1 ⟨rfl,rfl⟩)
   clear u;refine⟨trivial,?_⟩
   gi_at_call 182
   refine(t_ l (r_.2 aB)).mono ?_;clear aB;rintro e w1 ⟨rfl,aD,bk,R,aE⟩;dsimp only;have S:=U R;have a6:=U aE;have aR:=R.aR;clear R aE aw c2 aY M iB;have aF:=U (oh.o.mark v true);have aG:=KD S.o.gm.call aF.o.rg (by omega) (by rw[show(s.sU v true).aM=s.aM from rfl,show s.aM=aI.aM from oh.o.hk.aM];exact d.o.2.2.2.2.2.2.2.2.2.2.2.2.2) d.o.2.2.2.2.2.2.1 d.o.2.2.2.2.2.2.2.1 v d.o.2.1
   gi_wp2
   refine⟨trivial,?_⟩
   gi_at_call 184
   refine(t_ l (r_.2 aG)).mono ?_;clear aG;rintro e E ⟨rfl,s2,aJ,aK,aN,f2⟩;dsimp only;have T:=S.o.gm.back aN f2;have j:=U (S.o.tE T.1);have a7:=U (a6.o.trans T.2);have m:=U (aF.o.Gt aJ aK);clear aJ aK aN f2 T aR;have aR:=j.o.aR;obtain⟨g2,t,M,f2⟩:=j.o.gm.fN.e.lV 3 2 rfl j.o.gm.fN.e.kj (by rw[m.o.c];have:=d.o;omega);have c2:=j.o.gm.fN.e.vF t (k:=v) (by rw[m.o.c];have:=d.o;omega);have aZ:(v:Int)<(s2.c.lvl.length:Int):=by rw[m.o.c];have:=d.o;omega
   rw[show gZ s2.c.lvl v=g by rw[m.o.c,<-d.o.1];exact d.o.2.2.1] at c2;obtain⟨a8,kf,a',V⟩:∃A n c,hs 5=⟨A,n,c⟩:=⟨_,_,_,rfl⟩
   obtain⟨y,Y⟩:∃n,aI.c.st.length=n:=⟨_,rfl⟩
   have aP:kf=y:=by have:=j.o.gm.fN.e.kf;rw[V,m.o.c] at this;exact this.trans Y
   have ba:E.cell? ⟨G,6,none⟩=some (.slice a8 y a'):=by have:=j.o.gm.fN.e.kJ (k:=6) (v:=(hs 5).v) rfl;rw[V,aP] at this;exact this
   have aQ:=U Y;clear Y V aP t f2
   gi_wp2
   refine CN 12 (by kernel_rfl) (by kernel_rfl) (by rintro⟨_,_,h⟩;exact ak _ _ h) (by kernel_rfl) ?_;simp only[v_,o_,u_,n_]
   iterate 12 still_step
   refine h_ ?_;change wpList _ _ _ _ _ E.drew;have p:=U j.o.drew;have aS:=U (a7.o.trans (KeepsOthers.drew E));clear aR M c2 ba;generalize E.drew=q at*
   by_cases h1:g=y
   ·have d2:((g:Int)==(y:Int))=true:=by simp[h1]
    have H1:=U h1;clear h1;have wN:=p.o.wN.1;have bn:=p.o.wN.2;have bo:w_.wrap (op+1)=op+1:=by rw[x_];have:=d.o;omega
    go_wp2_with fail
    gi_wp2
    obtain⟨bb,r,bc⟩:=p.o.Dv (op+1);exact D.o _ _ s2 aD bb (aO.set v true) out (mk++[(v:Int)]) (op+1) (by rw[<-d.o.1];exact vN.mT d.o.2.2.2.1 (by rw[d.o.2.2.1];exact P.o) (by rw[d.o.2.2.1,aQ.o];exact H1.o)) m.o r (aS.o.trans bc)
   ·have d2:((g:Int)==(y:Int))=false:=by simp;omega
    have H1:=U h1;clear h1;obtain⟨Z,n6,aa,z⟩:∃A n c,aD 5=⟨A,n,c⟩:=⟨_,_,_,rfl⟩
    have aT:n6=out.length:=by have:=p.o.kf;rw[z] at this;exact this
    have co:q.cell? ⟨bN,0,none⟩=some (.slice Z n6 aa):=by have:=p.o.co.1;rw[z] at this;exact this
    have bp:=p.o.co.2;have r:=U (p.o.grow (bz q (mP [x])));have bd:bJ ((q.alloc (mP [x])).ownsRow w.heap.size 3 1 (.slice Z n6 aa) n6 (out.map (Value.int .i64))):=U (by have:=r.o.gm.rows.row 5;rw[z,r.o.lW] at this;exact this);have bf:=U (aL.lit q [x] 1 q.heap.size rfl rfl (by omega));have aU:=U (z_ z aT);clear z aT
    go_wp2_with fail
    gi_step
    refine JG (by kernel_rfl) (by rintro⟨_,_,h⟩;exact ak _ _ h) ?_
    go_wp2_with (at_builtin;refine qS rfl (.tmp 88) (.tmp 90) rfl w.heap.size (.slice Z n6 aa) n6 out rfl bd.o (some ⟨q.heap.size,0,none⟩) 1 1 [x] rfl bf.o (by have:=aU.o.2;have:=d.o;omega) r.o.gm.jr.size ?_;intro v9 bM aV;obtain⟨A',c',H,I,rfl,a1,a2,ab,ad⟩:=r.o.K0 (x:=x) (v':=v9) (by rw[aU.o.1];exact aV);have ab:=U ab;have ad:=U ad;clear aV)
    gi_wp2
    exact D.o _ _ s2 H I (aO.set v true) (out++[x]) (mk++[(v:Int)]) op (by rw[<-d.o.1];exact vN.put d.o.2.2.2.1 (by rw[d.o.2.2.1];exact P.o) (by rw[d.o.2.2.1,aQ.o];exact H1.o)) m.o ab.o (aS.o.trans ((KeepsOthers.below (bz q _)).trans ad.o))
end
section
open Go.RowKit Go.Shelf
structure vh(F Fd:List (List Int))(aI:aq)(n h:Nat)(kP:Int):Prop where
 gR:kC F Fd aI.c h []
 iX:aI.c.n=n
 n10:n<=10
 st1:0<aI.c.st.length
 st2:aI.c.st.length<=1000000
 k4:aI.aM.length<=100000
 cI:0<=kP
 aQ:kP+16*jF<=4611686018427387904
structure mV(K:Nat->Prop)(base:Nat)(w W:World)(G:Nat)(hs:Nat->ax)(cb:Nat->Nat)(n:Nat)(B:Int)(F:List (List Int))(aI:aq)(aH bN bO c8 bx:Nat)(iw:ax)(iU:List Value)(i:Nat)(ex:List Int)(ds:List Nat)(s:aq)(aO:List Bool)(aK mk:List Int)(ls:Nat->ax)(X:Nat->List Value):Prop where
 aM:kR K base w W G hs cb s aH bN bO c8 bx (0::aK) mk (mT aI.c aO i:Int) iw iU ls X
 kZ:rW n B aI aO s
 li:nD F aI.c i aO aK ex
 sw:mk.Nodup
 qF:∀z:Int,z∈mk↔∃v:Nat,z=v/\iE aO v=true
 sx:aK.length<=mk.length
 ms:oV w.heap.size W ds
section
variable {K:Nat->Prop}{base:Nat}{w W W':World}{G:Nat}{hs:Nat->ax}{cb:Nat->Nat}{n h:Nat}{B kP:Int}{F Fd:List (List Int)}{aI s s':aq}{aH bN bO c8 bx:Nat}{iw:ax}{iU:List Value}{i:Nat}{ex:List Int}{ds:List Nat}{aO sv:List Bool}{aK mk:List Int}{ls mN:Nat->ax}{X lN:Nat->List Value}
theorem Gu{l:List Bool}{v:Nat}(h:iE l v=true):v<l.length:=by
 rcases Nat.lt_or_ge v l.length with h1|h1
 ·exact h1
 ·unfold iE at h;rw[List.getD_eq_getElem?_getD,List.getElem?_eq_none h1] at h;cases h
theorem Dy{aO:List Bool}{mk:List Int}(b:mk.Nodup)(hm:∀z:Int,z∈mk↔∃v:Nat,z=v/\iE aO v=true):mk.length<=aO.length:=by
 have h1:(mk.map Int.toNat).Nodup:=by
  show List.Pairwise _ _;rw[List.pairwise_map];refine List.Pairwise.imp_of_mem (λ{x y} a c d e=>?_) b;obtain⟨v,rfl,_⟩:=(hm x).1 a;obtain⟨u,rfl,_⟩:=(hm y).1 c;simp at e;exact d (by rw[e])
 have:=xC aO.length (mk.map Int.toNat) h1 (λ x a=>by
  obtain⟨z,f,rfl⟩:=List.mem_map.1 a;obtain⟨v,rfl,g⟩:=(hm z).1 f;simpa using Gu g)
 simpa using this
theorem mV.nt(H:mV K base w W G hs cb n B F aI aH bN bO c8 bx iw iU i ex ds s aO aK mk ls X)(C:vh F Fd aI n h kP):mk.length<=11/\aO.length=n+1:=by
 have h1:=Dy H.sw H.qF;have a:=H.li.tu;rw[C.iX] at a;have:=C.n10;omega
theorem z8(c:Core)(aO:List Bool)(i:Nat):mT c aO i<=i:=by
 have:=List.countP_le_length (p:=oQ c aO) (l:=List.range i);rw[List.length_range] at this;exact this
theorem mV.step(C:vh F Fd aI n h kP){x:Int}(H:mV K base w W G hs cb n B F aI aH bN bO c8 bx iw iU i (x::ex) ds s aO aK mk ls X){yM mk':List Int}{yN:Int}(t:vN aI.c x aO (0::aK) mk (mT aI.c aO i) sv yM mk' yN)(j:rW n B aI sv s')
  (L:kR K base w W' G hs cb s' aH bN bO c8 bx yM mk' yN iw iU mN lN) (k:KeepsOthers W W'):∃u,mV K base w W' G hs cb n B F aI aH bN bO c8 bx iw iU i ex ds s' sv u mk' mN lN:=by
 have T:=C.gR.aK;have m:gK aI.c.n x:=H.li.wz x (by simp);have o:aO.length=aI.c.n+1:=H.li.tu;have l:∀(d:iE aO (aC x)=false),(mk++[(aC x:Int)]).Nodup/\∀z:Int,z∈mk++[(aC x:Int)]↔∃v:Nat,z=v/\iE (aO.set (aC x) true) v=true:=λ d=>by
  refine⟨?_,λ z=>?_⟩
  ·rw[List.nodup_append];refine⟨H.sw,by simp,λ a y b r e=>?_⟩;rw[List.mem_singleton] at r;subst r;subst e;obtain⟨v,f,p⟩:=(H.qF _).1 y;rw[show v=aC x by omega] at p;rw[d] at p;cases p
  ·rw[List.mem_append,List.mem_singleton,H.qF];constructor
   ·rintro(⟨v,rfl,f⟩|rfl)
    ·exact⟨v,rfl,by rw[A5 o m];split;rfl;exact f⟩
    ·exact⟨aC x,rfl,by rw[A5 o m,if_pos rfl]⟩
   ·rintro⟨v,rfl,f⟩;rw[A5 o m] at f;split at f
    ·rename_i e;exact .inr (by rw[e])
    ·exact .inl ⟨v,rfl,f⟩
 cases t with
 |skip g=>
  rcases g with g|g
  ·exact⟨aK,L,j,H.li.seen T g,H.sw,H.qF,H.sx,H.ms.others k⟩
  ·exact⟨aK,L,j,H.li.drop T C.gR.jN C.st1 g,H.sw,H.qF,H.sx,H.ms.others k⟩
 |mT d q h1=>
  obtain⟨a1,a2⟩:=(H.li.mark T d q).1 h1;refine⟨aK,?_,j,a1,(l d).1,(l d).2,by rw[m_];have:=H.sx;omega,H.ms.others k⟩;rw[a2];exact L
 |put d q h1=>
  obtain⟨a1,a2⟩:=(H.li.mark T d q).2 h1;refine⟨aK++[x],?_,j,a1,(l d).1,(l d).2,by rw[m_,m_,g_,g_];have:=H.sx;omega,H.ms.others k⟩;rw[a2];exact L
theorem mV.tE(H:mV K base w W G hs cb n B F aI aH bN bO c8 bx iw iU i ex ds s aO aK mk ls X){yO:ax}{yP:List Value}(L:kR K base w W' G hs cb s aH bN bO c8 bx (0::aK) mk (mT aI.c aO i:Int) yO yP mN lN)(k:KeepsOthers W W'):mV K base w W' G hs cb n B F aI aH bN bO c8 bx yO yP i ex ds s aO aK mk mN lN:=
 ⟨L,H.kZ,H.li,H.sw,H.qF,H.sx,H.ms.others k⟩
theorem mV.grow(H:mV K base w W G hs cb n B F aI aH bN bO c8 bx iw iU i ex ds s aO aK mk ls X)(a:Below W.heap.size W W'):mV K base w W' G hs cb n B F aI aH bN bO c8 bx iw iU i ex ds s aO aK mk ls X:=H.tE (H.aM.grow a) (KeepsOthers.below a)
theorem mV.uL(H:mV K base w W G hs cb n B F aI aH bN bO c8 bx iw iU i ex ds s aO aK mk ls X){N:Nat}{row:Option Nat}(b:W.grownBy W' row)(a:∀r,row=some r->N<=r/\∃o:Obj,W.heap[r]? =some o/\o.isCells=false)(c:w.heap.size<=N)(d:∀D∈ds,D<N):mV K base w W' G hs cb n B F aI aH bN bO c8 bx iw iU i ex ds s aO aK mk ls X:=
 ⟨H.aM.tE (H.aM.gm.uL b (λ r e=>⟨Nat.le_trans c (a r e).1,(a r e).2⟩)),H.kZ,H.li,H.sw,H.qF,H.sx,H.ms.kept b (λ D f e=>by have:=(a D e.symm).1;have:=d D f;omega)⟩
theorem rW.mono(a:rW n B aI aO s){qN:Int}(b:B<=qN):rW n qN aI aO s:=⟨a.hk,a.aO,a.rg.mono (Int.le_refl _) b⟩
theorem mV.up(H:mV K base w W G hs cb n B F aI aH bN bO c8 bx iw iU i ex ds s aO aK mk ls X){qN:Int}(a:B<=qN):mV K base w W G hs cb n qN F aI aH bN bO c8 bx iw iU i ex ds s aO aK mk ls X:=⟨H.aM,H.kZ.mono a,H.li,H.sw,H.qF,H.sx,H.ms⟩
theorem mV.mark(H:mV K base w W G hs cb n B F aI aH bN bO c8 bx iw iU i ex ds s aO aK mk ls X){D:Nat}(a:w.heap.size<=D)(hm:W.heap[D]? =some (.deferred (some [])))(b:∀E∈ds,E<D):mV K base w W G hs cb n B F aI aH bN bO c8 bx iw iU i ex (D::ds) s aO aK mk ls X:=
 ⟨H.aM,H.kZ,H.li,H.sw,H.qF,H.sx,H.ms.cons a hm (λ e=>by have:=b D e;omega)⟩
end
end
section
open Go.RowKit Go.Shelf
attribute [local go_sem] Oper.semAt_some
noncomputable def La:Code:=(i_.body.bind λ c=>qo c 2).getD .skip
def BA(K:Nat->Prop)(base:Nat)(w:World)(G:Nat)(hs:Nat->ax)(cb:Nat->Nat)(n:Nat)(B:Int)(F:List (List Int))(aI:aq)(aH a b c bx:Nat)(d:ax)(e:List Value)(i:Nat)(ex:List Int)(ds:List Nat)(pre:List Int)(V:World):Prop:=
 ∃(s:aq)(f:List Bool)(g mk:List Int)(ls:Nat->ax)(X:Nat->List Value),mV K base w V G hs cb n B F aI aH a b c bx d e i (ex.drop pre.length) ds s f g mk ls X
theorem Lb{pre ex:List Int}(h:(pre++[x])<+:ex):ex.drop pre.length=x::ex.drop (pre++[x]).length:=by
 obtain⟨r,rfl⟩:=h;rw[List.append_assoc,List.drop_left,<-List.append_assoc,List.drop_left];rfl
theorem Lc{iD jL:Nat}
  (C:vh F Fd aI n h kP) (Z:0<=B) (aa:B<=4611686018427387904) (H:mV K base w W G hs cb n B F aI aH bN bO c8 bx (n9 jL) [.int .i64 lit] i (others (ay aI.c.cl d) lit) ds s aO aK mk ls X) (ag:d<aI.c.cl.length) (hm:1<=(ay aI.c.cl d).length) (c1:W.cell? ⟨iD,0,none⟩=some (.pointer (some ⟨cb d,0,none⟩))) (aw:iD<W.heap.size)
  (ab:∀(D:Nat)(W':World)(s':aq)(M:List Bool)(N mk':List Int)(O:Nat->ax)(P:Nat->List Value),mV K base w W' G hs cb n B F aI aH bN bO c8 bx (n9 jL) [.int .i64 lit] i [] (D::ds) s' M N mk' O P->Q .normal {tmps:= #[.pointer (some ⟨G,0,none⟩),gF,.pointer (some ⟨aH,0,none⟩),bl,.pointer (some ⟨bN,0,none⟩),jA,.pointer (some ⟨bO,0,none⟩),.pointer (some ⟨bx,0,none⟩),.pointer (some ⟨c8,0,none⟩),lF,gV,gH,gn,iy,gI,gT,u16,gp,gq,gr,gG,gu,gv,gw,gx,gy,gz,gA,gB,fO,fP,fQ,u32,fR,fS,fT,fU,fV,fW,fZ,ga,gb,gd,gh,gC,gD,.func (.func 224) #[] #[.pointer (some ⟨iD,0,none⟩),.pointer (some ⟨jL,0,none⟩)],hU,ia,bP,bQ,bR,bS,bT,bU,bV,bW,bX,bY,bZ,b5,b6,b7,b8,u64,b9,cc,cg,ck,cm,cn,cp,cr,ct,cu,cv,cw,cz,cA,cB,cC,cD,cE,cF,cG,cH,c9,dc,de,dh,di,dm,dn,dr,cK,cL,cM,cN,cO,cQ,cR,cS,cT,cU,cV,cW,cZ,c4,c5,c6,c7,dw,dx,dy,dz,dA,dB,dD,dF,dG,dH,dI,dJ,dK,dL,dM,dN,dO,dP,dQ,dR,dS,dU,dV,dW,dX,dY,dZ,ec,ee,ef,fG,fH,fI,ei,ej,ek,en,eo,ep,er,eu,ew,ey,ez,eA,fJ,fK,fL,eB,eC,eD,eE,eF,eG,eH,eL,eM,eN,eO,eP,eR,eS,eT,eU,eV,eW,eX,eY,eZ,e3,e4,e5,e6,e7,e8,e9,fc,fe,ff,fh,fk,fm,fo,fq,gi,gj,fu,fA,fB,fC,fD,fE,fF],defers:=oB D::ds.map oB} W'):
  Code.wp y_ La Q {tmps:= #[.pointer (some ⟨G,0,none⟩),gF,.pointer (some ⟨aH,0,none⟩),bl,.pointer (some ⟨bN,0,none⟩),jA,.pointer (some ⟨bO,0,none⟩),.pointer (some ⟨bx,0,none⟩),.pointer (some ⟨c8,0,none⟩),lF,gV,gH,gn,iy,gI,gT,u16,gp,gq,gr,gG,gu,gv,gw,gx,gy,gz,gA,gB,fO,fP,fQ,u32,fR,fS,fT,fU,fV,fW,fZ,ga,gb,gd,gh,gC,gD,.func (.func 224) #[] #[.pointer (some ⟨iD,0,none⟩),.pointer (some ⟨jL,0,none⟩)],hU,ia,bP,bQ,bR,bS,bT,bU,bV,bW,bX,bY,bZ,b5,b6,b7,b8,u64,b9,cc,cg,ck,cm,cn,cp,cr,ct,cu,cv,cw,cz,cA,cB,cC,cD,cE,cF,cG,cH,c9,dc,de,dh,di,dm,dn,dr,cK,cL,cM,cN,cO,cQ,cR,cS,cT,cU,cV,cW,cZ,c4,c5,c6,c7,dw,dx,dy,dz,dA,dB,dD,dF,dG,dH,dI,dJ,dK,dL,dM,dN,dO,dP,dQ,dR,dS,dU,dV,dW,dX,dY,dZ,ec,ee,ef,fG,fH,fI,ei,ej,ek,en,eo,ep,er,eu,ew,ey,ez,eA,fJ,fK,fL,eB,eC,eD,eE,eF,eG,eH,eL,eM,eN,eO,eP,eR,eS,eT,eU,eV,eW,eX,eY,eZ,e3,e4,e5,e6,e7,e8,e9,fc,fe,ff,fh,fk,fm,fo,fq,gi,gj,fu,fA,fB,fC,fD,fE,fF],defers:=ds.map oB} W:=by
 have R:=U H;have u:s.c=aI.c:=H.kZ.c;obtain⟨bH,m1,az,f⟩:=H.aM.gm.fN.yL (d:=d) (by rw[u];exact ag) (by rw[u];exact hm);rw[u] at f;have aA:m1<=22:=by have:=(C.gR.jN.mF d ag).len;have:=C.iX;have:=C.n10;have:=f.len;omega
 have aB:=(H.aM.gm.fN.e.rows.lt f.b).2;have aC:=(H.aM.gm.fN.e.cls d (by rw[u];exact ag)).lt;have c2:W.cell? ⟨jL,0,none⟩=some (.int .i64 lit):=(H.aM.gm.kL (r:=11) (g:=jL) (by rw[H.aM.sX];rfl) (by rw[H.aM.uP];rfl)).1;have aD:=(H.aM.gm.lt (r:=11) (g:=jL) (by rw[H.aM.sX];rfl)).2;have j:=U C;have aZ:=U (z_ f (z_ aA (z_ ag hm)));have ad:=U (z_ Z aa);have aE:=U ab;have ae:OwnFrom W.heap.size (BA K base w G hs cb n B F aI aH bN bO c8 bx (n9 jL) [.int .i64 lit] i (others (ay aI.c.cl d) lit) ds):=by
  rintro pre a6 iD row ⟨s1,q,z,A,I,J,h1⟩ aF aG;exact⟨s1,q,z,A,I,J,h1.uL aF aG R.o.aM.gm.jr.size (λ D T=>R.o.ms.lt T)⟩
 have af:=U ae;have aJ:bJ (∀(V m:World)(pre ah:List Int),BA K base w G hs cb n B F aI aH bN bO c8 bx (n9 jL) [.int .i64 lit] i (others (ay aI.c.cl d) lit) ds pre V->BA K base w G hs cb n B F aI aH bN bO c8 bx (n9 jL) [.int .i64 lit] i (others (ay aI.c.cl d) lit) ds ah m->pe jL bH m1 V m):=U (by
  rintro V m pre ah ⟨s1,q,z,A,I,J,h1⟩ ⟨s2,a7,a8,a',ba,bb,p⟩;have aL:V.cell? ⟨jL,0,none⟩=some (.int .i64 lit):=(h1.aM.gm.kL (r:=11) (g:=jL) (by rw[h1.aM.sX];rfl) (by rw[h1.aM.uP];rfl)).1;have aN:m.cell? ⟨jL,0,none⟩=some (.int .i64 lit):=(p.aM.gm.kL (r:=11) (g:=jL) (by rw[p.aM.sX];rfl) (by rw[p.aM.uP];rfl)).1;refine⟨λ v t=>by rw[aL] at t;rw[aN,<-t],λ k v hk t=>?_⟩;have ai:=h1.aM.gm.fN.e.xR (d:=d) f.b (k:=k) (by rw[h1.kZ.c,f.len];exact hk);have aj:=p.aM.gm.fN.e.xR (d:=d) f.b (k:=k) (by rw[p.kZ.c,f.len];exact hk);rw[h1.kZ.c] at ai;rw[p.kZ.c] at aj;rw[ai] at t;rw[aj,<-t])
 have bc:=H.aM.gm.jr.size;clear H C u ag hm Z aa ab ae
 conv=>arg 2;whnf
 refine(wpIn_wide (n:=6)).1 ?_;refine CM (F:=l_) (w0:=W) rfl (by omega) (gf:=224) (lb:= #[.pointer (some ⟨iD,0,none⟩),.pointer (some ⟨jL,0,none⟩)]) rfl trivial De
  (Dg (6-1) (by omega) iD jL (cb d) bH m1 az (ay aI.c.cl d) lit f.len (by omega) W c1 c2 f.ag f.kL aw aD aC aB)
  (λ h k=>h.trans k) (λ V l o bd hl t ak _=>⟨λ v Y=>(f_ (w:=V) (j_ (by show jL≠l;omega))).trans Y,λ k v _ Y=>(f_ (w:=V) (j_ (by show bH≠l;omega))).trans Y⟩) (e_ _ _) (λ _=>rfl)
  (BA K base w G hs cb n B F aI aH bN bO c8 bx (n9 jL) [.int .i64 lit] i (others (ay aI.c.cl d) lit) ds) (λ _ _ _=>False)
  af.o (λ _ _ _ _ _ h=>h.elim) ⟨s,aO,aK,mk,ls,X,R.o⟩
  ?a1 ?w1 ?assign ?kw1 ?body ?done ?stop
 case assign=>
  intro l pre y m bf S al aP
  gi_wp2
  exact aP
 case kw1=>
  intro pre y m S;exact⟨KeepsFrom.refl _ _,pe.refl _ _ _ _⟩
 case body=>
  rintro l pre y an m S ⟨o,aQ,ao,ak,ar,au⟩ al bg;have av:=af.o _ _ _ _ S (show an.grownBy m (some (W.heap.size+1)) by rw[ao];exact grownBy_putObj' an (W.heap.size+1) o) (λ r e=>by cases e;exact⟨by omega,aQ,ar,au⟩);have aR:=U av;clear S ao ak ar au;obtain⟨s1,q,z,A,I,J,h1⟩:=av;rw[Lb al] at h1;have aS:=h1.nt j.o;have aT:gK n y:=by have:=h1.li.wz y (by simp);rw[j.o.iX] at this;exact this
  have bh:=z8 aI.c q i;have bj:=h1.li.qK;have aU:=j.o.gR.aK.len;rw[j.o.iX] at aU;have bk:=j.o.n10;refine wpIn_block ?_;refine K9 (l:=l) (x:=y) h1.aM h1.kZ j.o.n10 j.o.st2 j.o.k4 aS.2 (by have:=j.o.gR.aK.o7;rw[j.o.iX] at this;exact this) ad.o.1 ad.o.2 aT (by omega) (by have:=h1.sx;simp;omega) (by omega) ?_ ?_
  ·intro a W' h;exact h
  intro a W' s' O P M bn mk' bo aV aW L k;obtain⟨N,p⟩:=h1.step j.o aV aW L k;exact⟨k.from _,aJ.o _ _ _ _ aR.o ⟨s',M,N,mk',O,P,p⟩,s',M,N,mk',O,P,p⟩
 case done=>
  rintro D ys m T rfl ⟨s1,q,z,A,I,J,h1⟩ aX;rw[List.drop_length] at h1;exact aE.o D m s1 q z A I J (h1.mark (by omega) aX (λ E aY=>by have:=R.o.ms.lt aY;omega))
 case stop=>
  rintro D bp pre m T bq h;exact h.elim
end
section
open Go.RowKit Go.Shelf
noncomputable def Ld:Code:=(i_.body.bind λ c=>qo c 4).getD .skip
theorem Le
  (C:vh F Fd aI n h kP) (H:mV K base w W G hs cb n B F aI aH bN bO c8 bx iw iU i [] ds s aO aK mk ls X)
  (r:∀(j:Nat)(cK cL cM cN cO cQ cR cS cT cU cV cW cZ c4 c5 c6 c7:Value)(W':World),mV K base w W' G hs cb n B F aI aH bN bO c8 bx iw iU (j+1) [] ds s aO aK mk ls X->j<i->iE aO (aC (aj aI.c.av j))=true->Q (.exit 4) {tmps:= #[.pointer (some ⟨G,0,none⟩),gF,.pointer (some ⟨aH,0,none⟩),bl,.pointer (some ⟨bN,0,none⟩),jA,.pointer (some ⟨bO,0,none⟩),.pointer (some ⟨bx,0,none⟩),.pointer (some ⟨c8,0,none⟩),lF,.int .i64 (j:Int),gH,gn,iy,gI,gT,u16,gp,gq,gr,gG,gu,gv,gw,gx,gy,gz,gA,gB,fO,fP,fQ,u32,fR,fS,fT,fU,fV,fW,fZ,ga,gb,gd,gh,gC,gD,ij,hU,ia,bP,bQ,bR,bS,bT,bU,bV,bW,bX,bY,bZ,b5,b6,b7,b8,u64,b9,cc,cg,ck,cm,cn,cp,cr,ct,cu,cv,cw,cz,cA,cB,cC,cD,cE,cF,cG,cH,c9,dc,de,dh,di,dm,dn,dr,cK,cL,cM,cN,cO,cQ,cR,cS,cT,cU,cV,cW,cZ,c4,c5,c6,c7,dw,dx,dy,dz,dA,dB,dD,dF,dG,dH,dI,dJ,dK,dL,dM,dN,dO,dP,dQ,dR,dS,dU,dV,dW,dX,dY,dZ,ec,ee,ef,fG,fH,fI,ei,ej,ek,en,eo,ep,er,eu,ew,ey,ez,eA,fJ,fK,fL,eB,eC,eD,eE,eF,eG,eH,eL,eM,eN,eO,eP,eR,eS,eT,eU,eV,eW,eX,eY,eZ,e3,e4,e5,e6,e7,e8,e9,fc,fe,ff,fh,fk,fm,fo,fq,gi,gj,fu,fA,fB,fC,fD,fE,fF],defers:=ds.map oB} W'):
  Code.wp y_ Ld Q {tmps:= #[.pointer (some ⟨G,0,none⟩),gF,.pointer (some ⟨aH,0,none⟩),bl,.pointer (some ⟨bN,0,none⟩),jA,.pointer (some ⟨bO,0,none⟩),.pointer (some ⟨bx,0,none⟩),.pointer (some ⟨c8,0,none⟩),lF,.int .i64 ((i:Int)-1),gH,gn,iy,gI,gT,u16,gp,gq,gr,gG,gu,gv,gw,gx,gy,gz,gA,gB,fO,fP,fQ,u32,fR,fS,fT,fU,fV,fW,fZ,ga,gb,gd,gh,gC,gD,ij,hU,ia,bP,bQ,bR,bS,bT,bU,bV,bW,bX,bY,bZ,b5,b6,b7,b8,u64,b9,cc,cg,ck,cm,cn,cp,cr,ct,cu,cv,cw,cz,cA,cB,cC,cD,cE,cF,cG,cH,c9,dc,de,dh,di,dm,dn,dr,cK,cL,cM,cN,cO,cQ,cR,cS,cT,cU,cV,cW,cZ,c4,c5,c6,c7,dw,dx,dy,dz,dA,dB,dD,dF,dG,dH,dI,dJ,dK,dL,dM,dN,dO,dP,dQ,dR,dS,dU,dV,dW,dX,dY,dZ,ec,ee,ef,fG,fH,fI,ei,ej,ek,en,eo,ep,er,eu,ew,ey,ez,eA,fJ,fK,fL,eB,eC,eD,eE,eF,eG,eH,eL,eM,eN,eO,eP,eR,eS,eT,eU,eV,eW,eX,eY,eZ,e3,e4,e5,e6,e7,e8,e9,fc,fe,ff,fh,fk,fm,fo,fq,gi,gj,fu,fA,fB,fC,fD,fE,fF],defers:=ds.map oB} W:=by
 have N:=U r;have f:=U C;have O:=U H;have P:=H.li.open
 have h1:=z8 aI.c aO i;have ab:1<=i:=by omega
 clear C H r P h1
 conv=>arg 2;whnf
 dsimp only
 go_loopw [10] (λ x W'=>∃j:Nat,x=.int .i64 (j:Int)/\j<i/\mV K base w W' G hs cb n B F aI aH bN bO c8 bx iw iU (j+1) [] ds s aO aK mk ls X) (λ x _=>(intOf x).toNat)
 case atStart=>
  refine⟨i-1,by congr 1;omega,by omega,?_⟩;rw[show i-1+1=i by omega];exact O.o
 case round=>
  obtain⟨j,rfl,R,a⟩:=hrel;have L:=U a;have aR:=a.aM.aR;have m:j<aI.c.av.length:=by have:=a.li.qK;omega
  have ad:=f.o.gR.aK.len;have ae:=f.o.n10;have S:=f.o.iX;obtain⟨x,l⟩:∃x,aj aI.c.av j=x:=⟨_,rfl⟩
  have t:gK n x:=by have:=f.o.gR.aK.lit _ (lZ m);rw[l,S] at this;exact this
  obtain⟨v,g⟩:∃v,aC x=v:=⟨_,rfl⟩
  have T:v<=n:=by have:=t.2;omega
  have V:bJ (∀w:World,Calls y_ 97 #[.int .i64 x] w λ e w'=>e=.returned (.int .i64 (v:Int))/\w=w'):=U (λ w=>by have:=sV x w (by unfold aC at g;omega) (by unfold aC at g;omega);rw[g] at this;exact this);have Y:=(a.nt f.o).2;obtain⟨g12,u,Z,f12⟩:=a.aM.gm.fN.e.lV 16 12 rfl a.aM.gm.fN.e.n12 (by rw[a.kZ.aO];omega);have y:=a.aM.gm.fN.e.zM u (k:=v) (by rw[a.kZ.aO];omega);have af:(v:Int)<(s.aO.length:Int):=by rw[a.kZ.aO];omega
  obtain⟨g4,z,aa,f4⟩:=a.aM.gm.fN.e.lV 5 4 rfl a.aM.gm.fN.e.kA (by rw[a.kZ.c];omega);have A:=a.aM.gm.fN.e.zL z (k:=j) (by rw[a.kZ.c];exact m);have ag:(j:Int)<(s.c.av.length:Int):=by rw[a.kZ.c];omega
  rw[show aj s.c.av j=x by rw[a.kZ.c];exact l] at A;obtain⟨E,p⟩:∃b,iE s.aO v=b:=⟨_,rfl⟩
  rw[p] at y;have I:iE aO (aC (aj aI.c.av j))=E:=by rw[l,g,<-a.kZ.aO];exact p
  have q:=U (z_ I (z_ R m));have ah:w_.wrap ((j:Int)-1)=(j:Int)-1:=by rw[x_];omega
  clear a t g T Y u f12 z f4 p I l
  go_wp2_with fail
  refine q_ 14 (by kernel_rfl) (by kernel_rfl) ?_;simp only[v_,o_,u_,n_]
  iterate 11 still_step
  still_call ((V.o _).mono (λ e w' h=>⟨h.1,h.2.symm⟩))
  iterate 2 still_step
  refine h_ ?_;change wpList _ _ _ _ _ wr.drew;have d:=U (L.o.grow ((e_ _ wr).drew));clear aR Z y aa A;generalize wr.drew=ai at*
  cases E with
  |true=>
   go_wp2_with fail
   exact N.o j _ _ _ _ _ _ _ _ _ _ _ _ _ _ _ _ _ _ d.o q.o.2.1 q.o.1
  |false=>
   obtain⟨a1,a2⟩:=d.o.li.down q.o.1;have J:=a1.open
   have M:=z8 aI.c aO j;have D:=U (z_ a1 (z_ a2 (z_ J M)));clear a1 a2 J M
   go_wp2_with fail
   go_roundw
   case rel=>
    refine⟨j-1,by congr 1;have:=D.o;omega,by have:=D.o;omega,?_⟩;rw[show j-1+1=j by have:=D.o;omega];exact⟨by rw[D.o.2.1];exact d.o.aM,d.o.kZ,D.o.1,d.o.sw,d.o.qF,d.o.sx,d.o.ms⟩
   case measure=>simp[intOf];have:=D.o;omega
structure BB(K:Nat->Prop)(base:Nat)(w W:World)(G:Nat)(hs:Nat->ax)(cb:Nat->Nat)(n:Nat)(B:Int)(F:List (List Int))(aI:aq)(aH bN bO c8 bx:Nat)(op:Int)(iw:ax)(iU:List Value)(j:Nat)(ds:List Nat)(s:aq)(aO:List Bool)(aK mk:List Int)(ls:Nat->ax)(X:Nat->List Value):Prop where
 aM:kR K base w W G hs cb s aH bN bO c8 bx (0::aK) mk op iw iU ls X
 kZ:rW n B aI aO s
 li:nD F aI.c (j+1) aO aK []
 sw:mk.Nodup
 qF:∀z:Int,z∈mk↔∃v:Nat,z=v/\iE aO v=true
 sx:aK.length<=mk.length
 ms:oV w.heap.size W ds
 xS:iE aO (aC (aj aI.c.av j))=true
 one:mT aI.c aO (j+1)=1
noncomputable def Gv:Code:=mU ((i_.body.bind λ c=>qo c 1).getD .skip)
theorem Lf
  (C:vh F Fd aI n h kP) (V:0<=B) (Y:B<=4611686018427387904) (H:mV K base w W G hs cb n B F aI aH bN bO c8 bx iw iU i (others (ay aI.c.cl d) lit) ds s aO aK mk ls X) (Z:d<aI.c.cl.length) (hm:1<=(ay aI.c.cl d).length)
  (p:∀(j:Nat)(op:Int)(iw:ax)(iU:List Value)(s:aq)(aO:List Bool)(aK mk:List Int)(ls:Nat->ax)(X:Nat->List Value)(ds:List Nat)(aA bl aB gH gn iy gI gT u16 gp gq gr gG gu gv gw gx gy gz gA gB fO fP fQ u32 fR fS fT fU fV fW fZ ga gb gd gh gC gD ij hU ia bP bQ bR bS bT bU bV bW bX bY bZ b5 b6 b7 b8 u64 b9 cc cg ck cm cn cp cr ct cu cv cw cz cA cB cC cD cE cF cG cH c9 dc de dh di dm dn dr cK cL cM cN cO cQ cR cS cT cU cV cW cZ c4 c5 c6 c7 dw dx dy dz dA dB dD dF dG dH dI dJ dK dL dM dN dO dP dQ dR dS dU dV dW dX dY dZ ec ee ef fG fH fI ei ej ek en eo ep er eu ew ey ez eA fJ fK fL eB eC eD eE eF eG eH eL eM eN eO eP eR eS eT eU eV eW eX eY eZ e3 e4 e5 e6 e7 e8 e9 fc fe ff fh fk fm fo fq gi gj fu fA fB fC fD fE fF:Value)(W':World),BB K base w W' G hs cb n B F aI aH bN bO c8 bx op iw iU j ds s aO aK mk ls X->Q (.exit 0) {tmps:= #[.pointer (some ⟨G,0,none⟩),aA,.pointer (some ⟨aH,0,none⟩),bl,.pointer (some ⟨bN,0,none⟩),.int .i64 0,.pointer (some ⟨bO,0,none⟩),.pointer (some ⟨bx,0,none⟩),.pointer (some ⟨c8,0,none⟩),.int .i64 (aj aI.c.av j),aB,gH,gn,iy,gI,gT,u16,gp,gq,gr,gG,gu,gv,gw,gx,gy,gz,gA,gB,fO,fP,fQ,u32,fR,fS,fT,fU,fV,fW,fZ,ga,gb,gd,gh,gC,gD,ij,hU,ia,bP,bQ,bR,bS,bT,bU,bV,bW,bX,bY,bZ,b5,b6,b7,b8,u64,b9,cc,cg,ck,cm,cn,cp,cr,ct,cu,cv,cw,cz,cA,cB,cC,cD,cE,cF,cG,cH,c9,dc,de,dh,di,dm,dn,dr,cK,cL,cM,cN,cO,cQ,cR,cS,cT,cU,cV,cW,cZ,c4,c5,c6,c7,dw,dx,dy,dz,dA,dB,dD,dF,dG,dH,dI,dJ,dK,dL,dM,dN,dO,dP,dQ,dR,dS,dU,dV,dW,dX,dY,dZ,ec,ee,ef,fG,fH,fI,ei,ej,ek,en,eo,ep,er,eu,ew,ey,ez,eA,fJ,fK,fL,eB,eC,eD,eE,eF,eG,eH,eL,eM,eN,eO,eP,eR,eS,eT,eU,eV,eW,eX,eY,eZ,e3,e4,e5,e6,e7,e8,e9,fc,fe,ff,fh,fk,fm,fo,fq,gi,gj,fu,fA,fB,fC,fD,fE,fF],defers:=ds.map oB} W')
  (hk:∀(j l:Nat)(aa:Int)(iw:ax)(iU:List Value)(s:aq)(aO:List Bool)(aK mk:List Int)(ls:Nat->ax)(X:Nat->List Value)(ds:List Nat)(bl gH gn iy gI gT u16 gp gq gr gG gu gv gw gx gy gz gA gB fO fP fQ u32 fR fS fT fU fV fW fZ ga gb gd gh gC gD ij hU ia bP bQ bR bS bT bU bV bW bX bY bZ b5 b6 b7 b8 u64 b9 cc cg ck cm cn cp cr ct cu cv cw cz cA cB cC cD cE cF cG cH c9 dc de dh di dm dn dr cK cL cM cN cO cQ cR cS cT cU cV cW cZ c4 c5 c6 c7 dw dx dy dz dA dB dD dF dG dH dI dJ dK dL dM dN dO dP dQ dR dS dU dV dW dX dY dZ ec ee ef fG fH fI ei ej ek en eo ep er eu ew ey ez eA fJ fK fL eB eC eD eE eF eG eH eL eM eN eO eP eR eS eT eU eV eW eX eY eZ e3 e4 e5 e6 e7 e8 e9 fc fe ff fh fk fm fo fq gi gj fu fA fB fC fD fE fF:Value)(W':World),mV K base w W' G hs cb n B F aI aH bN bO c8 bx iw iU j (others (ay aI.c.cl l) aa) ds s aO aK mk ls X->l<aI.c.cl.length->1<=(ay aI.c.cl l).length->j<i->Q .normal {tmps:= #[.pointer (some ⟨G,0,none⟩),.pointer (some ⟨cb l,0,none⟩),.pointer (some ⟨aH,0,none⟩),bl,.pointer (some ⟨bN,0,none⟩),.int .i64 0,.pointer (some ⟨bO,0,none⟩),.pointer (some ⟨bx,0,none⟩),.pointer (some ⟨c8,0,none⟩),.int .i64 aa,.int .i64 (j:Int),gH,gn,iy,gI,gT,u16,gp,gq,gr,gG,gu,gv,gw,gx,gy,gz,gA,gB,fO,fP,fQ,u32,fR,fS,fT,fU,fV,fW,fZ,ga,gb,gd,gh,gC,gD,ij,hU,ia,bP,bQ,bR,bS,bT,bU,bV,bW,bX,bY,bZ,b5,b6,b7,b8,u64,b9,cc,cg,ck,cm,cn,cp,cr,ct,cu,cv,cw,cz,cA,cB,cC,cD,cE,cF,cG,cH,c9,dc,de,dh,di,dm,dn,dr,cK,cL,cM,cN,cO,cQ,cR,cS,cT,cU,cV,cW,cZ,c4,c5,c6,c7,dw,dx,dy,dz,dA,dB,dD,dF,dG,dH,dI,dJ,dK,dL,dM,dN,dO,dP,dQ,dR,dS,dU,dV,dW,dX,dY,dZ,ec,ee,ef,fG,fH,fI,ei,ej,ek,en,eo,ep,er,eu,ew,ey,ez,eA,fJ,fK,fL,eB,eC,eD,eE,eF,eG,eH,eL,eM,eN,eO,eP,eR,eS,eT,eU,eV,eW,eX,eY,eZ,e3,e4,e5,e6,e7,e8,e9,fc,fe,ff,fh,fk,fm,fo,fq,gi,gj,fu,fA,fB,fC,fD,fE,fF],defers:=ds.map oB} W'):
  Code.wp y_ Gv Q {tmps:= #[.pointer (some ⟨G,0,none⟩),.pointer (some ⟨cb d,0,none⟩),.pointer (some ⟨aH,0,none⟩),bl,.pointer (some ⟨bN,0,none⟩),.int .i64 0,.pointer (some ⟨bO,0,none⟩),.pointer (some ⟨bx,0,none⟩),.pointer (some ⟨c8,0,none⟩),.int .i64 lit,.int .i64 (i:Int),gH,gn,iy,gI,gT,u16,gp,gq,gr,gG,gu,gv,gw,gx,gy,gz,gA,gB,fO,fP,fQ,u32,fR,fS,fT,fU,fV,fW,fZ,ga,gb,gd,gh,gC,gD,ij,hU,ia,bP,bQ,bR,bS,bT,bU,bV,bW,bX,bY,bZ,b5,b6,b7,b8,u64,b9,cc,cg,ck,cm,cn,cp,cr,ct,cu,cv,cw,cz,cA,cB,cC,cD,cE,cF,cG,cH,c9,dc,de,dh,di,dm,dn,dr,cK,cL,cM,cN,cO,cQ,cR,cS,cT,cU,cV,cW,cZ,c4,c5,c6,c7,dw,dx,dy,dz,dA,dB,dD,dF,dG,dH,dI,dJ,dK,dL,dM,dN,dO,dP,dQ,dR,dS,dU,dV,dW,dX,dY,dZ,ec,ee,ef,fG,fH,fI,ei,ej,ek,en,eo,ep,er,eu,ew,ey,ez,eA,fJ,fK,fL,eB,eC,eD,eE,eF,eG,eH,eL,eM,eN,eO,eP,eR,eS,eT,eU,eV,eW,eX,eY,eZ,e3,e4,e5,e6,e7,e8,e9,fc,fe,ff,fh,fk,fm,fo,fq,gi,gj,fu,fA,fB,fC,fD,fE,fF],defers:=ds.map oB} W:=by
 have aD:=U p;have aE:=U hk;have g:=U C;have ab:=U H;have t:=U (z_ V (z_ Y (z_ Z hm)));clear C H p hk V Y Z hm
 conv=>arg 2;whnf
 dsimp only
 go_wp2_with (go_at_call 183;refine(Df _ _ _).mono ?_;rintro e w1 ⟨rfl,rfl⟩;dsimp only)
 have H1:=ab.o.grow (bz W (.cells #[.pointer (some ⟨cb d,0,none⟩)] 164));obtain⟨aY,aZ,J⟩:=H1.aM.K2 (.int .i64 lit);have ad:(W.alloc (.cells #[.pointer (some ⟨cb d,0,none⟩)] 164)).heap.size=W.heap.size+1:=by simp
 rw[ad] at J;have ae:=H1.tE J (KeepsOthers.below (bz _ _));have c1:((W.alloc (.cells #[.pointer (some ⟨cb d,0,none⟩)] 164)).alloc (.cells #[.int .i64 lit] 3)).cell? ⟨W.heap.size,0,none⟩=some (.pointer (some ⟨cb d,0,none⟩)):=by go_simp
 have af:W.heap.size<((W.alloc (.cells #[.pointer (some ⟨cb d,0,none⟩)] 164)).alloc (.cells #[.int .i64 lit] 3)).heap.size:=by simp;omega
 clear H1 J ad ab;generalize ((W.alloc (.cells #[.pointer (some ⟨cb d,0,none⟩)] 164)).alloc (.cells #[.int .i64 lit] 3))=a6 at*;refine Lc g.o t.o.1 t.o.2.1 ae t.o.2.2.1 t.o.2.2.2 c1 af ?_;clear ae c1 af;intro D a7 s3 m u y z a8 A;have aF:=A.li.qK;have L:=A.li.open
 have N:=z8 aI.c m i;have a':=g.o.gR.aK.len;have aG:=g.o.iX;have ba:=g.o.n10;have aJ:=U A;have aL:w_.wrap ((i:Int)-1)=(i:Int)-1:=by rw[x_];omega
 clear A
 go_wp2_with fail
 refine Le (ds:=D::ds) g.o aJ.o ?_;intro j cK cL cM cN cO cQ cR cS cT cU cV cW cZ c4 c5 c6 c7 O a aN ag;clear aF L N aL;have b:=U a;have P:j<aI.c.av.length:=by have:=a.li.qK;omega
 have aR:=a.aM.aR;obtain⟨g4,ah,aP,f4⟩:=a.aM.gm.fN.e.lV 5 4 rfl a.aM.gm.fN.e.kA (by rw[a.kZ.c];omega);have ai:=a.aM.gm.fN.e.zL ah (k:=j) (by rw[a.kZ.c];exact P);have bb:(j:Int)<(s3.c.av.length:Int):=by rw[a.kZ.c];omega
 obtain⟨x,p⟩:∃x,aj aI.c.av j=x:=⟨_,rfl⟩
 rw[show aj s3.c.av j=x by rw[a.kZ.c];exact p] at ai;have ak:gK n x:=by have:=g.o.gR.aK.lit _ (lZ P);rw[p,aG] at this;exact this
 have wN:=a.aM.wN.1;have aQ:=a.aM.wN.2;have L:=a.li.open
 have N:=z8 aI.c m (j+1);obtain⟨f,R⟩:∃o:Nat,mT aI.c m (j+1)=o:=⟨_,rfl⟩
 rw[R] at wN L N;have bc:w_.wrap ((f:Int)-1)=(f:Int)-1:=by rw[x_];omega
 have M:=U (z_ p (z_ ak (z_ R (z_ P (z_ aN ag)))));clear a ah f4 p ak R ag
 by_cases h1:f=1
 ·have aS:((f:Int)-1==0)=true:=by simp;omega
  have H1:=U h1;clear h1
  go_wp2_with fail
  obtain⟨r,E,I⟩:=b.o.aM.Dv ((f:Int)-1);have aT:BB K base w (O.setCell ⟨c8,0,none⟩ (.int .i64 ((f:Int)-1))) G hs cb n B F aI aH bN bO c8 bx ((f:Int)-1) _ _ j (D::ds) s3 m u y z r:=⟨E,b.o.kZ,b.o.li,b.o.sw,b.o.qF,b.o.sx,b.o.ms.others I,M.o.2.2.2.2.2,by rw[M.o.2.2.1];exact H1.o⟩
  have al:=aD.o j ((f:Int)-1) (n9 (W.heap.size+1)) [.int .i64 lit] s3 m u y z r (D::ds);rw[M.o.1] at al;apply al;exact aT
 ·have aS:((f:Int)-1==0)=false:=by simp;omega
  have H1:=U h1;clear h1
  go_upto_region 23 with fail
  obtain⟨r,E,I⟩:=b.o.aM.Dv ((f:Int)-1);obtain⟨l,hw,an,ao,ar⟩:=b.o.li.reason g.o.gR.aK g.o.gR.jN M.o.2.2.2.2.2 (by rw[M.o.2.2.1];exact H1.o);have S:=g.o.gR.aK.pY j M.o.2.2.2.1;rw[hw] at S;have au:(f:Int)-1=(mT aI.c m j:Int):=by rw[M.o.2.2.1] at ar;omega
  have hH:mV K base w (O.setCell ⟨c8,0,none⟩ (.int .i64 ((f:Int)-1))) G hs cb n B F aI aH bN bO c8 bx _ _ j (others (ay aI.c.cl l) x) (D::ds) s3 m u y z r:=⟨by rw[<-au];exact E,b.o.kZ,by rw[<-M.o.1];exact ao,b.o.sw,b.o.qF,b.o.sx,b.o.ms.others I⟩
  have hH:=U hH;rw[M.o.1] at hw;have aw:=U (z_ an (List.length_pos_of_mem S.2.1));clear E I an ao ar S au aR aP ai wN aQ;generalize O.setCell ⟨c8,0,none⟩ (.int .i64 ((f:Int)-1))=T at*;have aR:=hH.o.aM.aR;obtain⟨v,q⟩:∃v,aC x=v:=⟨_,rfl⟩
  have bd:v<=n:=by have:=M.o.2.1.2;omega
  have aU:bJ (∀w:World,Calls y_ 97 #[.int .i64 x] w λ e w'=>e=.returned (.int .i64 (v:Int))/\w=w'):=U (λ w=>by have:=sV x w (by unfold aC at q;omega) (by unfold aC at q;omega);rw[q] at this;exact this);obtain⟨g3,az,aV,f3⟩:=hH.o.aM.gm.fN.e.lV 4 3 rfl hH.o.aM.gm.fN.e.nM (by rw[hH.o.kZ.c];have:=g.o.gR.aK.pK;omega);have c3:=hH.o.aM.gm.fN.e.yy az (k:=v) (by rw[hH.o.kZ.c];have:=g.o.gR.aK.pK;omega);have bf:(v:Int)<(s3.c.kB.length:Int):=by rw[hH.o.kZ.c];have:=g.o.gR.aK.pK;omega
  rw[hH.o.kZ.c,<-q,hw] at c3;rw[q] at c3;have c3:T.cell? ⟨g3,v,none⟩=some (.pointer (some ⟨cb l,0,none⟩)):=c3;clear hw az f3 q;refine q_ 8 (by kernel_rfl) (by kernel_rfl) ?_;simp only[v_,o_,u_,n_]
  iterate 5 still_step
  still_call ((aU.o _).mono (λ e w' h=>⟨h.1,h.2.symm⟩))
  iterate 2 still_step
  refine h_ ?_;change wpList _ _ _ _ _ T.drew;have aW:=U (hH.o.grow ((e_ _ T).drew));clear aR aV c3
  go_wp2_with fail
  have aX:=aE.o j l x (n9 (W.heap.size+1)) [.int .i64 lit] s3 m u y z r (D::ds);apply aX
  ·exact aW.o
  ·exact aw.o.1
  ·exact aw.o.2
  ·exact M.o.2.2.2.2.1
noncomputable def Lg:Code:=(i_.body.bind λ c=>qo c 0).getD .skip
def BC(K:Nat->Prop)(base:Nat)(w:World)(G:Nat)(hs:Nat->ax)(cb:Nat->Nat)(n:Nat)(a:Int)(F:List (List Int))(aI:aq)(aH b e f bx:Nat)(i d:Nat)(lit:Int)(ds:List Nat)(W:World):Prop:=
 ∃(g:ax)(h:List Value)(s:aq)(j:List Bool)(k mk:List Int)(ls:Nat->ax)(X:Nat->List Value),mV K base w W G hs cb n (a+jF*((aI.c.av.length-i:Nat):Int)) F aI aH b e f bx g h i (others (ay aI.c.cl d) lit) ds s j k mk ls X/\d<aI.c.cl.length/\1<=(ay aI.c.cl d).length
inductive yQ(K:Nat->Prop)(base:Nat)(w:World)(G:Nat)(hs:Nat->ax)(cb:Nat->Nat)(n:Nat)(kP:Int)(F:List (List Int))(aI:aq)(aH bN bO c8 bx:Nat):Nat->Act->World->Prop
 |mk {i d:Nat} {lit:Int} {ds:List Nat} {bl gH gn iy gI gT u16 gp gq gr gG gu gv gw gx gy gz gA gB fO fP fQ u32 fR fS fT fU fV fW fZ ga gb gd gh gC gD ij hU ia bP bQ bR bS bT bU bV bW bX bY bZ b5 b6 b7 b8 u64 b9 cc cg ck cm cn cp cr ct cu cv cw cz cA cB cC cD cE cF cG cH c9 dc de dh di dm dn dr cK cL cM cN cO cQ cR cS cT cU cV cW cZ c4 c5 c6 c7 dw dx dy dz dA dB dD dF dG dH dI dJ dK dL dM dN dO dP dQ dR dS dU dV dW dX dY dZ ec ee ef fG fH fI ei ej ek en eo ep er eu ew ey ez eA fJ fK fL eB eC eD eE eF eG eH eL eM eN eO eP eR eS eT eU eV eW eX eY eZ e3 e4 e5 e6 e7 e8 e9 fc fe ff fh fk fm fo fq gi gj fu fA fB fC fD fE fF:Value} {W:World} (h:BC K base w G hs cb n kP F aI aH bN bO c8 bx i d lit ds W):yQ K base w G hs cb n kP F aI aH bN bO c8 bx i {tmps:= #[.pointer (some ⟨G,0,none⟩),.pointer (some ⟨cb d,0,none⟩),.pointer (some ⟨aH,0,none⟩),bl,.pointer (some ⟨bN,0,none⟩),.int .i64 0,.pointer (some ⟨bO,0,none⟩),.pointer (some ⟨bx,0,none⟩),.pointer (some ⟨c8,0,none⟩),.int .i64 lit,.int .i64 (i:Int),gH,gn,iy,gI,gT,u16,gp,gq,gr,gG,gu,gv,gw,gx,gy,gz,gA,gB,fO,fP,fQ,u32,fR,fS,fT,fU,fV,fW,fZ,ga,gb,gd,gh,gC,gD,ij,hU,ia,bP,bQ,bR,bS,bT,bU,bV,bW,bX,bY,bZ,b5,b6,b7,b8,u64,b9,cc,cg,ck,cm,cn,cp,cr,ct,cu,cv,cw,cz,cA,cB,cC,cD,cE,cF,cG,cH,c9,dc,de,dh,di,dm,dn,dr,cK,cL,cM,cN,cO,cQ,cR,cS,cT,cU,cV,cW,cZ,c4,c5,c6,c7,dw,dx,dy,dz,dA,dB,dD,dF,dG,dH,dI,dJ,dK,dL,dM,dN,dO,dP,dQ,dR,dS,dU,dV,dW,dX,dY,dZ,ec,ee,ef,fG,fH,fI,ei,ej,ek,en,eo,ep,er,eu,ew,ey,ez,eA,fJ,fK,fL,eB,eC,eD,eE,eF,eG,eH,eL,eM,eN,eO,eP,eR,eS,eT,eU,eV,eW,eX,eY,eZ,e3,e4,e5,e6,e7,e8,e9,fc,fe,ff,fh,fk,fm,fo,fq,gi,gj,fu,fA,fB,fC,fD,fE,fF],defers:=ds.map oB} W
theorem yQ.elim{g:Nat}(b:yQ K base w G hs cb n kP F aI aH bN bO c8 bx g a W){P:Prop}(k:∀{i d:Nat}{lit:Int}{ds:List Nat}{c e f j l m u16 o p q r s t u v x y z A B C D u32 E H I J L M N O Q R S T U V X Y Z aa ab ad ae af ag ah ai aj ak al an ao ar u64 au av aw ay az aA aB aC aD aE aF aG aJ aK aL aM aN aO aP aQ aR aS aT aU aV aW aX aY aZ a6 a7 a8 a' ba bb bc bd bf bg bh bj bk bl bn bo bp bq br bs bt bu bw bz bA bB bC bD bE bF bG bH bI bJ bK bL bM bP bQ bR bS bT bU bV bW bX bY bZ b0 b1 b2 b3 b4 b5 b6 b7 b8 b9 b' ca cc cd cf cg ch cj ck cm cn cp cq cr ct cu cv cw cx cy cz cA cB cC cD cE cF cG cH cI cJ cK cL cM cN cO cP cQ cR cS cT cU cV cW cX cY cZ c0 c4 c5 c6 c7:Value},a={tmps:= #[.pointer (some ⟨G,0,none⟩),.pointer (some ⟨cb d,0,none⟩),.pointer (some ⟨aH,0,none⟩),c,.pointer (some ⟨bN,0,none⟩),.int .i64 0,.pointer (some ⟨bO,0,none⟩),.pointer (some ⟨bx,0,none⟩),.pointer (some ⟨c8,0,none⟩),.int .i64 lit,.int .i64 (i:Int),e,f,j,l,m,u16,o,p,q,r,s,t,u,v,x,y,z,A,B,C,D,u32,E,H,I,J,L,M,N,O,Q,R,S,T,U,V,X,Y,Z,aa,ab,ad,ae,af,ag,ah,ai,aj,ak,al,an,ao,ar,u64,au,av,aw,ay,az,aA,aB,aC,aD,aE,aF,aG,aJ,aK,aL,aM,aN,aO,aP,aQ,aR,aS,aT,aU,aV,aW,aX,aY,aZ,a6,a7,a8,a',ba,bb,bc,bd,bf,bg,bh,bj,bk,bl,bn,bo,bp,bq,br,bs,bt,bu,bw,bz,bA,bB,bC,bD,bE,bF,bG,bH,bI,bJ,bK,bL,bM,bP,bQ,bR,bS,bT,bU,bV,bW,bX,bY,bZ,b0,b1,b2,b3,b4,b5,b6,b7,b8,b9,b',ca,cc,cd,cf,cg,ch,cj,ck,cm,cn,cp,cq,cr,ct,cu,cv,cw,cx,cy,cz,cA,cB,cC,cD,cE,cF,cG,cH,cI,cJ,cK,cL,cM,cN,cO,cP,cQ,cR,cS,cT,cU,cV,cW,cX,cY,cZ,c0,c4,c5,c6,c7],defers:=ds.map oB}->g=i->BC K base w G hs cb n kP F aI aH bN bO c8 bx i d lit ds W->P):P:=by
 cases b with
 |mk h=>exact k rfl rfl h
theorem mV.xL{K:Nat->Prop}{base:Nat}{w W:World}{G:Nat}{hs:Nat->ax}{cb:Nat->Nat}{n:Nat}{B qN:Int}{F:List (List Int)}{aI s:aq}{aH bN bO c8 bx:Nat}{iw:ax}{iU:List Value}{i:Nat}{ex:List Int}{ds:List Nat}{aO:List Bool}{aK mk:List Int}{ls:Nat->ax}{X:Nat->List Value}
  (H:mV K base w W G hs cb n B F aI aH bN bO c8 bx iw iU i ex ds s aO aK mk ls X) {d:Nat} (a:d<s.c.cl.length) {x:Int} (f:0<=x) (h1:x<=qN) (g:B<=qN):mV K base w (W.setCell ⟨cb d,3,none⟩ (.int .i64 x)) G hs cb n qN F aI aH bN bO c8 bx iw iU i ex ds (s.wJ d x) aO aK mk ls X:=by
 have e:=H.aM.gm.call.F2 a H.kZ.rg.nH x;have b:=H.aM.gm.back e.1 e.2;exact⟨H.aM.tE b.1,H.kZ.Gt (nW.xL s d x) (H.kZ.rg.xL g f h1),H.li,H.sw,H.qF,H.sx,H.ms.others b.2⟩
theorem Lh
  (C:vh F Fd aI n h kP) (H:BC K base w G hs cb n kP F aI aH bN bO c8 bx i d lit ds W)
  (af:∀(j:Nat)(B:Int)(op:Int)(x:ax)(y:List Value)(s:aq)(z:List Bool)(aK mk:List Int)(ls:Nat->ax)(X:Nat->List Value)(ds:List Nat)(ag bl ah gH gn iy gI gT u16 gp gq gr gG gu gv gw gx gy gz gA gB fO fP fQ u32 fR fS fT fU fV fW fZ ga gb gd gh gC gD ij hU ia bP bQ bR bS bT bU bV bW bX bY bZ b5 b6 b7 b8 u64 b9 cc cg ck cm cn cp cr ct cu cv cw cz cA cB cC cD cE cF cG cH c9 dc de dh di dm dn dr cK cL cM cN cO cQ cR cS cT cU cV cW cZ c4 c5 c6 c7 dw dx dy dz dA dB dD dF dG dH dI dJ dK dL dM dN dO dP dQ dR dS dU dV dW dX dY dZ ec ee ef fG fH fI ei ej ek en eo ep er eu ew ey ez eA fJ fK fL eB eC eD eE eF eG eH eL eM eN eO eP eR eS eT eU eV eW eX eY eZ e3 e4 e5 e6 e7 e8 e9 fc fe ff fh fk fm fo fq gi gj fu fA fB fC fD fE fF:Value)(W':World),B<=kP+16*jF->BB K base w W' G hs cb n B F aI aH bN bO c8 bx op x y j ds s z aK mk ls X->Q (.exit 0) {tmps:= #[.pointer (some ⟨G,0,none⟩),ag,.pointer (some ⟨aH,0,none⟩),bl,.pointer (some ⟨bN,0,none⟩),.int .i64 0,.pointer (some ⟨bO,0,none⟩),.pointer (some ⟨bx,0,none⟩),.pointer (some ⟨c8,0,none⟩),.int .i64 (aj aI.c.av j),ah,gH,gn,iy,gI,gT,u16,gp,gq,gr,gG,gu,gv,gw,gx,gy,gz,gA,gB,fO,fP,fQ,u32,fR,fS,fT,fU,fV,fW,fZ,ga,gb,gd,gh,gC,gD,ij,hU,ia,bP,bQ,bR,bS,bT,bU,bV,bW,bX,bY,bZ,b5,b6,b7,b8,u64,b9,cc,cg,ck,cm,cn,cp,cr,ct,cu,cv,cw,cz,cA,cB,cC,cD,cE,cF,cG,cH,c9,dc,de,dh,di,dm,dn,dr,cK,cL,cM,cN,cO,cQ,cR,cS,cT,cU,cV,cW,cZ,c4,c5,c6,c7,dw,dx,dy,dz,dA,dB,dD,dF,dG,dH,dI,dJ,dK,dL,dM,dN,dO,dP,dQ,dR,dS,dU,dV,dW,dX,dY,dZ,ec,ee,ef,fG,fH,fI,ei,ej,ek,en,eo,ep,er,eu,ew,ey,ez,eA,fJ,fK,fL,eB,eC,eD,eE,eF,eG,eH,eL,eM,eN,eO,eP,eR,eS,eT,eU,eV,eW,eX,eY,eZ,e3,e4,e5,e6,e7,e8,e9,fc,fe,ff,fh,fk,fm,fo,fq,gi,gj,fu,fA,fB,fC,fD,fE,fF],defers:=ds.map oB} W'):
  Code.wp y_ Lg Q {tmps:= #[.pointer (some ⟨G,0,none⟩),.pointer (some ⟨cb d,0,none⟩),.pointer (some ⟨aH,0,none⟩),bl,.pointer (some ⟨bN,0,none⟩),.int .i64 0,.pointer (some ⟨bO,0,none⟩),.pointer (some ⟨bx,0,none⟩),.pointer (some ⟨c8,0,none⟩),.int .i64 lit,.int .i64 (i:Int),gH,gn,iy,gI,gT,u16,gp,gq,gr,gG,gu,gv,gw,gx,gy,gz,gA,gB,fO,fP,fQ,u32,fR,fS,fT,fU,fV,fW,fZ,ga,gb,gd,gh,gC,gD,ij,hU,ia,bP,bQ,bR,bS,bT,bU,bV,bW,bX,bY,bZ,b5,b6,b7,b8,u64,b9,cc,cg,ck,cm,cn,cp,cr,ct,cu,cv,cw,cz,cA,cB,cC,cD,cE,cF,cG,cH,c9,dc,de,dh,di,dm,dn,dr,cK,cL,cM,cN,cO,cQ,cR,cS,cT,cU,cV,cW,cZ,c4,c5,c6,c7,dw,dx,dy,dz,dA,dB,dD,dF,dG,dH,dI,dJ,dK,dL,dM,dN,dO,dP,dQ,dR,dS,dU,dV,dW,dX,dY,dZ,ec,ee,ef,fG,fH,fI,ei,ej,ek,en,eo,ep,er,eu,ew,ey,ez,eA,fJ,fK,fL,eB,eC,eD,eE,eF,eG,eH,eL,eM,eN,eO,eP,eR,eS,eT,eU,eV,eW,eX,eY,eZ,e3,e4,e5,e6,e7,e8,e9,fc,fe,ff,fh,fk,fm,fo,fq,gi,gj,fu,fA,fB,fC,fD,fE,fF],defers:=ds.map oB} W:=by
 have aJ:=U af;have p:=U C;clear C af
 conv=>arg 2;whnf
 dsimp only;refine wp_loop_ghost_k (yQ K base w G hs cb n kP F aI aH bN bO c8 bx) i ?start ?round
 case start=>exact yQ.mk H
 case round=>
  clear H;intro g a W ai bb ak al an;refine ai.elim ?_;intro i d lit ds bl gH gn iy gI gT u16 gp gq gr gG gu gv gw gx gy gz gA gB fO fP fQ u32 fR fS fT fU fV fW fZ ga gb gd gh gC gD ij hU ia bP bQ bR bS bT bU bV bW bX bY bZ b5 b6 b7 b8 u64 b9 cc cg ck cm cn cp cr ct cu cv cw cz cA cB cC cD cE cF cG cH c9 dc de dh di dm dn dr cK cL cM cN cO cQ cR cS cT cU cV cW cZ c4 c5 c6 c7 dw dx dy dz dA dB dD dF dG dH dI dJ dK dL dM dN dO dP dQ dR dS dU dV dW dX dY dZ ec ee ef fG fH fI ei ej ek en eo ep er eu ew ey ez eA fJ fK fL eB eC eD eE eF eG eH eL eM eN eO eP eR eS eT eU eV eW eX eY eZ e3 e4 e5 e6 e7 e8 e9 fc fe ff fh fk fm fo fq gi gj fu fA fB fC fD fE fF aL A aN;clear ai;subst aL;replace A:=A.symm;subst A;obtain⟨x,y,s,z,aK,mk,ls,X,f,D,hm⟩:=aN;have ao:=U (z_ D hm);have E:d<s.c.cl.length:=by rw[f.kZ.c];exact D
  obtain⟨aO,I,aP,J,ar⟩:=f.aM.gm.fN.zR E;have q:=f.kZ.rg.p5 d;have au:=f.kZ.rg.q7;have aw:=f.kZ.rg.oG;have M:=f.li.qK;have az:=p.o.gR.aK.len;have aS:=p.o.iX;have aT:=p.o.n10;have aU:=p.o.aQ;have aV:=p.o.cI;have aA:W.cell? ⟨G,9,none⟩=some (.int .i64 s.bt):=f.aM.gm.fN.e.kJ (k:=9) (v:=.int .i64 s.bt) rfl;have aR:=f.aM.aR;obtain⟨ac,aB⟩:∃a,(lG s d).ac=a:=⟨_,rfl⟩
  obtain⟨r,aC⟩:∃a,s.bt=a:=⟨_,rfl⟩
  rw[aB] at J q;rw[aC] at aA au aw;obtain⟨m,O⟩:∃t,aI.c.av.length=t:=⟨_,rfl⟩
  rw[O] at q M az f;have f3:=ar 3;have hmul:jF*((m-i:Nat):Int)<=jF*10:=p_ (by omega) (by unfold jF;omega);have aD:0<=jF*((m-i:Nat):Int):=Int.mul_nonneg (by unfold jF;omega) (by omega);obtain⟨l,P⟩:∃b,jF*((m-i:Nat):Int)=b:=⟨_,rfl⟩
  rw[P] at hmul aD q f;have aW:jF=1099511627776:=rfl;have bc:w_.wrap (ac+r)=ac+r:=by rw[x_];omega
  have L:=U f;have N:=U (z_ O (z_ P (z_ (show 0<=kP+l+jF by omega) (z_ (show kP+l+jF<=4611686018427387904 by omega) (z_ (show kP+l+jF<=kP+16*jF by omega) (z_ (show 0<=ac+r by omega) (z_ (show ac+r<=kP+l+jF by omega) (z_ E (z_ M (show kP+l<=kP+l+jF by omega))))))))));have rest:bJ (∀(s1:aq)(fO fP fQ u32 fR fS fT fU fV fW fZ ga gb gd gh:Value)(R:World),mV K base w R G hs cb n (kP+l+jF) F aI aH bN bO c8 bx x y i (others (ay aI.c.cl d) lit) ds s1 z aK mk ls X->Code.wp y_ Gv (Exit.inBlock 1 (Exit.then ak (Q))) {tmps:= #[.pointer (some ⟨G,0,none⟩),.pointer (some ⟨cb d,0,none⟩),.pointer (some ⟨aH,0,none⟩),bl,.pointer (some ⟨bN,0,none⟩),.int .i64 0,.pointer (some ⟨bO,0,none⟩),.pointer (some ⟨bx,0,none⟩),.pointer (some ⟨c8,0,none⟩),.int .i64 lit,.int .i64 (i:Int),gH,gn,iy,gI,gT,u16,gp,gq,gr,gG,gu,gv,gw,gx,gy,gz,gA,gB,fO,fP,fQ,u32,fR,fS,fT,fU,fV,fW,fZ,ga,gb,gd,gh,gC,gD,ij,hU,ia,bP,bQ,bR,bS,bT,bU,bV,bW,bX,bY,bZ,b5,b6,b7,b8,u64,b9,cc,cg,ck,cm,cn,cp,cr,ct,cu,cv,cw,cz,cA,cB,cC,cD,cE,cF,cG,cH,c9,dc,de,dh,di,dm,dn,dr,cK,cL,cM,cN,cO,cQ,cR,cS,cT,cU,cV,cW,cZ,c4,c5,c6,c7,dw,dx,dy,dz,dA,dB,dD,dF,dG,dH,dI,dJ,dK,dL,dM,dN,dO,dP,dQ,dR,dS,dU,dV,dW,dX,dY,dZ,ec,ee,ef,fG,fH,fI,ei,ej,ek,en,eo,ep,er,eu,ew,ey,ez,eA,fJ,fK,fL,eB,eC,eD,eE,eF,eG,eH,eL,eM,eN,eO,eP,eR,eS,eT,eU,eV,eW,eX,eY,eZ,e3,e4,e5,e6,e7,e8,e9,fc,fe,ff,fh,fk,fm,fo,fq,gi,gj,fu,fA,fB,fC,fD,fE,fF],defers:=ds.map oB} R):=U (by
   intro s1 fO fP fQ u32 fR fS fT fU fV fW fZ ga gb gd gh R h1;refine Lf p.o N.o.2.2.1 N.o.2.2.2.1 h1 ao.o.1 ao.o.2 ?_ ?_
   ·intro j op S T s' Y Z mk' aa ab ad ag bl ah gH gn iy gI gT u16 gp gq gr gG gu gv gw gx gy gz gA gB fO fP fQ u32 fR fS fT fU fV fW fZ ga gb gd gh gC gD ij hU ia bP bQ bR bS bT bU bV bW bX bY bZ b5 b6 b7 b8 u64 b9 cc cg ck cm cn cp cr ct cu cv cw cz cA cB cC cD cE cF cG cH c9 dc de dh di dm dn dr cK cL cM cN cO cQ cR cS cT cU cV cW cZ c4 c5 c6 c7 dw dx dy dz dA dB dD dF dG dH dI dJ dK dL dM dN dO dP dQ dR dS dU dV dW dX dY dZ ec ee ef fG fH fI ei ej ek en eo ep er eu ew ey ez eA fJ fK fL eB eC eD eE eF eG eH eL eM eN eO eP eR eS eT eU eV eW eX eY eZ e3 e4 e5 e6 e7 e8 e9 fc fe ff fh fk fm fo fq gi gj fu fA fB fC fD fE fF W' aX;have ae:=aJ.o j (kP+l+jF) op S T s' Y Z mk' aa ab ad;show Q (.exit 0) _ _;apply ae
    ·exact N.o.2.2.2.2.1
    ·exact aX
   ·intro j aY aZ S T s' Y Z mk' aa ab ad bl gH gn iy gI gT u16 gp gq gr gG gu gv gw gx gy gz gA gB fO fP fQ u32 fR fS fT fU fV fW fZ ga gb gd gh gC gD ij hU ia bP bQ bR bS bT bU bV bW bX bY bZ b5 b6 b7 b8 u64 b9 cc cg ck cm cn cp cr ct cu cv cw cz cA cB cC cD cE cF cG cH c9 dc de dh di dm dn dr cK cL cM cN cO cQ cR cS cT cU cV cW cZ c4 c5 c6 c7 dw dx dy dz dA dB dD dF dG dH dI dJ dK dL dM dN dO dP dQ dR dS dU dV dW dX dY dZ ec ee ef fG fH fI ei ej ek en eo ep er eu ew ey ez eA fJ fK fL eB eC eD eE eF eG eH eL eM eN eO eP eR eS eT eU eV eW eX eY eZ e3 e4 e5 e6 e7 e8 e9 fc fe ff fh fk fm fo fq gi gj fu fA fB fC fD fE fF W' ae a6 a7 a8;show ak _ _;refine an _ _ (Handed.intro j a8 (al _ _ _ (yQ.mk (d:=aY) (lit:=aZ) (ds:=ad) ⟨S,T,s',Y,Z,mk',aa,ab,ae.up ?_,a6,a7⟩)));rw[N.o.1,<-N.o.2.1];have bd:jF*((m-i:Nat):Int)+jF<=jF*((m-j:Nat):Int):=by
     have a':((m-i:Nat):Int)+1<=((m-j:Nat):Int):=by have:=N.o.2.2.2.2.2.2.2.2.1;omega
     have aE:=p_ a' (show 0<=jF by unfold jF;omega);rw[Int.mul_add,Int.mul_one] at aE;exact aE
    omega)
  clear f D hm aB aC O hmul aD P q aO aP E ar au aw M az aS aT aU aV aW al an;refine wp_block ?_;refine wp_seq_k ?_;intro bf aF;have aG:=U aF;clear aF
  cases u:(lG s d).kZ with
  |true=>
   rw[u] at I;clear u
   go_wp2_with fail
   refine q_ 11 (by kernel_rfl) (by kernel_rfl) ?_;simp only[v_,o_,u_,n_]
   iterate 11 still_step
   refine h_ ?_;change wpList _ _ _ _ _ W.drew;have J:W.drew.cell? ⟨cb d,3,none⟩=some (.int .i64 ac):=J;have f3:W.drew.frozen? ⟨cb d,3,none⟩=false:=f3;have ba:=U ((L.o.grow ((e_ _ W).drew)).xL (d:=d) N.o.2.2.2.2.2.2.2.1 N.o.2.2.2.2.2.1 N.o.2.2.2.2.2.2.1 N.o.2.2.2.2.2.2.2.2.2);clear aR aA I;generalize W.drew=V at*
   go_wp2_with fail
   apply aG.o;apply rest.o;exact ba.o
  |false=>
   rw[u] at I;clear u
   go_wp2_with fail
   apply aG.o;apply rest.o;exact L.o.up N.o.2.2.2.2.2.2.2.2.2
end
section
open Go.RowKit Go.Shelf
def vO(x:Int):Bool:=(Lit.int .i64 x).wf
theorem Li(c: -9223372036854775808<=x)(h1:x<=9223372036854775807):vO x=true:=by
 have a:w_.min= -9223372036854775808:=by decide
 have b:w_.max=9223372036854775807:=by decide
 unfold vO Lit.wf;simp[a,b];omega
structure Dz{β:Type}(e:TypeId)(p4:β->Value)(lU:β->DataW Unit)(ok:β->Prop)(z0:β):Prop where
 DA:∀x,ok x->plainElem (H:=Unit) y_ e (p4 x)=some (lU x,[])
 inv:∀v x sM,plainElem (H:=Unit) y_ e v=some (lU x,sM)->v=p4 x
 all:∀v y,plainElem (H:=Unit) y_ e v=some y->∃x,v=p4 x/\y.1=lU x
 zero:∀w,(zeroValue e).run y_ w=.ok (p4 z0) w
 Gx:ok z0
def uj(v:Bool):DataW Unit:=.lit (.bool v)
theorem Gy:Dz 4 Value.bool uj (λ _=>True) false where
 DA x _:=plainElem_bool k_ x
 inv v x a h:=EV k_ h
 all v y h:=by
  have hu:=k_;generalize y_=P at h hu;unfold plainElem at h;rw[hu] at h
  cases v<;>simp at h
  subst h;exact⟨_,rfl,rfl⟩
 zero:=Tryz.zeroValue4
 Gx:=trivial
section
variable {β:Type}{e:TypeId}{p4:β->Value}{lU:β->DataW Unit}{ok:β->Prop}{z0:β}
def BD(lU:β->DataW Unit)(D:DataW Unit)(f:Int->Option β):Prop:=
 (∀x,vO x=true->Maps.has D (.int .i64 x)=(f x).isSome)/\∀x v,vO x=true->f x=some v->∀a,D.atKey (.int .i64 x) a=lU v
def mW(e:TypeId)(lU:β->DataW Unit)(w:World)(b n:Nat)(f:Int->Option β):Prop:=
 ∃D:DataW Unit,w.ownsMap y_ 3 (plainElem y_ e) b n D/\BD lU D f
def DB:Int->Option β:=λ _=>none
def vP(f:Int->Option β)(x:Int)(v:β):Int->Option β:=λ y=>if y=x then some v else f y
theorem mW.made(w:World):mW e lU (w.alloc (.map #[] 0)) w.heap.size 0 DB:=
 ⟨_,World.ownsMap_made w _ _ _,λ x _=>rfl,λ x v _ h=>by cases h⟩
theorem mW.lt{w:World}{b n:Nat}{f:Int->Option β}(h:mW e lU w b n f):b<w.heap.size:=by
 obtain⟨D,h1,a⟩:=h;exact h1.lt
theorem mW.kept{w w':World}{b n:Nat}{f:Int->Option β}{row:Option Nat}(h:mW e lU w b n f)(a:w.grownBy w' row)(c:some b≠row):mW e lU w' b n f:=by
 obtain⟨D,h1,d⟩:=h;exact⟨D,h1.kept a c,d⟩
theorem mW.alloc{w:World}{b n:Nat}{f:Int->Option β}(h:mW e lU w b n f)(o:Obj):mW e lU (w.alloc o) b n f:=by
 obtain⟨D,h1,a⟩:=h;exact⟨D,h1.alloc o,a⟩
theorem mW.below{w w':World}{b n B:Nat}{f:Int->Option β}(h:mW e lU w b n f)(a:Below B w w')(c:b<B):mW e lU w' b n f:=by
 obtain⟨D,⟨es,clock,h1,d⟩,g⟩:=h;exact⟨D,⟨es,clock,(a.block b c).trans h1,d⟩,g⟩
theorem mW.setCell{w:World}{b n:Nat}{f:Int->Option β}(h:mW e lU w b n f){a:Addr}(c:b≠a.block)(u:Value):mW e lU (w.setCell a u) b n f:=by
 obtain⟨D,h1,d⟩:=h;exact⟨D,h1.setCell c u,d⟩
theorem mW.Lj(E:Dz e p4 lU ok z0){t:TypeId}(i:y_.underlying t=some (.map 3 e)){w:World}{b n:Nat}{f:Int->Option β}(h:mW e lU w b n f){x:Int}(a:vO x=true):
  (Instr.lookup t (.map (some b)) (.int .i64 x) true).run y_ w=.ok (.tuple #[p4 ((f x).getD z0),.bool (f x).isSome]) w:=by
 obtain⟨D,h1,d,j⟩:=h;obtain⟨v,l,k,c⟩:=h1.look_ok (Maps.int_keyed s_) i (E.zero w) (E.DA _ E.Gx) (Maps.keyOf_int_mk s_ a);rw[k,d x a]
 cases g:f x with
 |none=>
  rw[Maps.atKey_of_not_has (by rw[d x a,g];rfl)] at c;rw[E.inv _ _ _ c];rfl
 |some y=>
  rw[j x y a g] at c;rw[E.inv _ _ _ c];rfl
theorem Gz{x y:Int}(h:y≠x):(Lit.int .i64 y)≠(Lit.int .i64 x):=by simpa using h
theorem BD.put{D:DataW Unit}{f:Int->Option β}(c:Maps.IsMap D)(h:BD lU D f)(x:Int)(v:β):BD lU (D.put (.int .i64 x) (lU v)) (vP f x v):=by
 refine⟨λ y b=>?_,λ y u b hu d=>?_⟩
 ·by_cases a:y=x
  ·subst a;rw[Maps.has_put_same c (by simp[WideAt.IsKeyLit])];simp[vP]
  ·rw[Maps.has_put_other (Gz a),h.1 y b];simp[vP,a]
 ·by_cases a:y=x
  ·subst a;rw[Maps.atKey_put_same c (by simp[WideAt.IsKeyLit])];simp[vP] at hu;rw[hu]
  ·rw[Maps.atKey_put_other (Gz a)];simp[vP,a] at hu;exact h.2 y u b hu d
theorem mW.put(E:Dz e p4 lU ok z0){t:TypeId}(a:y_.underlying t=some (.map 3 e)){w:World}{b n:Nat}{f:Int->Option β}(h:mW e lU w b n f)(c:n<maxLen){x:Int}(d:vO x=true){v:β}(g:ok v):
  ∃w',(Instr.mapUpdate t (.map (some b)) (.int .i64 x) (p4 v)).run y_ w=.ok () w'/\mW e lU w' b (n+1) (vP f x v)/\w.mapTurned w' b:=by
 obtain⟨D,h1,i⟩:=h;obtain⟨w',j,k,l⟩:=h1.store (Maps.int_keyed s_) a c (Maps.keyOf_int_mk s_ d) (E.DA v g);exact⟨w',j,⟨_,k,i.put h1.isMap x v⟩,l⟩
variable {ops:Array Oper}{rest:List Oper}{o:Oper}{a:Act}{Q:Exit->Act->World->Prop}
end
end
section
open Go.RowKit Go.Shelf
theorem mW.BE{β:Type}{e:TypeId}{lU:β->DataW Unit}{f:Int->Option β}(h:mW e lU w b n f):∃es clock,w.heap[b]? =some (.map es clock):=by
 obtain⟨D,⟨es,clock,h1,a⟩,c⟩:=h;exact⟨es,clock,h1⟩
theorem yS{B C:World}{row:Option Nat}(h:A.grownBy B (some b))(k:B.grownBy C row)(d:∀r,row=some r->A.heap.size<=r\/r=b):A.grownBy C (some b):=
 ⟨k.os.trans h.os,k.tape.trans h.tape,k.output.trans h.output,Nat.le_trans h.size k.size,λ i a c=>(k.block i (Nat.lt_of_lt_of_le a h.size) (λ e=>by
  rcases d i e.symm with h1|h1
  ·omega
  ·exact c (by rw[h1]))).trans (h.block i a c)⟩
theorem GA(A:World)(row:Option Nat):A.grownBy A row:=⟨rfl,rfl,rfl,Nat.le_refl _,λ _ _ _=>rfl⟩
theorem Aa{B:World}(row:Option Nat)(h:Below A.heap.size A B):A.grownBy B row:=⟨h.os,h.tape,h.output,h.size,λ k hk _=>h.block k hk⟩
structure rX(base:Nat)(W:World)(G:Nat)(hs:Nat->ax)(cb:Nat->Nat)(s:aq)(lz aH lX bm m:Nat)(f:Int->Option Bool):Prop where
 e:jf base W G hs cb s
 vv:aT W lz 114 [.map (some bm)]
 p7:aT W aH 115 [.pointer (some ⟨G,0,none⟩)]
 tC:aT W lX 129 [.func (.func 185) #[] #[.pointer (some ⟨lz,0,none⟩),.pointer (some ⟨aH,0,none⟩),.pointer (some ⟨lX,0,none⟩)]]
 pn:mW 4 uj W bm m f
 snd:∀y,f y=some true->qV s.c s.aO y
section
variable {base:Nat}{W W':World}{G:Nat}{hs:Nat->ax}{cb:Nat->Nat}{s:aq}{lz aH lX bm m:Nat}{f:Int->Option Bool}
theorem rX.below(h:rX base W G hs cb s lz aH lX bm m f)(a:Below W.heap.size W W'):rX base W' G hs cb s lz aH lX bm m f:=
 ⟨h.e.below a,h.vv.below a,h.p7.below a,h.tC.below a,h.pn.below a h.pn.lt,h.snd⟩
theorem xT{b:Nat}{t:TypeId}{cs:List Value}(h:aT W b t cs){row:Option Nat}(c:∀r,row=some r->∃o:Obj,W.heap[r]? =some o/\o.isCells=false):some b≠row:=λ e=>by
 obtain⟨o,a,d⟩:=c b e.symm;have:W.heap[b]? =_:=h;rw[this] at a;cases a;cases d
theorem rX.isMap(h:rX base W G hs cb s lz aH lX bm m f):∀r,some bm=some r->∃o:Obj,W.heap[r]? =some o/\o.isCells=false:=λ r e=>by
 obtain⟨es,cl,h1⟩:=h.pn.BE;cases e;exact⟨_,h1,rfl⟩
theorem rX.put(h:rX base W G hs cb s lz aH lX bm m f){lQ:Nat}{nC:Int->Option Bool}(a:W.grownBy W' (some bm))(hm:mW 4 uj W' bm lQ nC)(hs':∀y,nC y=some true->qV s.c s.aO y):rX base W' G hs cb s lz aH lX bm lQ nC:=
 ⟨h.e.uL a h.isMap,h.vv.kept a (xT h.vv h.isMap),h.p7.kept a (xT h.p7 h.isMap),h.tC.kept a (xT h.tC h.isMap),hm,hs'⟩
theorem rX.box(h:rX base W G hs cb s lz aH lX bm m f)(c:W.grownBy W' (some bm)){b:Nat}{t:TypeId}{cs:List Value}(a:aT W b t cs):aT W' b t cs:=a.kept c (xT a h.isMap)
end
theorem Lk(mI lz nJ bm m:Nat)(f:Int->Option Bool)(x:Int)(yes:Bool)(u:FrameMode)(n:Nat)(W:World)(a:aT W mI 4 [.bool yes])(hk:aT W lz 114 [.map (some bm)])(b:aT W nJ 3 [.int .i64 x])(hm:mW 4 uj W bm m f)(g:vO x=true)(h:m<maxLen):
  CallsDIn l_ n y_ 186 #[.pointer (some ⟨mI,0,none⟩),.pointer (some ⟨lz,0,none⟩),.pointer (some ⟨nJ,0,none⟩)] u W λ e i W'=>i=u/\(e=.returned (.tuple #[])/\mW 4 uj W' bm (m+1) (vP f x yes)/\W.grownBy W' (some bm)):=by
 obtain⟨W',j,c,d⟩:=hm.put Gy Tryz.underlying114 h g (v:=yes) trivial;have k:W.cell? ⟨mI,0,none⟩=some (.bool yes):=a.cell 0;have l:W.cell? ⟨lz,0,none⟩=some (.map (some bm)):=hk.cell 0;have p:W.cell? ⟨nJ,0,none⟩=some (.int .i64 x):=b.cell 0;have H:=U (z_ c d.grown);clear c d a hk b hm;refine callsDIn_of_wp Tryz.func186 rfl trivial ?_;simp only[Tryz.ntmps186,List.size_toArray,List.length_cons,List.length_nil,Nat.reduceAdd,Nat.reduceSub,Array.replicate_succ,Array.replicate_zero,List.push_toArray,List.append_toArray,List.nil_append,List.cons_append]
 gi_wp2
 go_end0;exact⟨rfl,H.o.1,H.o.2⟩
def GB(base:Nat)(W:World)(G:Nat)(hs:Nat->ax)(cb:Nat->Nat)(s:aq)(lz aH lX bm m:Nat)(x:Int)(q:Nat)(e:Ending)(W':World):Prop:=
 ∃(b:Bool)(a:Nat)(d:Int->Option Bool),e=.returned (.bool b)/\(b=true->qV s.c s.aO x)/\rX base W' G hs cb s lz aH lX bm a d/\W.grownBy W' (some bm)/\a<=m+q
theorem GC(tmps:Array Value)(mI:Nat)(yes:Bool)(W:World)(a:tmps[7]? =some (.pointer (some ⟨mI,0,none⟩)))(b:W.cell? ⟨mI,0,none⟩=some (.bool yes)):(results d_ tmps).run y_ W=.ok (.bool yes) W:=by
 simp[results,d_,a,b,go_sem]
def GD(mI lz nJ:Nat):Deferred:={target:=.fn (.func 186) #[.pointer (some ⟨mI,0,none⟩),.pointer (some ⟨lz,0,none⟩),.pointer (some ⟨nJ,0,none⟩)],args:= #[]}
theorem BF{kO:World}{lz lX bm m0 m:Nat}{f:Int->Option Bool}{yes:Bool}{mI nJ q:Nat}
  (w:a.defers=ds.map oB++[GD mI lz nJ]) (J:a.tmps[7]? =some (.pointer (some ⟨mI,0,none⟩))) (h:rX base W G hs cb s lz aH lX bm m f) (o:kO.grownBy W (some bm)) (v:oV kO.heap.size W ds) (C:aT W mI 4 [.bool yes]) (K:aT W nJ 3 [.int .i64 x]) (L:vO x=true) (E:yes=true->qV s.c s.aO x) (z:m<maxLen) (M:m+1<=m0+q):
  bodyPostM l_ 6 y_ d_ (GB base kO G hs cb s lz aH lX bm m0 x q) .ret a W:=by
 show LeavesInM l_ 6 y_ d_ a.tmps _ a.defers .returning W;rw[w];refine Fe (by simp) _ ds W v.nc (λ D p=>(v.kL D p).2) (λ i l=>?_);have u:∀b,(∃cs t F,W.heap[b]? =some (Obj.cells cs t F))\/(∃es cl,W.heap[b]? =some (Obj.map es cl))->i.heap[b]? =W.heap[b]? :=λ b u=>l.block b (λ p=>by
  have h1:=(v.kL b p).2;rcases u with⟨cs,t,F,j⟩|⟨es,cl,j⟩
  ·rw[j] at h1;cases h1
  ·rw[j] at h1;cases h1)
 have hblk:∀{b:Nat}{t:TypeId}{cs:List Value},aT W b t cs->aT i b t cs:=λ H=>(u _ (.inl ⟨_,_,_,H⟩)).trans H
 have N:kO.grownBy i (some bm):=⟨l.os.trans o.os,l.tape.trans o.tape,l.output.trans o.output,by rw[l.size];exact o.size,λ k hk z=>(l.block k (λ p=>by have:=(v.kL k p).1;omega)).trans (o.block k hk z)⟩
 have O:jf base i G hs cb s:=by
  refine⟨hblk h.e.box,⟨λ r=>oS (h.e.rows.row r) (λ b P=>?_),h.e.rows.apart⟩,λ d w=>hblk (h.e.cls d w),h.e.inj,h.e.qX,h.e.rE⟩;obtain⟨cs,j⟩:=vg (h.e.rows.row r) P;exact u b (.inl ⟨_,_,_,j⟩)
 have I:mW 4 uj i bm m f:=by
  obtain⟨D,⟨es,clock,h1,Q⟩,j⟩:=h.pn;exact⟨D,⟨es,clock,(u bm (.inr ⟨es,clock,h1⟩)).trans h1,Q⟩,j⟩
 have A:rX base i G hs cb s lz aH lX bm m f:=⟨O,hblk h.vv,hblk h.p7,hblk h.tC,I,h.snd⟩
 refine⟨by simp,.inr ⟨λ _=>by omega,_,_,186, #[.pointer (some ⟨mI,0,none⟩),.pointer (some ⟨lz,0,none⟩),.pointer (some ⟨nJ,0,none⟩)],rfl,?_,λ g V=>trivial,?_⟩⟩
 ·simp[GD,invoke,go_sem,enters_of Tryz.func186 (by kernel_rfl) rfl]
 ·refine(Lk mI lz nJ bm m f x yes .returning _ i (hblk C) A.vv (hblk K) I L z).mono ?_;rintro e X R ⟨rfl,rfl,S,B⟩;have T:rX base R G hs cb s lz aH lX bm (m+1) (vP f x yes):=A.put B S (λ y n=>by
   unfold vP at n;split at n
   ·rename_i e;subst e;injection n with n;exact E n
   ·exact h.snd y n)
  have U:=A.box B (hblk C);exact⟨_,GC _ _ _ _ J (U.cell 0),yes,m+1,_,rfl,E,T,yS N B (λ r e=>by cases e;exact .inr rfl),M⟩
end
end Go.Proofs.YtogdlkfacflmaaaGreat
